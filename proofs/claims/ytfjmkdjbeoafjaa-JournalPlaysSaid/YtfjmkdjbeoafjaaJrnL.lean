/- The plain law of journals: what was laid is read. No program in sight. -/
import Derived.Test.YtfjmkdjbeoafjaaJrnK
namespace Go.Proofs.Ytfjmkdjbeoafjaa
open Go.RowKit

theorem getD_set (l : List Int) (i j : Nat) (x : Int) (h : i < l.length) : (l.set i x).getD j 0 = if j = i then x else l.getD j 0 := by
  rw [List.getD_eq_getElem?_getD, List.getD_eq_getElem?_getD, List.getElem?_set]
  by_cases e : i = j
  · subst e; rw [if_pos rfl, if_pos rfl, if_pos h]; rfl
  · rw [if_neg e, if_neg (fun h => e h.symm)]

theorem layL_get (l : Int) {m : Blok} (hm : m.length = 64) : ∀ k, k ≤ 8 → ∀ i, i < 64 → (layL l m k).getD i 0 = if i < k then lifeByte l i else if 56 ≤ i ∧ i < 56 + k then lifeByte l (i - 56) else m.getD i 0
  | 0, _, i, hi => by rw [if_neg (by omega), if_neg (by omega)]; rfl
  | k + 1, hk, i, hi => by
    have ih := layL_get l hm k (by omega) i hi
    have hl := layL_len l m k
    show (((layL l m k).set k (lifeByte l k)).set (56 + k) (lifeByte l k)).getD i 0 = _
    rw [getD_set _ _ _ _ (by rw [List.length_set, hl]; omega), getD_set _ _ _ _ (by rw [hl]; omega), ih]
    by_cases e1 : i = 56 + k
    · subst e1
      rw [if_pos rfl, if_neg (by omega), if_pos (by omega), show 56 + k - 56 = k by omega]
    · rw [if_neg e1]
      by_cases e2 : i = k
      · subst e2; rw [if_pos rfl, if_pos (by omega)]
      · rw [if_neg e2]
        by_cases e3 : i < k
        · rw [if_pos e3, if_pos (by omega)]
        · rw [if_neg e3, if_neg (show ¬ i < k + 1 by omega)]
          by_cases e4 : 56 ≤ i ∧ i < 56 + k
          · rw [if_pos e4, if_pos (by omega)]
          · rw [if_neg e4, if_neg (by omega)]

theorem zeros_get (i : Nat) : DK.zeros.getD i 0 = 0 := by
  unfold DK.zeros
  rw [List.getD_eq_getElem?_getD, List.getElem?_replicate]
  split <;> rfl

theorem headJ_get (rest : List Int) (i : Nat) (hi : i < 64) :
    (headJ rest).getD i 0 = if i = 9 then min (rest.length : Int) 44 else if i = 10 then (if rest.length ≤ 44 then 1 else 0) else if 12 ≤ i ∧ i < 12 + min rest.length 44 then rest.getD (i - 12) 0 else 0 := by
  have hl : (splice DK.zeros 12 (rest.take 44)).length = 64 := by rw [splice_len (by simp [DK.zeros]; omega)]; exact DK.zeros_len
  have hs : (splice DK.zeros 12 (rest.take 44)).getD i 0 = if 12 ≤ i ∧ i < 12 + min rest.length 44 then rest.getD (i - 12) 0 else 0 := by
    rw [List.getD_eq_getElem?_getD, splice_get (by simp [DK.zeros]; omega)]
    have e : (rest.take 44).length = min rest.length 44 := by rw [List.length_take]; omega
    rw [e]
    by_cases h : 12 ≤ i ∧ i < 12 + min rest.length 44
    · rw [if_pos h, if_pos h, List.getElem?_take, if_pos (by omega), ← List.getD_eq_getElem?_getD]
    · rw [if_neg h, if_neg h, ← List.getD_eq_getElem?_getD, zeros_get]
  unfold headJ
  simp only
  by_cases h44 : rest.length ≤ 44
  · rw [if_pos h44, getD_set _ _ _ _ (by rw [List.length_set, hl]; omega), getD_set _ _ _ _ (by rw [hl]; omega), hs]
    by_cases e10 : i = 10
    · subst e10; rw [if_pos rfl, if_neg (by omega), if_pos rfl, if_pos h44]
    · rw [if_neg e10, if_neg e10]
  · rw [if_neg h44, getD_set _ _ _ _ (by rw [hl]; omega), hs]
    by_cases e10 : i = 10
    · subst e10; rw [if_neg (by omega), if_neg (by omega), if_neg (by omega), if_pos rfl, if_neg h44]
    · rw [if_neg e10]

theorem blockJ_get (l : Int) (rest : List Int) (i : Nat) (hi : i < 64) :
    (blockJ l rest).getD i 0 = if i < 8 then lifeByte l i else if 56 ≤ i then lifeByte l (i - 56) else if i = 9 then min (rest.length : Int) 44 else if i = 10 then (if rest.length ≤ 44 then 1 else 0) else if 12 ≤ i ∧ i < 12 + min rest.length 44 then rest.getD (i - 12) 0 else 0 := by
  unfold blockJ
  rw [layL_get l (headJ_len rest) 8 (by omega) i hi, headJ_get rest i hi]
  by_cases h1 : i < 8
  · rw [if_pos h1, if_pos h1]
  · rw [if_neg h1, if_neg h1]
    by_cases h2 : 56 ≤ i
    · rw [if_pos (by omega), if_pos h2]
    · rw [if_neg (by omega), if_neg h2]

theorem num8 (b : List Int) (h : b.length = 8) : num b = ((((((b.getD 0 0 * 256 + b.getD 1 0) * 256 + b.getD 2 0) * 256 + b.getD 3 0) * 256 + b.getD 4 0) * 256 + b.getD 5 0) * 256 + b.getD 6 0) * 256 + b.getD 7 0 := by
  match b, h with
  | [a0, a1, a2, a3, a4, a5, a6, a7], _ => simp [num]

theorem take8_get (b : List Int) (i : Nat) (hi : i < 8) : (b.take 8).getD i 0 = b.getD i 0 := by
  rw [List.getD_eq_getElem?_getD, List.getElem?_take, if_pos hi, ← List.getD_eq_getElem?_getD]

theorem drop_get (b : List Int) (k i : Nat) : (b.drop k).getD i 0 = b.getD (k + i) 0 := by
  rw [List.getD_eq_getElem?_getD, List.getElem?_drop, ← List.getD_eq_getElem?_getD]

theorem bytes_num (l : Int) (h0 : 0 ≤ l) (h1 : l ≤ 1099511627776) :
    ((((((lifeByte l 0 * 256 + lifeByte l 1) * 256 + lifeByte l 2) * 256 + lifeByte l 3) * 256 + lifeByte l 4) * 256 + lifeByte l 5) * 256 + lifeByte l 6) * 256 + lifeByte l 7 = l := by
  unfold lifeByte
  simp only [show (2 : Int) ^ (56 - 8 * 0) = 72057594037927936 from rfl, show (2 : Int) ^ (56 - 8 * 1) = 281474976710656 from rfl, show (2 : Int) ^ (56 - 8 * 2) = 1099511627776 from rfl, show (2 : Int) ^ (56 - 8 * 3) = 4294967296 from rfl,
    show (2 : Int) ^ (56 - 8 * 4) = 16777216 from rfl, show (2 : Int) ^ (56 - 8 * 5) = 65536 from rfl, show (2 : Int) ^ (56 - 8 * 6) = 256 from rfl, show (2 : Int) ^ (56 - 8 * 7) = 1 from rfl]
  omega

theorem life8_of (b : List Int) (hl : 8 ≤ b.length) (l : Int) (h0 : 0 ≤ l) (h1 : l ≤ 1099511627776) (h : ∀ i, i < 8 → b.getD i 0 = lifeByte l i) : life8 b = l := by
  have e : num (b.take 8) = l := by
    rw [num8 _ (by rw [List.length_take]; omega)]
    simp only [take8_get b _ (show 0 < 8 by omega), take8_get b _ (show 1 < 8 by omega), take8_get b _ (show 2 < 8 by omega), take8_get b _ (show 3 < 8 by omega), take8_get b _ (show 4 < 8 by omega), take8_get b _ (show 5 < 8 by omega),
      take8_get b _ (show 6 < 8 by omega), take8_get b _ (show 7 < 8 by omega), h 0 (by omega), h 1 (by omega), h 2 (by omega), h 3 (by omega), h 4 (by omega), h 5 (by omega), h 6 (by omega), h 7 (by omega)]
    exact bytes_num l h0 h1
  unfold life8
  rw [e, if_neg (by omega)]

theorem life8_head (l : Int) (rest : List Int) (h0 : 0 ≤ l) (h1 : l ≤ 1099511627776) : life8 (blockJ l rest) = l :=
  life8_of _ (by rw [blockJ_len]; omega) l h0 h1 (fun i hi => by rw [blockJ_get l rest i (by omega), if_pos hi])

theorem life8_tail (l : Int) (rest : List Int) (h0 : 0 ≤ l) (h1 : l ≤ 1099511627776) : life8 ((blockJ l rest).drop 56) = l :=
  life8_of _ (by rw [List.length_drop, blockJ_len]; omega) l h0 h1 (fun i hi => by rw [drop_get, blockJ_get l rest _ (by omega), if_neg (by omega), if_pos (by omega), Nat.add_sub_cancel_left])

theorem good_block (l least : Int) (within : Bool) (c : List Int) (hc : 0 < c.length) (h1 : 1 ≤ l) (h2 : l ≤ 1099511627776) (hl : least ≤ l) (hw : within = true → l = least) : goodB (blockJ l c) least within = true := by
  have g8 := blockJ_get l c 8 (by omega)
  have g9 := blockJ_get l c 9 (by omega)
  have g10 := blockJ_get l c 10 (by omega)
  have g11 := blockJ_get l c 11 (by omega)
  rw [if_neg (by omega), if_neg (by omega), if_neg (by omega), if_neg (by omega), if_neg (by omega)] at g8
  rw [if_neg (by omega), if_neg (by omega), if_pos rfl] at g9
  rw [if_neg (by omega), if_neg (by omega), if_neg (by omega), if_pos rfl] at g10
  rw [if_neg (by omega), if_neg (by omega), if_neg (by omega), if_neg (by omega), if_neg (by omega)] at g11
  unfold goodB sizeB cnt
  rw [life8_head l c (by omega) h2, life8_tail l c (by omega) h2, g8, g9, g10, g11]
  have ew : (!within || l == least) = true := by
    cases within with
    | false => rfl
    | true => simp [hw rfl]
  rw [ew]
  have e1 : decide (max least 1 ≤ l) = true := decide_eq_true (by omega)
  rw [e1]
  by_cases h44 : c.length ≤ 44
  · rw [if_pos h44]
    by_cases e44 : c.length = 44
    · rw [e44]; simp
    · have e3 : decide ((0 : Int) < 0 * 256 + min (c.length : Int) 44) = true := decide_eq_true (by omega)
      have e4 : decide ((0 * 256 + min (c.length : Int) 44) < 44) = true := decide_eq_true (by omega)
      rw [e3, e4]
      simp
  · rw [if_neg h44]
    have e3 : (0 : Int) * 256 + min (c.length : Int) 44 = 44 := by omega
    rw [e3]
    simp

theorem piece_block (l : Int) (c : List Int) : pieceB (blockJ l c) = c.take 44 := by
  have g9 := blockJ_get l c 9 (by omega)
  rw [if_neg (by omega), if_neg (by omega), if_pos rfl] at g9
  unfold pieceB
  rw [g9]
  apply List.ext_getElem?
  intro i
  have hn : (min (c.length : Int) 44).toNat = min c.length 44 := by omega
  rw [hn, List.getElem?_take]
  by_cases hi : i < min c.length 44
  · rw [if_pos hi, List.getElem?_take, if_pos (by omega), List.getElem?_drop]
    have h1 := blockJ_get l c (12 + i) (by omega)
    rw [if_neg (by omega), if_neg (by omega), if_neg (by omega), if_neg (by omega), if_pos (by omega), Nat.add_sub_cancel_left] at h1
    rw [List.getD_eq_getElem?_getD, List.getD_eq_getElem?_getD, List.getElem?_eq_getElem (by rw [blockJ_len]; omega), List.getElem?_eq_getElem (by omega)] at h1
    rw [List.getElem?_eq_getElem (by rw [blockJ_len]; omega), List.getElem?_eq_getElem (by omega)]
    simpa using h1
  · rw [if_neg hi, List.getElem?_take]
    by_cases h44 : i < 44
    · rw [if_pos h44, List.getElem?_eq_none (by omega)]
    · rw [if_neg h44]

theorem flag_block (l : Int) (c : List Int) : (blockJ l c).getD 10 0 = if c.length ≤ 44 then 1 else 0 := by
  have g10 := blockJ_get l c 10 (by omega)
  rwa [if_neg (by omega), if_neg (by omega), if_neg (by omega), if_pos rfl] at g10

attribute [local irreducible] blockJ

/-- A record's blocks. -/
def blocksJ (l : Int) (b : List Int) (m : Nat) : List Blok := (List.range m).map fun i => blockJ l (b.drop (44 * i))

/-- Whatever stands behind these blocks, they are read so. -/
def Rd (pre : List Blok) (lst : Int) (recs : List (List Int)) : Prop := ∀ tail, parse (pre ++ tail) 0 [] 0 [] 0 = parse tail lst [] pre.length recs pre.length

theorem Rd.nil : Rd [] 0 [] := fun _ => rfl

theorem blocks_read (l : Int) (b : List Int) (h1 : 1 ≤ l) (h2 : l ≤ 1099511627776) : ∀ (m i : Nat) (least : Int) (tail : List Blok) (p : Nat) (recs : List (List Int)) (ud : Nat), 44 * i < b.length → i + m + 1 = needJ b → least ≤ l → (i ≠ 0 → least = l) →
    parse (((List.range (m + 1)).map fun q => blockJ l (b.drop (44 * (i + q)))) ++ tail) least (b.take (44 * i)) p recs ud = parse tail l [] (p + m + 1) (recs ++ [b]) (p + m + 1) := by
  intro m
  induction m with
  | zero =>
    intro i least tail p recs ud hi hm hl hw
    have hc : 0 < (b.drop (44 * i)).length := by rw [List.length_drop]; omega
    have h44 : (b.drop (44 * i)).length ≤ 44 := by rw [List.length_drop]; unfold needJ at hm; omega
    show parse (blockJ l (b.drop (44 * (i + 0))) :: tail) least (b.take (44 * i)) p recs ud = _
    rw [Nat.add_zero, parse, if_pos (good_block l least _ _ hc h1 h2 hl (fun h => by
      have : i ≠ 0 := fun e => by subst e; simp at h
      exact (hw this).symm)), flag_block, if_pos h44, if_pos rfl, life8_head l _ (by omega) h2, piece_block, List.take_of_length_le h44, List.take_append_drop]
  | succ m ih =>
    intro i least tail p recs ud hi hm hl hw
    have hc : 0 < (b.drop (44 * i)).length := by rw [List.length_drop]; omega
    have h44 : ¬ (b.drop (44 * i)).length ≤ 44 := by rw [List.length_drop]; unfold needJ at hm; omega
    have e : ((List.range (m + 1 + 1)).map fun q => blockJ l (b.drop (44 * (i + q)))) = blockJ l (b.drop (44 * i)) :: ((List.range (m + 1)).map fun q => blockJ l (b.drop (44 * (i + 1 + q)))) := by
      have e2 : (List.range (m + 1)).map ((fun q => blockJ l (b.drop (44 * (i + q)))) ∘ Nat.succ) = (List.range (m + 1)).map fun q => blockJ l (b.drop (44 * (i + 1 + q))) := List.map_congr_left (fun q _ => by
        simp only [Function.comp, Nat.succ_eq_add_one]
        rw [show i + (q + 1) = i + 1 + q by omega])
      rw [List.range_succ_eq_map, List.map_cons, List.map_map, e2, Nat.add_zero]
    have hg : goodB (blockJ l (b.drop (44 * i))) least (decide (0 < (b.take (44 * i)).length)) = true := good_block l least _ _ hc h1 h2 hl (fun h => by
      have : i ≠ 0 := fun e => by subst e; simp at h
      exact (hw this).symm)
    have hf : ¬ (blockJ l (b.drop (44 * i))).getD 10 0 = 1 := by rw [flag_block, if_neg h44]; decide
    have hh := life8_head l (b.drop (44 * i)) (by omega) h2
    have hp := piece_block l (b.drop (44 * i))
    generalize blockJ l (b.drop (44 * i)) = B at hg hf hh hp e
    rw [e, List.cons_append, parse, if_pos hg, if_neg hf, hh, hp]
    have et : b.take (44 * i) ++ (b.drop (44 * i)).take 44 = b.take (44 * (i + 1)) := by rw [show 44 * (i + 1) = 44 * i + 44 by omega, List.take_add]
    rw [et, ih (i + 1) l tail (p + 1) recs ud (by unfold needJ at hm; omega) (by omega) (Int.le_refl _) (fun _ => rfl)]
    rw [show p + 1 + m + 1 = p + (m + 1) + 1 by omega]

theorem Rd.push {pre : List Blok} {lst : Int} {recs : List (List Int)} (h : Rd pre lst recs) {l : Int} {b : List Int} (hb : 0 < b.length) (h1 : 1 ≤ l) (h2 : l ≤ 1099511627776) (hl : lst ≤ l) : Rd (pre ++ blocksJ l b (needJ b)) l (recs ++ [b]) := by
  intro tail
  rw [List.append_assoc, h]
  obtain ⟨m, hm⟩ : ∃ m, needJ b = m + 1 := ⟨needJ b - 1, by unfold needJ; omega⟩
  have := blocks_read l b h1 h2 m 0 lst tail pre.length recs pre.length (by omega) (by omega) hl (fun h => absurd rfl h)
  simp only [Nat.mul_zero, List.take_zero, Nat.zero_add] at this
  have e : blocksJ l b (needJ b) = (List.range (m + 1)).map fun q => blockJ l (b.drop (44 * q)) := by unfold blocksJ; rw [hm]
  rw [e, this]
  simp [Nat.add_assoc]

end Go.Proofs.Ytfjmkdjbeoafjaa
