/- Plain: a disk as a row of bytes; what Put lays, what Get reads. No program in sight. -/
import Derived.Test.YtpeboaoephkfhaaImgI
namespace Go.Proofs.Ytpeboaoephkfhaa
open Go.RowKit

theorem o_code (d : DK) (n k : Int) (x : Blok) : (d.write n x).code k = d.code k := by
  unfold DK.write; split <;> rfl
theorem o_get_put (d : DK) (n k : Int) (x : Blok) : (d.put n x).get k = if k = n then x else d.get k := by
  unfold DK.get DK.put
  simp only [mget_mset]
  split <;> rfl
theorem o_rd_write (d : DK) (n k : Int) (x : Blok) : (d.write n x).rd k = if k = n ∧ d.code n = 0 then x else d.rd k := by
  unfold DK.rd
  rw [o_code]
  unfold DK.write
  by_cases hn : d.code n = 0
  · rw [if_pos hn, o_get_put]
    by_cases hk : k = n
    · subst hk; rw [if_pos hn, if_pos rfl, if_pos ⟨rfl, hn⟩]
    · rw [if_neg hk, if_neg (c := k = n ∧ d.code n = 0) (fun h => hk h.1)]
  · rw [if_neg hn, if_neg (c := k = n ∧ d.code n = 0) (fun h => hn h.2)]
theorem o_code_up {d : DK} (hd : d.down = false) {n : Nat} (hn : n < d.last.length) : d.code (n : Int) = 0 := by
  unfold DK.code; rw [hd]; simp; omega

/-- Byte number i of a disk. -/
def byt (d : DK) (i : Nat) : Int := (d.rd ((i / 64 : Nat) : Int)).getD (i % 64) 0

theorem byt_write {d : DK} (hd : d.down = false) {n : Nat} (hn : n < d.last.length) (x : Blok) (i : Nat) : byt (d.write (n : Int) x) i = if i / 64 = n then x.getD (i % 64) 0 else byt d i := by
  unfold byt
  rw [o_rd_write]
  by_cases h : i / 64 = n
  · rw [if_pos ⟨by omega, o_code_up hd hn⟩, if_pos h]
  · rw [if_neg (fun h2 => h (by omega)), if_neg h]

theorem write_wf {d : DK} (h : d.WF) (n : Int) {x : Blok} (hx : x.length = 64) : (d.write n x).WF := h.write hx

theorem putL_law (ff : Nat) : ∀ (k : Nat) (d : DK) (A : Nat) (x : List Int), d.WF → d.down = false → x.length ≤ k → 64 * ff + A + x.length ≤ 64 * d.last.length →
    (putL (ff : Int) k d A x).WF ∧ (putL (ff : Int) k d A x).down = false ∧ (putL (ff : Int) k d A x).last.length = d.last.length ∧
    ∀ i, byt (putL (ff : Int) k d A x) i = if 64 * ff + A ≤ i ∧ i < 64 * ff + A + x.length then x.getD (i - (64 * ff + A)) 0 else byt d i
  | 0, d, A, x, hw, hd, hk, hb => ⟨hw, hd, rfl, fun i => by rw [if_neg (by omega)]; rfl⟩
  | k + 1, d, A, x, hw, hd, hk, hb => by
    rw [putL]
    by_cases h0 : x.length = 0
    · rw [if_pos h0]
      exact ⟨hw, hd, rfl, fun i => by rw [if_neg (by omega)]⟩
    · rw [if_neg h0]
      obtain ⟨o, ho⟩ : ∃ o, o = A % 64 := ⟨_, rfl⟩
      obtain ⟨c, hc⟩ : ∃ c, c = min x.length (64 - o) := ⟨_, rfl⟩
      obtain ⟨n, hn⟩ : ∃ n, n = ff + A / 64 := ⟨_, rfl⟩
      have e1 : (ff : Int) + ((A / 64 : Nat) : Int) = (n : Int) := by rw [hn]; simp
      rw [e1, ← ho, ← hc]
      have hnl : n < d.last.length := by omega
      obtain ⟨z, hz⟩ : ∃ z, z = splice (d.rd (n : Int)) o (x.take c) := ⟨_, rfl⟩
      rw [← hz]
      have hrl := DK.rd_len hw (n : Int)
      have hos : o + (x.take c).length ≤ (d.rd (n : Int)).length := by rw [hrl, List.length_take]; omega
      have hzl : z.length = 64 := by rw [hz, splice_len hos]; exact hrl
      obtain ⟨h1, h2, h3, h4⟩ := putL_law ff k (d.write (n : Int) z) (A + c) (x.drop c) (write_wf hw _ hzl) (by rw [write_down]; exact hd) (by rw [List.length_drop]; omega) (by rw [write_last, List.length_drop]; omega)
      refine ⟨h1, h2, by rw [h3, write_last], fun i => ?_⟩
      rw [h4, byt_write hd hnl]
      have hdl : (x.drop c).length = x.length - c := List.length_drop
      rw [hdl]
      by_cases c1 : 64 * ff + (A + c) ≤ i ∧ i < 64 * ff + (A + c) + (x.length - c)
      · rw [if_pos c1, if_pos (by omega), List.getD_eq_getElem?_getD, List.getElem?_drop, List.getD_eq_getElem?_getD]
        congr 2; omega
      · rw [if_neg c1]
        by_cases c2 : i / 64 = n
        · rw [if_pos c2, hz, List.getD_eq_getElem?_getD, splice_get hos, List.length_take]
          by_cases c3 : o ≤ i % 64 ∧ i % 64 < o + min c x.length
          · rw [if_pos c3, if_pos (by omega), List.getElem?_take, if_pos (by omega), List.getD_eq_getElem?_getD]
            congr 2; omega
          · rw [if_neg c3, if_neg (by omega)]
            unfold byt
            rw [c2, List.getD_eq_getElem?_getD]
        · rw [if_neg c2, if_neg (by omega)]

theorem rowB_get {d : DK} (hw : d.WF) (ff : Nat) : ∀ m j, j < 64 * m → (rowB d (ff : Int) m)[j]? = some (byt d (64 * ff + j))
  | 0, j, h => by omega
  | m + 1, j, h => by
    rw [rowB_succ]
    by_cases hj : j < 64 * m
    · rw [List.getElem?_append_left (by rw [rowB_len hw]; exact hj), rowB_get hw ff m j hj]
    · rw [List.getElem?_append_right (by rw [rowB_len hw]; omega), rowB_len hw]
      have e1 : (ff : Int) + ((m : Nat) : Int) = ((ff + m : Nat) : Int) := by simp
      have hl := DK.rd_len hw ((ff + m : Nat) : Int)
      unfold byt
      rw [e1, show (64 * ff + j) / 64 = ff + m by omega, show (64 * ff + j) % 64 = j - 64 * m by omega, List.getD_eq_getElem?_getD, List.getElem?_eq_getElem (by omega)]
      rfl

/-- What Get reads where all is well. -/
theorem getF_law {d : DK} (hw : d.WF) (hd : d.down = false) (ff room size : Nat) (hr : ff + room ≤ d.last.length) (hs : size ≤ room * 64) : getF d (ff : Int) (room : Int) (size : Int) = ((List.range size).map fun j => byt d (64 * ff + j), 0) := by
  have ha : areaB d.last.length (ff : Int) (room : Int) = true := by unfold areaB; simp; omega
  unfold getF
  rw [if_neg (by rw [ha]; simp; omega)]
  by_cases h0 : size = 0
  · subst h0; rfl
  · rw [if_neg (by omega), if_neg (by rw [hd]; simp)]
    obtain ⟨nb, hnb⟩ : ∃ nb, nb = (blocksN (size : Int)).toNat := ⟨_, rfl⟩
    have hle : size ≤ 64 * nb := by rw [hnb]; unfold blocksN; split <;> omega
    rw [← hnb]
    congr 1
    apply List.ext_getElem?
    intro j
    rw [List.getElem?_take, List.getElem?_map]
    show (if j < ((size : Int)).toNat then _ else _) = _
    rw [show ((size : Int)).toNat = size from rfl]
    by_cases hj : j < size
    · rw [if_pos hj, rowB_get hw ff nb j (by omega), List.getElem?_range hj]; rfl
    · rw [if_neg hj, List.getElem?_eq_none (by simp; omega)]; rfl

theorem getF_at {d : DK} (hw : d.WF) (hd : d.down = false) (f room size : Int) (ff rr ss : Nat) (e1 : f = (ff : Int)) (e2 : room = (rr : Int)) (e3 : size = (ss : Int)) (hr : ff + rr ≤ d.last.length) (hs : ss ≤ rr * 64) :
    ∃ l, getF d f room size = (l, 0) ∧ l.length = ss ∧ ∀ i, i < ss → l.getD i 0 = byt d (64 * ff + i) := by
  subst e1 e2 e3
  refine ⟨_, getF_law hw hd ff rr ss hr hs, by rw [List.length_map, List.length_range], fun i hi => ?_⟩
  rw [List.getD_eq_getElem?_getD, List.getElem?_map, List.getElem?_range hi]; rfl

/-- What Put does where all is well. -/
theorem putF_law {d : DK} (hw : d.WF) (hd : d.down = false) (ff room A : Nat) (x : List Int) (hr : ff + room ≤ d.last.length) (hs : A + x.length ≤ room * 64) : ∃ d', putF d (ff : Int) (room : Int) (A : Int) x = (d', 0) ∧ d'.WF ∧ d'.down = false ∧ d'.last.length = d.last.length ∧
    ∀ i, byt d' i = if 64 * ff + A ≤ i ∧ i < 64 * ff + A + x.length then x.getD (i - (64 * ff + A)) 0 else byt d i := by
  have ha : areaB d.last.length (ff : Int) (room : Int) = true := by unfold areaB; simp; omega
  unfold putF
  rw [if_neg (by rw [ha]; simp; omega)]
  by_cases h0 : x.length = 0
  · rw [if_pos h0]
    exact ⟨d, rfl, hw, hd, rfl, fun i => by rw [if_neg (by omega)]⟩
  · rw [if_neg h0, if_neg (by rw [hd]; simp)]
    obtain ⟨h1, h2, h3, h4⟩ := putL_law ff x.length d A x hw hd (Nat.le_refl _) (by omega)
    exact ⟨_, rfl, h1, h2, h3, h4⟩

end Go.Proofs.Ytpeboaoephkfhaa
