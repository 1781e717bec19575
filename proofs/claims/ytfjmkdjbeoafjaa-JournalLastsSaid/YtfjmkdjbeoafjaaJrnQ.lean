/- The plain law of journals behind a crash. No program in sight. -/
import Derived.Test.YtfjmkdjbeoafjaaJrnM
namespace Go.Proofs.Ytfjmkdjbeoafjaa
open Go.RowKit

/-! How far a list of blocks is read. -/

theorem parse_split_aux : ∀ (t pre : List Blok) (u : Nat) (lstU : Int) (recs : List (List Int)) (lst : Int) (rec : List Int), u ≤ pre.length → (∀ tail, parse (pre ++ tail) 0 [] 0 [] 0 = parse tail lst rec pre.length recs u) →
    Rd (pre.take u) lstU recs → (∀ tail, parse (pre.drop u ++ tail) lstU [] u recs u = parse tail lst rec pre.length recs u) → (lstU = 0 ∨ ∃ b ∈ pre.take u, lstU = life8 b) →
    ∃ lst', Rd ((pre ++ t).take (parse (pre ++ t) 0 [] 0 [] 0).2) lst' (parse (pre ++ t) 0 [] 0 [] 0).1 ∧ parse ((pre ++ t).drop (parse (pre ++ t) 0 [] 0 [] 0).2) lst' [] (parse (pre ++ t) 0 [] 0 [] 0).2 (parse (pre ++ t) 0 [] 0 [] 0).1 (parse (pre ++ t) 0 [] 0 [] 0).2 = parse (pre ++ t) 0 [] 0 [] 0 ∧
      (lst' = 0 ∨ ∃ b ∈ (pre ++ t).take (parse (pre ++ t) 0 [] 0 [] 0).2, lst' = life8 b) ∧ (parse (pre ++ t) 0 [] 0 [] 0).2 ≤ (pre ++ t).length := by
  intro t
  induction t with
  | nil =>
    intro pre u lstU recs lst rec hu hpre hR hU hl
    have e : parse (pre ++ []) 0 [] 0 [] 0 = (recs, u) := hpre []
    rw [e]
    simp only [List.append_nil]
    refine ⟨lstU, hR, ?_, hl, hu⟩
    have := hU []
    rw [List.append_nil] at this
    exact this
  | cons b t ih =>
    intro pre u lstU recs lst rec hu hpre hR hU hl
    by_cases hg : goodB b lst (decide (0 < rec.length)) = true
    · have hstep : ∀ tail, pre ++ b :: tail = (pre ++ [b]) ++ tail := fun tail => by simp
      rw [hstep t]
      by_cases h1 : b.getD 10 0 = 1
      · have hp : ∀ tail, parse ((pre ++ [b]) ++ tail) 0 [] 0 [] 0 = parse tail (life8 b) [] (pre ++ [b]).length (recs ++ [rec ++ pieceB b]) (pre ++ [b]).length := fun tail => by
          rw [← hstep, hpre, parse, if_pos hg, if_pos h1, List.length_append, List.length_singleton]
        refine ih (pre ++ [b]) (pre ++ [b]).length (life8 b) _ (life8 b) [] (Nat.le_refl _) hp ?_ ?_ (.inr ⟨b, ?_, rfl⟩)
        · rw [List.take_length]; exact hp
        · intro tail; rw [List.drop_length]; rfl
        · rw [List.take_length]; simp
      · have hp : ∀ tail, parse ((pre ++ [b]) ++ tail) 0 [] 0 [] 0 = parse tail (life8 b) (rec ++ pieceB b) (pre ++ [b]).length recs u := fun tail => by
          rw [← hstep, hpre, parse, if_pos hg, if_neg h1, List.length_append, List.length_singleton]
        refine ih (pre ++ [b]) u lstU recs (life8 b) (rec ++ pieceB b) (by rw [List.length_append]; omega) hp ?_ ?_ ?_
        · rw [List.take_append_of_le_length hu]; exact hR
        · intro tail
          rw [List.drop_append_of_le_length hu, List.append_assoc]
          show parse (pre.drop u ++ (b :: tail)) lstU [] u recs u = _
          rw [hU, parse, if_pos hg, if_neg h1, List.length_append, List.length_singleton]
        · rw [List.take_append_of_le_length hu]; exact hl
    · have e : parse (pre ++ b :: t) 0 [] 0 [] 0 = (recs, u) := by rw [hpre, parse, if_neg hg]
      rw [e]
      simp only
      refine ⟨lstU, ?_, ?_, ?_, by rw [List.length_append]; omega⟩
      · rw [List.take_append_of_le_length hu]; exact hR
      · rw [List.drop_append_of_le_length hu, hU, parse, if_neg hg]
      · rw [List.take_append_of_le_length hu]; exact hl

/-- What was read, and where it stopped. -/
theorem parse_split {bs : List Blok} {recs : List (List Int)} {u : Nat} (h : parse bs 0 [] 0 [] 0 = (recs, u)) : ∃ lst, Rd (bs.take u) lst recs ∧ parse (bs.drop u) lst [] u recs u = (recs, u) ∧ (lst = 0 ∨ ∃ b ∈ bs.take u, lst = life8 b) ∧ u ≤ bs.length := by
  have := parse_split_aux bs [] 0 0 [] 0 [] (Nat.le_refl _) (fun _ => rfl) Rd.nil (fun _ => rfl) (.inl rfl)
  rw [List.nil_append, h] at this
  exact this

/-- Records are only added. -/
theorem parse_more : ∀ (bs : List Blok) (lst : Int) (rec : List Int) (i : Nat) (recs : List (List Int)) (u : Nat), recs.length ≤ (parse bs lst rec i recs u).1.length := by
  intro bs
  induction bs with
  | nil => intro lst rec i recs u; exact Nat.le_refl _
  | cons b t ih =>
    intro lst rec i recs u
    rw [parse]
    split
    · split
      · have := ih (life8 b) [] (i + 1) (recs ++ [rec ++ pieceB b]) (i + 1)
        rw [List.length_append, List.length_singleton] at this
        omega
      · exact ih _ _ _ _ _
    · exact Nat.le_refl _

/-- A block that is never good behind one of life L. -/
def Bad (L : Int) (x : Blok) : Prop := ∀ w, goodB x L w = false

theorem bad_life {L : Int} {x : Blok} (h : life8 x < L) : Bad L x := fun w => by
  unfold goodB
  rw [decide_eq_false (by omega)]; rfl

theorem bad_torn {x : Blok} (h : life8 x ≠ life8 (x.drop 56)) : ∀ lst w, goodB x lst w = false := fun lst w => by
  unfold goodB
  have e : (life8 x == life8 (x.drop 56)) = false := by simpa using h
  rw [e]
  simp

/-- Within a record a block of another life is not good. -/
theorem bad_within {lst : Int} {x : Blok} (h : life8 x ≠ lst) : goodB x lst true = false := by
  unfold goodB
  have e : (life8 x == lst) = false := by simpa using h
  rw [e]
  simp

/-- x is what stood there, or a new one (of life L), or a torn one. -/
def Mix (L : Int) (x y : Blok) : Prop := x = y ∨ life8 x = L ∨ life8 x ≠ life8 (x.drop 56)

/-- An unfinished record is not finished by new blocks. -/
theorem follow (L : Int) : ∀ (X Y : List Blok) (lst : Int) (rec : List Int) (i i' : Nat) (recs : List (List Int)) (u : Nat), X.length = Y.length → (∀ j, j < X.length → Mix L (X.getD j []) (Y.getD j [])) → (∀ b ∈ Y, life8 b < L) → lst < L → 0 < rec.length →
    parse Y lst rec i recs u = (recs, u) → parse X lst rec i' recs u = (recs, u) := by
  intro X
  induction X with
  | nil => intro Y lst rec i i' recs u _ _ _ _ _ _; rfl
  | cons x X ih =>
    intro Y lst rec i i' recs u hl hm hY hlst hrec hp
    cases Y with
    | nil => simp at hl
    | cons y Y =>
      have hw : decide (0 < rec.length) = true := decide_eq_true hrec
      have h0 := hm 0 (by simp)
      have hmx : Mix L x y := h0
      by_cases hxy : x = y
      · subst hxy
        rw [parse] at hp ⊢
        by_cases hg : goodB x lst (decide (0 < rec.length)) = true
        · rw [if_pos hg] at hp ⊢
          by_cases h1 : x.getD 10 0 = 1
          · exfalso
            rw [if_pos h1] at hp
            have := parse_more Y (life8 x) [] (i + 1) (recs ++ [rec ++ pieceB x]) (i + 1)
            rw [hp, List.length_append, List.length_singleton] at this
            exact absurd this (by show ¬ recs.length + 1 ≤ recs.length; omega)
          · rw [if_neg h1] at hp ⊢
            exact ih Y (life8 x) (rec ++ pieceB x) (i + 1) (i' + 1) recs u (by simpa using hl) (fun j hj => by have := hm (j + 1) (by simpa using hj); exact this) (fun b hb => hY b (List.mem_cons_of_mem _ hb)) (hY x List.mem_cons_self) (by rw [List.length_append]; omega) hp
        · rw [if_neg hg]
      · have hb : goodB x lst (decide (0 < rec.length)) = false := by
          rw [hw]
          rcases hmx with h | h | h
          · exact absurd h hxy
          · exact bad_within (by omega)
          · exact bad_torn h _ _
        rw [parse, if_neg (by rw [hb]; exact Bool.false_ne_true)]

attribute [local irreducible] blockJ

/-- A record's blocks, read, new or bad. -/
theorem newrun_block (L : Int) (b : List Int) (h1 : 1 ≤ L) (h2 : L ≤ 1099511627776) : ∀ (m i : Nat) (X rest : List Blok) (p : Nat) (r : List (List Int)) (u : Nat), 44 * i < b.length → i + m + 1 = needJ b → X.length = m + 1 →
    (∀ j, j < m + 1 → X.getD j [] = blockJ L (b.drop (44 * (i + j))) ∨ Bad L (X.getD j [])) →
    parse (X ++ rest) L (b.take (44 * i)) p r u = (r, u) ∨ parse (X ++ rest) L (b.take (44 * i)) p r u = parse rest L [] (p + m + 1) (r ++ [b]) (p + m + 1) := by
  intro m
  induction m with
  | zero =>
    intro i X rest p r u hi hm hX hx
    match X, hX with
    | [x], _ =>
      have hx0 : x = blockJ L (b.drop (44 * (i + 0))) ∨ Bad L x := hx 0 (by omega)
      rw [Nat.add_zero] at hx0
      rcases hx0 with hx0 | hx0
      · right
        have hc : 0 < (b.drop (44 * i)).length := by rw [List.length_drop]; omega
        have h44 : (b.drop (44 * i)).length ≤ 44 := by rw [List.length_drop]; unfold needJ at hm; omega
        have hg : goodB x L (decide (0 < (b.take (44 * i)).length)) = true := by rw [hx0]; exact good_block L L _ _ hc h1 h2 (Int.le_refl _) (fun _ => rfl)
        have hf : x.getD 10 0 = 1 := by rw [hx0, flag_block, if_pos h44]
        have hl : life8 x = L := by rw [hx0]; exact life8_head L _ (by omega) h2
        have hp : pieceB x = b.drop (44 * i) := by rw [hx0, piece_block, List.take_of_length_le h44]
        show parse (x :: rest) L (b.take (44 * i)) p r u = _
        rw [parse, if_pos hg, if_pos hf, hl, hp, List.take_append_drop]
      · left
        show parse (x :: rest) L (b.take (44 * i)) p r u = _
        rw [parse, if_neg (by rw [hx0]; exact Bool.false_ne_true)]
  | succ m ih =>
    intro i X rest p r u hi hm hX hx
    match X, hX with
    | x :: X, hX =>
      have hx0 : x = blockJ L (b.drop (44 * (i + 0))) ∨ Bad L x := hx 0 (by omega)
      rw [Nat.add_zero] at hx0
      rcases hx0 with hx0 | hx0
      · have hc : 0 < (b.drop (44 * i)).length := by rw [List.length_drop]; omega
        have h44 : ¬ (b.drop (44 * i)).length ≤ 44 := by rw [List.length_drop]; unfold needJ at hm; omega
        have hg : goodB x L (decide (0 < (b.take (44 * i)).length)) = true := by rw [hx0]; exact good_block L L _ _ hc h1 h2 (Int.le_refl _) (fun _ => rfl)
        have hf : ¬ x.getD 10 0 = 1 := by rw [hx0, flag_block, if_neg h44]; decide
        have hl : life8 x = L := by rw [hx0]; exact life8_head L _ (by omega) h2
        have hp : b.take (44 * i) ++ pieceB x = b.take (44 * (i + 1)) := by rw [hx0, piece_block, show 44 * (i + 1) = 44 * i + 44 by omega, List.take_add]
        have hih := ih (i + 1) X rest (p + 1) r u (by unfold needJ at hm; omega) (by omega) (by simpa using hX) (fun j hj => by
          have := hx (j + 1) (by omega)
          rw [show i + (j + 1) = i + 1 + j by omega] at this
          exact this)
        have e : parse (x :: X ++ rest) L (b.take (44 * i)) p r u = parse (X ++ rest) L (b.take (44 * (i + 1))) (p + 1) r u := by
          rw [List.cons_append, parse, if_pos hg, if_neg hf, hl, hp]
        rw [e, show p + (m + 1) + 1 = p + 1 + m + 1 by omega]
        exact hih
      · left
        rw [List.cons_append, parse, if_neg (by rw [hx0]; exact Bool.false_ne_true)]

def recB (L : Int) (bs : List (List Int)) : List Blok := bs.flatMap fun b => blocksJ L b (needJ b)

theorem blocksJ_len (L : Int) (b : List Int) (m : Nat) : (blocksJ L b m).length = m := by simp [blocksJ]
theorem blocksJ_get (L : Int) (b : List Int) (m j : Nat) (h : j < m) : (blocksJ L b m).getD j [] = blockJ L (b.drop (44 * j)) := by
  unfold blocksJ; rw [List.getD_eq_getElem?_getD, List.getElem?_map, List.getElem?_range h]; rfl

/-- Records' blocks, read, new or bad: a beginning of the records is read. -/
theorem newrun (L : Int) (h1 : 1 ≤ L) (h2 : L ≤ 1099511627776) : ∀ (bs : List (List Int)) (X rest : List Blok) (p : Nat) (r : List (List Int)), (∀ b ∈ bs, 0 < b.length) → X.length = (recB L bs).length →
    (∀ j, j < X.length → X.getD j [] = (recB L bs).getD j [] ∨ Bad L (X.getD j [])) → (∀ y t, rest = y :: t → Bad L y) →
    ∃ m, m ≤ bs.length ∧ (parse (X ++ rest) L [] p r p).1 = r ++ bs.take m := by
  intro bs
  induction bs with
  | nil =>
    intro X rest p r _ hX _ hr
    have hX0 : X = [] := List.eq_nil_of_length_eq_zero hX
    subst hX0
    refine ⟨0, Nat.le_refl _, ?_⟩
    rw [List.nil_append, List.take_zero, List.append_nil]
    cases rest with
    | nil => rfl
    | cons y t => rw [parse, if_neg (by rw [hr y t rfl]; exact Bool.false_ne_true)]
  | cons b bs ih =>
    intro X rest p r hb hX hx hr
    have hb0 := hb b List.mem_cons_self
    obtain ⟨m, hm⟩ : ∃ m, needJ b = m + 1 := ⟨needJ b - 1, by unfold needJ; omega⟩
    have eA : recB L (b :: bs) = blocksJ L b (needJ b) ++ recB L bs := rfl
    have hXl : X.length = (m + 1) + (recB L bs).length := by rw [hX, eA, List.length_append, blocksJ_len, hm]
    have hsplit : X = X.take (m + 1) ++ X.drop (m + 1) := (List.take_append_drop _ _).symm
    have hl1 : (X.take (m + 1)).length = m + 1 := by rw [List.length_take]; omega
    have hnb := newrun_block L b h1 h2 m 0 (X.take (m + 1)) (X.drop (m + 1) ++ rest) p r p (by omega) (by omega) hl1 (fun j hj => by
      have := hx j (by omega)
      rw [eA] at this
      have e1 : (blocksJ L b (needJ b) ++ recB L bs).getD j [] = blockJ L (b.drop (44 * (0 + j))) := by
        rw [List.getD_eq_getElem?_getD, List.getElem?_append_left (by rw [blocksJ_len]; omega), ← List.getD_eq_getElem?_getD, blocksJ_get _ _ _ _ (by omega), Nat.zero_add]
      have e2 : (X.take (m + 1)).getD j [] = X.getD j [] := by rw [List.getD_eq_getElem?_getD, List.getElem?_take, if_pos hj, ← List.getD_eq_getElem?_getD]
      rw [e1] at this
      rw [e2]; exact this)
    rw [Nat.mul_zero, List.take_zero, ← List.append_assoc, List.take_append_drop] at hnb
    rcases hnb with hnb | hnb
    · exact ⟨0, Nat.zero_le _, by rw [hnb]; simp⟩
    · obtain ⟨q, hq, e⟩ := ih (X.drop (m + 1)) rest (p + m + 1) (r ++ [b]) (fun c hc => hb c (List.mem_cons_of_mem _ hc)) (by rw [List.length_drop]; omega) (fun j hj => by
        rw [List.length_drop] at hj
        have := hx (m + 1 + j) (by omega)
        have e1 : (recB L (b :: bs)).getD (m + 1 + j) [] = (recB L bs).getD j [] := by
          rw [eA, List.getD_eq_getElem?_getD, List.getElem?_append_right (by rw [blocksJ_len]; omega), blocksJ_len, ← List.getD_eq_getElem?_getD, show m + 1 + j - needJ b = j by omega]
        have e2 : (X.drop (m + 1)).getD j [] = X.getD (m + 1 + j) [] := by rw [List.getD_eq_getElem?_getD, List.getElem?_drop, ← List.getD_eq_getElem?_getD]
        rw [e1] at this
        rw [e2]; exact this) hr
      refine ⟨q + 1, by simpa using hq, ?_⟩
      rw [hnb, e, List.take_succ_cons]
      simp

end Go.Proofs.Ytfjmkdjbeoafjaa
