/- The plain law of journals behind a crash, second part. No program in sight. -/
import Derived.Test.YtfjmkdjbeoafjaaJrnQ
namespace Go.Proofs.Ytfjmkdjbeoafjaa
open Go.RowKit

attribute [local irreducible] blockJ

theorem recB_append (L : Int) (F U : List (List Int)) : recB L (F ++ U) = recB L F ++ recB L U := List.flatMap_append

theorem recB_mem {L : Int} {F : List (List Int)} {x : Blok} (h : x ∈ recB L F) : ∃ c, x = blockJ L c := by
  obtain ⟨b, _, hx⟩ := List.mem_flatMap.1 h
  obtain ⟨i, _, rfl⟩ := List.mem_map.1 hx
  exact ⟨_, rfl⟩

theorem getD_mem' {l : List Blok} {i : Nat} (h : i < l.length) : l.getD i [] ∈ l := by
  rw [List.getD_eq_getElem?_getD, List.getElem?_eq_getElem h]; exact List.getElem_mem h

/-- Records' blocks are read behind what was read. -/
theorem Rd.pushes {L : Int} (h1 : 1 ≤ L) (h2 : L ≤ 1099511627776) : ∀ (F : List (List Int)) (pre : List Blok) (lst : Int) (recs : List (List Int)), Rd pre lst recs → lst ≤ L → (∀ b ∈ F, 0 < b.length) → F ≠ [] → Rd (pre ++ recB L F) L (recs ++ F) := by
  intro F
  induction F with
  | nil => intro pre lst recs _ _ _ h; exact absurd rfl h
  | cons b F ih =>
    intro pre lst recs hR hl hb _
    have h := hR.push (hb b List.mem_cons_self) h1 h2 hl
    by_cases hF : F = []
    · subst hF
      have e : recB L [b] = blocksJ L b (needJ b) := by show _ ++ [] = _; rw [List.append_nil]
      rw [e]; exact h
    · have := ih _ _ _ h (Int.le_refl _) (fun c hc => hb c (List.mem_cons_of_mem _ hc)) hF
      rw [List.append_assoc, List.append_assoc] at this
      exact this

theorem crash_read {O : List Blok} {L : Int} {r0 : List (List Int)} {u0 : Nat} (hread : parse O 0 [] 0 [] 0 = (r0, u0)) (hlife : ∀ b ∈ O, life8 b < L) (hu8 : ∀ b ∈ O, U8L b) (h64 : ∀ b ∈ O, b.length = 64) (h1 : 1 ≤ L) (h2 : L ≤ 1099511627776)
    {F U : List (List Int)} (hF : ∀ b ∈ F, 0 < b.length) (hU : ∀ b ∈ U, 0 < b.length) {X : List Blok} (hXl : X.length = (recB L U).length) (hfit : u0 + (recB L F).length + X.length ≤ O.length)
    (hX : ∀ j, j < X.length → X.getD j [] = (recB L U).getD j [] ∨ X.getD j [] = O.getD (u0 + (recB L F).length + j) [] ∨ life8 (X.getD j []) ≠ life8 ((X.getD j []).drop 56)) :
    ∃ m, m ≤ U.length ∧ (parse (O.take u0 ++ (recB L F ++ (X ++ O.drop (u0 + (recB L F).length + X.length)))) 0 [] 0 [] 0).1 = r0 ++ F ++ U.take m := by
  obtain ⟨lst, hR, hstop, hl, hu⟩ := parse_split hread
  have hlst : lst < L := by
    rcases hl with h | ⟨b, hb, h⟩
    · omega
    · rw [h]; exact hlife b (List.mem_of_mem_take hb)
  have hnb : ∀ j, j < X.length → X.getD j [] = (recB L U).getD j [] ∨ Bad L (X.getD j []) := fun j hj => by
    rcases hX j hj with h | h | h
    · exact .inl h
    · refine .inr (bad_life ?_)
      rw [h]; exact hlife _ (getD_mem' (by omega))
    · exact .inr fun w => bad_torn h L w
  have hrest : ∀ k y t, O.drop k = y :: t → Bad L y := fun k y t h => bad_life (hlife y (List.mem_of_mem_drop (i := k) (by rw [h]; exact List.mem_cons_self)))
  by_cases hF0 : F = []
  · subst hF0
    have e0 : recB L [] = [] := rfl
    rw [e0] at hX hfit ⊢
    rw [List.nil_append, List.length_nil, Nat.add_zero, hR, List.append_nil]
    rw [List.length_nil, Nat.add_zero] at hfit
    have eu : (O.take u0).length = u0 := by rw [List.length_take]; omega
    rw [eu]
    have hX' : ∀ j, j < X.length → X.getD j [] = (recB L U).getD j [] ∨ X.getD j [] = O.getD (u0 + j) [] ∨ life8 (X.getD j []) ≠ life8 ((X.getD j []).drop 56) := fun j hj => by
      have := hX j hj
      rw [List.length_nil, Nat.add_zero] at this
      exact this
    cases X with
    | nil =>
      refine ⟨0, Nat.zero_le _, ?_⟩
      rw [List.nil_append, List.length_nil, Nat.add_zero, hstop, List.take_zero, List.append_nil]
    | cons x X =>
      have h0 := hX' 0 (by simp)
      have hx0 : (x :: X).getD 0 [] = x := rfl
      rw [hx0, Nat.add_zero] at h0
      rcases h0 with h0 | h0 | h0
      · have hm : x ∈ recB L U := by rw [h0]; exact getD_mem' (by rw [← hXl]; simp)
        obtain ⟨c, hc⟩ := recB_mem hm
        have hcl : 0 < c.length := by
          cases U with
          | nil => cases hm
          | cons b U =>
            have hb := hU b List.mem_cons_self
            have e : (recB L (b :: U)).getD 0 [] = blockJ L (b.drop (44 * 0)) := by
              show (blocksJ L b (needJ b) ++ recB L U).getD 0 [] = _
              rw [List.getD_eq_getElem?_getD, List.getElem?_append_left (by rw [blocksJ_len]; unfold needJ; omega), ← List.getD_eq_getElem?_getD, blocksJ_get _ _ _ _ (by unfold needJ; omega)]
            rw [e] at h0
            have hp1 := piece_block L c
            have hp2 := piece_block L (b.drop (44 * 0))
            rw [← hc, h0, hp2] at hp1
            have := congrArg List.length hp1
            rw [List.length_take, List.length_take, List.length_drop] at this
            omega
        have g1 : goodB x lst (decide (0 < ([] : List Int).length)) = true := by rw [hc]; exact good_block L lst _ c hcl h1 h2 (by omega) (fun h => by simp at h)
        have g2 : goodB x L (decide (0 < ([] : List Int).length)) = true := by rw [hc]; exact good_block L L _ c hcl h1 h2 (by omega) (fun h => by simp at h)
        have e : parse (x :: X ++ O.drop (u0 + (x :: X).length)) lst [] u0 r0 u0 = parse (x :: X ++ O.drop (u0 + (x :: X).length)) L [] u0 r0 u0 := by
          show parse (x :: (X ++ _)) _ _ _ _ _ = parse (x :: (X ++ _)) _ _ _ _ _
          rw [parse, if_pos g1, parse, if_pos g2]
        rw [e]
        exact newrun L h1 h2 U (x :: X) _ u0 r0 hU hXl hnb (fun y t h => hrest _ y t h)
      · refine ⟨0, Nat.zero_le _, ?_⟩
        rw [List.take_zero, List.append_nil]
        have hul : u0 < O.length := by rw [List.length_cons] at hfit; omega
        have hY : O.drop u0 = x :: O.drop (u0 + 1) := by rw [drop_getD hul, h0]
        have hxO : x ∈ O := by rw [h0]; exact getD_mem' hul
        rw [hY] at hstop
        rw [List.cons_append]
        by_cases hg : goodB x lst (decide (0 < ([] : List Int).length)) = true
        · rw [parse, if_pos hg] at hstop ⊢
          by_cases hf : x.getD 10 0 = 1
          · exfalso
            rw [if_pos hf] at hstop
            have := parse_more (O.drop (u0 + 1)) (life8 x) [] (u0 + 1) (r0 ++ [[] ++ pieceB x]) (u0 + 1)
            rw [hstop, List.length_append, List.length_singleton] at this
            exact absurd this (by show ¬ r0.length + 1 ≤ r0.length; omega)
          · rw [if_neg hf] at hstop ⊢
            have hpl : 0 < ([] ++ pieceB x).length := by
              rw [List.nil_append, pieceB_len (hu8 x hxO) (h64 x hxO) hg]
              have := goodB_cnt (hu8 x hxO) hg
              omega
            have hlen : (X ++ O.drop (u0 + (x :: X).length)).length = (O.drop (u0 + 1)).length := by
              rw [List.length_append, List.length_drop, List.length_drop, List.length_cons]
              rw [List.length_cons] at hfit
              omega
            rw [follow L (X ++ O.drop (u0 + (x :: X).length)) (O.drop (u0 + 1)) (life8 x) ([] ++ pieceB x) (u0 + 1) (u0 + 1) r0 u0 hlen ?_ (fun b hb => hlife b (List.mem_of_mem_drop hb)) (hlife x hxO) hpl hstop]
            intro j hj
            have ey : (O.drop (u0 + 1)).getD j [] = O.getD (u0 + (j + 1)) [] := by
              rw [List.getD_eq_getElem?_getD, List.getElem?_drop, ← List.getD_eq_getElem?_getD, show u0 + 1 + j = u0 + (j + 1) by omega]
            rw [ey]
            by_cases hjX : j < X.length
            · have ex : (X ++ O.drop (u0 + (x :: X).length)).getD j [] = (x :: X).getD (j + 1) [] := by
                rw [List.getD_eq_getElem?_getD, List.getElem?_append_left hjX]; rfl
              rw [ex]
              rcases hX' (j + 1) (by rw [List.length_cons]; omega) with h | h | h
              · refine .inr (.inl ?_)
                have hm : (x :: X).getD (j + 1) [] ∈ recB L U := by rw [h]; exact getD_mem' (by rw [← hXl, List.length_cons]; omega)
                obtain ⟨c, hc⟩ := recB_mem hm
                rw [hc]; exact life8_head L c (by omega) h2
              · exact .inl h
              · exact .inr (.inr h)
            · refine .inl ?_
              rw [List.getD_eq_getElem?_getD, List.getElem?_append_right (by omega), List.getElem?_drop, ← List.getD_eq_getElem?_getD, List.length_cons]
              congr 1; omega
        · rw [parse, if_neg hg]
      · refine ⟨0, Nat.zero_le _, ?_⟩
        rw [List.take_zero, List.append_nil, List.cons_append, parse, if_neg (by rw [bad_torn h0]; exact Bool.false_ne_true)]
  · have hR2 := Rd.pushes h1 h2 F _ _ _ hR (by omega) hF hF0
    rw [← List.append_assoc, hR2]
    exact newrun L h1 h2 U X _ _ _ hU hXl hnb (fun y t h => hrest _ y t h)

end Go.Proofs.Ytfjmkdjbeoafjaa
