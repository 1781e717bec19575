/- The walk of LatticeWho. (Printed by wip/tools/gen_who.py.) -/
import Derived.Test.YtbdmnmjdnfpfbaaLatW
namespace Go.Proofs.Ytbdmnmjdnfpfbaa
open Go.ChangeShapes Go.WideShapes Go.ChangeAt Go.RowKit

set_option maxRecDepth 100000 in
set_option maxHeartbeats 4000000 in
theorem LatticeWho.walk (nodes : Int) (v : Value) (L : List FK) (kind epoch majority : Int) (w : World) (_ : (Lit.int .i64 nodes).wf = true) (h : FI w v L) (_ : (Lit.int .i64 kind).wf = true) (_ : (Lit.int .i64 epoch).wf = true) (hmw : (Lit.int .i64 majority).wf = true) :
    Calls Try.prog 8 #[.int .i64 nodes, v, .int .i64 kind, .int .i64 epoch, .int .i64 majority] w fun e w' => e = .returned (.bool true) ∧ Below w.heap.size w w' := by
  obtain ⟨A, hA⟩ : ∃ A, A = grownL nodes L 40 := ⟨_, rfl⟩
  have hga : Good nodes A := by rw [hA]; exact Good.grown _ _ _
  have hal : A.length ≤ 40 := by rw [hA]; exact grownL_len _ _ _
  obtain ⟨K, hK⟩ : ∃ K, K = whoL A kind epoch := ⟨_, rfl⟩
  have hrise : K.Pairwise (· < ·) := by rw [hK]; exact who_rises hga kind epoch
  have hcnt : cntL A kind epoch 9 = K.length := by rw [hK]; exact cntL_who hga kind epoch
  have hhas : ∀ i, i < K.length → hasL A kind epoch (K.getD i 0) = true := fun i hi => by
    rw [← mem_whoL, ← hK]; simp [List.getD_eq_getElem?_getD, hi]
  obtain ⟨kn, hkn⟩ : ∃ n, n = K.length := ⟨_, rfl⟩
  have hkl : kn ≤ 9 := by rw [hkn, ← hcnt]; exact cntL_le _ _ _ _
  have hab : ∀ m, abortedL A epoch m = decide (m ≤ ((whoL A 3 epoch).length : Int)) := fun m => rfl
  have hal1 : A.length ≤ 1000 := by omega
  rw [← hkn] at hcnt hhas
  have HRISE := Lib.hid hrise
  have HCNT := Lib.hid hcnt
  have HHAS := Lib.hid hhas
  have HAB := Lib.hid hab
  have HFI := Lib.hid h
  have HEA := Lib.hid hA
  have HEK := Lib.hid hK
  have HKN := Lib.hid hkn
  have HMW := Lib.hid hmw
  obtain ⟨a0, c0, rfl⟩ := h.form
  clear hrise hcnt hhas hab h hA hK hkn hmw hga
  go_enter Try.func8, Try.ntmps8
  go_upto_region 4 with (go_at_call 12; refine (awake_any _).mono ?_; rintro e w2 ⟨rfl, hu2⟩
                         have HU2 := Lib.hid hu2
                         clear hu2)
  go_upto_region 5 with (go_at_call 13; refine (grown_fi nodes 40 (HFI.out.upd0 HU2.out)).mono ?_; rw [← HEA.out]; rintro e w4 ⟨av, rfl, ha, hu4⟩
                         have HA4 := Lib.hid ha
                         obtain ⟨aa, ac, rfl⟩ := ha.form
                         have HU4 := Lib.hid (HU2.out.trans hu4)
                         clear ha hu4)
  go_upto_region 7 with (go_at_call 23; refine (who_fi kind epoch HA4.out hal1).mono ?_; rw [← HEK.out, ← HKN.out]; rintro e w5 ⟨bv, rfl, hb5, hu5⟩
                         have HW5 := Lib.hid hb5
                         obtain ⟨ba, bc, rfl⟩ := own_slice hb5
                         have HA5 := Lib.hid (HA4.out.upd0 hu5)
                         have HU5 := Lib.hid (HU4.out.trans hu5)
                         clear hb5 hu5)
  clear HU2 HA4 HU4 HFI
  obtain ⟨an, han⟩ : ∃ n, n = A.length := ⟨_, rfl⟩
  rw [← han] at HA5 ⊢
  have HAN := Lib.hid han
  clear han
  go_loopw [14] (fun i wx => ∃ (m : Nat), m ≤ kn ∧ i = .int .i64 m ∧ Upd [] w5 wx) (fun i _ => kn - (intOf i).toNat)
  case atStart => exact ⟨0, Nat.zero_le _, rfl, Upd.refl _ _⟩
  case round =>
    obtain ⟨m, hm, rfl, hu⟩ := hrel
    have HU := Lib.hid hu
    clear hu
    by_cases hlt : m < kn
    · obtain ⟨g, rfl, hcell⟩ := own_get HW5.out (Nat.lt_of_le_of_lt (Nat.zero_le m) hlt)
      have HCELL := Lib.hid hcell
      obtain ⟨x1, hx1⟩ : ∃ x, x = K.getD m 0 := ⟨_, rfl⟩
      have HX1 := Lib.hid hx1
      have HX1C : Hid ((K.map (Value.int .i64))[m]? = some (.int .i64 x1)) := Lib.hid (by rw [hx1]; exact ints_at (by rw [← HKN.out]; exact hlt))
      have HHX : Hid (hasL A kind epoch x1 = true) := Lib.hid (by rw [hx1]; exact HHAS.out m hlt)
      have hx0 : (0 : Int) ≤ (m : Int) := by omega
      have hx2 : (m : Int) < (kn : Int) := by omega
      clear hcell hx1
      go_upto_region 9 with fail
      rcases Nat.eq_zero_or_pos m with rfl | hpos
      · as_aux_lemma =>
          refine held_start (fun w' => Upd [] wr w') 25 mixed rfl ((Upd.refl _ _).drew) (fun hHeld => ?_)
          refine held_take 0 33 (.int .i64 (0 : Nat)) rfl (by kernel_rfl) (by kernel_rfl) (by kernel_rfl) rfl (fun _ _ _ h => h) rfl hHeld (fun w hS => by rfl) ?_
          simp only [List.setIfInBounds_toArray, List.set_cons_zero, List.set_cons_succ]
          refine held_take 1 34 (.bool false) rfl (by kernel_rfl) (by kernel_rfl) (by kernel_rfl) rfl (fun _ _ _ h => h) rfl hHeld (fun w hS => by go_simp) ?_
          simp only [List.setIfInBounds_toArray, List.set_cons_zero, List.set_cons_succ]
          refine held_take 2 35 (.bool false) rfl (by kernel_rfl) (by kernel_rfl) (by kernel_rfl) rfl (fun _ _ _ h => h) rfl hHeld (fun w hS => by rfl) ?_
          simp only [List.setIfInBounds_toArray, List.set_cons_zero, List.set_cons_succ]
          refine held_skip 3 36 rfl (by kernel_rfl) (by kernel_rfl) (by kernel_rfl) rfl (fun _ _ _ h => h) rfl hHeld ?_
          simp only [List.setIfInBounds_toArray, List.set_cons_zero, List.set_cons_succ]
          refine held_skip 4 37 rfl (by kernel_rfl) (by kernel_rfl) (by kernel_rfl) rfl (fun _ _ _ h => h) rfl hHeld ?_
          simp only [List.setIfInBounds_toArray, List.set_cons_zero, List.set_cons_succ]
          refine held_skip 5 38 rfl (by kernel_rfl) (by kernel_rfl) (by kernel_rfl) rfl (fun _ _ _ h => h) rfl hHeld ?_
          simp only [List.setIfInBounds_toArray, List.set_cons_zero, List.set_cons_succ]
          refine held_skip 6 39 rfl (by kernel_rfl) (by kernel_rfl) (by kernel_rfl) rfl (fun _ _ _ h => h) rfl hHeld ?_
          simp only [List.setIfInBounds_toArray, List.set_cons_zero, List.set_cons_succ]
          refine held_skip 7 40 rfl (by kernel_rfl) (by kernel_rfl) (by kernel_rfl) rfl (fun _ _ _ h => h) rfl hHeld ?_
          simp only [List.setIfInBounds_toArray, List.set_cons_zero, List.set_cons_succ]
          refine held_skip 8 41 rfl (by kernel_rfl) (by kernel_rfl) (by kernel_rfl) rfl (fun _ _ _ h => h) rfl hHeld ?_
          simp only [List.setIfInBounds_toArray, List.set_cons_zero, List.set_cons_succ]
          refine held_skip 9 42 rfl (by kernel_rfl) (by kernel_rfl) (by kernel_rfl) rfl (fun _ _ _ h => h) rfl hHeld ?_
          simp only [List.setIfInBounds_toArray, List.set_cons_zero, List.set_cons_succ]
          refine held_skip 10 43 rfl (by kernel_rfl) (by kernel_rfl) (by kernel_rfl) rfl (fun _ _ _ h => h) rfl hHeld ?_
          simp only [List.setIfInBounds_toArray, List.set_cons_zero, List.set_cons_succ]
          refine held_skip 11 44 rfl (by kernel_rfl) (by kernel_rfl) (by kernel_rfl) rfl (fun _ _ _ h => h) rfl hHeld ?_
          simp only [List.setIfInBounds_toArray, List.set_cons_zero, List.set_cons_succ]
          refine held_skip 12 45 rfl (by kernel_rfl) (by kernel_rfl) (by kernel_rfl) rfl (fun _ _ _ h => h) rfl hHeld ?_
          simp only [List.setIfInBounds_toArray, List.set_cons_zero, List.set_cons_succ]
          refine held_take 13 46 (.bool false) rfl (by kernel_rfl) (by kernel_rfl) (by kernel_rfl) rfl (fun _ _ _ h => h) rfl hHeld (fun w hS => by rfl) ?_
          simp only [List.setIfInBounds_toArray, List.set_cons_zero, List.set_cons_succ]
          refine held_take 14 47 (.bool false) rfl (by kernel_rfl) (by kernel_rfl) (by kernel_rfl) rfl (fun _ _ _ h => h) rfl hHeld (fun w hS => by rfl) ?_
          simp only [List.setIfInBounds_toArray, List.set_cons_zero, List.set_cons_succ]
          refine held_take 15 48 (.slice aa an ac) rfl (by kernel_rfl) (by kernel_rfl) (by kernel_rfl) rfl (fun _ _ _ h => h) rfl hHeld (fun w hS => by rfl) ?_
          simp only [List.setIfInBounds_toArray, List.set_cons_zero, List.set_cons_succ]
          refine held_take 16 49 (.int .i64 kind) rfl (by kernel_rfl) (by kernel_rfl) (by kernel_rfl) rfl (fun _ _ _ h => h) rfl hHeld (fun w hS => by rfl) ?_
          simp only [List.setIfInBounds_toArray, List.set_cons_zero, List.set_cons_succ]
          refine held_take 17 50 (.int .i64 epoch) rfl (by kernel_rfl) (by kernel_rfl) (by kernel_rfl) rfl (fun _ _ _ h => h) rfl hHeld (fun w hS => by rfl) ?_
          simp only [List.setIfInBounds_toArray, List.set_cons_zero, List.set_cons_succ]
          refine held_take 18 51 (.slice (some ⟨g, 0, none⟩) kn bc) rfl (by kernel_rfl) (by kernel_rfl) (by kernel_rfl) rfl (fun _ _ _ h => h) rfl hHeld (fun w hS => by rfl) ?_
          simp only [List.setIfInBounds_toArray, List.set_cons_zero, List.set_cons_succ]
          refine held_take 19 52 (.int .i64 (0 : Nat)) rfl (by kernel_rfl) (by kernel_rfl) (by kernel_rfl) rfl (fun _ _ _ h => h) rfl hHeld (fun w hS => by rfl) ?_
          simp only [List.setIfInBounds_toArray, List.set_cons_zero, List.set_cons_succ]
          refine held_take 20 53 (.pointer (some ⟨g, 0, none⟩)) rfl (by kernel_rfl) (by kernel_rfl) (by kernel_rfl) rfl (fun _ _ _ h => h) rfl hHeld (fun w hS => by go_simp) ?_
          simp only [List.setIfInBounds_toArray, List.set_cons_zero, List.set_cons_succ]
          refine held_take 21 54 (.int .i64 x1) rfl (by kernel_rfl) (by kernel_rfl) (by kernel_rfl) rfl (fun _ _ _ h => h) rfl hHeld (fun w hS => by have c : w.cell? ⟨g, 0, none⟩ = some (.int .i64 x1) := HCELL.out _ (HU.out.trans hS) _ _ HX1C.out; go_simp) ?_
          simp only [List.setIfInBounds_toArray, List.set_cons_zero, List.set_cons_succ]
          refine held_next 22 55 rfl (by kernel_rfl) rfl rfl (fun K hK => ?_)
          go_simp
          refine (has_fi kind epoch x1 ((HA5.out.upd0 HU.out).upd0 hHeld) hal1).mono ?_
          rw [HHX.out]
          rintro e w6 ⟨rfl, hu6⟩
          have hk := hK.out (.bool true) _ (hHeld.trans hu6)
          simp only [Act.put, List.setIfInBounds_toArray, List.set_cons_zero, List.set_cons_succ] at hk
          refine hk (fun hHeld => ?_)
          clear hK hk K
          refine held_take 23 56 (.bool false) rfl (by kernel_rfl) (by kernel_rfl) (by kernel_rfl) rfl (fun _ _ _ h => h) rfl hHeld (fun w hS => by rfl) ?_
          simp only [List.setIfInBounds_toArray, List.set_cons_zero, List.set_cons_succ]
          refine held_take 24 57 (.bool false) rfl (by kernel_rfl) (by kernel_rfl) (by kernel_rfl) rfl (fun _ _ _ h => h) rfl hHeld (fun w hS => by rfl) ?_
          simp only [List.setIfInBounds_toArray, List.set_cons_zero, List.set_cons_succ]
          refine held_done (by kernel_rfl) ?_
          go_wp2_with fail
          go_roundw
          case rel => exact ⟨0 + 1, by omega, by go_num, HU.out.trans hHeld⟩
          case measure => simp [intOf]; omega
      · as_aux_lemma =>
          obtain ⟨p, hpm⟩ : ∃ p, p + 1 = m := ⟨m - 1, by omega⟩
          obtain ⟨x0, hx0e⟩ : ∃ x, x = K.getD p 0 := ⟨_, rfl⟩
          have HX0C : Hid ((K.map (Value.int .i64))[p]? = some (.int .i64 x0)) := Lib.hid (by rw [hx0e]; exact ints_at (by rw [← HKN.out]; omega))
          have hle : ¬ x1 ≤ x0 := by
            have := rises_at HRISE.out (i := p) (by rw [← HKN.out]; omega)
            rw [hpm, ← HX1.out, ← hx0e] at this
            omega
          have hwr : IntKind.i64.wrap ((m : Int) - 1) = (p : Int) := by rw [IntWalk.i64_in _ (by omega)]; omega
          have hp0 : (0 : Int) ≤ (p : Int) := by omega
          have hp1 : (p : Int) < (kn : Int) := by omega
          have hp2 : (0 : Int) < (m : Int) := by omega
          clear hx0e hpm
          refine held_start (fun w' => Upd [] wr w') 25 mixed rfl ((Upd.refl _ _).drew) (fun hHeld => ?_)
          refine held_take 0 33 (.int .i64 (m : Nat)) rfl (by kernel_rfl) (by kernel_rfl) (by kernel_rfl) rfl (fun _ _ _ h => h) rfl hHeld (fun w hS => by rfl) ?_
          simp only [List.setIfInBounds_toArray, List.set_cons_zero, List.set_cons_succ]
          refine held_take 1 34 (.bool true) rfl (by kernel_rfl) (by kernel_rfl) (by kernel_rfl) rfl (fun _ _ _ h => h) rfl hHeld (fun w hS => by go_simp) ?_
          simp only [List.setIfInBounds_toArray, List.set_cons_zero, List.set_cons_succ]
          refine held_take 2 35 (.bool true) rfl (by kernel_rfl) (by kernel_rfl) (by kernel_rfl) rfl (fun _ _ _ h => h) rfl hHeld (fun w hS => by rfl) ?_
          simp only [List.setIfInBounds_toArray, List.set_cons_zero, List.set_cons_succ]
          refine held_take 3 36 (.slice (some ⟨g, 0, none⟩) kn bc) rfl (by kernel_rfl) (by kernel_rfl) (by kernel_rfl) rfl (fun _ _ _ h => h) rfl hHeld (fun w hS => by rfl) ?_
          simp only [List.setIfInBounds_toArray, List.set_cons_zero, List.set_cons_succ]
          refine held_take 4 37 (.int .i64 (m : Nat)) rfl (by kernel_rfl) (by kernel_rfl) (by kernel_rfl) rfl (fun _ _ _ h => h) rfl hHeld (fun w hS => by rfl) ?_
          simp only [List.setIfInBounds_toArray, List.set_cons_zero, List.set_cons_succ]
          refine held_take 5 38 (.pointer (some ⟨g, m, none⟩)) rfl (by kernel_rfl) (by kernel_rfl) (by kernel_rfl) rfl (fun _ _ _ h => h) rfl hHeld (fun w hS => by go_simp) ?_
          simp only [List.setIfInBounds_toArray, List.set_cons_zero, List.set_cons_succ]
          refine held_take 6 39 (.int .i64 x1) rfl (by kernel_rfl) (by kernel_rfl) (by kernel_rfl) rfl (fun _ _ _ h => h) rfl hHeld (fun w hS => by have c : w.cell? ⟨g, m, none⟩ = some (.int .i64 x1) := HCELL.out _ (HU.out.trans hS) _ _ HX1C.out; go_simp) ?_
          simp only [List.setIfInBounds_toArray, List.set_cons_zero, List.set_cons_succ]
          refine held_take 7 40 (.slice (some ⟨g, 0, none⟩) kn bc) rfl (by kernel_rfl) (by kernel_rfl) (by kernel_rfl) rfl (fun _ _ _ h => h) rfl hHeld (fun w hS => by rfl) ?_
          simp only [List.setIfInBounds_toArray, List.set_cons_zero, List.set_cons_succ]
          refine held_take 8 41 (.int .i64 (m : Nat)) rfl (by kernel_rfl) (by kernel_rfl) (by kernel_rfl) rfl (fun _ _ _ h => h) rfl hHeld (fun w hS => by rfl) ?_
          simp only [List.setIfInBounds_toArray, List.set_cons_zero, List.set_cons_succ]
          refine held_take 9 42 (.int .i64 (p : Nat)) rfl (by kernel_rfl) (by kernel_rfl) (by kernel_rfl) rfl (fun _ _ _ h => h) rfl hHeld (fun w hS => by go_simp) ?_
          simp only [List.setIfInBounds_toArray, List.set_cons_zero, List.set_cons_succ]
          refine held_take 10 43 (.pointer (some ⟨g, p, none⟩)) rfl (by kernel_rfl) (by kernel_rfl) (by kernel_rfl) rfl (fun _ _ _ h => h) rfl hHeld (fun w hS => by go_simp) ?_
          simp only [List.setIfInBounds_toArray, List.set_cons_zero, List.set_cons_succ]
          refine held_take 11 44 (.int .i64 x0) rfl (by kernel_rfl) (by kernel_rfl) (by kernel_rfl) rfl (fun _ _ _ h => h) rfl hHeld (fun w hS => by have c : w.cell? ⟨g, p, none⟩ = some (.int .i64 x0) := HCELL.out _ (HU.out.trans hS) _ _ HX0C.out; go_simp) ?_
          simp only [List.setIfInBounds_toArray, List.set_cons_zero, List.set_cons_succ]
          refine held_take 12 45 (.bool false) rfl (by kernel_rfl) (by kernel_rfl) (by kernel_rfl) rfl (fun _ _ _ h => h) rfl hHeld (fun w hS => by go_simp) ?_
          simp only [List.setIfInBounds_toArray, List.set_cons_zero, List.set_cons_succ]
          refine held_take 13 46 (.bool false) rfl (by kernel_rfl) (by kernel_rfl) (by kernel_rfl) rfl (fun _ _ _ h => h) rfl hHeld (fun w hS => by rfl) ?_
          simp only [List.setIfInBounds_toArray, List.set_cons_zero, List.set_cons_succ]
          refine held_take 14 47 (.bool false) rfl (by kernel_rfl) (by kernel_rfl) (by kernel_rfl) rfl (fun _ _ _ h => h) rfl hHeld (fun w hS => by rfl) ?_
          simp only [List.setIfInBounds_toArray, List.set_cons_zero, List.set_cons_succ]
          refine held_take 15 48 (.slice aa an ac) rfl (by kernel_rfl) (by kernel_rfl) (by kernel_rfl) rfl (fun _ _ _ h => h) rfl hHeld (fun w hS => by rfl) ?_
          simp only [List.setIfInBounds_toArray, List.set_cons_zero, List.set_cons_succ]
          refine held_take 16 49 (.int .i64 kind) rfl (by kernel_rfl) (by kernel_rfl) (by kernel_rfl) rfl (fun _ _ _ h => h) rfl hHeld (fun w hS => by rfl) ?_
          simp only [List.setIfInBounds_toArray, List.set_cons_zero, List.set_cons_succ]
          refine held_take 17 50 (.int .i64 epoch) rfl (by kernel_rfl) (by kernel_rfl) (by kernel_rfl) rfl (fun _ _ _ h => h) rfl hHeld (fun w hS => by rfl) ?_
          simp only [List.setIfInBounds_toArray, List.set_cons_zero, List.set_cons_succ]
          refine held_take 18 51 (.slice (some ⟨g, 0, none⟩) kn bc) rfl (by kernel_rfl) (by kernel_rfl) (by kernel_rfl) rfl (fun _ _ _ h => h) rfl hHeld (fun w hS => by rfl) ?_
          simp only [List.setIfInBounds_toArray, List.set_cons_zero, List.set_cons_succ]
          refine held_take 19 52 (.int .i64 (m : Nat)) rfl (by kernel_rfl) (by kernel_rfl) (by kernel_rfl) rfl (fun _ _ _ h => h) rfl hHeld (fun w hS => by rfl) ?_
          simp only [List.setIfInBounds_toArray, List.set_cons_zero, List.set_cons_succ]
          refine held_take 20 53 (.pointer (some ⟨g, m, none⟩)) rfl (by kernel_rfl) (by kernel_rfl) (by kernel_rfl) rfl (fun _ _ _ h => h) rfl hHeld (fun w hS => by go_simp) ?_
          simp only [List.setIfInBounds_toArray, List.set_cons_zero, List.set_cons_succ]
          refine held_take 21 54 (.int .i64 x1) rfl (by kernel_rfl) (by kernel_rfl) (by kernel_rfl) rfl (fun _ _ _ h => h) rfl hHeld (fun w hS => by have c : w.cell? ⟨g, m, none⟩ = some (.int .i64 x1) := HCELL.out _ (HU.out.trans hS) _ _ HX1C.out; go_simp) ?_
          simp only [List.setIfInBounds_toArray, List.set_cons_zero, List.set_cons_succ]
          refine held_next 22 55 rfl (by kernel_rfl) rfl rfl (fun K hK => ?_)
          go_simp
          refine (has_fi kind epoch x1 ((HA5.out.upd0 HU.out).upd0 hHeld) hal1).mono ?_
          rw [HHX.out]
          rintro e w6 ⟨rfl, hu6⟩
          have hk := hK.out (.bool true) _ (hHeld.trans hu6)
          simp only [Act.put, List.setIfInBounds_toArray, List.set_cons_zero, List.set_cons_succ] at hk
          refine hk (fun hHeld => ?_)
          clear hK hk K
          refine held_take 23 56 (.bool false) rfl (by kernel_rfl) (by kernel_rfl) (by kernel_rfl) rfl (fun _ _ _ h => h) rfl hHeld (fun w hS => by rfl) ?_
          simp only [List.setIfInBounds_toArray, List.set_cons_zero, List.set_cons_succ]
          refine held_take 24 57 (.bool false) rfl (by kernel_rfl) (by kernel_rfl) (by kernel_rfl) rfl (fun _ _ _ h => h) rfl hHeld (fun w hS => by rfl) ?_
          simp only [List.setIfInBounds_toArray, List.set_cons_zero, List.set_cons_succ]
          refine held_done (by kernel_rfl) ?_
          go_wp2_with fail
          go_roundw
          case rel => exact ⟨m + 1, by omega, by go_num, HU.out.trans hHeld⟩
          case measure => simp [intOf]; omega
    · obtain rfl : kn = m := by omega
      clear hlt hm
      have HWN : Hid (kn ≤ 9) := Lib.hid hkl
      go_upto_region 13 with fail
      go_loopw [15, 16] (fun c i wx => ∃ (m : Nat), m ≤ 9 ∧ i = .int .i64 m ∧ c = .int .i64 (cntL A kind epoch m : Nat) ∧ Upd [] w5 wx) (fun _ i _ => 9 - (intOf i).toNat)
      case atStart => exact ⟨0, Nat.zero_le _, rfl, rfl, HU.out⟩
      case round =>
        clear HU
        obtain ⟨m, hm, rfl, rfl, hu⟩ := hrel
        have HU := Lib.hid hu
        clear hu
        by_cases hlt : m < 9
        · obtain ⟨b, hb⟩ : ∃ b, b = hasL A kind epoch (m : Int) := ⟨_, rfl⟩
          have hsc := cntL_succ A kind epoch m
          have hcl := cntL_le A kind epoch m
          rw [← hb] at hsc
          obtain ⟨c, hc⟩ : ∃ c, c = cntL A kind epoch m := ⟨_, rfl⟩
          rw [← hc] at hsc hcl ⊢
          have HB := Lib.hid hb
          have HSC := Lib.hid hsc
          clear hb hsc hc
          go_upto_if 66 with (go_at_call 22; refine (has_fi kind epoch (m : Int) (HA5.out.upd0 HU.out) hal1).mono ?_; rw [← HB.out]; rintro e w6 ⟨rfl, hu6⟩
                              have HU6 := Lib.hid (HU.out.trans hu6)
                              clear hu6)
          cases b with
          | false =>
            go_wp2_with fail
            go_roundw
            case rel => exact ⟨m + 1, by omega, by go_num, by rw [HSC.out]; rfl, HU6.out⟩
            case measure => simp [intOf]; omega
          | true =>
            go_wp2_with fail
            go_roundw
            case rel => exact ⟨m + 1, by omega, by go_num, by rw [HSC.out]; go_num, HU6.out⟩
            case measure => simp [intOf]; omega
        · obtain rfl : 9 = m := by omega
          have hcn : cntL A kind epoch 9 = kn := HCNT.out
          rw [hcn]
          clear hlt hm hcn
          obtain ⟨b1, hb1⟩ : ∃ b, b = abortedL A epoch majority := ⟨_, rfl⟩
          have HB1 := Lib.hid hb1
          have HA6 := Lib.hid (HA5.out.upd0 HU.out)
          have HU6 := Lib.hid (HU5.out.trans HU.out)
          clear hb1
          cases b1 with
          | false =>
            go_wp2_with (go_at_call 24; refine (aborted_fi epoch majority HA6.out hal1).mono ?_; rw [← HB1.out]; rintro e w7 ⟨rfl, hu7⟩
                         have HU7 := Lib.hid (HU6.out.trans hu7)
                         clear hu7)
            go_ret
            exact ⟨rfl, HU7.out.toBelow⟩
          | true =>
            by_cases hbig : (1099511627776 : Int) < majority
            · go_wp2_with (go_at_call 24; refine (aborted_fi epoch majority HA6.out hal1).mono ?_; rw [← HB1.out]; rintro e w7 ⟨rfl, hu7⟩
                           have HU7 := Lib.hid (HU6.out.trans hu7)
                           clear hu7)
              go_ret
              exact ⟨rfl, HU7.out.toBelow⟩
            · have HB2 : Hid (abortedL A epoch ((if majority < -1099511627776 then -1099511627776 else majority) - 1) = true) := Lib.hid (by
                have h1 := HB1.out
                rw [HAB.out] at h1 ⊢
                have h2 := of_decide_eq_true h1.symm
                refine decide_eq_true ?_
                split <;> omega)
              go_wp2_with (first
                | (go_at_call 24; first
                    | (refine (aborted_fi epoch _ HA7.out hal1).mono ?_; rw [HB2.out]; rintro e w8 ⟨rfl, hu8⟩
                       have HU8 := Lib.hid (HU7.out.trans hu8)
                       clear hu8)
                    | (refine (aborted_fi epoch majority HA6.out hal1).mono ?_; rw [← HB1.out]; rintro e w7 ⟨rfl, hu7⟩
                       have HU7 := Lib.hid (HU6.out.trans hu7)
                       have HA7 := Lib.hid (HA6.out.upd0 hu7)
                       clear hu7)))
              all_goals (go_ret; exact ⟨rfl, HU8.out.toBelow⟩)

end Go.Proofs.Ytbdmnmjdnfpfbaa
