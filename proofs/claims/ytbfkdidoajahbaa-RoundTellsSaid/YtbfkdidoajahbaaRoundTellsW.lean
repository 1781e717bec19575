/- The walk of RoundTells. -/
import Derived.Test.YtbfkdidoajahbaaRoundF
namespace Go.Proofs.Ytbfkdidoajahbaa
open Go.ChangeShapes Go.WideShapes Go.ChangeAt Go.RowKit Round

set_option maxHeartbeats 400000 in
theorem RoundTells.walk (n me d at_ : Int) (w : World) (_ : (Lit.int .i64 n).wf = true) (_ : (Lit.int .i64 me).wf = true) (_ : (Lit.int .u64 d).wf = true) (_ : (Lit.int .i64 at_).wf = true) :
    Calls Try.prog 3 #[.int .i64 n, .int .i64 me, .int .u64 d, .int .i64 at_] w fun e w' => e = .returned (.bool true) ∧ Below w.heap.size w w' := by
  have key : (decide (2000 < at_) = true ∧ decide (at_ ≤ 1048576) = true) ∨ (decide (2000 < at_) = true ∧ decide (at_ ≤ 1048576) = false) ∨ (decide (2000 < at_) = false) := by
    simp only [decide_eq_true_eq, decide_eq_false_iff_not]; omega
  obtain ⟨o, ho⟩ : ∃ o, o = orderZ n me d := ⟨_, rfl⟩
  obtain ⟨t, ht⟩ : ∃ t, t = turnZ n me d at_ := ⟨_, rfl⟩
  obtain ⟨x, hx⟩ : ∃ x, x = drawP d := ⟨_, rfl⟩
  have O1 := order_any n me d
  have O2 := ref_order_any n me d
  have T1 := turn_any n me d at_
  have T2 := ref_turn_any n me d at_
  have D1 := draw_any d
  have D2 := ref_draw_any d
  rw [← ho] at O1 O2
  rw [← ht] at T1 T2
  rw [← hx] at D1 D2
  have HO1 := Lib.hid O1
  have HO2 := Lib.hid O2
  have HT1 := Lib.hid T1
  have HT2 := Lib.hid T2
  have HD1 := Lib.hid D1
  have HD2 := Lib.hid D2
  have se : eqB o.1 o.1 = true := by simp [eqB]
  have S := Lib.hid (fun a b w ha hb => same_any a b o.1 o.1 w ha hb)
  rw [se] at S
  clear O1 O2 T1 T2 D1 D2 ho ht hx se
  rcases key with ⟨h1, h2⟩ | key
  · go_enter Try.func3, Try.ntmps3
    go_wp2_with (go_at_call 7; refine (awake_any _).mono ?_; rintro e w1 ⟨rfl, hu1⟩)
    go_ret
    exact ⟨rfl, hu1.toBelow⟩
  · rcases key with ⟨h1, h2⟩ | h1
    all_goals
      go_enter Try.func3, Try.ntmps3
      go_wp2_with fail
      refine (awake_any _).mono ?_
      rintro e w1 ⟨rfl, hu1⟩
      go_wp2_with fail
      refine (HO1.out _).mono ?_
      rintro e w2 ⟨a, cap, rfl, hi2, hu2⟩
      go_wp2_with fail
      refine (HO2.out _).mono ?_
      rintro e w3 ⟨a', cap', rfl, hi3, hu3⟩
      have hi2' := hi2.upd0 hu3
      have Hu := Lib.hid ((hu1.trans hu2).trans hu3)
      have HI := Lib.hid hi2'
      have HI' := Lib.hid hi3
      clear hu1 hu2 hu3 hi2 hi3 hi2'
      go_wp2_with fail
      refine (S.out _ _ _ HI.out HI'.out).mono ?_
      rintro e w4 ⟨rfl, hu4⟩
      go_wp2_with fail
      refine (HD1.out _).mono ?_
      rintro e w5 ⟨rfl, rfl⟩
      go_wp2_with fail
      refine (HD2.out _).mono ?_
      rintro e w5 ⟨rfl, rfl⟩
      go_wp2_with fail
      refine (HT1.out _).mono ?_
      rintro e w5 ⟨rfl, hu5⟩
      go_wp2_with fail
      refine (HT2.out _).mono ?_
      rintro e w6 ⟨rfl, hu6⟩
      go_wp2
      go_ret
      exact ⟨rfl, (((Hu.out.trans hu4).trans hu5).trans hu6).toBelow⟩

end Go.Proofs.Ytbfkdidoajahbaa
