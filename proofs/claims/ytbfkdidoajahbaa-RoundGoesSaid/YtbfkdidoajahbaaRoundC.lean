/- The walk of round.Turn. -/
import Derived.Test.YtbfkdidoajahbaaRoundB
import Derived.ScopeJumps
import Derived.WalkMore
namespace Go.Proofs.Ytbfkdidoajahbaa.Round
open Go.ChangeShapes Go.WideShapes Go.ChangeAt Go.RowKit

theorem turn_far (n me d at_ : Int) (w : World) (h : at_ < 0 ∨ 1048576 < at_) :
    Calls Try.prog 13 #[.int .i64 n, .int .i64 me, .int .u64 d, .int .i64 at_] w fun e w' => e = .returned (.int .i64 (-1)) ∧ Upd [] w w' := by
  have key : decide (at_ < 0) = true ∨ (decide (at_ < 0) = false ∧ decide (1048576 < at_) = true) := by
    simp only [decide_eq_true_eq, decide_eq_false_iff_not]; omega
  clear h
  rcases key with h1 | ⟨h1, h2⟩
  all_goals
    go_enter Try.func13, Try.ntmps13
    go_wp2
    go_step3
    go_wp2
    try rw [Exit.noGoto_ret]
    go_ret
    exact ⟨rfl, Upd.refl _ _⟩

set_option maxHeartbeats 400000 in
theorem turn_none (n me d at_ : Int) (w : World) (h0 : 0 ≤ at_) (h1 : at_ ≤ 1048576) (h : n < 1 ∨ 9 < n ∨ me < 0 ∨ n ≤ me) :
    Calls Try.prog 13 #[.int .i64 n, .int .i64 me, .int .u64 d, .int .i64 at_] w fun e w' => e = .returned (.int .i64 (-1)) ∧ Upd [] w w' := by
  have g1 : decide (at_ < 0) = false := by simp; omega
  have g2 : decide (1048576 < at_) = false := by simp; omega
  have H := Lib.hid h
  clear h
  go_enter Try.func13, Try.ntmps13
  go_wp2
  go_step3
  go_wp2
  go_step3
  go_wp2_with (go_at_call 8; refine (order_no _ _ _ _ H.out).mono ?_; rintro e w' ⟨rfl, hu⟩)
  try rw [Exit.noGoto_ret]
  go_ret
  exact ⟨rfl, hu⟩

set_option maxHeartbeats 400000 in
theorem turn_yes (n me : Nat) (d : Int) (at_ : Nat) (w : World) (h1 : at_ ≤ 1048576) (h : valid n me) (hn : 2 ≤ n) :
    Calls Try.prog 13 #[.int .i64 n, .int .i64 me, .int .u64 d, .int .i64 at_] w fun e w' => e = .returned (.int .i64 (turn n me d at_)) ∧ Upd [] w w' := by
  have g1 : decide ((at_ : Int) < 0) = false := by simp
  have g2 : decide ((1048576 : Int) < at_) = false := by simp; omega
  have H := Lib.hid h
  clear h
  go_enter Try.func13, Try.ntmps13
  go_wp2
  refine wp_scope_jumps2 0 (fun a' wr => ∃ (dd : Int) (m : Nat) (u9 u16 u17 u18 u19 u20 u21 u22 u23 u24 u25 u26 u27 u28 u29 u30 u31 u32 u33 u34 u35 : Value),
    a' = { tmps := #[.int .i64 n, .int .i64 me, .int .u64 dd, .int .i64 m, undef, undef, undef, undef, .int .i64 0, u9, .int .i64 at_, .bool false, .bool false, .int .i64 at_, .bool false, .bool false,
      u16, u17, u18, u19, u20, u21, u22, u23, u24, u25, u26, u27, u28, u29, u30, u31, u32, u33, u34, u35, undef, undef, undef, undef], defers := [] } ∧ m ≤ 1048576 ∧ turn n me dd m = turn n me d at_ ∧ Upd [] w wr)
    (fun a' _ => (intOf (a'.tmps.getD 3 undef)).toNat) rfl ?_ ?_
  · rintro a' wr ⟨dd, m, u9, u16, u17, u18, u19, u20, u21, u22, u23, u24, u25, u26, u27, u28, u29, u30, u31, u32, u33, u34, u35, rfl, hm, ht, hu⟩
    have Ht := Lib.hid ht
    have Hu := Lib.hid hu
    clear ht hu
    have hw := H.out
    go_wp2_with fail
    refine (order_yes n me dd wr H.out).mono ?_
    rintro e w1 ⟨v, rfl, ho, hu1⟩
    obtain ⟨a, cap, rfl⟩ := own_slice ho
    have hol := order_len (n := n) (me := me) (by unfold valid at hw; omega) dd
    have g3 : decide (n - 1 = 0) = false := by simp; omega
    by_cases hlt : m < n - 1
    · rcases ho.2 with ⟨_, hz⟩ | ⟨g, cap', cur, hs, hgb, hg, hnc, hcm, hcs, htk⟩
      · omega
      simp only [Value.slice.injEq] at hs
      obtain ⟨rfl, -, rfl⟩ := hs
      rw [Nat.mul_one] at htk
      have hcell := Blk.cell hg (row_get htk hol hlt)
      rw [← turn_lt dd hlt, Ht.out] at hcell
      have Hu2 := Lib.hid (Hu.out.then hu1 (by simp))
      clear ho hg htk hol hcs hu1
      go_wp2
      try simp only [Exit.jump]
      go_ret
      exact ⟨rfl, Hu2.out⟩
    · have e1 := turn_ge (me := me) dd hn (show n - 1 ≤ m by omega)
      rw [Ht.out] at e1
      have E1 := Lib.hid e1
      have Hu2 := Lib.hid (Hu.out.then hu1 (by simp))
      clear ho e1 hol hu1
      go_wp2
      rw [show ((m : Int) - ((n - 1 : Nat) : Int)) = ((m - (n - 1) : Nat) : Int) by omega]
      go_step3
      refine ⟨rfl, ⟨_, m - (n - 1), _, _, _, _, _, _, _, _, _, _, _, _, _, _, _, _, _, _, _, _, _, rfl, by omega, E1.out.symm, Hu2.out⟩, ?_⟩
      simp [intOf]; omega
  · intro hp
    go_wp2
    go_step3
    go_step
    go_step
    exact hp.out _ _ ⟨d, at_, _, _, _, _, _, _, _, _, _, _, _, _, _, _, _, _, _, _, _, _, _, rfl, h1, rfl, Upd.refl _ _⟩

set_option maxHeartbeats 400000 in
theorem turn_one (d at_ : Int) (w : World) (h0 : 0 ≤ at_) (h1 : at_ ≤ 1048576) :
    Calls Try.prog 13 #[.int .i64 1, .int .i64 0, .int .u64 d, .int .i64 at_] w fun e w' => e = .returned (.int .i64 (-1)) ∧ Upd [] w w' := by
  have g1 : decide (at_ < 0) = false := by simp; omega
  have g2 : decide (1048576 < at_) = false := by simp; omega
  have H := Lib.hid (order_yes 1 0 d)
  go_enter Try.func13, Try.ntmps13
  go_wp2
  go_step3
  go_wp2
  go_step3
  go_wp2_with fail
  refine (H.out _ (by unfold valid; omega)).mono ?_
  rintro e w1 ⟨v, rfl, ho, hu1⟩
  obtain ⟨a, cap, rfl⟩ := own_slice ho
  clear ho
  go_wp2
  try rw [Exit.noGoto_ret]
  go_ret
  exact ⟨rfl, hu1⟩

end Go.Proofs.Ytbfkdidoajahbaa.Round
