/- The walks of the document's Turn, and of Same. -/
import Derived.Test.YtbfkdidoajahbaaRoundD
import Derived.BigQuiet
import Derived.Deep.QuietTactic
namespace Go.Proofs.Ytbfkdidoajahbaa.Round
open Go.ChangeShapes Go.WideShapes Go.ChangeAt Go.RowKit

set_option maxHeartbeats 400000 in
theorem ref_turn_no (n me d at_ : Int) (w : World) (h : n < 1 ∨ 9 < n ∨ me < 0 ∨ n ≤ me) :
    Calls Try.prog 14 #[.int .i64 n, .int .i64 me, .int .u64 d, .int .i64 at_] w fun e w' => e = .returned (.int .i64 (-1)) ∧ Upd [] w w' := by
  have H := Lib.hid h
  clear h
  go_enter Try.func14, Try.ntmps14
  go_wp2_with (go_at_call 9; refine (ref_order_no _ _ _ _ H.out).mono ?_; rintro e w' ⟨rfl, hu⟩)
  go_ret
  exact ⟨rfl, hu⟩

set_option maxHeartbeats 400000 in
theorem ref_turn_far (n me : Nat) (d at_ : Int) (w : World) (hv : valid n me) (h : n = 1 ∨ at_ < 0 ∨ 1048576 < at_) :
    Calls Try.prog 14 #[.int .i64 n, .int .i64 me, .int .u64 d, .int .i64 at_] w fun e w' => e = .returned (.int .i64 (-1)) ∧ Upd [] w w' := by
  have H := Lib.hid hv
  have key : ((((n - 1 : Nat) : Int) == 0) = true) ∨ ((((n - 1 : Nat) : Int) == 0) = false ∧ decide (at_ < 0) = true) ∨ ((((n - 1 : Nat) : Int) == 0) = false ∧ decide (at_ < 0) = false ∧ decide (1048576 < at_) = true) := by
    unfold valid at hv
    simp only [beq_iff_eq, beq_eq_false_iff_ne, ne_eq, decide_eq_true_eq, decide_eq_false_iff_not]; omega
  clear h hv
  go_enter Try.func14, Try.ntmps14
  go_wp2_with fail
  refine (ref_order_yes _ _ _ _ H.out).mono ?_
  rintro e w1 ⟨v, rfl, ho, hu1⟩
  obtain ⟨a, cap, rfl⟩ := own_slice ho
  clear ho
  rcases key with h1 | ⟨h1, h2⟩ | ⟨h1, h2, h3⟩
  all_goals
    go_wp2
    go_ret
    exact ⟨rfl, hu1⟩

set_option maxHeartbeats 400000 in
theorem ref_turn_yes (n me : Nat) (d : Int) (at_ : Nat) (w : World) (h1 : at_ ≤ 1048576) (h : valid n me) (hn : 2 ≤ n) :
    Calls Try.prog 14 #[.int .i64 n, .int .i64 me, .int .u64 d, .int .i64 at_] w fun e w' => e = .returned (.int .i64 (turn n me d at_)) ∧ Upd [] w w' := by
  have g1 : decide ((at_ : Int) < 0) = false := by simp
  have g2 : decide ((1048576 : Int) < at_) = false := by simp; omega
  have g3 : (((n - 1 : Nat) : Int) == 0) = false := by simp; omega
  have H := Lib.hid h
  have hw := h
  clear h
  go_enter Try.func14, Try.ntmps14
  go_wp2_with fail
  refine (ref_order_yes _ _ _ _ H.out).mono ?_
  rintro e w1 ⟨v, rfl, ho, hu1⟩
  obtain ⟨a, cap, rfl⟩ := own_slice ho
  have HO := Lib.hid ho
  have HU := Lib.hid hu1
  clear ho hu1
  go_wp2
  go_loopw [3, 9, 10] (fun at' l nx wr => ∃ (m : Nat) (dd : Int) (a : Option Addr) (cap : Nat), at' = .int .i64 m ∧ m ≤ 1048576 ∧ l = .slice a (n - 1) cap ∧ nx = .int .u64 (order n me dd).2 ∧
    (∃ base, w.heap.size ≤ base ∧ wr.ownsRow base 3 1 (.slice a (n - 1) cap) (n - 1) (ints (order n me dd).1)) ∧ turn n me dd m = turn n me d at_ ∧ Upd [] w wr) (fun at' _ _ _ => (intOf at').toNat)
  case atStart => exact ⟨at_, d, _, _, rfl, h1, rfl, rfl, ⟨_, Nat.le_refl _, HO.out⟩, rfl, HU.out⟩
  case round =>
    obtain ⟨m, dd, a, cap, rfl, hm, rfl, rfl, ⟨base, hb, ho⟩, ht, hu⟩ := hrel
    have hol := order_len (n := n) (me := me) (by unfold valid at hw; omega) dd
    have Ht := Lib.hid ht
    have Hu := Lib.hid hu
    clear ht hu
    by_cases hlt : m < n - 1
    · rcases ho.2 with ⟨_, hz⟩ | ⟨g, cap', cur, hs, hgb, hg, hnc, hcm, hcs, htk⟩
      · omega
      simp only [Value.slice.injEq] at hs
      obtain ⟨rfl, -, rfl⟩ := hs
      rw [Nat.mul_one] at htk
      have hcell := Blk.cell hg (row_get htk hol hlt)
      rw [← turn_lt dd hlt, Ht.out] at hcell
      clear ho hg htk hol hcs
      go_wp2
      go_ret
      exact ⟨rfl, Hu.out⟩
    · have e1 := turn_ge (me := me) dd hn (show n - 1 ≤ m by omega)
      rw [Ht.out] at e1
      have E1 := Lib.hid e1
      clear ho e1 hol
      go_wp2_with fail
      refine (ref_order_yes n me (order n me dd).2 wr H.out).mono ?_
      rintro e w2 ⟨v, rfl, ho, hu1⟩
      obtain ⟨a', cap', rfl⟩ := own_slice ho
      have HO2 := Lib.hid ho
      have HU2 := Lib.hid hu1
      clear ho hu1
      go_wp2
      go_roundw
      case rel => exact ⟨m - (n - 1), (order n me dd).2, a', cap', by go_num, by omega, rfl, rfl, ⟨_, by have := Hu.out.size; omega, HO2.out⟩, E1.out.symm, Hu.out.then HU2.out (by simp)⟩
      case measure => simp [intOf]; omega

end Go.Proofs.Ytbfkdidoajahbaa.Round
