/- The walk of ImageBlocks. -/
import Derived.Test.YtpeboaoephkfhaaImgK
namespace Go.Proofs.Ytpeboaoephkfhaa
open Go.ChangeShapes Go.WideShapes Go.ChangeAt Go.RowKit

set_option maxHeartbeats 1000000 in
theorem ImageBlocks.walk (n : Int) (w : World) (hn : (Lit.int .u16 n).wf = true) :
    Calls Try.prog 4 #[.int .u16 n] w fun e w' => e = .returned (.bool true) ∧ Below w.heap.size w w' := by
  have hr : 0 ≤ n ∧ n ≤ 65535 := by
    have e1 : IntKind.u16.min = 0 := by decide
    have e2 : IntKind.u16.max = 65535 := by decide
    simp [Lit.wf, e1, e2] at hn
    omega
  clear hn
  obtain ⟨b, hb⟩ : ∃ b, b = blocksN n := ⟨_, rfl⟩
  have hneg : blocksN (-n) = 0 := by unfold blocksN; rw [if_pos (by omega)]
  have hbr : 0 ≤ b ∧ b ≤ 1024 ∧ n ≤ 64 * b ∧ ((b = 0 ∧ n = 0) ∨ (b ≠ 0 ∧ 64 * (b - 1) < n)) := by
    rw [hb]
    unfold blocksN
    split <;> omega
  obtain ⟨b0, b1, b2, b3⟩ := hbr
  have HB := Lib.hid hb
  have HNEG := Lib.hid hneg
  have m0 : IntKind.i64.wrap n = n := IntWalk.i64_in _ (by omega)
  have m1 : IntKind.i64.wrap (64 * b) = 64 * b := IntWalk.i64_in _ (by omega)
  have m2 : IntKind.i64.wrap (b - 1) = b - 1 := IntWalk.i64_in _ (by omega)
  have m3 : IntKind.i64.wrap (64 * (b - 1)) = 64 * (b - 1) := IntWalk.i64_in _ (by omega)
  have m4 : IntKind.i64.wrap (-n) = -n := IntWalk.i64_in _ (by omega)
  clear hb hneg
  rcases b3 with ⟨rfl, rfl⟩ | ⟨k1, k2⟩
  · go_enter Try.func4, Try.ntmps4
    go_wp2_with (first
      | (go_at_call 10; refine (awake_any _).mono ?_; rintro e w1 ⟨rfl, hu⟩)
      | (go_at_call 11; refine (iblocks_any 0 _ (by omega) (by omega)).mono ?_; rw [← HB.out]; rintro e _ ⟨rfl, rfl⟩))
    go_ret
    exact ⟨rfl, hu.toBelow⟩
  · have k3 : (b == (0 : Int)) = false := by simpa using k1
    go_enter Try.func4, Try.ntmps4
    go_wp2_with (first
      | (go_at_call 10; refine (awake_any _).mono ?_; rintro e w1 ⟨rfl, hu⟩)
      | (go_at_call 11; refine (iblocks_any n _ (by omega) (by omega)).mono ?_; rw [← HB.out]; rintro e _ ⟨rfl, rfl⟩)
      | (go_at_call 11; refine (iblocks_any (-n) _ (by omega) (by omega)).mono ?_; rw [HNEG.out]; rintro e _ ⟨rfl, rfl⟩))
    go_ret
    exact ⟨rfl, hu.toBelow⟩

end Go.Proofs.Ytpeboaoephkfhaa
