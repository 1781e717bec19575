/- The walk of the turn of a word. -/
import Derived.Test.YtpeboaoephkfhaaShaP
import Derived.Test.YtpeboaoephkfhaaHeld
import Derived.Test.YtpeboaoephkfhaaRows
import Derived.Test.YtpeboaoephkfhaaLaws
namespace Go.Proofs.Ytpeboaoephkfhaa
open Go.ChangeShapes Go.WideShapes Go.ChangeAt Go.RowKit

theorem rotl_any (x k : Int) (s : Nat) (hs : bits .and .u64 (IntKind.u64.wrap k) 31 = (s : Int)) (h1 : 1 ≤ s) (h31 : s ≤ 31) (w : World) :
    Calls Try.prog 42 #[.int .u32 x, .int .i64 k] w fun e w' => e = .returned (.int .u32 (rotl s x)) ∧ w = w' := by
  have hw : IntKind.u64.wrap (32 - (s : Int)) = ((32 - s : Nat) : Int) := by
    rw [show (32 - (s : Int)) = ((32 - s : Nat) : Int) by omega]
    simp [IntKind.wrap, IntKind.bits, IntKind.signed]
    omega
  go_enter Try.func42, Try.ntmps42
  go_wp2
  go_ret
  exact ⟨rfl, rfl⟩

/-- 'right' of the code: turned to the right by n is turned to the left by s. -/
theorem right_any (x n : Int) (s : Nat) (hn : IntKind.i64.wrap (-n) = -n) (hs : bits .and .u64 (IntKind.u64.wrap (-n)) 31 = (s : Int)) (h1 : 1 ≤ s) (h31 : s ≤ 31) (w : World) :
    Calls Try.prog 41 #[.int .u32 x, .int .i64 n] w fun e w' => e = .returned (.int .u32 (rotl s x)) ∧ w = w' := by
  have HR := Lib.hid (rotl_any x (-n) s hs h1 h31)
  clear hs
  go_enter Try.func41, Try.ntmps41
  go_wp2_with (go_at_call 42; refine (HR.out _).mono ?_; rintro e _ ⟨rfl, rfl⟩)
  go_ret
  exact ⟨rfl, rfl⟩

theorem right_2 (x : Int) (w : World) : Calls Try.prog 41 #[.int .u32 x, .int .i64 2] w fun e w' => e = .returned (.int .u32 (rotl 30 x)) ∧ w = w' := right_any x 2 30 (by decide) (by decide) (by decide) (by decide) w
theorem right_6 (x : Int) (w : World) : Calls Try.prog 41 #[.int .u32 x, .int .i64 6] w fun e w' => e = .returned (.int .u32 (rotl 26 x)) ∧ w = w' := right_any x 6 26 (by decide) (by decide) (by decide) (by decide) w
theorem right_7 (x : Int) (w : World) : Calls Try.prog 41 #[.int .u32 x, .int .i64 7] w fun e w' => e = .returned (.int .u32 (rotl 25 x)) ∧ w = w' := right_any x 7 25 (by decide) (by decide) (by decide) (by decide) w
theorem right_11 (x : Int) (w : World) : Calls Try.prog 41 #[.int .u32 x, .int .i64 11] w fun e w' => e = .returned (.int .u32 (rotl 21 x)) ∧ w = w' := right_any x 11 21 (by decide) (by decide) (by decide) (by decide) w
theorem right_13 (x : Int) (w : World) : Calls Try.prog 41 #[.int .u32 x, .int .i64 13] w fun e w' => e = .returned (.int .u32 (rotl 19 x)) ∧ w = w' := right_any x 13 19 (by decide) (by decide) (by decide) (by decide) w
theorem right_17 (x : Int) (w : World) : Calls Try.prog 41 #[.int .u32 x, .int .i64 17] w fun e w' => e = .returned (.int .u32 (rotl 15 x)) ∧ w = w' := right_any x 17 15 (by decide) (by decide) (by decide) (by decide) w
theorem right_18 (x : Int) (w : World) : Calls Try.prog 41 #[.int .u32 x, .int .i64 18] w fun e w' => e = .returned (.int .u32 (rotl 14 x)) ∧ w = w' := right_any x 18 14 (by decide) (by decide) (by decide) (by decide) w
theorem right_19 (x : Int) (w : World) : Calls Try.prog 41 #[.int .u32 x, .int .i64 19] w fun e w' => e = .returned (.int .u32 (rotl 13 x)) ∧ w = w' := right_any x 19 13 (by decide) (by decide) (by decide) (by decide) w
theorem right_22 (x : Int) (w : World) : Calls Try.prog 41 #[.int .u32 x, .int .i64 22] w fun e w' => e = .returned (.int .u32 (rotl 10 x)) ∧ w = w' := right_any x 22 10 (by decide) (by decide) (by decide) (by decide) w
theorem right_25 (x : Int) (w : World) : Calls Try.prog 41 #[.int .u32 x, .int .i64 25] w fun e w' => e = .returned (.int .u32 (rotl 7 x)) ∧ w = w' := right_any x 25 7 (by decide) (by decide) (by decide) (by decide) w

end Go.Proofs.Ytpeboaoephkfhaa
