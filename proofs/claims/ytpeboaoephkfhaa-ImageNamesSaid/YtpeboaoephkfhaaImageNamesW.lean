/- The walk of ImageNames. -/
import Derived.Test.YtpeboaoephkfhaaImgK
namespace Go.Proofs.Ytpeboaoephkfhaa
open Go.ChangeShapes Go.WideShapes Go.ChangeAt Go.RowKit

theorem ImageNames.walk (w : World) : Calls Try.prog 3 #[] w fun e w' => e = .returned (.bool true) ∧ Below w.heap.size w w' := by
  go_enter Try.func3, Try.ntmps3
  go_wp2_with (go_at_call 10; refine (awake_any _).mono ?_; rintro e w1 ⟨rfl, hu⟩)
  go_ret
  exact ⟨rfl, hu.toBelow⟩

end Go.Proofs.Ytpeboaoephkfhaa
