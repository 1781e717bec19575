/- The walk of LatticeNames. -/
import Derived.Test.YtbdmnmjdnfpfbaaLatS
namespace Go.Proofs.Ytbdmnmjdnfpfbaa
open Go.ChangeShapes Go.WideShapes Go.ChangeAt Go.RowKit

theorem LatticeNames.walk (w : World) : Calls Try.prog 3 #[] w fun e w' => e = .returned (.bool true) ∧ Below w.heap.size w w' := by
  go_enter Try.func3, Try.ntmps3
  go_wp2_with (go_at_call 12; refine (awake_any _).mono ?_; rintro e w1 ⟨rfl, hu⟩)
  go_ret
  exact ⟨rfl, hu.toBelow⟩

end Go.Proofs.Ytbdmnmjdnfpfbaa
