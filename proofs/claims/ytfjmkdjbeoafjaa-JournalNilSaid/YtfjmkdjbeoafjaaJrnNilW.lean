/- The walks of JournalNames and JournalNil. -/
import Derived.Test.YtfjmkdjbeoafjaaJrnK
import Derived.Test.YtfjmkdjbeoafjaaOpenB
namespace Go.Proofs.Ytfjmkdjbeoafjaa
open Go.ChangeShapes Go.WideShapes Go.ChangeAt Go.RowKit

theorem JournalNames.walk (w : World) : Calls Try.prog 3 #[] w fun e w' => e = .returned (.bool true) ∧ Below w.heap.size w w' := by
  go_enter Try.func3, Try.ntmps3
  go_wp2_with (go_at_call 10; refine (awake_any _).mono ?_; rintro e w1 ⟨rfl, hu⟩)
  go_ret
  exact ⟨rfl, hu.toBelow⟩

theorem jforce_nil (w : World) : Calls Try.prog 14 #[.pointer none] w fun e w' => e = .returned (.int .i64 1) ∧ w = w' := by
  go_enter Try.func14, Try.ntmps14
  go_wp2
  go_ret
  exact ⟨rfl, rfl⟩

theorem jrecords_nil (w : World) : Calls Try.prog 15 #[.pointer none] w fun e w' => e = .returned (.slice none 0 0) ∧ w = w' := by
  go_enter Try.func15, Try.ntmps15
  go_wp2
  go_ret
  exact ⟨rfl, rfl⟩

theorem jroom_nil (w : World) : Calls Try.prog 20 #[.pointer none] w fun e w' => e = .returned (.int .i64 0) ∧ w = w' := by
  go_enter Try.func20, Try.ntmps20
  go_wp2
  go_ret
  exact ⟨rfl, rfl⟩

theorem jlife_nil (w : World) : Calls Try.prog 16 #[.pointer none] w fun e w' => e = .returned (.int .i64 0) ∧ w = w' := by
  go_enter Try.func16, Try.ntmps16
  go_wp2
  go_ret
  exact ⟨rfl, rfl⟩

set_option maxHeartbeats 1000000 in
theorem JournalNil.walk (v0 : Value) (b : List Int) (n : Int) (w : World) (hb : BytesAt w v0 b) (_ : U8L b) (_ : (Lit.int .i64 n).wf = true) :
    Calls Try.prog 6 #[v0, .int .i64 n] w fun e w' => e = .returned (.bool true) ∧ Below w.heap.size w w' := by
  have HB := Lib.hid hb
  obtain ⟨a, c, rfl⟩ := hb.form
  clear hb
  go_enter Try.func6, Try.ntmps6
  go_wp2_with (first
    | (go_at_call 10; refine (awake_any _).mono ?_; rintro e w1 ⟨rfl, hu⟩; have HU := Lib.hid hu; clear hu)
    | (go_at_call 12; refine (open_nil n n _).mono ?_; rintro e w2 ⟨rfl, rfl⟩)
    | (go_at_call 13; refine (append_nil _ b _ (HB.out.upd0 HU.out)).mono ?_; rintro e w3 ⟨rfl, hu3⟩; have HU3 := Lib.hid hu3; clear hu3)
    | (go_at_call 14; refine (jforce_nil _).mono ?_; rintro e w4 ⟨rfl, rfl⟩)
    | (go_at_call 15; refine (jrecords_nil _).mono ?_; rintro e w5 ⟨rfl, rfl⟩)
    | (go_at_call 20; refine (jroom_nil _).mono ?_; rintro e w6 ⟨rfl, rfl⟩)
    | (go_at_call 16; refine (jlife_nil _).mono ?_; rintro e w7 ⟨rfl, rfl⟩))
  go_ret
  exact ⟨rfl, (HU.out.trans HU3.out).toBelow⟩

end Go.Proofs.Ytfjmkdjbeoafjaa
