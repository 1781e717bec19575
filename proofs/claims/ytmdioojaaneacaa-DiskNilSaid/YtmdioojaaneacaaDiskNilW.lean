/- The walk of DiskNil. -/
import Derived.Test.YtmdioojaaneacaaDiskG
namespace Go.Proofs.Ytmdioojaaneacaa
open Go.ChangeShapes Go.WideShapes Go.ChangeAt Go.RowKit

set_option maxRecDepth 100000 in
theorem DiskNil.walk (n : Int) (w : World) (_ : (Lit.int .i64 n).wf = true) : Calls Try.prog 8 #[.int .i64 n] w fun e w' => e = .returned (.bool true) ∧ Below w.heap.size w w' := by
  go_enter Try.func8, Try.ntmps8
  go_wp2_with (first
    | (go_at_call 10; refine (awake_any _).mono ?_; rintro e w1 ⟨rfl, hu1⟩)
    | (go_at_call 15; refine (crash_nil _ _ ⟨_, _, _, rfl⟩).mono ?_; rintro e w2 ⟨rfl, hu2⟩)
    | (go_at_call 16; refine (start_nil _).mono ?_; rintro e w3 ⟨rfl, rfl⟩)
    | (go_at_call 13; refine (read_nil _ _).mono ?_; rintro e w4 ⟨rfl, hu4⟩)
    | (refine wpList_alloc rfl 23 rfl zero_arr fun w5 hb5 hu5 hs5 => ?_)
    | (refine wpList_store rfl (.tmp 5) (.tmp 20) rfl rfl rfl hb5 DK.zeros_len DK.zeros_len fun w6 hb6 hu6 hs6 => ?_)
    | (refine wpList_runW rfl (arr_load (.tmp 5) rfl rfl hb6 DK.zeros_len) ?_)
    | (go_at_call 12; refine (write_nil _ _ _).mono ?_; rintro e w7 ⟨rfl, hu7⟩)
    | (go_at_call 14; refine (flush_nil _).mono ?_; rintro e w8 ⟨rfl, rfl⟩)
    | (go_at_call 23; refine (blocks_nil _).mono ?_; rintro e w8 ⟨rfl, rfl⟩)
    | (go_at_call 17; refine (dirty_nil _).mono ?_; rintro e w8 ⟨rfl, rfl⟩)
    | (go_at_call 22; refine (down_nil _).mono ?_; rintro e w8 ⟨rfl, rfl⟩))
  go_ret
  exact ⟨rfl, ((((hu1.alloc _).trans hu2).trans hu4).trans ((hu5.then hu6 (by simp)).trans hu7)).toBelow⟩

end Go.Proofs.Ytmdioojaaneacaa
