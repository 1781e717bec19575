/- The walk of awake. -/
import Derived.Test.YtpeboaoephkfhaaLaws
namespace Go.Proofs.Ytpeboaoephkfhaa
open Go.ChangeShapes Go.WideShapes Go.ChangeAt Go.RowKit

set_option maxRecDepth 100000 in
theorem all_any (x : Int) (w : World) : Calls Try.prog 14 #[.int .u8 x] w fun e w' => e = .returned (.agg (U8 (allB x))) ∧ Upd [] w w' := by
  go_enter Try.func14, Try.ntmps14
  have tok : True := trivial
  go_wp2_with (first
    | (have tok2 := tok; refine wpList_alloc rfl 32 rfl zero_arr fun w1 hb1 hu1 hs1 => ?_; clear tok tok2)
    | (refine wpList_alloc rfl 32 rfl zero_arr fun w2 hb2 hu2 hs2 => ?_)
    | (refine wpList_run rfl (arr_zero rfl) ?_)
    | (refine wpList_store rfl (.tmp 3) (.tmp 5) rfl rfl rfl hb2 DK.zeros_len DK.zeros_len fun w3 hb3 hu3 hs3 => ?_))
  have hs : w3.heap.size = w.heap.size + 2 := by omega
  have hb0 : Blk w3 w.heap.size (U8 DK.zeros) 32 := (hb1.upd hu2 (by simp)).upd hu3 (by simp; omega)
  have hu : Upd [] w w3 := hu1.then (hu2.then hu3 (by simp)) (by simp)
  rw [hs1] at hb3
  have HB0 := Lib.hid hb0
  have HB3 := Lib.hid hb3
  have HU := Lib.hid hu
  clear hb1 hu1 hb2 hu2 hb3 hu3 hs3 hs2 hs1 hb0 hu hs
  go_loopw [4] (fun i wr => ∃ k : Nat, k ≤ 64 ∧ i = .int .i64 k ∧ Blk wr (w.heap.size + 1) (U8 (partB k x)) 32 ∧ Blk wr w.heap.size (U8 DK.zeros) 32 ∧ Upd [] w wr) (fun i _ => 64 - (intOf i).toNat)
  case atStart => exact ⟨0, Nat.zero_le _, rfl, HB3.out, HB0.out, HU.out⟩
  case round =>
    obtain ⟨k, hk, rfl, h1, h0, hu⟩ := hrel
    by_cases hk64 : k < 64
    · have hk' : (k : Int) < 64 := by omega
      obtain ⟨v, c1⟩ := h1.cell_lt (o := k) (by rw [U8_size]; unfold partB; simp; omega)
      have f1 := h1.free k
      have e1 := h1.set k (.int .u8 x)
      rw [U8_set, partB_set hk64] at e1
      have E1 := Lib.hid e1
      have E0 := Lib.hid (h0.set_other (p := ⟨w.heap.size + 1, k, none⟩) (by simp) (.int .u8 x))
      have EU := Lib.hid (hu.setCell (p := ⟨w.heap.size + 1, k, none⟩) (.inr (by simp)) (.int .u8 x))
      clear e1 h1 h0 hu
      go_wp2
      go_roundw
      case rel => exact ⟨k + 1, by omega, by go_num, E1.out, E0.out, EU.out⟩
      case measure => simp [intOf]; omega
    · obtain rfl : k = 64 := by omega
      have ep : partB 64 x = allB x := by unfold partB allB; simp
      rw [ep] at h1
      have E1 := Lib.hid h1
      have E0 := Lib.hid h0
      have EU := Lib.hid hu
      clear h1 h0 hu ep
      go_wp2_with (first
        | (refine wpList_run rfl (arr_load (.tmp 3) rfl rfl E1.out (allB_len x)) ?_)
        | (refine wpList_store rfl (.tmp 2) (.tmp 13) rfl rfl rfl E0.out DK.zeros_len (allB_len x) fun w5 hb5 hu5 hs5 => ?_))
      exact bodyPost_ret (results_arr rfl rfl hb5 (allB_len x)) rfl ⟨rfl, EU.out.then hu5 (by simp)⟩

namespace Awake
def D1 : DK := (DK.new (2 : Int).toNat).write 0 (allB 1)
def D2 : DK := D1.flush
def D3 : DK := D2.write 0 (allB 2)
def D4 : DK := D3.crash [3]
def D5 : DK := D4.start
theorem c0 : (DK.new (2 : Int).toNat).code 0 = 0 := by decide
theorem c1 : D1.fcode = 0 := by decide
theorem c2 : D2.code 0 = 0 := by decide +kernel
theorem c3 : D4.code 0 = 60 := by decide +kernel
theorem c4 : D5.code 0 = 0 := by decide +kernel
theorem c5 : D5.code 2 = 61 := by decide +kernel
theorem c6 : D5.last.length = 2 := by decide +kernel
theorem r2 : (D5.rd 0).getD 2 0 = 2 := by decide +kernel
theorem r3 : (D5.rd 0).getD 3 0 = 1 := by decide +kernel
end Awake

end Go.Proofs.Ytpeboaoephkfhaa
