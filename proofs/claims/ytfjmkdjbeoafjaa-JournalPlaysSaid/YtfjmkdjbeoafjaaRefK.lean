/- The document's journal: need, life. -/
import Derived.Test.YtfjmkdjbeoafjaaRefJ
import Derived.Test.YtfjmkdjbeoafjaaJrnL
import Derived.Test.YtfjmkdjbeoafjaaOpenC
namespace Go.Proofs.Ytfjmkdjbeoafjaa
open Go.ChangeShapes Go.WideShapes Go.ChangeAt Go.RowKit

set_option maxHeartbeats 1000000 in
theorem rneed_any (v : Value) (b : List Int) (w : World) (h : BytesAt w v b) (hl : b.length ≤ 3000) :
    Calls Try.prog 45 #[v] w fun e w' => e = .returned (.int .i64 (needJ b : Nat)) ∧ w = w' := by
  obtain ⟨a, cap, rfl, -, -, -⟩ := h
  obtain ⟨n, hn⟩ : ∃ n, n = b.length := ⟨_, rfl⟩
  have hnd : needJ b = (n + 43) / 44 := by unfold needJ; rw [hn]
  rw [hnd, ← hn]
  rw [← hn] at hl
  clear hnd hn
  go_enter Try.func45, Try.ntmps45
  go_wp2
  go_loop [3] (fun i => ∃ k : Nat, 44 * k ≤ n + 43 ∧ i = .int .i64 k) (fun i => 3000 - (intOf i).toNat)
  case atStart => exact ⟨0, by omega, rfl⟩
  case round =>
    obtain ⟨k, hk, rfl⟩ := hrel
    have hk2 : k ≤ 70 := by omega
    by_cases hlt : 44 * k < n
    · have q : (44 * (k : Int)) < (n : Int) := by omega
      go_wp2
      go_round
      case rel => exact ⟨k + 1, by omega, by go_num⟩
      case measure => simp [intOf]; omega
    · have q : decide ((44 * (k : Int)) < (n : Int)) = false := by simp only [decide_eq_false_iff_not]; omega
      have e : ((n : Int) + 43) / 44 = (k : Int) := by omega
      have HE := Lib.hid e
      clear e hlt
      go_wp2
      go_ret
      exact ⟨by rw [HE.out]; rfl, rfl⟩

set_option maxHeartbeats 1000000 in
theorem rlife_any (b : Blok) (at_ : Nat) (w : World) (h8 : at_ + 8 ≤ 64) (hl : b.length = 64) (hr : U8L b) :
    Calls Try.prog 43 #[.agg (U8 b), .int .i64 at_] w fun e w' => e = .returned (.int .i64 (life8 (b.drop at_))) ∧ Upd [] w w' := by
  obtain ⟨l, hld⟩ : ∃ l, l = b.drop at_ := ⟨_, rfl⟩
  have hl8 : 8 ≤ l.length := by rw [hld, List.length_drop]; omega
  have hlr : U8L l := by rw [hld]; exact hr.drop at_
  have hlg : ∀ k, l.getD k 0 = b.getD (at_ + k) 0 := fun k => by rw [hld]; exact drop_get b at_ k
  rw [← hld]
  have HL := Lib.hid hl
  have HLG := Lib.hid hlg
  have HR := Lib.hid hlr
  clear hld hlr hlg hl hr
  go_enter Try.func43, Try.ntmps43
  obtain ⟨w1, hw1⟩ : ∃ w1, w1 = w.alloc (.cells (U8 b) 54) := ⟨_, rfl⟩
  obtain ⟨B, hBe⟩ : ∃ B, B = w.heap.size := ⟨_, rfl⟩
  have hb1 : Blk w1 B (U8 b) 54 := by rw [hw1, hBe]; exact Blk.new _ _ _
  have hu1 : Upd [] w w1 := by rw [hw1]; exact (Upd.refl _ _).alloc _
  have HW := Lib.hid hw1
  have HBE := Lib.hid hBe
  have HB1 := Lib.hid hb1
  clear hw1 hBe hb1
  go_upto_region 1 with fail
  rw [← HW.out, ← HBE.out]
  go_wp2
  go_loop [5, 6] (fun n i => ∃ k : Nat, k ≤ 8 ∧ i = .int .i64 k ∧ n = .int .u64 (num (l.take k))) (fun _ i => 8 - (intOf i).toNat)
  case atStart => exact ⟨0, by omega, rfl, rfl⟩
  case round =>
    obtain ⟨k, hk, rfl, rfl⟩ := hrel
    by_cases hlt : k < 8
    · have c0 := HB1.out.cell (o := at_ + k) (U8_get b (at_ + k) (by rw [HL.out]; omega))
      rw [← HLG.out k] at c0
      have hx := HR.out.getD k
      obtain ⟨hn0, hn2⟩ := num_lt7 l HR.out k hlt (by omega)
      obtain ⟨x, hxe⟩ : ∃ x, x = l.getD k 0 := ⟨_, rfl⟩
      have hor := or_u64 (num (l.take k)) x hn0 (by omega) (by omega) (by omega)
      have HN := Lib.hid (num_take l k (by omega))
      rw [← hxe] at c0 hx
      obtain ⟨hx0, hx1⟩ := hx
      have hi : (0 : Int) ≤ (k : Int) := by omega
      have hi8 : (k : Int) < 8 := by omega
      have HO := Lib.hid hor
      have HXE := Lib.hid hxe
      clear hxe hor
      go_wp2
      go_round
      case rel => exact ⟨k + 1, by omega, by go_num, by rw [HN.out, ← HXE.out]; exact congrArg (Value.int .u64) HO.out⟩
      case measure => simp [intOf]; omega
    · obtain rfl : k = 8 := by omega
      have key : (decide (1099511627776 < num (l.take 8)) = true ∧ life8 l = 0) ∨ (decide (1099511627776 < num (l.take 8)) = false ∧ life8 l = num (l.take 8)) := by
        unfold life8
        by_cases h : 1099511627776 < num (l.take 8)
        · left; exact ⟨decide_eq_true h, if_pos h⟩
        · right; exact ⟨decide_eq_false h, if_neg h⟩
      have hnb := num_bound 8 (l.take 8) (by simp; omega) (HR.out.take 8)
      have hn0 := hnb.1
      clear hlt hnb
      rcases key with ⟨q1, q2⟩ | ⟨q1, q2⟩
      · have HQ := Lib.hid q2; clear q2
        go_wp2
        go_ret
        exact ⟨by rw [HQ.out]; rfl, hu1⟩
      · have HQ := Lib.hid q2; clear q2
        have hn1 : num (l.take 8) ≤ 1099511627776 := by simpa using q1
        go_wp2
        go_ret
        exact ⟨by rw [HQ.out]; rfl, hu1⟩

end Go.Proofs.Ytfjmkdjbeoafjaa
