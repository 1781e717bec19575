/- The walks of Blocks, of area, of may and of number. -/
import Derived.Test.YtpeboaoephkfhaaShaF
namespace Go.Proofs.Ytpeboaoephkfhaa
open Go.ChangeShapes Go.WideShapes Go.ChangeAt Go.RowKit

def blocksN (n : Int) : Int := if n ≤ 0 then 0 else (n - 1) / 64 + 1
theorem iblocks_any (n : Int) (w : World) (h0 : -9223372036854775808 ≤ n) (h1 : n ≤ 9223372036854775807) : Calls Try.prog 11 #[.int .i64 n] w fun e w' => e = .returned (.int .i64 (blocksN n)) ∧ w = w' := by
  by_cases h : n ≤ 0
  · have HB : Hid (blocksN n = 0) := Lib.hid (if_pos h)
    go_enter Try.func11, Try.ntmps11
    go_wp2
    go_ret
    exact ⟨by rw [HB.out]; rfl, rfl⟩
  · have HB : Hid (blocksN n = (n - 1) / 64 + 1) := Lib.hid (if_neg h)
    have h2 : 0 ≤ n - 1 := by omega
    have m0 : IntKind.i64.wrap (n - 1) = n - 1 := IntWalk.i64_in _ (by omega)
    go_enter Try.func11, Try.ntmps11
    go_wp2
    go_ret
    exact ⟨by rw [HB.out]; rfl, rfl⟩

/-- Are some blocks a disk's? -/
def areaB (many from_ room : Int) : Bool := decide (0 ≤ from_) && decide (0 ≤ room) && decide (from_ ≤ many) && decide (room ≤ many - from_)

theorem area_nil (from_ room : Int) (w : World) : Calls Try.prog 26 #[.pointer none, .int .i64 from_, .int .i64 room] w fun e w' => e = .returned (.bool false) ∧ w = w' := by
  go_enter Try.func26, Try.ntmps26
  go_wp2
  go_ret
  exact ⟨rfl, rfl⟩

/-- The boot of a boot block. -/
structure BK where
  area : Int
  epoch : Int
  size : Int
  whole : List Int
def BK.zero : BK := ⟨0, 0, 0, zer32⟩
def encK (b : BK) : List Value := [.int .i64 b.area, .int .i64 b.epoch, .int .i64 b.size] ++ b.whole.map (Value.int .u8)
structure BK.WF (b : BK) : Prop where
  whole : b.whole.length = 32
  bytes : U8L b.whole
theorem encK_len {b : BK} (h : b.whole.length = 32) : (encK b).length = 35 := by simp [encK, h]
theorem info_boot : (Try.prog.info? 40).map (·.size) = some 35 := by kernel_rfl
theorem zero_boot : (Try.prog.info? 40).map (·.zero) = some (some (.agg (encK BK.zero).toArray)) := by kernel_rfl

def BK.may (b : BK) : Bool := decide (bits .andNot .i64 b.area 1 = 0) && decide (0 ≤ b.epoch) && decide (b.epoch ≤ 1099511627776) && decide (0 < b.size) && decide (b.size ≤ 65536)

theorem may5 (a b c d e r : Bool) (h : r = (a && b && c && d && e)) : (a = false ∧ r = false) ∨ (a = true ∧ b = false ∧ r = false) ∨ (a = true ∧ b = true ∧ c = false ∧ r = false) ∨ (a = true ∧ b = true ∧ c = true ∧ d = false ∧ r = false) ∨
    (a = true ∧ b = true ∧ c = true ∧ d = true ∧ r = e) := by
  subst h; cases a <;> cases b <;> cases c <;> cases d <;> simp

set_option maxHeartbeats 1000000 in
theorem may_any (b : BK) (w : World) : Calls Try.prog 28 #[.agg (encK b).toArray] w fun e w' => e = .returned (.bool b.may) ∧ Upd [] w w' := by
  have key := may5 _ _ _ _ _ b.may rfl
  obtain ⟨r, hr⟩ : ∃ r, r = b.may := ⟨_, rfl⟩
  rw [← hr] at key ⊢
  obtain ⟨an, han⟩ : ∃ x, bits .andNot .i64 b.area 1 = x := ⟨_, rfl⟩
  rw [han] at key
  obtain ⟨w1, hw1⟩ : ∃ w1, w1 = w.alloc (.cells (encK b).toArray 40) := ⟨_, rfl⟩
  have hb : Blk w1 w.heap.size (encK b).toArray 40 := by rw [hw1]; exact Blk.new _ _ _
  have hu : Upd [] w w1 := by rw [hw1]; exact (Upd.refl _ _).alloc _
  have c0 : w1.cell? ⟨w.heap.size, 0, none⟩ = some (.int .i64 b.area) := hb.cell (o := 0) rfl
  have c1 : w1.cell? ⟨w.heap.size, 1, none⟩ = some (.int .i64 b.epoch) := hb.cell (o := 1) rfl
  have c2 : w1.cell? ⟨w.heap.size, 2, none⟩ = some (.int .i64 b.size) := hb.cell (o := 2) rfl
  have HU := Lib.hid hu
  have HW := Lib.hid hw1
  clear hw1 hb hu hr
  have hz : (an == 0) = decide (an = 0) := by rw [Bool.eq_iff_iff]; simp
  rw [← hz] at key
  rcases key with ⟨k1, rfl⟩ | ⟨k1, k2, rfl⟩ | ⟨k1, k2, k3, rfl⟩ | ⟨k1, k2, k3, k4, rfl⟩ | ⟨k1, k2, k3, k4, rfl⟩
  all_goals
    clear hz
    go_enter Try.func28, Try.ntmps28
    go_upto_region 1 with fail
    rw [← HW.out]
    go_wp2
    go_ret
    exact ⟨rfl, HU.out⟩

end Go.Proofs.Ytpeboaoephkfhaa
