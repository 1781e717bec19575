/- The document's disk: New. -/
import Derived.Test.YtfjmkdjbeoafjaaRefH
import Derived.Deep.RegionLaw
namespace Go.Proofs.Ytfjmkdjbeoafjaa
open Go.ChangeShapes Go.WideShapes Go.ChangeAt Go.RowKit

/-- 'make([]T, n)', the bare step. -/
theorem run_makeSlice {P : Program} {w : World} (t : TypeId) {e : TypeId} (hu : P.underlying t = some (.slice e)) {i : TypeInfo} (hi : P.info? e = some i) {z z0 : Value} (hz : i.zero = some z)
    (hzs : z.cells.size = i.size) (hpos : 0 < i.size) (hz0 : ∀ j, j < i.size → z.cells[j]! = z0) {n : Nat} (hb : n * i.bytes ≤ 140737488355328) (hn : n ≤ maxLen) :
    (Instr.makeSlice t (.int .i64 n) (.int .i64 n)).run P w = .ok (.slice (some ⟨w.heap.size, 0, none⟩) n n) (w.alloc (.cells (Array.replicate (n * i.size) z0) e)) := by
  have hw : IntKind.i64.wrap (n : Int) = n := by rw [IntKind.wrap_i64]; unfold maxLen at hn; omega
  have hc : (Array.range (n * i.size)).map (fun j => z.cells[j % z.cells.size]!) = Array.replicate (n * i.size) z0 := by
    apply Array.ext
    · simp
    · intro j h1 h2
      rw [Array.getElem_map, Array.getElem_range, Array.getElem_replicate, hzs, hz0 _ (Nat.mod_lt _ hpos)]
  have h1 : ¬ ((i.bytes : Int) * n > 281474976710656) := by
    have h : i.bytes * n ≤ 140737488355328 := by rw [Nat.mul_comm]; exact hb
    have h' : ((i.bytes * n : Nat) : Int) ≤ ((140737488355328 : Nat) : Int) := Int.ofNat_le.2 h
    rw [Int.natCast_mul] at h'
    generalize (i.bytes : Int) * (n : Int) = q at h' ⊢
    omega
  by_cases h0 : n = 0
  · subst h0
    have hw0 : IntKind.i64.wrap 0 = 0 := by rw [IntKind.wrap_i64]; omega
    simp [Instr.makeSlice, underlying, hu, asInt, asIntOf, typeInfo, hi, hw0, askRoom, sizeOf, newRow, newObj, Sem.run]
    congr 2
    apply Array.ext
    · simp
    · intro j h1 h2; simp at h1
  · have h3 : n * i.size ≠ 0 := Nat.mul_ne_zero h0 (by omega)
    simp [Instr.makeSlice, underlying, hu, asInt, asIntOf, typeInfo, hi, hw, h1, askRoom, sizeOf, h3, zeroValue, hz, newRow, newObj, Sem.run, hc]
    omega

theorem now_new (n : Nat) : (DK.new n).now = (DK.new n).last := now_clean rfl

/-- A row of zero blocks. -/
theorem row_new {w : World} {g : Nat} {n : Nat} (h : Blk w g (Array.replicate (n * 64) (Value.int .u8 0)) 54) (hn : n ≤ 4096) : RowAt w (.slice (some ⟨g, 0, none⟩) n n) (DK.new n).last := by
  have hl : (DK.new n).last.length = n := by simp [DK.new]
  have e : rowC (DK.new n).last = List.replicate (n * 64) (Value.int .u8 0) := by
    unfold rowC DK.new; rw [flatten_zeros, List.map_replicate]
  unfold RowAt
  rw [hl, e]
  exact ⟨by simp, .inr ⟨g, n, _, rfl, Nat.zero_le _, h, Nat.le_refl _, by unfold maxLen; omega, by simp, by simp⟩⟩

theorem rnew_no (n : Int) (w : World) (h : n < 0 ∨ 4096 < n) :
    Calls Try.prog 21 #[.int .i64 n] w fun e w' => e = .returned (.tuple #[.pointer none, .int .i64 1]) ∧ w = w' := by
  have key : decide (n < 0) = true ∨ (decide (n < 0) = false ∧ decide (4096 < n) = true) := by
    simp only [decide_eq_true_eq, decide_eq_false_iff_not]; omega
  clear h
  rcases key with h1 | ⟨h1, h2⟩
  all_goals
    go_enter Try.func21, Try.ntmps21
    go_wp2
    go_ret2
    exact ⟨rfl, rfl⟩

theorem ref_new {w : World} {n a1 a2 : Nat} (hn : n ≤ 4096) (h : (a1 = w.heap.size ∧ a2 = w.heap.size + 1) ∨ (a1 = w.heap.size + 1 ∧ a2 = w.heap.size)) :
    RefAt (((w.alloc (.cells (Array.replicate (n * 64) (Value.int .u8 0)) 54)).alloc (.cells (Array.replicate (n * 64) (Value.int .u8 0)) 54)).alloc (.cells #[.slice (some ⟨a1, 0, none⟩) n n, .slice (some ⟨a2, 0, none⟩) n n, .slice none 0 0, .bool false] 62)).drew
      (w.heap.size + 1 + 1) [w.heap.size + 1 + 1, a1, a2] (DK.new n) := by
  have hl : (DK.new n).last.length = n := by simp [DK.new]
  have b0 := (((Blk.new w (Array.replicate (n * 64) (Value.int .u8 0)) 54).alloc (.cells (Array.replicate (n * 64) (Value.int .u8 0)) 54)).alloc (.cells #[.slice (some ⟨a1, 0, none⟩) n n, .slice (some ⟨a2, 0, none⟩) n n, .slice none 0 0, .bool false] 62))
  have b1 := (Blk.new (w.alloc (.cells (Array.replicate (n * 64) (Value.int .u8 0)) 54)) (Array.replicate (n * 64) (Value.int .u8 0)) 54).alloc (.cells #[.slice (some ⟨a1, 0, none⟩) n n, .slice (some ⟨a2, 0, none⟩) n n, .slice none 0 0, .bool false] 62)
  have b2 := Blk.new ((w.alloc (.cells (Array.replicate (n * 64) (Value.int .u8 0)) 54)).alloc (.cells (Array.replicate (n * 64) (Value.int .u8 0)) 54)) #[.slice (some ⟨a1, 0, none⟩) n n, .slice (some ⟨a2, 0, none⟩) n n, .slice none 0 0, .bool false] 62
  rw [World.size_alloc] at b1
  rw [World.size_alloc, World.size_alloc] at b2
  have r0 := row_new b0 hn
  have r1 := row_new b1 hn
  refine ⟨a1, n, a2, n, .slice none 0 0, rfl, by simp; omega, DK.WF.new hn, ?_, ?_, ?_, World.ownsRow_nil _ _ _ _⟩
  · rw [now_new, hl]; exact b2
  · rw [hl]; rcases h with ⟨rfl, rfl⟩ | ⟨rfl, rfl⟩
    · exact r0
    · exact r1
  · rw [now_new, hl]; rcases h with ⟨rfl, rfl⟩ | ⟨rfl, rfl⟩
    · exact r1
    · exact r0

theorem rnew_yes (n : Nat) (w : World) (h : n ≤ 4096) :
    Calls Try.prog 21 #[.int .i64 n] w fun e w' => ∃ b R, e = .returned (.tuple #[.pointer (some ⟨b, 0, none⟩), .int .i64 0]) ∧ RefAt w' b R (DK.new n) ∧ Upd [] w w' ∧ ∀ k ∈ R, w.heap.size ≤ k := by
  have g1 : decide ((n : Int) < 0) = false := by simp
  have g2 : decide ((4096 : Int) < n) = false := by simp; omega
  obtain ⟨i0, hi, hz0, hz1, hz2⟩ := info_parts info_arr'
  have hzz : ∀ j, j < i0.size → (Value.agg (U8 DK.zeros)).cells[j]! = Value.int .u8 0 := by
    intro j hj
    rw [hz1] at hj
    show (U8 DK.zeros)[j]! = _
    have := U8_get DK.zeros j (by rw [DK.zeros_len]; exact hj)
    rw [Array.getElem!_eq_getD, Array.getD_eq_getD_getElem?, this]
    unfold DK.zeros
    rw [Option.getD_some, List.getD_eq_getElem?_getD, List.getElem?_replicate, if_pos hj]; rfl
  go_enter Try.func21, Try.ntmps21
  go_upto_region 3 with fail
  have hzs : (Value.agg (U8 DK.zeros)).cells.size = i0.size := by rw [hz1]; rfl
  have hpos : 0 < i0.size := by omega
  have hb : n * i0.bytes ≤ 140737488355328 := by rw [hz2]; omega
  have hm : n ≤ maxLen := by unfold maxLen; omega
  have hmk : ∀ w : World, (Instr.makeSlice 60 (.int .i64 n) (.int .i64 n)).run Try.prog w = .ok (.slice (some ⟨w.heap.size, 0, none⟩) n n) (w.alloc (.cells (Array.replicate (n * 64) (Value.int .u8 0)) 54)) := by
    intro w
    have := run_makeSlice (P := Try.prog) (w := w) 60 Try.underlying60 hi hz0 hzs hpos hzz hb hm
    rw [hz1] at this; exact this
  clear hzz hzs hpos hb hi hz0 hz1 hz2
  go_region
  all_goals
    go_wp2_with fail
    go_ret2
  · exact ⟨_, _, rfl, ref_new h (.inl ⟨rfl, rfl⟩), ((((Upd.refl _ _).alloc _).alloc _).alloc _).drew, by simp; omega⟩
  · exact ⟨_, _, rfl, ref_new h (.inr ⟨rfl, rfl⟩), ((((Upd.refl _ _).alloc _).alloc _).alloc _).drew, by simp; omega⟩

end Go.Proofs.Ytfjmkdjbeoafjaa
