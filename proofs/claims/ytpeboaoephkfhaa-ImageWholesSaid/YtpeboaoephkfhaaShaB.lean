/- The walk of a digest's block. (Printed by wip/tools/gen_sha.py.) -/
import Derived.Test.YtpeboaoephkfhaaShaA
import Derived.Laws.BitsAllLaws
namespace Go.Proofs.Ytpeboaoephkfhaa
open Go.ChangeShapes Go.WideShapes Go.ChangeAt Go.RowKit

theorem mixed8 : Try.prog.follows .mixedOrders = true := by kernel_rfl
theorem zero_64w : (Try.prog.info? 70).map (·.zero) = some (some (.agg (U32 (List.replicate 64 0)))) := by kernel_rfl
theorem zero_state : (Try.prog.info? 73).map (·.zero) = some (some (.agg (U32 (List.replicate 8 0)))) := by kernel_rfl
theorem info_state : (Try.prog.info? 73).map (·.size) = some 8 := by kernel_rfl

/-- A whole variable, written. -/
theorem wpList_storeA {P : Program} {a : Act} {o : Oper} {w : World} {ops : Array Oper} {Q : Exit → Act → World → Prop} {rest : List Oper} (hgd : o.guard = none) (t : TypeId) (x y : Operand) (ho : o.op = .store t x y) {g k : Nat} {T : TypeId} {c news : Array Value} (hx : a.eval x = .pointer (some ⟨g, 0, none⟩)) (hy : a.eval y = .agg news) (hb : Blk w g c T)
    (hi : (P.info? t).map (·.size) = some k) (hn : news.size = k) (hc : c.size = k) (h1 : ∀ v ∈ news.toList, v.oneCell' = true)
    (h : ∀ w', Blk w' g news T → Upd [g] w w' → w'.heap.size = w.heap.size → wpList P ops Q rest (a.put o.dst undef) w') : wpList P ops Q (o :: rest) a w := by
  have hr := exec_store (P := P) t x y ho hx hy hb hi hn (by omega) h1
  rw [splice_all (by simp; omega), Array.toArray_toList] at hr
  exact wpList_runU hgd hr (h _ (setRow_blk hb _) (setRow_upd (Upd.refl _ _) (.inl (by simp)) _) (by simp))

theorem U32_one (l : List Int) : ∀ v ∈ (U32 l).toList, v.oneCell' = true := by
  intro v hv
  unfold U32 at hv
  simp only [List.mem_map] at hv
  obtain ⟨x, -, rfl⟩ := hv; rfl

theorem exec_build8 {a : Act} {o : Oper} {w : World} {x0 x1 x2 x3 x4 x5 x6 x7 : Operand} {z0 z1 z2 z3 z4 z5 z6 z7 : Int} (ho : o.op = .build 73 #[(0, x0), (1, x1), (2, x2), (3, x3), (4, x4), (5, x5), (6, x6), (7, x7)])
    (h0 : a.eval x0 = .int .u32 z0) (h1 : a.eval x1 = .int .u32 z1) (h2 : a.eval x2 = .int .u32 z2) (h3 : a.eval x3 = .int .u32 z3) (h4 : a.eval x4 = .int .u32 z4) (h5 : a.eval x5 = .int .u32 z5) (h6 : a.eval x6 = .int .u32 z6) (h7 : a.eval x7 = .int .u32 z7) :
    (execOp a.eval o).run Try.prog w = .ok (.value (.agg (U32 [z0, z1, z2, z3, z4, z5, z6, z7]))) w := by
  have hz' := run_zero (P := Try.prog) (w := w) zero_state
  have hs : ∀ w, (sizeOf 69).run Try.prog w = .ok 1 w := by
    intro w
    have h := (by kernel_rfl : (Try.prog.info? 69).map (·.size) = some 1)
    cases hq : (Try.prog).info? 69 with
    | none => simp [hq] at h
    | some i => simp [hq] at h; simp [sizeOf, typeInfo, hq, h]
  unfold execOp
  simp [ho, Instr.build, hz', underlying, Try.underlying73, hs, Instr.fill, Value.cells, h0, h1, h2, h3, h4, h5, h6, h7, U32]
  try rfl

theorem results_state {fn : Func} {p : Tmp} (h : fn.results = #[.cell p 73]) {tmps : Array Value} {w : World} {g : Nat} {T : TypeId} {l : List Int} (hp : tmps.getD p undef = .pointer (some ⟨g, 0, none⟩)) (hb : Blk w g (U32 l) T) (hl : l.length = 8) :
    (results fn tmps).run Try.prog w = .ok (.agg (U32 l)) w :=
  results_cell_row h tmps w g T (U32 l) (0, 0) _ hp hb Try.underlying73 rfl (by rw [info_state, U32_size, hl])

/-- Bytes that lie at a place, of a list that is long enough. -/
theorem BytesAt.at {w : World} {a : Option Addr} {n c : Nat} {l : List Int} (h : BytesAt w (.slice a n c) l) (h0 : 0 < l.length) :
    ∃ g off, a = some ⟨g, off, none⟩ ∧ n = l.length ∧ g < w.heap.size ∧ ∀ i, i < l.length → w.cell? ⟨g, off + i, none⟩ = some (.int .u8 (l.getD i 0)) := by
  obtain ⟨a', c', e, -, -, h⟩ := h
  cases e
  obtain ⟨g, off, rfl, hg, hc⟩ := h (by intro e; rw [e] at h0; simp at h0)
  exact ⟨g, off, rfl, rfl, hg, hc⟩

set_option maxRecDepth 100000 in
set_option maxHeartbeats 4000000 in
theorem block_any {w : World} {s b K : List Int} {bv : Value} {kb : Nat} (hs : s.length = 8) (hb : BytesAt w bv b) (hbl : 64 ≤ b.length) (hbu : U8L b) (hK : Blk w kb (U32 K) 70) (hKl : K.length = 64) :
    Calls Try.prog 33 #[.agg (U32 s), bv, .pointer (some ⟨kb, 0, none⟩)] w fun e w' => e = .returned (.agg (U32 (blockF K s b))) ∧ Upd [] w w' := by
  obtain ⟨ba, bc, rfl⟩ := hb.form
  obtain ⟨bg, bo, rfl, -, hbg, hbc⟩ := hb.at (by omega)
  obtain ⟨bn, hbn⟩ : ∃ n, n = b.length := ⟨_, rfl⟩
  rw [← hbn] at hbl ⊢
  have HBC := Lib.hid hbc
  have HBU := Lib.hid hbu
  have HBN := Lib.hid hbn
  have HK := Lib.hid hK
  have HKL := Lib.hid hKl
  have HSL := Lib.hid hs
  have hkb := hK.lt
  clear hb hbc hbu hbn hK hKl hs
  go_enter Try.func33, Try.ntmps33
  go_upto_region 3 with (first
    | (refine wpList_alloc rfl 73 rfl zero_state fun w2 hb2 hu2 hs2 => ?_)
    | (refine wpList_alloc rfl 70 rfl zero_64w fun w3 hb3 hu3 hs3 => ?_))
  have hb1 : Blk (w.alloc (.cells (U32 s) 73)) w.heap.size (U32 s) 73 := Blk.new _ _ _
  have hu1 : Upd [] w (w.alloc (.cells (U32 s) 73)) := (Upd.refl _ _).alloc _
  have hs1 : (w.alloc (.cells (U32 s) 73)).heap.size = w.heap.size + 1 := by simp
  obtain ⟨sb, hsb⟩ : ∃ x, x = w.heap.size := ⟨_, rfl⟩
  rw [hs1] at hb2 hs2
  rw [← hsb] at hb1 hs1 hb2 hs2 hbg hkb ⊢
  obtain ⟨rb, hrb⟩ : ∃ x, x = sb + 1 := ⟨_, rfl⟩
  rw [← hrb] at hb2 hs2 hs1 ⊢
  rw [hs2] at hb3 hs3
  obtain ⟨wb, hwb⟩ : ∃ x, x = rb + 1 := ⟨_, rfl⟩
  rw [← hwb] at hb3 hs3 hs2 ⊢
  have HS1 := Lib.hid ((hb1.upd hu2 (by simp)).upd hu3 (by simp))
  have HR2 := Lib.hid (hb2.upd hu3 (by simp))
  have HW3 : Hid (Blk w3 wb (U32 (List.replicate 64 0)) 70) := Lib.hid hb3
  have hu03 : Upd [] w w3 := (hu1.trans hu2).trans hu3
  have HU3 := Lib.hid hu03
  have HK3 := Lib.hid (HK.out.upd hu03 (by simp))
  have HB3 := Lib.hid (fun i (hi : i < b.length) => (World.cell?_of_block (a := ⟨bg, bo + i, none⟩) (hu03.block bg (by rw [← hsb]; exact hbg) (by simp))).trans (HBC.out i hi))
  have hwk : wb ≠ kb := by omega
  have hwg : wb ≠ bg := by omega
  have hws : wb ≠ sb := by omega
  have hwr : wb ≠ rb := by omega
  have hz3 : wb < w3.heap.size := by omega
  have hg3 : bg < w3.heap.size := by omega
  have hk3 : kb < w3.heap.size := by omega
  have hsb3 : sb < w3.heap.size := by omega
  have hrb3 : rb < w3.heap.size := by omega
  have hrs : rb ≠ sb := by omega
  have hrk : rb ≠ kb := by omega
  have hwrb : sb + 2 = wb := by omega
  have HRSB : Hid (rb = sb + 1) := Lib.hid hrb
  have HSB := Lib.hid hsb
  clear hb1 hb2 hb3 hu1 hu2 hu3 hs1 hs2 hs3 hrb hwb hu03 HK HBC hsb
  go_loopw [24] (fun i wx => ∃ (m : Nat), m ≤ 16 ∧ i = .int .i64 m ∧ Blk wx wb (U32 (firstF b m)) 70 ∧ Upd [wb] w3 wx) (fun i _ => 16 - (intOf i).toNat)
  case atStart => exact ⟨0, Nat.zero_le _, rfl, HW3.out, Upd.refl _ _⟩
  case round =>
    obtain ⟨m, hm, rfl, hw, hu⟩ := hrel
    have HW := Lib.hid hw
    have HU := Lib.hid hu
    clear hw hu
    by_cases hlt : m < 16
    · obtain ⟨q, hq⟩ : ∃ q : Nat, q = 4 * m := ⟨_, rfl⟩
      obtain ⟨q1, hq1⟩ : ∃ q : Nat, q = 4 * m + 1 := ⟨_, rfl⟩
      obtain ⟨q2, hq2⟩ : ∃ q : Nat, q = 4 * m + 2 := ⟨_, rfl⟩
      obtain ⟨q3, hq3⟩ : ∃ q : Nat, q = 4 * m + 3 := ⟨_, rfl⟩
      have HX : Hid (∀ (q : Nat), q < bn → wr.cell? ⟨bg, bo + q, none⟩ = some (.int .u8 (b.getD q 0)) ∧ 0 ≤ b.getD q 0 ∧ b.getD q 0 < 256) := Lib.hid (fun q hq => by
        have hl : q < b.length := by rw [← HBN.out]; exact hq
        refine ⟨(World.cell?_of_block (a := ⟨bg, bo + q, none⟩) (HU.out.block bg hg3 (by simp; exact fun e => hwg e.symm))).trans (HB3.out q hl), ?_⟩
        have hmem : b.getD q 0 ∈ b := by simp [List.getD_eq_getElem?_getD, hl]
        exact HBU.out _ hmem)
      obtain ⟨x0, hx0⟩ : ∃ x, x = b.getD q 0 := ⟨_, rfl⟩
      obtain ⟨x1, hx1⟩ : ∃ x, x = b.getD q1 0 := ⟨_, rfl⟩
      obtain ⟨x2, hx2⟩ : ∃ x, x = b.getD q2 0 := ⟨_, rfl⟩
      obtain ⟨x3, hx3⟩ : ∃ x, x = b.getD q3 0 := ⟨_, rfl⟩
      obtain ⟨cc0, a0, b0⟩ := HX.out q (by omega)
      obtain ⟨cc1, a1, b1⟩ := HX.out q1 (by omega)
      obtain ⟨cc2, a2, b2⟩ := HX.out q2 (by omega)
      obtain ⟨cc3, a3, b3⟩ := HX.out q3 (by omega)
      rw [← hx0] at cc0 a0 b0
      rw [← hx1] at cc1 a1 b1
      rw [← hx2] at cc2 a2 b2
      rw [← hx3] at cc3 a3 b3
      have m0 : IntKind.u32.wrap x0 = x0 := by rw [IntKind.wrap_u32']; omega
      have v0 : IntKind.u32.wrap (x0 * 16777216) = x0 * 16777216 % 4294967296 := IntKind.wrap_u32' _
      have m1 : IntKind.u32.wrap x1 = x1 := by rw [IntKind.wrap_u32']; omega
      have v1 : IntKind.u32.wrap (x1 * 65536) = x1 * 65536 % 4294967296 := IntKind.wrap_u32' _
      have m2 : IntKind.u32.wrap x2 = x2 := by rw [IntKind.wrap_u32']; omega
      have v2 : IntKind.u32.wrap (x2 * 256) = x2 * 256 % 4294967296 := IntKind.wrap_u32' _
      have m3 : IntKind.u32.wrap x3 = x3 := by rw [IntKind.wrap_u32']; omega
      have i2 : (m : Int) < 16 := by omega
      have hwd : wordF b m = bits .or .u32 (bits .or .u32 (bits .or .u32 (x0 * 16777216 % 4294967296) (x1 * 65536 % 4294967296)) (x2 * 256 % 4294967296)) x3 := by
        unfold wordF; rw [hx0, hx1, hx2, hx3, hq, hq1, hq2, hq3]
      have HWD := Lib.hid hwd
      have hb4 : IntKind.i64.wrap (4 * (m : Int)) = (q : Int) := by rw [IntWalk.i64_in _ (by omega)]; omega
      have hb1 : IntKind.i64.wrap ((q : Int) + 1) = (q1 : Int) := by rw [IntWalk.i64_in _ (by omega)]; omega
      have hb2 : IntKind.i64.wrap ((q : Int) + 2) = (q2 : Int) := by rw [IntWalk.i64_in _ (by omega)]; omega
      have hb3 : IntKind.i64.wrap ((q : Int) + 3) = (q3 : Int) := by rw [IntWalk.i64_in _ (by omega)]; omega
      have p0 : (0 : Int) ≤ (q : Int) := by omega
      have p1 : (0 : Int) ≤ (q1 : Int) := by omega
      have p2 : (0 : Int) ≤ (q2 : Int) := by omega
      have p3 : (0 : Int) ≤ (q3 : Int) := by omega
      have r0 : (q : Int) < (bn : Int) := by omega
      have r1 : (q1 : Int) < (bn : Int) := by omega
      have r2 : (q2 : Int) < (bn : Int) := by omega
      have r3 : (q3 : Int) < (bn : Int) := by omega
      have i0 : (0 : Int) ≤ (m : Int) := by omega
      have i1 : (m : Int) < 64 := by omega
      have HC0 := Lib.hid cc0
      have HC1 := Lib.hid cc1
      have HC2 := Lib.hid cc2
      have HC3 := Lib.hid cc3
      have hgx := Nat.lt_of_lt_of_le hg3 HU.out.size
      have hFL := firstF_len b m
      clear hx0 hx1 hx2 hx3 hq hq1 hq2 hq3 cc0 cc1 cc2 cc3 hwd a0 a1 a2 a3 b0 b1 b2 b3
      go_upto_region 5 with fail
      refine held_start (fun w' => Upd [wb] wr w' ∧ ∃ c', Blk w' wb c' 70) 36 mixed rfl (⟨(Upd.refl _ _).drew, _, HW.out.drew⟩) (fun hHeld => ?_)
      refine held_take 0 27 (.int .i64 (m : Nat)) rfl (by kernel_rfl) (by kernel_rfl) (by kernel_rfl) rfl (fun _ _ _ h => h) rfl hHeld (fun w hS => by rfl) ?_
      simp only [List.setIfInBounds_toArray, List.set_cons_zero, List.set_cons_succ]
      refine held_take 1 28 (.slice (some ⟨bg, bo, none⟩) bn bc) rfl (by kernel_rfl) (by kernel_rfl) (by kernel_rfl) rfl (fun _ _ _ h => h) rfl hHeld (fun w hS => by rfl) ?_
      simp only [List.setIfInBounds_toArray, List.set_cons_zero, List.set_cons_succ]
      refine held_take 2 29 (.int .i64 (m : Nat)) rfl (by kernel_rfl) (by kernel_rfl) (by kernel_rfl) rfl (fun _ _ _ h => h) rfl hHeld (fun w hS => by rfl) ?_
      simp only [List.setIfInBounds_toArray, List.set_cons_zero, List.set_cons_succ]
      refine held_take 3 30 (.int .i64 (q : Nat)) rfl (by kernel_rfl) (by kernel_rfl) (by kernel_rfl) rfl (fun _ _ _ h => h) rfl hHeld (fun w hS => by go_simp) ?_
      simp only [List.setIfInBounds_toArray, List.set_cons_zero, List.set_cons_succ]
      refine held_take 4 31 (.pointer (some ⟨bg, bo + q, none⟩)) rfl (by kernel_rfl) (by kernel_rfl) (by kernel_rfl) rfl (fun _ _ _ h => h) rfl hHeld (fun w hS => by go_simp) ?_
      simp only [List.setIfInBounds_toArray, List.set_cons_zero, List.set_cons_succ]
      refine held_take 5 32 (.int .u8 x0) rfl (by kernel_rfl) (by kernel_rfl) (by kernel_rfl) rfl (fun _ _ _ h => h) rfl hHeld (fun w hS => by have c : w.cell? ⟨bg, bo + q, none⟩ = some (.int .u8 x0) := (World.cell?_of_block (a := ⟨bg, bo + q, none⟩) (hS.1.block bg hgx (by simp; exact fun e => hwg e.symm))).trans HC0.out; go_simp) ?_
      simp only [List.setIfInBounds_toArray, List.set_cons_zero, List.set_cons_succ]
      refine held_take 6 33 (.int .u32 x0) rfl (by kernel_rfl) (by kernel_rfl) (by kernel_rfl) rfl (fun _ _ _ h => h) rfl hHeld (fun w hS => by go_simp) ?_
      simp only [List.setIfInBounds_toArray, List.set_cons_zero, List.set_cons_succ]
      refine held_take 7 34 (.int .u32 (x0 * 16777216 % 4294967296)) rfl (by kernel_rfl) (by kernel_rfl) (by kernel_rfl) rfl (fun _ _ _ h => h) rfl hHeld (fun w hS => by go_simp) ?_
      simp only [List.setIfInBounds_toArray, List.set_cons_zero, List.set_cons_succ]
      refine held_take 8 35 (.slice (some ⟨bg, bo, none⟩) bn bc) rfl (by kernel_rfl) (by kernel_rfl) (by kernel_rfl) rfl (fun _ _ _ h => h) rfl hHeld (fun w hS => by rfl) ?_
      simp only [List.setIfInBounds_toArray, List.set_cons_zero, List.set_cons_succ]
      refine held_take 9 36 (.int .i64 (m : Nat)) rfl (by kernel_rfl) (by kernel_rfl) (by kernel_rfl) rfl (fun _ _ _ h => h) rfl hHeld (fun w hS => by rfl) ?_
      simp only [List.setIfInBounds_toArray, List.set_cons_zero, List.set_cons_succ]
      refine held_take 10 37 (.int .i64 (q : Nat)) rfl (by kernel_rfl) (by kernel_rfl) (by kernel_rfl) rfl (fun _ _ _ h => h) rfl hHeld (fun w hS => by go_simp) ?_
      simp only [List.setIfInBounds_toArray, List.set_cons_zero, List.set_cons_succ]
      refine held_take 11 38 (.int .i64 (q1 : Nat)) rfl (by kernel_rfl) (by kernel_rfl) (by kernel_rfl) rfl (fun _ _ _ h => h) rfl hHeld (fun w hS => by go_simp) ?_
      simp only [List.setIfInBounds_toArray, List.set_cons_zero, List.set_cons_succ]
      refine held_take 12 39 (.pointer (some ⟨bg, bo + q1, none⟩)) rfl (by kernel_rfl) (by kernel_rfl) (by kernel_rfl) rfl (fun _ _ _ h => h) rfl hHeld (fun w hS => by go_simp) ?_
      simp only [List.setIfInBounds_toArray, List.set_cons_zero, List.set_cons_succ]
      refine held_take 13 40 (.int .u8 x1) rfl (by kernel_rfl) (by kernel_rfl) (by kernel_rfl) rfl (fun _ _ _ h => h) rfl hHeld (fun w hS => by have c : w.cell? ⟨bg, bo + q1, none⟩ = some (.int .u8 x1) := (World.cell?_of_block (a := ⟨bg, bo + q1, none⟩) (hS.1.block bg hgx (by simp; exact fun e => hwg e.symm))).trans HC1.out; go_simp) ?_
      simp only [List.setIfInBounds_toArray, List.set_cons_zero, List.set_cons_succ]
      refine held_take 14 41 (.int .u32 x1) rfl (by kernel_rfl) (by kernel_rfl) (by kernel_rfl) rfl (fun _ _ _ h => h) rfl hHeld (fun w hS => by go_simp) ?_
      simp only [List.setIfInBounds_toArray, List.set_cons_zero, List.set_cons_succ]
      refine held_take 15 42 (.int .u32 (x1 * 65536 % 4294967296)) rfl (by kernel_rfl) (by kernel_rfl) (by kernel_rfl) rfl (fun _ _ _ h => h) rfl hHeld (fun w hS => by go_simp) ?_
      simp only [List.setIfInBounds_toArray, List.set_cons_zero, List.set_cons_succ]
      refine held_take 16 43 (.int .u32 (bits .or .u32 (x0 * 16777216 % 4294967296) (x1 * 65536 % 4294967296))) rfl (by kernel_rfl) (by kernel_rfl) (by kernel_rfl) rfl (fun _ _ _ h => h) rfl hHeld (fun w hS => by go_simp) ?_
      simp only [List.setIfInBounds_toArray, List.set_cons_zero, List.set_cons_succ]
      refine held_take 17 44 (.slice (some ⟨bg, bo, none⟩) bn bc) rfl (by kernel_rfl) (by kernel_rfl) (by kernel_rfl) rfl (fun _ _ _ h => h) rfl hHeld (fun w hS => by rfl) ?_
      simp only [List.setIfInBounds_toArray, List.set_cons_zero, List.set_cons_succ]
      refine held_take 18 45 (.int .i64 (m : Nat)) rfl (by kernel_rfl) (by kernel_rfl) (by kernel_rfl) rfl (fun _ _ _ h => h) rfl hHeld (fun w hS => by rfl) ?_
      simp only [List.setIfInBounds_toArray, List.set_cons_zero, List.set_cons_succ]
      refine held_take 19 46 (.int .i64 (q : Nat)) rfl (by kernel_rfl) (by kernel_rfl) (by kernel_rfl) rfl (fun _ _ _ h => h) rfl hHeld (fun w hS => by go_simp) ?_
      simp only [List.setIfInBounds_toArray, List.set_cons_zero, List.set_cons_succ]
      refine held_take 20 47 (.int .i64 (q2 : Nat)) rfl (by kernel_rfl) (by kernel_rfl) (by kernel_rfl) rfl (fun _ _ _ h => h) rfl hHeld (fun w hS => by go_simp) ?_
      simp only [List.setIfInBounds_toArray, List.set_cons_zero, List.set_cons_succ]
      refine held_take 21 48 (.pointer (some ⟨bg, bo + q2, none⟩)) rfl (by kernel_rfl) (by kernel_rfl) (by kernel_rfl) rfl (fun _ _ _ h => h) rfl hHeld (fun w hS => by go_simp) ?_
      simp only [List.setIfInBounds_toArray, List.set_cons_zero, List.set_cons_succ]
      refine held_take 22 49 (.int .u8 x2) rfl (by kernel_rfl) (by kernel_rfl) (by kernel_rfl) rfl (fun _ _ _ h => h) rfl hHeld (fun w hS => by have c : w.cell? ⟨bg, bo + q2, none⟩ = some (.int .u8 x2) := (World.cell?_of_block (a := ⟨bg, bo + q2, none⟩) (hS.1.block bg hgx (by simp; exact fun e => hwg e.symm))).trans HC2.out; go_simp) ?_
      simp only [List.setIfInBounds_toArray, List.set_cons_zero, List.set_cons_succ]
      refine held_take 23 50 (.int .u32 x2) rfl (by kernel_rfl) (by kernel_rfl) (by kernel_rfl) rfl (fun _ _ _ h => h) rfl hHeld (fun w hS => by go_simp) ?_
      simp only [List.setIfInBounds_toArray, List.set_cons_zero, List.set_cons_succ]
      refine held_take 24 51 (.int .u32 (x2 * 256 % 4294967296)) rfl (by kernel_rfl) (by kernel_rfl) (by kernel_rfl) rfl (fun _ _ _ h => h) rfl hHeld (fun w hS => by go_simp) ?_
      simp only [List.setIfInBounds_toArray, List.set_cons_zero, List.set_cons_succ]
      refine held_take 25 52 (.int .u32 (bits .or .u32 (bits .or .u32 (x0 * 16777216 % 4294967296) (x1 * 65536 % 4294967296)) (x2 * 256 % 4294967296))) rfl (by kernel_rfl) (by kernel_rfl) (by kernel_rfl) rfl (fun _ _ _ h => h) rfl hHeld (fun w hS => by go_simp) ?_
      simp only [List.setIfInBounds_toArray, List.set_cons_zero, List.set_cons_succ]
      refine held_take 26 53 (.slice (some ⟨bg, bo, none⟩) bn bc) rfl (by kernel_rfl) (by kernel_rfl) (by kernel_rfl) rfl (fun _ _ _ h => h) rfl hHeld (fun w hS => by rfl) ?_
      simp only [List.setIfInBounds_toArray, List.set_cons_zero, List.set_cons_succ]
      refine held_take 27 54 (.int .i64 (m : Nat)) rfl (by kernel_rfl) (by kernel_rfl) (by kernel_rfl) rfl (fun _ _ _ h => h) rfl hHeld (fun w hS => by rfl) ?_
      simp only [List.setIfInBounds_toArray, List.set_cons_zero, List.set_cons_succ]
      refine held_take 28 55 (.int .i64 (q : Nat)) rfl (by kernel_rfl) (by kernel_rfl) (by kernel_rfl) rfl (fun _ _ _ h => h) rfl hHeld (fun w hS => by go_simp) ?_
      simp only [List.setIfInBounds_toArray, List.set_cons_zero, List.set_cons_succ]
      refine held_take 29 56 (.int .i64 (q3 : Nat)) rfl (by kernel_rfl) (by kernel_rfl) (by kernel_rfl) rfl (fun _ _ _ h => h) rfl hHeld (fun w hS => by go_simp) ?_
      simp only [List.setIfInBounds_toArray, List.set_cons_zero, List.set_cons_succ]
      refine held_take 30 57 (.pointer (some ⟨bg, bo + q3, none⟩)) rfl (by kernel_rfl) (by kernel_rfl) (by kernel_rfl) rfl (fun _ _ _ h => h) rfl hHeld (fun w hS => by go_simp) ?_
      simp only [List.setIfInBounds_toArray, List.set_cons_zero, List.set_cons_succ]
      refine held_take 31 58 (.int .u8 x3) rfl (by kernel_rfl) (by kernel_rfl) (by kernel_rfl) rfl (fun _ _ _ h => h) rfl hHeld (fun w hS => by have c : w.cell? ⟨bg, bo + q3, none⟩ = some (.int .u8 x3) := (World.cell?_of_block (a := ⟨bg, bo + q3, none⟩) (hS.1.block bg hgx (by simp; exact fun e => hwg e.symm))).trans HC3.out; go_simp) ?_
      simp only [List.setIfInBounds_toArray, List.set_cons_zero, List.set_cons_succ]
      refine held_take 32 59 (.int .u32 x3) rfl (by kernel_rfl) (by kernel_rfl) (by kernel_rfl) rfl (fun _ _ _ h => h) rfl hHeld (fun w hS => by go_simp) ?_
      simp only [List.setIfInBounds_toArray, List.set_cons_zero, List.set_cons_succ]
      refine held_take 33 60 (.int .u32 (bits .or .u32 (bits .or .u32 (bits .or .u32 (x0 * 16777216 % 4294967296) (x1 * 65536 % 4294967296)) (x2 * 256 % 4294967296)) x3)) rfl (by kernel_rfl) (by kernel_rfl) (by kernel_rfl) rfl (fun _ _ _ h => h) rfl hHeld (fun w hS => by go_simp) ?_
      simp only [List.setIfInBounds_toArray, List.set_cons_zero, List.set_cons_succ]
      refine held_take 34 61 (.pointer (some ⟨wb, m, none⟩)) rfl (by kernel_rfl) (by kernel_rfl) (by kernel_rfl) rfl (fun _ _ _ h => h) rfl hHeld (fun w hS => by go_simp) ?_
      simp only [List.setIfInBounds_toArray, List.set_cons_zero, List.set_cons_succ]
      refine held_store 35 rfl (by kernel_rfl) rfl rfl (fun K hK => ?_)
      have hcl := HW.out.drew.cell (o := m) (U32_get _ m (by rw [hFL]; omega))
      have hfr := HW.out.drew.free m
      go_simp
      have hk := hK.out _ ⟨(((Upd.refl [wb] wr).drew).setCell (p := ⟨wb, m, none⟩) (.inl (by simp)) (.int .u32 (bits .or .u32 (bits .or .u32 (bits .or .u32 (x0 * 16777216 % 4294967296) (x1 * 65536 % 4294967296)) (x2 * 256 % 4294967296)) x3))), _, HW.out.drew.set m _⟩
      refine hk (fun hHeld => ?_)
      clear hK hk K
      refine held_done (by kernel_rfl) ?_
      have hnew := HW.out.drew.set m (.int .u32 (wordF b m))
      rw [U32_set] at hnew
      have HNEW : Hid (Blk _ wb (U32 (firstF b (m + 1))) 70) := Lib.hid hnew
      rw [← HWD.out]
      have HUN := Lib.hid (HU.out.trans (((Upd.refl [wb] wr).drew).setCell (p := ⟨wb, m, none⟩) (.inl (by simp)) (.int .u32 (wordF b m))))
      clear hnew hHeld
      go_wp2_with fail
      go_roundw
      case rel => exact ⟨m + 1, by omega, by go_num, HNEW.out, HUN.out⟩
      case measure => simp [intOf]; omega
    · obtain rfl : m = 16 := by omega
      clear hlt hm
      rw [show ((16 : Nat) : Int) = 16 from rfl]
      have HW0 : Hid (Blk wr wb (U32 (schedF b 0)) 70) := Lib.hid HW.out
      have HU0 := HU
      go_upto_region 9 with fail
      go_loopw [10] (fun i wx => ∃ (m t : Nat), t = m + 16 ∧ m ≤ 48 ∧ i = .int .i64 (t : Nat) ∧ Blk wx wb (U32 (schedF b m)) 70 ∧ Upd [wb] w3 wx) (fun i _ => 64 - (intOf i).toNat)
      case atStart => exact ⟨0, 16, rfl, Nat.zero_le _, rfl, HW0.out, HU0.out⟩
      case round =>
        clear HW HU HW0 HU0
        obtain ⟨m, t, ht, hm, rfl, hw, hu⟩ := hrel
        have HW := Lib.hid hw
        have HU := Lib.hid hu
        clear hw hu
        by_cases hlt : m < 48
        · obtain ⟨W, hWe⟩ : ∃ W, W = schedF b m := ⟨_, rfl⟩
          have hWl : W.length = 64 := by rw [hWe]; exact schedF_len b m
          rw [← hWe] at HW
          have HWE := Lib.hid hWe
          obtain ⟨q15, hq15⟩ : ∃ q : Nat, q = t - 15 := ⟨_, rfl⟩
          obtain ⟨q2, hq2⟩ : ∃ q : Nat, q = t - 2 := ⟨_, rfl⟩
          obtain ⟨q7, hq7⟩ : ∃ q : Nat, q = t - 7 := ⟨_, rfl⟩
          obtain ⟨q16, hq16⟩ : ∃ q : Nat, q = t - 16 := ⟨_, rfl⟩
          obtain ⟨x, hx⟩ : ∃ x, x = W.getD q15 0 := ⟨_, rfl⟩
          obtain ⟨y, hy⟩ : ∃ x, x = W.getD q2 0 := ⟨_, rfl⟩
          obtain ⟨u, hu7⟩ : ∃ x, x = W.getD q7 0 := ⟨_, rfl⟩
          obtain ⟨v, hv16⟩ : ∃ x, x = W.getD q16 0 := ⟨_, rfl⟩
          have HX : Hid ((U32 W)[q15]? = some (.int .u32 x)) := Lib.hid (by rw [hx]; exact U32_get _ _ (by omega))
          have HY : Hid ((U32 W)[q2]? = some (.int .u32 y)) := Lib.hid (by rw [hy]; exact U32_get _ _ (by omega))
          have HU7 : Hid ((U32 W)[q7]? = some (.int .u32 u)) := Lib.hid (by rw [hu7]; exact U32_get _ _ (by omega))
          have HV16 : Hid ((U32 W)[q16]? = some (.int .u32 v)) := Lib.hid (by rw [hv16]; exact U32_get _ _ (by omega))
          have HNX : Hid (nextW W t = (((sig1 y + u) % 4294967296 + sig0 x) % 4294967296 + v) % 4294967296) := Lib.hid (by unfold nextW; rw [hx, hy, hu7, hv16, hq15, hq2, hq7, hq16])
          have w15 : IntKind.i64.wrap ((t : Int) - 15) = (q15 : Int) := by rw [IntWalk.i64_in _ (by omega)]; omega
          have w2' : IntKind.i64.wrap ((t : Int) - 2) = (q2 : Int) := by rw [IntWalk.i64_in _ (by omega)]; omega
          have w7 : IntKind.i64.wrap ((t : Int) - 7) = (q7 : Int) := by rw [IntWalk.i64_in _ (by omega)]; omega
          have w16 : IntKind.i64.wrap ((t : Int) - 16) = (q16 : Int) := by rw [IntWalk.i64_in _ (by omega)]; omega
          have p15 : (0 : Int) ≤ (q15 : Int) := by omega
          have p2 : (0 : Int) ≤ (q2 : Int) := by omega
          have p7 : (0 : Int) ≤ (q7 : Int) := by omega
          have p16 : (0 : Int) ≤ (q16 : Int) := by omega
          have pt : (0 : Int) ≤ (t : Int) := by omega
          have r15 : (q15 : Int) < 64 := by omega
          have r2 : (q2 : Int) < 64 := by omega
          have r7 : (q7 : Int) < 64 := by omega
          have r16 : (q16 : Int) < 64 := by omega
          have rt : (t : Int) < 64 := by omega
          have n15 : q15 ≠ t := by omega
          have n2 : q2 ≠ t := by omega
          have n7 : q7 ≠ t := by omega
          have n16 : q16 ≠ t := by omega
          have htl : t < W.length := by omega
          have HT := Lib.hid ht
          obtain ⟨a90, w90⟩ : ∃ z, IntKind.u32.wrap ((bits .xor .u32 (bits .xor .u32 (rotl 15 y) (rotl 13 y)) (y / 1024)) + u) = z := ⟨_, rfl⟩
          obtain ⟨a101, w101⟩ : ∃ z, IntKind.u32.wrap (a90 + (bits .xor .u32 (bits .xor .u32 (rotl 25 x) (rotl 14 x)) (x / 8))) = z := ⟨_, rfl⟩
          obtain ⟨a106, w106⟩ : ∃ z, IntKind.u32.wrap (a101 + v) = z := ⟨_, rfl⟩
          have HA6 : Hid (a106 = nextW W t) := Lib.hid (by rw [HNX.out, ← w106, ← w101, ← w90, IntKind.wrap_u32', IntKind.wrap_u32', IntKind.wrap_u32']; rfl)
          clear hWe hx hy hu7 hv16 hq15 hq2 hq7 hq16 ht
          go_upto_region 11 with fail
          refine held_start (fun w' => Upd [] wr w') 10 mixed rfl ((Upd.refl _ _).drew) (fun hHeld => ?_)
          refine held_take 0 67 (.int .i64 (t : Nat)) rfl (by kernel_rfl) (by kernel_rfl) (by kernel_rfl) rfl (fun _ _ _ h => h) rfl hHeld (fun w hS => by rfl) ?_
          simp only [List.setIfInBounds_toArray, List.set_cons_zero, List.set_cons_succ]
          refine held_take 1 68 (.int .i64 (q15 : Nat)) rfl (by kernel_rfl) (by kernel_rfl) (by kernel_rfl) rfl (fun _ _ _ h => h) rfl hHeld (fun w hS => by go_simp) ?_
          simp only [List.setIfInBounds_toArray, List.set_cons_zero, List.set_cons_succ]
          refine held_take 2 69 (.pointer (some ⟨wb, q15, none⟩)) rfl (by kernel_rfl) (by kernel_rfl) (by kernel_rfl) rfl (fun _ _ _ h => h) rfl hHeld (fun w hS => by go_simp) ?_
          simp only [List.setIfInBounds_toArray, List.set_cons_zero, List.set_cons_succ]
          refine held_take 3 70 (.int .u32 x) rfl (by kernel_rfl) (by kernel_rfl) (by kernel_rfl) rfl (fun _ _ _ h => h) rfl hHeld (fun w hS => by have c : w.cell? ⟨wb, q15, none⟩ = some _ := (HW.out.upd hS (by simp)).cell (o := q15) HX.out; go_simp) ?_
          simp only [List.setIfInBounds_toArray, List.set_cons_zero, List.set_cons_succ]
          refine held_take 4 71 (.int .i64 (t : Nat)) rfl (by kernel_rfl) (by kernel_rfl) (by kernel_rfl) rfl (fun _ _ _ h => h) rfl hHeld (fun w hS => by rfl) ?_
          simp only [List.setIfInBounds_toArray, List.set_cons_zero, List.set_cons_succ]
          refine held_take 5 72 (.int .i64 (q2 : Nat)) rfl (by kernel_rfl) (by kernel_rfl) (by kernel_rfl) rfl (fun _ _ _ h => h) rfl hHeld (fun w hS => by go_simp) ?_
          simp only [List.setIfInBounds_toArray, List.set_cons_zero, List.set_cons_succ]
          refine held_take 6 73 (.pointer (some ⟨wb, q2, none⟩)) rfl (by kernel_rfl) (by kernel_rfl) (by kernel_rfl) rfl (fun _ _ _ h => h) rfl hHeld (fun w hS => by go_simp) ?_
          simp only [List.setIfInBounds_toArray, List.set_cons_zero, List.set_cons_succ]
          refine held_take 7 74 (.int .u32 y) rfl (by kernel_rfl) (by kernel_rfl) (by kernel_rfl) rfl (fun _ _ _ h => h) rfl hHeld (fun w hS => by have c : w.cell? ⟨wb, q2, none⟩ = some _ := (HW.out.upd hS (by simp)).cell (o := q2) HY.out; go_simp) ?_
          simp only [List.setIfInBounds_toArray, List.set_cons_zero, List.set_cons_succ]
          refine held_take 8 11 (.int .u32 x) rfl (by kernel_rfl) (by kernel_rfl) (by kernel_rfl) rfl (fun _ _ _ h => h) rfl hHeld (fun w hS => by rfl) ?_
          simp only [List.setIfInBounds_toArray, List.set_cons_zero, List.set_cons_succ]
          refine held_take 9 12 (.int .u32 y) rfl (by kernel_rfl) (by kernel_rfl) (by kernel_rfl) rfl (fun _ _ _ h => h) rfl hHeld (fun w hS => by rfl) ?_
          simp only [List.setIfInBounds_toArray, List.set_cons_zero, List.set_cons_succ]
          refine held_done (by kernel_rfl) ?_
          have HW2 := Lib.hid (HW.out.upd hHeld (by simp))
          have HU2 := Lib.hid (HU.out.trans (hHeld.mono (by simp)))
          clear hHeld
          go_upto_region 12 with fail
          obtain ⟨wd, hwd⟩ : ∃ x, x = wr.drew := ⟨_, rfl⟩
          rw [← hwd] at HW2 HU2 ⊢
          clear hwd HW HU
          refine held_start (fun w' => Upd [wb] wd w' ∧ ∃ c', Blk w' wb c' 70 ∧ ∀ j, j ≠ t → c'[j]? = (U32 W)[j]?) 34 mixed rfl (⟨(Upd.refl _ _).drew, _, HW2.out.drew, fun _ _ => rfl⟩) (fun hHeld => ?_)
          refine held_take 0 75 (.int .i64 (t : Nat)) rfl (by kernel_rfl) (by kernel_rfl) (by kernel_rfl) rfl (fun _ _ _ h => h) rfl hHeld (fun w hS => by rfl) ?_
          simp only [List.setIfInBounds_toArray, List.set_cons_zero, List.set_cons_succ]
          refine held_take 1 76 (.func (.func 41) #[] #[]) rfl (by kernel_rfl) (by kernel_rfl) (by kernel_rfl) rfl (fun _ _ _ h => h) rfl hHeld (fun w hS => by rfl) ?_
          simp only [List.setIfInBounds_toArray, List.set_cons_zero, List.set_cons_succ]
          refine held_take 2 77 (.int .u32 y) rfl (by kernel_rfl) (by kernel_rfl) (by kernel_rfl) rfl (fun _ _ _ h => h) rfl hHeld (fun w hS => by rfl) ?_
          simp only [List.setIfInBounds_toArray, List.set_cons_zero, List.set_cons_succ]
          refine held_take 4 79 (.func (.func 41) #[] #[]) rfl (by kernel_rfl) (by kernel_rfl) (by kernel_rfl) rfl (fun _ _ _ h => h) rfl hHeld (fun w hS => by rfl) ?_
          simp only [List.setIfInBounds_toArray, List.set_cons_zero, List.set_cons_succ]
          refine held_take 5 80 (.int .u32 y) rfl (by kernel_rfl) (by kernel_rfl) (by kernel_rfl) rfl (fun _ _ _ h => h) rfl hHeld (fun w hS => by rfl) ?_
          simp only [List.setIfInBounds_toArray, List.set_cons_zero, List.set_cons_succ]
          refine held_take 8 83 (.int .u32 y) rfl (by kernel_rfl) (by kernel_rfl) (by kernel_rfl) rfl (fun _ _ _ h => h) rfl hHeld (fun w hS => by rfl) ?_
          simp only [List.setIfInBounds_toArray, List.set_cons_zero, List.set_cons_succ]
          refine held_take 9 84 (.int .u32 (y / 1024)) rfl (by kernel_rfl) (by kernel_rfl) (by kernel_rfl) rfl (fun _ _ _ h => h) rfl hHeld (fun w hS => by go_simp) ?_
          simp only [List.setIfInBounds_toArray, List.set_cons_zero, List.set_cons_succ]
          refine held_take 11 86 (.int .i64 (t : Nat)) rfl (by kernel_rfl) (by kernel_rfl) (by kernel_rfl) rfl (fun _ _ _ h => h) rfl hHeld (fun w hS => by rfl) ?_
          simp only [List.setIfInBounds_toArray, List.set_cons_zero, List.set_cons_succ]
          refine held_take 12 87 (.int .i64 (q7 : Nat)) rfl (by kernel_rfl) (by kernel_rfl) (by kernel_rfl) rfl (fun _ _ _ h => h) rfl hHeld (fun w hS => by go_simp) ?_
          simp only [List.setIfInBounds_toArray, List.set_cons_zero, List.set_cons_succ]
          refine held_take 13 88 (.pointer (some ⟨wb, q7, none⟩)) rfl (by kernel_rfl) (by kernel_rfl) (by kernel_rfl) rfl (fun _ _ _ h => h) rfl hHeld (fun w hS => by go_simp) ?_
          simp only [List.setIfInBounds_toArray, List.set_cons_zero, List.set_cons_succ]
          refine held_take 14 89 (.int .u32 u) rfl (by kernel_rfl) (by kernel_rfl) (by kernel_rfl) rfl (fun _ _ _ h => h) rfl hHeld (fun w hS => by obtain ⟨-, c', hb', hj'⟩ := hS; have c := hb'.cell (o := q7) ((hj' q7 n7).trans HU7.out); go_simp) ?_
          simp only [List.setIfInBounds_toArray, List.set_cons_zero, List.set_cons_succ]
          refine held_take 16 91 (.func (.func 41) #[] #[]) rfl (by kernel_rfl) (by kernel_rfl) (by kernel_rfl) rfl (fun _ _ _ h => h) rfl hHeld (fun w hS => by rfl) ?_
          simp only [List.setIfInBounds_toArray, List.set_cons_zero, List.set_cons_succ]
          refine held_take 17 92 (.int .u32 x) rfl (by kernel_rfl) (by kernel_rfl) (by kernel_rfl) rfl (fun _ _ _ h => h) rfl hHeld (fun w hS => by rfl) ?_
          simp only [List.setIfInBounds_toArray, List.set_cons_zero, List.set_cons_succ]
          refine held_take 19 94 (.func (.func 41) #[] #[]) rfl (by kernel_rfl) (by kernel_rfl) (by kernel_rfl) rfl (fun _ _ _ h => h) rfl hHeld (fun w hS => by rfl) ?_
          simp only [List.setIfInBounds_toArray, List.set_cons_zero, List.set_cons_succ]
          refine held_take 20 95 (.int .u32 x) rfl (by kernel_rfl) (by kernel_rfl) (by kernel_rfl) rfl (fun _ _ _ h => h) rfl hHeld (fun w hS => by rfl) ?_
          simp only [List.setIfInBounds_toArray, List.set_cons_zero, List.set_cons_succ]
          refine held_take 23 98 (.int .u32 x) rfl (by kernel_rfl) (by kernel_rfl) (by kernel_rfl) rfl (fun _ _ _ h => h) rfl hHeld (fun w hS => by rfl) ?_
          simp only [List.setIfInBounds_toArray, List.set_cons_zero, List.set_cons_succ]
          refine held_take 24 99 (.int .u32 (x / 8)) rfl (by kernel_rfl) (by kernel_rfl) (by kernel_rfl) rfl (fun _ _ _ h => h) rfl hHeld (fun w hS => by go_simp) ?_
          simp only [List.setIfInBounds_toArray, List.set_cons_zero, List.set_cons_succ]
          refine held_take 27 102 (.int .i64 (t : Nat)) rfl (by kernel_rfl) (by kernel_rfl) (by kernel_rfl) rfl (fun _ _ _ h => h) rfl hHeld (fun w hS => by rfl) ?_
          simp only [List.setIfInBounds_toArray, List.set_cons_zero, List.set_cons_succ]
          refine held_take 28 103 (.int .i64 (q16 : Nat)) rfl (by kernel_rfl) (by kernel_rfl) (by kernel_rfl) rfl (fun _ _ _ h => h) rfl hHeld (fun w hS => by go_simp) ?_
          simp only [List.setIfInBounds_toArray, List.set_cons_zero, List.set_cons_succ]
          refine held_take 29 104 (.pointer (some ⟨wb, q16, none⟩)) rfl (by kernel_rfl) (by kernel_rfl) (by kernel_rfl) rfl (fun _ _ _ h => h) rfl hHeld (fun w hS => by go_simp) ?_
          simp only [List.setIfInBounds_toArray, List.set_cons_zero, List.set_cons_succ]
          refine held_take 30 105 (.int .u32 v) rfl (by kernel_rfl) (by kernel_rfl) (by kernel_rfl) rfl (fun _ _ _ h => h) rfl hHeld (fun w hS => by obtain ⟨-, c', hb', hj'⟩ := hS; have c := hb'.cell (o := q16) ((hj' q16 n16).trans HV16.out); go_simp) ?_
          simp only [List.setIfInBounds_toArray, List.set_cons_zero, List.set_cons_succ]
          refine held_next 3 78 rfl (by kernel_rfl) rfl rfl (fun K hK => ?_)
          go_simp
          refine (right_17 y _).mono ?_
          rintro e _ ⟨rfl, rfl⟩
          have hk := hK.out (.int .u32 (rotl 15 y)) _ (hHeld)
          simp only [Act.put, List.setIfInBounds_toArray, List.set_cons_zero, List.set_cons_succ] at hk
          refine hk (fun hHeld => ?_)
          clear hK hk K
          refine held_next 6 81 rfl (by kernel_rfl) rfl rfl (fun K hK => ?_)
          go_simp
          refine (right_19 y _).mono ?_
          rintro e _ ⟨rfl, rfl⟩
          have hk := hK.out (.int .u32 (rotl 13 y)) _ (hHeld)
          simp only [Act.put, List.setIfInBounds_toArray, List.set_cons_zero, List.set_cons_succ] at hk
          refine hk (fun hHeld => ?_)
          clear hK hk K
          refine held_take 7 82 (.int .u32 (bits .xor .u32 (rotl 15 y) (rotl 13 y))) rfl (by kernel_rfl) (by kernel_rfl) (by kernel_rfl) rfl (fun _ _ _ h => h) rfl hHeld (fun w hS => by go_simp) ?_
          simp only [List.setIfInBounds_toArray, List.set_cons_zero, List.set_cons_succ]
          refine held_take 10 85 (.int .u32 (bits .xor .u32 (bits .xor .u32 (rotl 15 y) (rotl 13 y)) (y / 1024))) rfl (by kernel_rfl) (by kernel_rfl) (by kernel_rfl) rfl (fun _ _ _ h => h) rfl hHeld (fun w hS => by go_simp) ?_
          simp only [List.setIfInBounds_toArray, List.set_cons_zero, List.set_cons_succ]
          refine held_take 15 90 (.int .u32 a90) rfl (by kernel_rfl) (by kernel_rfl) (by kernel_rfl) rfl (fun _ _ _ h => h) rfl hHeld (fun w hS => by go_simp) ?_
          simp only [List.setIfInBounds_toArray, List.set_cons_zero, List.set_cons_succ]
          refine held_next 18 93 rfl (by kernel_rfl) rfl rfl (fun K hK => ?_)
          go_simp
          refine (right_7 x _).mono ?_
          rintro e _ ⟨rfl, rfl⟩
          have hk := hK.out (.int .u32 (rotl 25 x)) _ (hHeld)
          simp only [Act.put, List.setIfInBounds_toArray, List.set_cons_zero, List.set_cons_succ] at hk
          refine hk (fun hHeld => ?_)
          clear hK hk K
          refine held_next 21 96 rfl (by kernel_rfl) rfl rfl (fun K hK => ?_)
          go_simp
          refine (right_18 x _).mono ?_
          rintro e _ ⟨rfl, rfl⟩
          have hk := hK.out (.int .u32 (rotl 14 x)) _ (hHeld)
          simp only [Act.put, List.setIfInBounds_toArray, List.set_cons_zero, List.set_cons_succ] at hk
          refine hk (fun hHeld => ?_)
          clear hK hk K
          refine held_take 22 97 (.int .u32 (bits .xor .u32 (rotl 25 x) (rotl 14 x))) rfl (by kernel_rfl) (by kernel_rfl) (by kernel_rfl) rfl (fun _ _ _ h => h) rfl hHeld (fun w hS => by go_simp) ?_
          simp only [List.setIfInBounds_toArray, List.set_cons_zero, List.set_cons_succ]
          refine held_take 25 100 (.int .u32 (bits .xor .u32 (bits .xor .u32 (rotl 25 x) (rotl 14 x)) (x / 8))) rfl (by kernel_rfl) (by kernel_rfl) (by kernel_rfl) rfl (fun _ _ _ h => h) rfl hHeld (fun w hS => by go_simp) ?_
          simp only [List.setIfInBounds_toArray, List.set_cons_zero, List.set_cons_succ]
          refine held_take 26 101 (.int .u32 a101) rfl (by kernel_rfl) (by kernel_rfl) (by kernel_rfl) rfl (fun _ _ _ h => h) rfl hHeld (fun w hS => by go_simp) ?_
          simp only [List.setIfInBounds_toArray, List.set_cons_zero, List.set_cons_succ]
          refine held_take 31 106 (.int .u32 a106) rfl (by kernel_rfl) (by kernel_rfl) (by kernel_rfl) rfl (fun _ _ _ h => h) rfl hHeld (fun w hS => by go_simp) ?_
          simp only [List.setIfInBounds_toArray, List.set_cons_zero, List.set_cons_succ]
          refine held_take 32 107 (.pointer (some ⟨wb, t, none⟩)) rfl (by kernel_rfl) (by kernel_rfl) (by kernel_rfl) rfl (fun _ _ _ h => h) rfl hHeld (fun w hS => by go_simp) ?_
          simp only [List.setIfInBounds_toArray, List.set_cons_zero, List.set_cons_succ]
          refine held_store 33 rfl (by kernel_rfl) rfl rfl (fun K hK => ?_)
          have hcl := HW2.out.drew.cell (o := t) (U32_get _ t htl)
          have hfr := HW2.out.drew.free t
          go_simp
          have hk := hK.out _ ⟨(((Upd.refl [wb] wd).drew).setCell (p := ⟨wb, t, none⟩) (.inl (by simp)) (.int .u32 a106)), _, HW2.out.drew.set t _, fun j hj => by simp [Array.getElem?_setIfInBounds, Ne.symm hj]⟩
          refine hk (fun hHeld => ?_)
          clear hK hk K
          refine held_done (by kernel_rfl) ?_
          have hnew := HW2.out.drew.set t (.int .u32 (nextW W t))
          rw [U32_set] at hnew
          have HNEW : Hid (Blk _ wb (U32 (schedF b (m + 1))) 70) := Lib.hid (by rw [schedF, ← HWE.out, ← HT.out]; exact hnew)
          have hex : a106 = nextW W t := HA6.out
          rw [hex]
          have HUN := Lib.hid (HU2.out.trans (((Upd.refl [wb] wd).drew).setCell (p := ⟨wb, t, none⟩) (.inl (by simp)) (.int .u32 (nextW W t))))
          clear hnew hHeld hex
          go_wp2_with fail
          go_roundw
          case rel => exact ⟨m + 1, t + 1, by have := HT.out; omega, by omega, by go_num, HNEW.out, HUN.out⟩
          case measure => have := HT.out; simp [intOf]; omega
        · obtain rfl : m = 48 := by omega
          obtain rfl : t = 64 := ht
          clear hlt hm
          rw [show ((64 : Nat) : Int) = 64 from rfl]
          obtain ⟨W, hWe⟩ : ∃ W, W = schedF b 48 := ⟨_, rfl⟩
          have hWl : W.length = 64 := by rw [hWe]; exact schedF_len b 48
          rw [← hWe] at HW
          have HWE := Lib.hid hWe
          have hs8 := HSL.out
          have HSS : Hid (∀ w', Upd [] wr w' → Blk w' sb (U32 s) 73) := Lib.hid (fun w' hu' => (HS1.out.upd HU.out (by simp; exact fun e => hws e.symm)).upd hu' (by simp))
          obtain ⟨e0, he0⟩ : ∃ x, x = s.getD 0 0 := ⟨_, rfl⟩
          have HE0 : Hid ((U32 s)[0]? = some (.int .u32 e0)) := Lib.hid (by rw [he0]; exact U32_get _ _ (by omega))
          have HEQ0 := Lib.hid he0
          obtain ⟨e1, he1⟩ : ∃ x, x = s.getD 1 0 := ⟨_, rfl⟩
          have HE1 : Hid ((U32 s)[1]? = some (.int .u32 e1)) := Lib.hid (by rw [he1]; exact U32_get _ _ (by omega))
          have HEQ1 := Lib.hid he1
          obtain ⟨e2, he2⟩ : ∃ x, x = s.getD 2 0 := ⟨_, rfl⟩
          have HE2 : Hid ((U32 s)[2]? = some (.int .u32 e2)) := Lib.hid (by rw [he2]; exact U32_get _ _ (by omega))
          have HEQ2 := Lib.hid he2
          obtain ⟨e3, he3⟩ : ∃ x, x = s.getD 3 0 := ⟨_, rfl⟩
          have HE3 : Hid ((U32 s)[3]? = some (.int .u32 e3)) := Lib.hid (by rw [he3]; exact U32_get _ _ (by omega))
          have HEQ3 := Lib.hid he3
          obtain ⟨e4, he4⟩ : ∃ x, x = s.getD 4 0 := ⟨_, rfl⟩
          have HE4 : Hid ((U32 s)[4]? = some (.int .u32 e4)) := Lib.hid (by rw [he4]; exact U32_get _ _ (by omega))
          have HEQ4 := Lib.hid he4
          obtain ⟨e5, he5⟩ : ∃ x, x = s.getD 5 0 := ⟨_, rfl⟩
          have HE5 : Hid ((U32 s)[5]? = some (.int .u32 e5)) := Lib.hid (by rw [he5]; exact U32_get _ _ (by omega))
          have HEQ5 := Lib.hid he5
          obtain ⟨e6, he6⟩ : ∃ x, x = s.getD 6 0 := ⟨_, rfl⟩
          have HE6 : Hid ((U32 s)[6]? = some (.int .u32 e6)) := Lib.hid (by rw [he6]; exact U32_get _ _ (by omega))
          have HEQ6 := Lib.hid he6
          obtain ⟨e7, he7⟩ : ∃ x, x = s.getD 7 0 := ⟨_, rfl⟩
          have HE7 : Hid ((U32 s)[7]? = some (.int .u32 e7)) := Lib.hid (by rw [he7]; exact U32_get _ _ (by omega))
          have HEQ7 := Lib.hid he7
          clear hWe hs8 he0 he1 he2 he3 he4 he5 he6 he7
          go_upto_region 13 with fail
          refine held_start (fun w' => Upd [] wr w') 24 mixed rfl ((Upd.refl _ _).drew) (fun hHeld => ?_)
          refine held_take 0 108 (.pointer (some ⟨sb, 0, none⟩)) rfl (by kernel_rfl) (by kernel_rfl) (by kernel_rfl) rfl (fun _ _ _ h => h) rfl hHeld (fun w hS => by go_simp) ?_
          simp only [List.setIfInBounds_toArray, List.set_cons_zero, List.set_cons_succ]
          refine held_take 1 109 (.int .u32 e0) rfl (by kernel_rfl) (by kernel_rfl) (by kernel_rfl) rfl (fun _ _ _ h => h) rfl hHeld (fun w hS => by have c : w.cell? ⟨sb, 0, none⟩ = some _ := (HSS.out w hS).cell (o := 0) HE0.out; go_simp) ?_
          simp only [List.setIfInBounds_toArray, List.set_cons_zero, List.set_cons_succ]
          refine held_take 2 110 (.pointer (some ⟨sb, 1, none⟩)) rfl (by kernel_rfl) (by kernel_rfl) (by kernel_rfl) rfl (fun _ _ _ h => h) rfl hHeld (fun w hS => by go_simp) ?_
          simp only [List.setIfInBounds_toArray, List.set_cons_zero, List.set_cons_succ]
          refine held_take 3 111 (.int .u32 e1) rfl (by kernel_rfl) (by kernel_rfl) (by kernel_rfl) rfl (fun _ _ _ h => h) rfl hHeld (fun w hS => by have c : w.cell? ⟨sb, 1, none⟩ = some _ := (HSS.out w hS).cell (o := 1) HE1.out; go_simp) ?_
          simp only [List.setIfInBounds_toArray, List.set_cons_zero, List.set_cons_succ]
          refine held_take 4 112 (.pointer (some ⟨sb, 2, none⟩)) rfl (by kernel_rfl) (by kernel_rfl) (by kernel_rfl) rfl (fun _ _ _ h => h) rfl hHeld (fun w hS => by go_simp) ?_
          simp only [List.setIfInBounds_toArray, List.set_cons_zero, List.set_cons_succ]
          refine held_take 5 113 (.int .u32 e2) rfl (by kernel_rfl) (by kernel_rfl) (by kernel_rfl) rfl (fun _ _ _ h => h) rfl hHeld (fun w hS => by have c : w.cell? ⟨sb, 2, none⟩ = some _ := (HSS.out w hS).cell (o := 2) HE2.out; go_simp) ?_
          simp only [List.setIfInBounds_toArray, List.set_cons_zero, List.set_cons_succ]
          refine held_take 6 114 (.pointer (some ⟨sb, 3, none⟩)) rfl (by kernel_rfl) (by kernel_rfl) (by kernel_rfl) rfl (fun _ _ _ h => h) rfl hHeld (fun w hS => by go_simp) ?_
          simp only [List.setIfInBounds_toArray, List.set_cons_zero, List.set_cons_succ]
          refine held_take 7 115 (.int .u32 e3) rfl (by kernel_rfl) (by kernel_rfl) (by kernel_rfl) rfl (fun _ _ _ h => h) rfl hHeld (fun w hS => by have c : w.cell? ⟨sb, 3, none⟩ = some _ := (HSS.out w hS).cell (o := 3) HE3.out; go_simp) ?_
          simp only [List.setIfInBounds_toArray, List.set_cons_zero, List.set_cons_succ]
          refine held_take 8 116 (.pointer (some ⟨sb, 4, none⟩)) rfl (by kernel_rfl) (by kernel_rfl) (by kernel_rfl) rfl (fun _ _ _ h => h) rfl hHeld (fun w hS => by go_simp) ?_
          simp only [List.setIfInBounds_toArray, List.set_cons_zero, List.set_cons_succ]
          refine held_take 9 117 (.int .u32 e4) rfl (by kernel_rfl) (by kernel_rfl) (by kernel_rfl) rfl (fun _ _ _ h => h) rfl hHeld (fun w hS => by have c : w.cell? ⟨sb, 4, none⟩ = some _ := (HSS.out w hS).cell (o := 4) HE4.out; go_simp) ?_
          simp only [List.setIfInBounds_toArray, List.set_cons_zero, List.set_cons_succ]
          refine held_take 10 118 (.pointer (some ⟨sb, 5, none⟩)) rfl (by kernel_rfl) (by kernel_rfl) (by kernel_rfl) rfl (fun _ _ _ h => h) rfl hHeld (fun w hS => by go_simp) ?_
          simp only [List.setIfInBounds_toArray, List.set_cons_zero, List.set_cons_succ]
          refine held_take 11 119 (.int .u32 e5) rfl (by kernel_rfl) (by kernel_rfl) (by kernel_rfl) rfl (fun _ _ _ h => h) rfl hHeld (fun w hS => by have c : w.cell? ⟨sb, 5, none⟩ = some _ := (HSS.out w hS).cell (o := 5) HE5.out; go_simp) ?_
          simp only [List.setIfInBounds_toArray, List.set_cons_zero, List.set_cons_succ]
          refine held_take 12 120 (.pointer (some ⟨sb, 6, none⟩)) rfl (by kernel_rfl) (by kernel_rfl) (by kernel_rfl) rfl (fun _ _ _ h => h) rfl hHeld (fun w hS => by go_simp) ?_
          simp only [List.setIfInBounds_toArray, List.set_cons_zero, List.set_cons_succ]
          refine held_take 13 121 (.int .u32 e6) rfl (by kernel_rfl) (by kernel_rfl) (by kernel_rfl) rfl (fun _ _ _ h => h) rfl hHeld (fun w hS => by have c : w.cell? ⟨sb, 6, none⟩ = some _ := (HSS.out w hS).cell (o := 6) HE6.out; go_simp) ?_
          simp only [List.setIfInBounds_toArray, List.set_cons_zero, List.set_cons_succ]
          refine held_take 14 122 (.pointer (some ⟨sb, 7, none⟩)) rfl (by kernel_rfl) (by kernel_rfl) (by kernel_rfl) rfl (fun _ _ _ h => h) rfl hHeld (fun w hS => by go_simp) ?_
          simp only [List.setIfInBounds_toArray, List.set_cons_zero, List.set_cons_succ]
          refine held_take 15 123 (.int .u32 e7) rfl (by kernel_rfl) (by kernel_rfl) (by kernel_rfl) rfl (fun _ _ _ h => h) rfl hHeld (fun w hS => by have c : w.cell? ⟨sb, 7, none⟩ = some _ := (HSS.out w hS).cell (o := 7) HE7.out; go_simp) ?_
          simp only [List.setIfInBounds_toArray, List.set_cons_zero, List.set_cons_succ]
          refine held_take 16 13 (.int .u32 e0) rfl (by kernel_rfl) (by kernel_rfl) (by kernel_rfl) rfl (fun _ _ _ h => h) rfl hHeld (fun w hS => by rfl) ?_
          simp only [List.setIfInBounds_toArray, List.set_cons_zero, List.set_cons_succ]
          refine held_take 17 14 (.int .u32 e1) rfl (by kernel_rfl) (by kernel_rfl) (by kernel_rfl) rfl (fun _ _ _ h => h) rfl hHeld (fun w hS => by rfl) ?_
          simp only [List.setIfInBounds_toArray, List.set_cons_zero, List.set_cons_succ]
          refine held_take 18 15 (.int .u32 e2) rfl (by kernel_rfl) (by kernel_rfl) (by kernel_rfl) rfl (fun _ _ _ h => h) rfl hHeld (fun w hS => by rfl) ?_
          simp only [List.setIfInBounds_toArray, List.set_cons_zero, List.set_cons_succ]
          refine held_take 19 16 (.int .u32 e3) rfl (by kernel_rfl) (by kernel_rfl) (by kernel_rfl) rfl (fun _ _ _ h => h) rfl hHeld (fun w hS => by rfl) ?_
          simp only [List.setIfInBounds_toArray, List.set_cons_zero, List.set_cons_succ]
          refine held_take 20 17 (.int .u32 e4) rfl (by kernel_rfl) (by kernel_rfl) (by kernel_rfl) rfl (fun _ _ _ h => h) rfl hHeld (fun w hS => by rfl) ?_
          simp only [List.setIfInBounds_toArray, List.set_cons_zero, List.set_cons_succ]
          refine held_take 21 18 (.int .u32 e5) rfl (by kernel_rfl) (by kernel_rfl) (by kernel_rfl) rfl (fun _ _ _ h => h) rfl hHeld (fun w hS => by rfl) ?_
          simp only [List.setIfInBounds_toArray, List.set_cons_zero, List.set_cons_succ]
          refine held_take 22 19 (.int .u32 e6) rfl (by kernel_rfl) (by kernel_rfl) (by kernel_rfl) rfl (fun _ _ _ h => h) rfl hHeld (fun w hS => by rfl) ?_
          simp only [List.setIfInBounds_toArray, List.set_cons_zero, List.set_cons_succ]
          refine held_take 23 20 (.int .u32 e7) rfl (by kernel_rfl) (by kernel_rfl) (by kernel_rfl) rfl (fun _ _ _ h => h) rfl hHeld (fun w hS => by rfl) ?_
          simp only [List.setIfInBounds_toArray, List.set_cons_zero, List.set_cons_succ]
          refine held_done (by kernel_rfl) ?_
          obtain ⟨w8, hw8⟩ : ∃ x, x = wr.drew := ⟨_, rfl⟩
          rw [← hw8] at hHeld ⊢
          have HW8 := Lib.hid (HW.out.upd hHeld (by simp))
          have HU8 := Lib.hid (HU.out.trans (hHeld.mono (by simp)))
          have HSS8 := Lib.hid (HSS.out w8 hHeld)
          clear hw8 hHeld HW HU HSS
          go_upto_region 15 with fail
          go_loopw [13, 14, 15, 16, 17, 18, 19, 20, 124] (fun va vc vd ve vf vg vh vi k wx => ∃ (m : Nat) (R : S8), m ≤ 64 ∧ k = .int .i64 m ∧ R = roundsF K W (toS s) m ∧ va = .int .u32 R.a ∧ vc = .int .u32 R.c ∧ vd = .int .u32 R.d ∧ ve = .int .u32 R.e ∧ vf = .int .u32 R.f ∧ vg = .int .u32 R.g ∧ vh = .int .u32 R.h ∧ vi = .int .u32 R.i ∧ Upd [] w8 wx) (fun _ _ _ _ _ _ _ _ k _ => 64 - (intOf k).toNat)
          case atStart =>
            refine ⟨0, ⟨e0, e1, e2, e3, e4, e5, e6, e7⟩, Nat.zero_le _, rfl, ?_, rfl, rfl, rfl, rfl, rfl, rfl, rfl, rfl, Upd.refl _ _⟩
            rw [HEQ0.out, HEQ1.out, HEQ2.out, HEQ3.out, HEQ4.out, HEQ5.out, HEQ6.out, HEQ7.out]; rfl
          case round =>
            obtain ⟨m, R, hm, rfl, hR, rfl, rfl, rfl, rfl, rfl, rfl, rfl, rfl, hu⟩ := hrel
            have HU := Lib.hid hu
            have HR := Lib.hid hR
            clear hu hR
            obtain ⟨ra, rc, rd, re, rf, rg, rh, ri⟩ := R
            simp only []
            by_cases hlt : m < 64
            · have hkl : m < K.length := by rw [HKL.out]; exact hlt
              obtain ⟨kv, hkv⟩ : ∃ x, x = K.getD m 0 := ⟨_, rfl⟩
              obtain ⟨wv, hwv⟩ : ∃ x, x = W.getD m 0 := ⟨_, rfl⟩
              have HKV : Hid ((U32 K)[m]? = some (.int .u32 kv)) := Lib.hid (by rw [hkv]; exact U32_get _ _ hkl)
              have HWV : Hid ((U32 W)[m]? = some (.int .u32 wv)) := Lib.hid (by rw [hwv]; exact U32_get _ _ (by omega))
              obtain ⟨a139, w139⟩ : ∃ z, IntKind.u32.wrap (ri + (bits .xor .u32 (bits .xor .u32 (rotl 26 rf) (rotl 21 rf)) (rotl 7 rf))) = z := ⟨_, rfl⟩
              obtain ⟨a148, w148⟩ : ∃ z, IntKind.u32.wrap (a139 + (bits .xor .u32 (bits .and .u32 rf rg) (bits .and .u32 (bits .xor .u32 4294967295 rf) rh))) = z := ⟨_, rfl⟩
              obtain ⟨a154, w154⟩ : ∃ z, IntKind.u32.wrap (a148 + kv) = z := ⟨_, rfl⟩
              obtain ⟨a158, w158⟩ : ∃ z, IntKind.u32.wrap (a154 + wv) = z := ⟨_, rfl⟩
              obtain ⟨a181, w181⟩ : ∃ z, IntKind.u32.wrap ((bits .xor .u32 (bits .xor .u32 (rotl 30 ra) (rotl 19 ra)) (rotl 10 ra)) + (bits .xor .u32 (bits .xor .u32 (bits .and .u32 ra rc) (bits .and .u32 ra rd)) (bits .and .u32 rc rd))) = z := ⟨_, rfl⟩
              obtain ⟨a187, w187⟩ : ∃ z, IntKind.u32.wrap (re + a158) = z := ⟨_, rfl⟩
              obtain ⟨a193, w193⟩ : ∃ z, IntKind.u32.wrap (a158 + a181) = z := ⟨_, rfl⟩
              have HRN : Hid ((⟨a193, ra, rc, rd, a187, rf, rg, rh⟩ : S8) = roundsF K W (toS s) (m + 1)) := Lib.hid (by
                have e1 : a158 = t1F ⟨ra, rc, rd, re, rf, rg, rh, ri⟩ kv wv := by rw [← w158, ← w154, ← w148, ← w139, IntKind.wrap_u32', IntKind.wrap_u32', IntKind.wrap_u32', IntKind.wrap_u32']; rfl
                have e2 : a181 = t2F ⟨ra, rc, rd, re, rf, rg, rh, ri⟩ := by rw [← w181, IntKind.wrap_u32']; rfl
                rw [roundsF, ← HR.out, ← hkv, ← hwv]
                unfold roundF
                rw [← e1, ← e2, ← w187, ← w193, IntKind.wrap_u32', IntKind.wrap_u32'])
              have HKX : Hid (∀ w', Upd [] wr w' → Blk w' kb (U32 K) 70) := Lib.hid (fun w' hu' => (((HK3.out.upd HU8.out (by simp; exact fun e => hwk e.symm)).upd HU.out (by simp)).upd hu' (by simp)))
              have HWX : Hid (∀ w', Upd [] wr w' → Blk w' wb (U32 W) 70) := Lib.hid (fun w' hu' => ((HW8.out.upd HU.out (by simp)).upd hu' (by simp)))
              have p0 : (0 : Int) ≤ (m : Int) := by omega
              have p1 : (m : Int) < 64 := by omega
              clear hkv hwv
              go_upto_region 17 with fail
              refine held_start (fun w' => Upd [] wr w') 33 mixed rfl ((Upd.refl _ _).drew) (fun hHeld => ?_)
              refine held_take 0 127 (.int .u32 ri) rfl (by kernel_rfl) (by kernel_rfl) (by kernel_rfl) rfl (fun _ _ _ h => h) rfl hHeld (fun w hS => by rfl) ?_
              simp only [List.setIfInBounds_toArray, List.set_cons_zero, List.set_cons_succ]
              refine held_take 1 128 (.func (.func 41) #[] #[]) rfl (by kernel_rfl) (by kernel_rfl) (by kernel_rfl) rfl (fun _ _ _ h => h) rfl hHeld (fun w hS => by rfl) ?_
              simp only [List.setIfInBounds_toArray, List.set_cons_zero, List.set_cons_succ]
              refine held_take 2 129 (.int .u32 rf) rfl (by kernel_rfl) (by kernel_rfl) (by kernel_rfl) rfl (fun _ _ _ h => h) rfl hHeld (fun w hS => by rfl) ?_
              simp only [List.setIfInBounds_toArray, List.set_cons_zero, List.set_cons_succ]
              refine held_take 4 131 (.func (.func 41) #[] #[]) rfl (by kernel_rfl) (by kernel_rfl) (by kernel_rfl) rfl (fun _ _ _ h => h) rfl hHeld (fun w hS => by rfl) ?_
              simp only [List.setIfInBounds_toArray, List.set_cons_zero, List.set_cons_succ]
              refine held_take 5 132 (.int .u32 rf) rfl (by kernel_rfl) (by kernel_rfl) (by kernel_rfl) rfl (fun _ _ _ h => h) rfl hHeld (fun w hS => by rfl) ?_
              simp only [List.setIfInBounds_toArray, List.set_cons_zero, List.set_cons_succ]
              refine held_take 8 135 (.func (.func 41) #[] #[]) rfl (by kernel_rfl) (by kernel_rfl) (by kernel_rfl) rfl (fun _ _ _ h => h) rfl hHeld (fun w hS => by rfl) ?_
              simp only [List.setIfInBounds_toArray, List.set_cons_zero, List.set_cons_succ]
              refine held_take 9 136 (.int .u32 rf) rfl (by kernel_rfl) (by kernel_rfl) (by kernel_rfl) rfl (fun _ _ _ h => h) rfl hHeld (fun w hS => by rfl) ?_
              simp only [List.setIfInBounds_toArray, List.set_cons_zero, List.set_cons_succ]
              refine held_take 13 140 (.int .u32 rf) rfl (by kernel_rfl) (by kernel_rfl) (by kernel_rfl) rfl (fun _ _ _ h => h) rfl hHeld (fun w hS => by rfl) ?_
              simp only [List.setIfInBounds_toArray, List.set_cons_zero, List.set_cons_succ]
              refine held_take 14 141 (.int .u32 rg) rfl (by kernel_rfl) (by kernel_rfl) (by kernel_rfl) rfl (fun _ _ _ h => h) rfl hHeld (fun w hS => by rfl) ?_
              simp only [List.setIfInBounds_toArray, List.set_cons_zero, List.set_cons_succ]
              refine held_take 15 142 (.int .u32 (bits .and .u32 rf rg)) rfl (by kernel_rfl) (by kernel_rfl) (by kernel_rfl) rfl (fun _ _ _ h => h) rfl hHeld (fun w hS => by go_simp) ?_
              simp only [List.setIfInBounds_toArray, List.set_cons_zero, List.set_cons_succ]
              refine held_take 16 143 (.int .u32 rf) rfl (by kernel_rfl) (by kernel_rfl) (by kernel_rfl) rfl (fun _ _ _ h => h) rfl hHeld (fun w hS => by rfl) ?_
              simp only [List.setIfInBounds_toArray, List.set_cons_zero, List.set_cons_succ]
              refine held_take 17 144 (.int .u32 (bits .xor .u32 4294967295 rf)) rfl (by kernel_rfl) (by kernel_rfl) (by kernel_rfl) rfl (fun _ _ _ h => h) rfl hHeld (fun w hS => by go_simp <;> rfl) ?_
              simp only [List.setIfInBounds_toArray, List.set_cons_zero, List.set_cons_succ]
              refine held_take 18 145 (.int .u32 rh) rfl (by kernel_rfl) (by kernel_rfl) (by kernel_rfl) rfl (fun _ _ _ h => h) rfl hHeld (fun w hS => by rfl) ?_
              simp only [List.setIfInBounds_toArray, List.set_cons_zero, List.set_cons_succ]
              refine held_take 19 146 (.int .u32 (bits .and .u32 (bits .xor .u32 4294967295 rf) rh)) rfl (by kernel_rfl) (by kernel_rfl) (by kernel_rfl) rfl (fun _ _ _ h => h) rfl hHeld (fun w hS => by go_simp) ?_
              simp only [List.setIfInBounds_toArray, List.set_cons_zero, List.set_cons_succ]
              refine held_take 20 147 (.int .u32 (bits .xor .u32 (bits .and .u32 rf rg) (bits .and .u32 (bits .xor .u32 4294967295 rf) rh))) rfl (by kernel_rfl) (by kernel_rfl) (by kernel_rfl) rfl (fun _ _ _ h => h) rfl hHeld (fun w hS => by go_simp) ?_
              simp only [List.setIfInBounds_toArray, List.set_cons_zero, List.set_cons_succ]
              refine held_take 22 149 (.pointer (some ⟨kb, 0, none⟩)) rfl (by kernel_rfl) (by kernel_rfl) (by kernel_rfl) rfl (fun _ _ _ h => h) rfl hHeld (fun w hS => by rfl) ?_
              simp only [List.setIfInBounds_toArray, List.set_cons_zero, List.set_cons_succ]
              refine held_take 23 150 (.int .i64 (m : Nat)) rfl (by kernel_rfl) (by kernel_rfl) (by kernel_rfl) rfl (fun _ _ _ h => h) rfl hHeld (fun w hS => by rfl) ?_
              simp only [List.setIfInBounds_toArray, List.set_cons_zero, List.set_cons_succ]
              refine held_take 24 151 (.pointer (some ⟨kb, 0, none⟩)) rfl (by kernel_rfl) (by kernel_rfl) (by kernel_rfl) rfl (fun _ _ _ h => h) rfl hHeld (fun w hS => by go_simp) ?_
              simp only [List.setIfInBounds_toArray, List.set_cons_zero, List.set_cons_succ]
              refine held_take 25 152 (.pointer (some ⟨kb, m, none⟩)) rfl (by kernel_rfl) (by kernel_rfl) (by kernel_rfl) rfl (fun _ _ _ h => h) rfl hHeld (fun w hS => by go_simp) ?_
              simp only [List.setIfInBounds_toArray, List.set_cons_zero, List.set_cons_succ]
              refine held_take 26 153 (.int .u32 kv) rfl (by kernel_rfl) (by kernel_rfl) (by kernel_rfl) rfl (fun _ _ _ h => h) rfl hHeld (fun w hS => by have c : w.cell? ⟨kb, m, none⟩ = some _ := (HKX.out w hS).cell (o := m) HKV.out; go_simp) ?_
              simp only [List.setIfInBounds_toArray, List.set_cons_zero, List.set_cons_succ]
              refine held_take 28 155 (.int .i64 (m : Nat)) rfl (by kernel_rfl) (by kernel_rfl) (by kernel_rfl) rfl (fun _ _ _ h => h) rfl hHeld (fun w hS => by rfl) ?_
              simp only [List.setIfInBounds_toArray, List.set_cons_zero, List.set_cons_succ]
              refine held_take 29 156 (.pointer (some ⟨wb, m, none⟩)) rfl (by kernel_rfl) (by kernel_rfl) (by kernel_rfl) rfl (fun _ _ _ h => h) rfl hHeld (fun w hS => by go_simp) ?_
              simp only [List.setIfInBounds_toArray, List.set_cons_zero, List.set_cons_succ]
              refine held_take 30 157 (.int .u32 wv) rfl (by kernel_rfl) (by kernel_rfl) (by kernel_rfl) rfl (fun _ _ _ h => h) rfl hHeld (fun w hS => by have c : w.cell? ⟨wb, m, none⟩ = some _ := (HWX.out w hS).cell (o := m) HWV.out; go_simp) ?_
              simp only [List.setIfInBounds_toArray, List.set_cons_zero, List.set_cons_succ]
              refine held_next 3 130 rfl (by kernel_rfl) rfl rfl (fun K hK => ?_)
              go_simp
              refine (right_6 rf _).mono ?_
              rintro e _ ⟨rfl, rfl⟩
              have hk := hK.out (.int .u32 (rotl 26 rf)) _ (hHeld)
              simp only [Act.put, List.setIfInBounds_toArray, List.set_cons_zero, List.set_cons_succ] at hk
              refine hk (fun hHeld => ?_)
              clear hK hk K
              refine held_next 6 133 rfl (by kernel_rfl) rfl rfl (fun K hK => ?_)
              go_simp
              refine (right_11 rf _).mono ?_
              rintro e _ ⟨rfl, rfl⟩
              have hk := hK.out (.int .u32 (rotl 21 rf)) _ (hHeld)
              simp only [Act.put, List.setIfInBounds_toArray, List.set_cons_zero, List.set_cons_succ] at hk
              refine hk (fun hHeld => ?_)
              clear hK hk K
              refine held_take 7 134 (.int .u32 (bits .xor .u32 (rotl 26 rf) (rotl 21 rf))) rfl (by kernel_rfl) (by kernel_rfl) (by kernel_rfl) rfl (fun _ _ _ h => h) rfl hHeld (fun w hS => by go_simp) ?_
              simp only [List.setIfInBounds_toArray, List.set_cons_zero, List.set_cons_succ]
              refine held_next 10 137 rfl (by kernel_rfl) rfl rfl (fun K hK => ?_)
              go_simp
              refine (right_25 rf _).mono ?_
              rintro e _ ⟨rfl, rfl⟩
              have hk := hK.out (.int .u32 (rotl 7 rf)) _ (hHeld)
              simp only [Act.put, List.setIfInBounds_toArray, List.set_cons_zero, List.set_cons_succ] at hk
              refine hk (fun hHeld => ?_)
              clear hK hk K
              refine held_take 11 138 (.int .u32 (bits .xor .u32 (bits .xor .u32 (rotl 26 rf) (rotl 21 rf)) (rotl 7 rf))) rfl (by kernel_rfl) (by kernel_rfl) (by kernel_rfl) rfl (fun _ _ _ h => h) rfl hHeld (fun w hS => by go_simp) ?_
              simp only [List.setIfInBounds_toArray, List.set_cons_zero, List.set_cons_succ]
              refine held_take 12 139 (.int .u32 a139) rfl (by kernel_rfl) (by kernel_rfl) (by kernel_rfl) rfl (fun _ _ _ h => h) rfl hHeld (fun w hS => by go_simp) ?_
              simp only [List.setIfInBounds_toArray, List.set_cons_zero, List.set_cons_succ]
              refine held_take 21 148 (.int .u32 a148) rfl (by kernel_rfl) (by kernel_rfl) (by kernel_rfl) rfl (fun _ _ _ h => h) rfl hHeld (fun w hS => by go_simp) ?_
              simp only [List.setIfInBounds_toArray, List.set_cons_zero, List.set_cons_succ]
              refine held_take 27 154 (.int .u32 a154) rfl (by kernel_rfl) (by kernel_rfl) (by kernel_rfl) rfl (fun _ _ _ h => h) rfl hHeld (fun w hS => by go_simp) ?_
              simp only [List.setIfInBounds_toArray, List.set_cons_zero, List.set_cons_succ]
              refine held_take 31 158 (.int .u32 a158) rfl (by kernel_rfl) (by kernel_rfl) (by kernel_rfl) rfl (fun _ _ _ h => h) rfl hHeld (fun w hS => by go_simp) ?_
              simp only [List.setIfInBounds_toArray, List.set_cons_zero, List.set_cons_succ]
              refine held_take 32 22 (.int .u32 a158) rfl (by kernel_rfl) (by kernel_rfl) (by kernel_rfl) rfl (fun _ _ _ h => h) rfl hHeld (fun w hS => by rfl) ?_
              simp only [List.setIfInBounds_toArray, List.set_cons_zero, List.set_cons_succ]
              refine held_done (by kernel_rfl) ?_
              have HUX := Lib.hid (HU.out.trans hHeld)
              clear hHeld w139 w148 w154 w158
              go_wp2_with (first
                | (go_at_call 41; (with_reducible show Calls _ _ #[_, .int .i64 2] _ _); refine (right_2 ra _).mono ?_; rintro e _ ⟨rfl, rfl⟩)
                | (go_at_call 41; (with_reducible show Calls _ _ #[_, .int .i64 13] _ _); refine (right_13 ra _).mono ?_; rintro e _ ⟨rfl, rfl⟩)
                | (go_at_call 41; (with_reducible show Calls _ _ #[_, .int .i64 22] _ _); refine (right_22 ra _).mono ?_; rintro e _ ⟨rfl, rfl⟩))
              go_roundw
              case rel => exact ⟨m + 1, _, by omega, by go_num, HRN.out, rfl, rfl, rfl, rfl, rfl, rfl, rfl, rfl, HUX.out⟩
              case measure => simp [intOf]; omega
            · obtain rfl : m = 64 := by omega
              clear hlt hm
              have hsx : Blk wr sb (U32 s) 73 := HSS8.out.upd HU.out (by simp)
              have c0 : wr.cell? ⟨sb, 0, none⟩ = some (.int .u32 e0) := hsx.cell (o := 0) HE0.out
              obtain ⟨z0, y0⟩ : ∃ z, IntKind.u32.wrap (e0 + ra) = z := ⟨_, rfl⟩
              have c1 : wr.cell? ⟨sb, 1, none⟩ = some (.int .u32 e1) := hsx.cell (o := 1) HE1.out
              obtain ⟨z1, y1⟩ : ∃ z, IntKind.u32.wrap (e1 + rc) = z := ⟨_, rfl⟩
              have c2 : wr.cell? ⟨sb, 2, none⟩ = some (.int .u32 e2) := hsx.cell (o := 2) HE2.out
              obtain ⟨z2, y2⟩ : ∃ z, IntKind.u32.wrap (e2 + rd) = z := ⟨_, rfl⟩
              have c3 : wr.cell? ⟨sb, 3, none⟩ = some (.int .u32 e3) := hsx.cell (o := 3) HE3.out
              obtain ⟨z3, y3⟩ : ∃ z, IntKind.u32.wrap (e3 + re) = z := ⟨_, rfl⟩
              have c4 : wr.cell? ⟨sb, 4, none⟩ = some (.int .u32 e4) := hsx.cell (o := 4) HE4.out
              obtain ⟨z4, y4⟩ : ∃ z, IntKind.u32.wrap (e4 + rf) = z := ⟨_, rfl⟩
              have c5 : wr.cell? ⟨sb, 5, none⟩ = some (.int .u32 e5) := hsx.cell (o := 5) HE5.out
              obtain ⟨z5, y5⟩ : ∃ z, IntKind.u32.wrap (e5 + rg) = z := ⟨_, rfl⟩
              have c6 : wr.cell? ⟨sb, 6, none⟩ = some (.int .u32 e6) := hsx.cell (o := 6) HE6.out
              obtain ⟨z6, y6⟩ : ∃ z, IntKind.u32.wrap (e6 + rh) = z := ⟨_, rfl⟩
              have c7 : wr.cell? ⟨sb, 7, none⟩ = some (.int .u32 e7) := hsx.cell (o := 7) HE7.out
              obtain ⟨z7, y7⟩ : ∃ z, IntKind.u32.wrap (e7 + ri) = z := ⟨_, rfl⟩
              have HRX : Hid (Blk wr rb (U32 (List.replicate 8 0)) 73) := Lib.hid (((show Blk w3 rb (U32 (List.replicate 8 0)) 73 from HR2.out).upd HU8.out (by simp; exact fun e => hwr e.symm)).upd HU.out (by simp))
              have HOUT : Hid (blockF K s b = [z0, z1, z2, z3, z4, z5, z6, z7]) := Lib.hid (by
                unfold blockF
                rw [← HWE.out, ← HR.out]
                unfold addS
                rw [← HEQ0.out, ← HEQ1.out, ← HEQ2.out, ← HEQ3.out, ← HEQ4.out, ← HEQ5.out, ← HEQ6.out, ← HEQ7.out, ← y0, ← y1, ← y2, ← y3, ← y4, ← y5, ← y6, ← y7]
                simp only [IntKind.wrap_u32'])
              have HUT : Hid (Upd [] w wr) := Lib.hid ((HU3.out.then HU8.out (fun k hk => .inr (by have := HSB.out; simp at hk; omega))).trans HU.out)
              have hrsb := HRSB.out
              clear hsx
              go_wp2_with (first
                | ((with_reducible show wpList _ _ _ (⟨some 227, _, _, _, _, _⟩ :: _) _ _); refine wpList_run rfl (exec_build8 rfl rfl rfl rfl rfl rfl rfl rfl rfl) ?_)
                | (refine wpList_storeA rfl 73 (.tmp 6) (.tmp 227) rfl rfl rfl HRX.out info_state rfl rfl (U32_one _) fun w9 hb9 hu9 hs9 => ?_))
              refine bodyPost_ret (results_state rfl rfl hb9 rfl) rfl ⟨by rw [HOUT.out], HUT.out.then hu9 (fun k hk => .inr ?_)⟩
              have := HSB.out
              simp at hk
              omega
end Go.Proofs.Ytpeboaoephkfhaa
