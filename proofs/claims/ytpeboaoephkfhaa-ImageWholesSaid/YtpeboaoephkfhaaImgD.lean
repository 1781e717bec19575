/- The walk of read: a boot block's boot. (Printed by wip/tools/gen_read.py.) -/
import Derived.Test.YtpeboaoephkfhaaImgC
import Derived.Laws.Cover3
namespace Go.Proofs.Ytpeboaoephkfhaa
open Go.ChangeShapes Go.WideShapes Go.ChangeAt Go.RowKit

/-- These cells lie there, wherever that is. -/
def CellsAt (w : World) (g off : Nat) (cs : List Value) : Prop := ∀ j v, cs[j]? = some v → w.cell? ⟨g, off + j, none⟩ = some v
theorem CellsAt.of_blk {w : World} {g : Nat} {T : TypeId} {c : Array Value} (h : Blk w g c T) : CellsAt w g 0 c.toList := fun j v hj => by
  rw [Nat.zero_add]; exact h.cell (by rw [← Array.getElem?_toList]; exact hj)
section
variable {P : Program} {a : Act} {o : Oper} {w : World}
theorem exec_loadC (ty : TypeId) (x : Operand) (ho : o.op = .load ty x) {g off k : Nat} {cs : List Value} (hx : a.eval x = .pointer (some ⟨g, off, none⟩)) (hc : CellsAt w g off cs)
    (hu : (∃ n e, P.underlying ty = some (.array n e)) ∨ ∃ fs, P.underlying ty = some (.struct fs)) (hi : (P.info? ty).map (·.size) = some k) (hk : cs.length = k) : (execOp a.eval o).run P w = .ok (.value (.agg cs.toArray)) w := by
  have hl := run_loadCells_list (P := P) w ⟨g, off, none⟩ cs (fun j v hv => by
    have hadd : (⟨g, off, none⟩ : Addr).add j = ⟨g, off + j, none⟩ := by unfold Addr.add; split <;> simp_all
    rw [hadd]; exact hc j v hv)
  rw [hk] at hl
  cases hq : P.info? ty with
  | none => simp [hq] at hi
  | some i =>
    have hs : i.size = k := by simpa [hq] using hi
    unfold execOp
    rcases hu with ⟨n, e, hu⟩ | ⟨fs, hu⟩ <;> simp [ho, hx, Instr.loadAt, Instr.sureAddr, loadVar, isAgg, underlying, hu, sizeOf, typeInfo, hq, hs, hl]
end
theorem boot_load {a : Act} {o : Oper} {w : World} {g : Nat} {b : BK} {T : TypeId} (x : Operand) (ho : o.op = .load 40 x) (hx : a.eval x = .pointer (some ⟨g, 0, none⟩)) (hb : Blk w g (encK b).toArray T) (hl : b.whole.length = 32) :
    (execOp a.eval o).run Try.prog w = .ok (.value (.agg (encK b).toArray)) w :=
  exec_loadC (P := Try.prog) 40 x ho hx (CellsAt.of_blk hb) (.inr ⟨_, Try.underlying40⟩) info_boot (encK_len hl)
theorem encK_size {b : BK} (h : b.whole.length = 32) : (encK b).toArray.size = 35 := by rw [List.size_toArray, encK_len h]
theorem encK_one (b : BK) : ∀ v ∈ (encK b).toArray.toList, v.oneCell' = true := by
  intro v hv
  have hv : v ∈ encK b := by simpa using hv
  unfold encK at hv
  rcases List.mem_append.1 hv with h | h
  · simp at h; rcases h with rfl | rfl | rfl <;> rfl
  · obtain ⟨x, -, rfl⟩ := List.mem_map.1 h; rfl
theorem exec_boot {a : Act} {o : Oper} {w : World} {x0 x1 x2 x3 : Operand} {b : BK} (ho : o.op = .build 40 #[(0, x0), (1, x1), (2, x2), (3, x3)])
    (h0 : a.eval x0 = .int .i64 b.area) (h1 : a.eval x1 = .int .i64 b.epoch) (h2 : a.eval x2 = .int .i64 b.size) (h3 : a.eval x3 = .agg (U8 b.whole)) (hl : b.whole.length = 32) :
    (execOp a.eval o).run Try.prog w = .ok (.value (.agg (encK b).toArray)) w := by
  obtain ⟨ar, ep, sz, wh⟩ := b
  obtain ⟨f, hf⟩ : ∃ f : Nat → Int, wh = (List.range 32).map f := ⟨fun i => wh.getD i 0, by
    apply List.ext_getElem?
    intro i
    by_cases hi : i < 32
    · have hi2 : i < wh.length := by have : wh.length = 32 := hl; omega
      rw [List.getElem?_map, List.getElem?_range hi]
      simp [List.getD_eq_getElem?_getD, hi2]
    · have : wh.length = 32 := hl
      rw [List.getElem?_eq_none (by omega), List.getElem?_eq_none (by simp; omega)]⟩
  subst hf
  clear hl
  have hz' := run_zero (P := Try.prog) (w := w) zero_boot
  have hs1 : ∀ w, (sizeOf 3).run Try.prog w = .ok 1 w := by
    intro w
    have h := (by kernel_rfl : (Try.prog.info? 3).map (·.size) = some 1)
    cases hq : (Try.prog).info? 3 with
    | none => simp [hq] at h
    | some i => simp [hq] at h; simp [sizeOf, typeInfo, hq, h]
  have hs2 : ∀ w, (sizeOf 2).run Try.prog w = .ok 1 w := by
    intro w
    have h := (by kernel_rfl : (Try.prog.info? 2).map (·.size) = some 1)
    cases hq : (Try.prog).info? 2 with
    | none => simp [hq] at h
    | some i => simp [hq] at h; simp [sizeOf, typeInfo, hq, h]
  have hs3 : ∀ w, (sizeOf 38).run Try.prog w = .ok 32 w := by
    intro w
    have h := info_32
    cases hq : (Try.prog).info? 38 with
    | none => simp [hq] at h
    | some i => simp [hq] at h; simp [sizeOf, typeInfo, hq, h]
  unfold execOp
  simp only [ho, Instr.build, Sem.run_bind, hz', Result.andThen_ok, underlying]
  have hfill : Instr.fill (fun x => [(0, 1), (1, 1), (2, 1), (3, 32)][x]?) (Value.agg (encK BK.zero).toArray).cells [(0, Value.int .i64 ar), (1, Value.int .i64 ep), (2, Value.int .i64 sz), (3, Value.agg (U8 ((List.range 32).map f)))] = some (encK ⟨ar, ep, sz, (List.range 32).map f⟩).toArray := by kernel_rfl
  simp [Try.underlying40, hs1, hs2, hs3, h0, h1, h2, h3, hfill]
theorem exec_boot0 {a : Act} {o : Oper} {w : World} (ho : o.op = .build 40 #[]) : (execOp a.eval o).run Try.prog w = .ok (.value (.agg (encK BK.zero).toArray)) w := by
  have hz' := run_zero (P := Try.prog) (w := w) zero_boot
  unfold execOp
  simp [ho, Instr.build, hz', underlying, Try.underlying40, Instr.fill, Value.cells]
theorem results_boot {fn : Func} {p q : Tmp} (h : fn.results = #[.cell p 40, .tmp q]) {tmps : Array Value} {w : World} {g : Nat} {T : TypeId} {b : BK} (hp : tmps.getD p undef = .pointer (some ⟨g, 0, none⟩)) (hb : Blk w g (encK b).toArray T) (hl : b.whole.length = 32) :
    (results fn tmps).run Try.prog w = .ok (.tuple #[.agg (encK b).toArray, tmps.getD q undef]) w := by
  rw [results_cell_tmp h, hp]
  have := run_loadVar_row (P := Try.prog) w g T 40 (encK b).toArray (0, 0) _ hb Try.underlying40 rfl (by rw [info_boot, encK_size hl])
  simp [asAddr, Result.andThen, this]

/-- A part of a block. -/
def sl (x : List Int) (i n : Nat) : List Int := (x.drop i).take n
theorem sl_len {x : List Int} {i n : Nat} (h : i + n ≤ x.length) : (sl x i n).length = n := by unfold sl; rw [List.length_take, List.length_drop]; omega
theorem sl_u8 {x : List Int} (h : U8L x) (i n : Nat) : U8L (sl x i n) := fun y hy => h y (List.mem_of_mem_drop (List.mem_of_mem_take hy))
theorem sl_at {w : World} {g i n cap : Nat} {T : TypeId} {x : List Int} (h : Blk w g (U8 x) T) (hn : i + n ≤ x.length) (hc : n ≤ cap) (hm : cap ≤ 64) : BytesAt w (.slice (some ⟨g, i, none⟩) n cap) (sl x i n) :=
  BytesAt.of_blk h n cap hn hc (by unfold maxLen; omega)

theorem exec_toArr {a : Act} {o : Oper} {w : World} {p : Option Addr} {n cap : Nat} (x : Operand) (ho : o.op = .sliceToArrayPointer 38 x) (hx : a.eval x = .slice p n cap) (hn : 32 ≤ n) :
    (execOp a.eval o).run Try.prog w = .ok (.value (.pointer p)) w := by
  have h := run_arrayAt (P := Try.prog) (w := w) 38 _ 32 p n cap Try.underlying38 hn
  unfold execOp
  simp only [ho, hx, Sem.run_bind, h, Result.andThen_ok, Sem.run_pure]

theorem arr_load32At {a : Act} {o : Oper} {w : World} {g off : Nat} {l : List Int} {T : TypeId} (x : Operand) (ho : o.op = .load 38 x) (hx : a.eval x = .pointer (some ⟨g, off, none⟩)) (hb : Blk w g (U8 l) T) (hl : off + 32 ≤ l.length) :
    (execOp a.eval o).run Try.prog w = .ok (.value (.agg (U8 (sl l off 32)))) w := by
  have h := exec_load (P := Try.prog) 38 x ho hx hb Try.underlying38 info_32 (by rw [U8_size]; exact hl)
  have e : (U8 l).extract off (off + 32) = U8 (sl l off 32) := by
    rw [U8_extract, Nat.add_sub_cancel_left]; rfl
  rw [e] at h
  exact h

/-- What a boot block would say. -/
def sayB (x : List Int) : BK := ⟨x.getD 8 0, min (num (sl x 9 8)) 1099511627777, num (sl x 17 4), sl x 21 32⟩
/-- A boot block's boot, and its count. -/
def readB (x : List Int) : BK × Int := if 1099511627776 < num (sl x 0 8) ∨ num (sl x 0 8) ≠ num (sl x 56 8) ∨ num (sl x 53 3) ≠ 0 ∨ (sayB x).may = false then (BK.zero, 0) else (sayB x, num (sl x 0 8))

theorem read_key (x : List Int) : (decide (1099511627776 < num (sl x 0 8)) = true ∧ readB x = (BK.zero, 0)) ∨ (decide (1099511627776 < num (sl x 0 8)) = false ∧ (num (sl x 0 8) != num (sl x 56 8)) = true ∧ readB x = (BK.zero, 0)) ∨
    (decide (1099511627776 < num (sl x 0 8)) = false ∧ (num (sl x 0 8) != num (sl x 56 8)) = false ∧ (num (sl x 53 3) != 0) = true ∧ readB x = (BK.zero, 0)) ∨
    (decide (1099511627776 < num (sl x 0 8)) = false ∧ (num (sl x 0 8) != num (sl x 56 8)) = false ∧ (num (sl x 53 3) != 0) = false ∧ (sayB x).may = false ∧ readB x = (BK.zero, 0)) ∨
    (decide (1099511627776 < num (sl x 0 8)) = false ∧ (num (sl x 0 8) != num (sl x 56 8)) = false ∧ (num (sl x 53 3) != 0) = false ∧ (sayB x).may = true ∧ readB x = (sayB x, num (sl x 0 8))) := by
  unfold readB
  by_cases h1 : 1099511627776 < num (sl x 0 8)
  · left; exact ⟨decide_eq_true h1, if_pos (.inl h1)⟩
  · right
    by_cases h2 : num (sl x 0 8) = num (sl x 56 8)
    · right
      by_cases h3 : num (sl x 53 3) = 0
      · right
        cases h4 : (sayB x).may with
        | false => left; exact ⟨decide_eq_false h1, by simp [h2], by simp [h3], rfl, if_pos (.inr (.inr (.inr rfl)))⟩
        | true => right; exact ⟨decide_eq_false h1, by simp [h2], by simp [h3], rfl, if_neg (by simp [h1, h2, h3]; omega)⟩
      · left; exact ⟨decide_eq_false h1, by simp [h2], by simp [h3], if_pos (.inr (.inr (.inl h3)))⟩
    · left; exact ⟨decide_eq_false h1, by simp [h2], if_pos (.inr (.inl h2))⟩

set_option maxRecDepth 100000 in
set_option maxHeartbeats 4000000 in
theorem read_any' {w : World} {x : List Int} (hx : x.length = 64) (hu8 : U8L x) :
    Calls Try.prog 27 #[.agg (U8 x)] w fun e w' => e = .returned (.tuple #[.agg (encK (readB x).1).toArray, .int .i64 (readB x).2]) ∧ Upd [] w w' := by
  have HX := Lib.hid hx
  have HU := Lib.hid hu8
  obtain ⟨n0, hn0⟩ : ∃ n, n = num (sl x 0 8) := ⟨_, rfl⟩
  obtain ⟨n9, hn9⟩ : ∃ n, n = num (sl x 9 8) := ⟨_, rfl⟩
  obtain ⟨n17, hn17⟩ : ∃ n, n = num (sl x 17 4) := ⟨_, rfl⟩
  obtain ⟨n53, hn53⟩ : ∃ n, n = num (sl x 53 3) := ⟨_, rfl⟩
  obtain ⟨n56, hn56⟩ : ∃ n, n = num (sl x 56 8) := ⟨_, rfl⟩
  obtain ⟨x8, hx8⟩ : ∃ n, n = x.getD 8 0 := ⟨_, rfl⟩
  have b0 := num_bound 8 (sl x 0 8) (sl_len (by omega)) (sl_u8 hu8 _ _)
  have b9 := num_bound 8 (sl x 9 8) (sl_len (by omega)) (sl_u8 hu8 _ _)
  have b17 := num_bound 4 (sl x 17 4) (sl_len (by omega)) (sl_u8 hu8 _ _)
  have bx8 : 0 ≤ x8 ∧ x8 < 256 := by rw [hx8]; exact hu8 _ (by simp [List.getD_eq_getElem?_getD, hx])
  rw [← hn0] at b0
  rw [← hn9] at b9
  rw [← hn17] at b17
  have key := read_key x
  rw [← hn0, ← hn53, ← hn56] at key
  obtain ⟨k, hk⟩ : ∃ b, b = sayB x := ⟨_, rfl⟩
  obtain ⟨R, hR⟩ : ∃ b, b = readB x := ⟨_, rfl⟩
  rw [← hk, ← hR] at key
  rw [← hR]
  have hke : k = ⟨x8, min n9 1099511627777, n17, sl x 21 32⟩ := by rw [hk, hx8, hn9, hn17]; rfl
  have hkw : k.whole.length = 32 := by rw [hke]; exact sl_len (by omega)
  have HKE := Lib.hid hke
  have HKW := Lib.hid hkw
  have HN0 := Lib.hid hn0
  have HN9 := Lib.hid hn9
  have HN17 := Lib.hid hn17
  have HN53 := Lib.hid hn53
  have HN56 := Lib.hid hn56
  have HX8 := Lib.hid hx8
  have HKEY := Lib.hid key
  obtain ⟨w1, hw1⟩ : ∃ w1, w1 = w.alloc (.cells (U8 x) 32) := ⟨_, rfl⟩
  have hb : Blk w1 w.heap.size (U8 x) 32 := by rw [hw1]; exact Blk.new _ _ _
  have hu : Upd [] w w1 := by rw [hw1]; exact (Upd.refl _ _).alloc _
  have hs1 : w1.heap.size = w.heap.size + 1 := by rw [hw1]; simp
  obtain ⟨xb, hxb⟩ : ∃ n, n = w.heap.size := ⟨_, rfl⟩
  rw [← hxb] at hb hs1
  have HB1 := Lib.hid hb
  have HU1 := Lib.hid hu
  have HS1 := Lib.hid hs1
  have HW1 := Lib.hid hw1
  have HXB := Lib.hid hxb
  clear hw1 hb hu hs1 hxb hn0 hn9 hn17 hn53 hn56 hx8 hk hR hke hkw key hx hu8
  go_enter Try.func27, Try.ntmps27
  go_upto_region 1 with (refine wpList_alloc rfl 40 rfl zero_boot fun w2 hb2 hu2 hs2 => ?_)
  rw [← HW1.out, HS1.out] at hb2
  rw [← HW1.out] at hu2
  rw [← HXB.out]
  obtain ⟨rb, hrb⟩ : ∃ n, n = xb + 1 := ⟨_, rfl⟩
  rw [← hrb] at hb2 ⊢
  have hxr : xb ≠ rb := by omega
  have HX2 := Lib.hid (HB1.out.upd hu2 (by simp))
  have HR2 : Hid (Blk w2 rb (encK BK.zero).toArray 40) := Lib.hid hb2
  have HU2 := Lib.hid (HU1.out.trans hu2)
  have HRB := Lib.hid hrb
  clear hb2 hu2 hs2 hrb
  refine held_start (fun w' => Upd [] w2 w') 6 mixed rfl ((Upd.refl _ _).drew) (fun hHeld => ?_)
  refine held_take 0 7 (.slice (some ⟨xb, 0, none⟩) 8 64) rfl (by kernel_rfl) (by kernel_rfl) (by kernel_rfl) rfl (fun _ _ _ h => h) rfl hHeld (fun w hS => by go_simp) ?_
  simp only [List.setIfInBounds_toArray, List.set_cons_zero, List.set_cons_succ]
  refine held_take 2 9 (.slice (some ⟨xb, 9, none⟩) 8 55) rfl (by kernel_rfl) (by kernel_rfl) (by kernel_rfl) rfl (fun _ _ _ h => h) rfl hHeld (fun w hS => by go_simp) ?_
  simp only [List.setIfInBounds_toArray, List.set_cons_zero, List.set_cons_succ]
  refine held_next 1 8 rfl (by kernel_rfl) rfl rfl (fun K hK => ?_)
  go_simp
  refine (number_any (sl_at (i := 0) (n := 8) (cap := 64) (HX2.out.upd hHeld (by simp)) (by rw [HX.out]; omega) (by omega) (by omega)) (sl_u8 HU.out _ _) (by rw [sl_len (by rw [HX.out]; omega)]; omega)).mono ?_
  rw [← HN0.out]
  rintro e _ ⟨rfl, rfl⟩
  have hk := hK.out (.int .u64 n0) _ (hHeld)
  simp only [Act.put, List.setIfInBounds_toArray, List.set_cons_zero, List.set_cons_succ] at hk
  refine hk (fun hHeld => ?_)
  clear hK hk K
  refine held_next 3 10 rfl (by kernel_rfl) rfl rfl (fun K hK => ?_)
  go_simp
  refine (number_any (sl_at (i := 9) (n := 8) (cap := 55) (HX2.out.upd hHeld (by simp)) (by rw [HX.out]; omega) (by omega) (by omega)) (sl_u8 HU.out _ _) (by rw [sl_len (by rw [HX.out]; omega)]; omega)).mono ?_
  rw [← HN9.out]
  rintro e _ ⟨rfl, rfl⟩
  have hk := hK.out (.int .u64 n9) _ (hHeld)
  simp only [Act.put, List.setIfInBounds_toArray, List.set_cons_zero, List.set_cons_succ] at hk
  refine hk (fun hHeld => ?_)
  clear hK hk K
  refine held_take 4 4 (.int .u64 n0) rfl (by kernel_rfl) (by kernel_rfl) (by kernel_rfl) rfl (fun _ _ _ h => h) rfl hHeld (fun w hS => by rfl) ?_
  simp only [List.setIfInBounds_toArray, List.set_cons_zero, List.set_cons_succ]
  refine held_take 5 5 (.int .u64 n9) rfl (by kernel_rfl) (by kernel_rfl) (by kernel_rfl) rfl (fun _ _ _ h => h) rfl hHeld (fun w hS => by rfl) ?_
  simp only [List.setIfInBounds_toArray, List.set_cons_zero, List.set_cons_succ]
  refine held_done (by kernel_rfl) ?_
  obtain ⟨w3, hw3⟩ : ∃ x, x = w2.drew := ⟨_, rfl⟩
  rw [← hw3] at hHeld ⊢
  have HX3 := Lib.hid (HX2.out.upd hHeld (by simp))
  have HR3 := Lib.hid (HR2.out.upd hHeld (by simp))
  have HU3 := Lib.hid (HU2.out.trans hHeld)
  clear hw3 hHeld
  have c8 : (U8 x)[8]? = some (.int .u8 x8) := by rw [HX8.out]; exact U8_get _ _ (by rw [HX.out]; omega)
  have HC8 := Lib.hid c8
  have m0 : IntKind.i64.wrap x8 = x8 := IntWalk.i64_in _ (by omega)
  obtain ⟨mn, hmn⟩ : ∃ z, z = min n9 1099511627777 := ⟨_, rfl⟩
  have HMN := Lib.hid hmn
  have m1 : IntKind.i64.wrap mn = mn := IntWalk.i64_in _ (by omega)
  have m2 : IntKind.i64.wrap n17 = n17 := IntWalk.i64_in _ (by omega)
  clear hmn c8
  go_upto_region 2 with fail
  refine held_start (fun w' => Upd [] w3 w') 15 mixed8 rfl ((Upd.refl _ _).drew) (fun hHeld => ?_)
  refine held_take 0 11 (.pointer (some ⟨xb, 8, none⟩)) rfl (by kernel_rfl) (by kernel_rfl) (by kernel_rfl) rfl (fun _ _ _ h => h) rfl hHeld (fun w hS => by go_simp) ?_
  simp only [List.setIfInBounds_toArray, List.set_cons_zero, List.set_cons_succ]
  refine held_take 1 12 (.int .u8 x8) rfl (by kernel_rfl) (by kernel_rfl) (by kernel_rfl) rfl (fun _ _ _ h => h) rfl hHeld (fun w hS => by have c : w.cell? ⟨xb, 8, none⟩ = some _ := (HX3.out.upd hS (by simp)).cell (o := 8) HC8.out; go_simp) ?_
  simp only [List.setIfInBounds_toArray, List.set_cons_zero, List.set_cons_succ]
  refine held_take 2 13 (.int .i64 x8) rfl (by kernel_rfl) (by kernel_rfl) (by kernel_rfl) rfl (fun _ _ _ h => h) rfl hHeld (fun w hS => by go_simp) ?_
  simp only [List.setIfInBounds_toArray, List.set_cons_zero, List.set_cons_succ]
  refine held_take 3 14 (.int .u64 n9) rfl (by kernel_rfl) (by kernel_rfl) (by kernel_rfl) rfl (fun _ _ _ h => h) rfl hHeld (fun w hS => by rfl) ?_
  simp only [List.setIfInBounds_toArray, List.set_cons_zero, List.set_cons_succ]
  refine held_take 4 15 (.int .u64 mn) rfl (by kernel_rfl) (by kernel_rfl) (by kernel_rfl) rfl (fun _ _ _ h => h) rfl hHeld (fun w hS => by rw [HMN.out]; exact exec_min (.tmp 14) (.const (.int .u64 1099511627777)) rfl rfl rfl) ?_
  simp only [List.setIfInBounds_toArray, List.set_cons_zero, List.set_cons_succ]
  refine held_take 5 16 (.int .i64 mn) rfl (by kernel_rfl) (by kernel_rfl) (by kernel_rfl) rfl (fun _ _ _ h => h) rfl hHeld (fun w hS => by go_simp) ?_
  simp only [List.setIfInBounds_toArray, List.set_cons_zero, List.set_cons_succ]
  refine held_take 6 17 (.slice (some ⟨xb, 17, none⟩) 4 47) rfl (by kernel_rfl) (by kernel_rfl) (by kernel_rfl) rfl (fun _ _ _ h => h) rfl hHeld (fun w hS => by go_simp) ?_
  simp only [List.setIfInBounds_toArray, List.set_cons_zero, List.set_cons_succ]
  refine held_take 9 20 (.slice (some ⟨xb, 21, none⟩) 32 43) rfl (by kernel_rfl) (by kernel_rfl) (by kernel_rfl) rfl (fun _ _ _ h => h) rfl hHeld (fun w hS => by go_simp) ?_
  simp only [List.setIfInBounds_toArray, List.set_cons_zero, List.set_cons_succ]
  refine held_take 10 21 (.pointer (some ⟨xb, 21, none⟩)) rfl (by kernel_rfl) (by kernel_rfl) (by kernel_rfl) rfl (fun _ _ _ h => h) rfl hHeld (fun w hS => by exact exec_toArr (.tmp 20) rfl rfl (by omega)) ?_
  simp only [List.setIfInBounds_toArray, List.set_cons_zero, List.set_cons_succ]
  refine held_take 11 22 (.agg (U8 (sl x 21 32))) rfl (by kernel_rfl) (by kernel_rfl) (by kernel_rfl) rfl (fun _ _ _ h => h) rfl hHeld (fun w hS => by exact arr_load32At (.tmp 21) rfl rfl (HX3.out.upd hS (by simp)) (by rw [HX.out]; omega)) ?_
  simp only [List.setIfInBounds_toArray, List.set_cons_zero, List.set_cons_succ]
  refine wpAnyH_ready (rs := [7, 13]) (by kernel_rfl) (by simp) ?_
  have HK2 : Hid (k = ⟨x8, mn, n17, sl x 21 32⟩) := Lib.hid (by rw [HKE.out, HMN.out])
  refine held_cons 7 18 rfl rfl rfl (fun K hK => ?_) (held_cons 13 6 rfl rfl rfl (fun K hK => ?_) AllReadyH.nil)
  · go_simp
    refine (number_any (sl_at (i := 17) (n := 4) (cap := 47) (HX3.out.upd hHeld (by simp)) (by rw [HX.out]; omega) (by omega) (by omega)) (sl_u8 HU.out _ _) (by rw [sl_len (by rw [HX.out]; omega)]; omega)).mono ?_
    rw [← HN17.out]
    rintro e _ ⟨rfl, rfl⟩
    have hk := hK.out (.int .u64 n17) _ hHeld
    simp only [Act.put, List.setIfInBounds_toArray, List.set_cons_zero, List.set_cons_succ] at hk
    refine hk (fun hHeld => ?_)
    clear hK hk K
    refine held_take 8 19 (.int .i64 n17) rfl (by kernel_rfl) (by kernel_rfl) (by kernel_rfl) rfl (fun _ _ _ h => h) rfl hHeld (fun w hS => by go_simp) ?_
    simp only [List.setIfInBounds_toArray, List.set_cons_zero, List.set_cons_succ]
    refine held_take 12 23 (.agg (encK k).toArray) rfl (by kernel_rfl) (by kernel_rfl) (by kernel_rfl) rfl (fun _ _ _ h => h) rfl hHeld (fun w hS => by rw [HK2.out]; exact exec_boot (b := ⟨x8, mn, n17, sl x 21 32⟩) rfl rfl rfl rfl rfl (sl_len (by rw [HX.out]; omega))) ?_
    simp only [List.setIfInBounds_toArray, List.set_cons_zero, List.set_cons_succ]
    refine held_next 13 6 rfl (by kernel_rfl) rfl rfl (fun K hK => ?_)
    refine wp_run (exec_alloc 40 rfl zero_boot) ?_
    have hk := hK.out (.pointer (some ⟨w3.drew.heap.size, 0, none⟩)) _ (hHeld.alloc (.cells (encK BK.zero).toArray 40))
    refine hk (fun hHeld => ?_)
    clear hK hk K
    simp only [List.setIfInBounds_toArray, List.set_cons_zero, List.set_cons_succ]
    have hbx : Blk (w3.drew.alloc (.cells (encK BK.zero).toArray 40)) w3.drew.heap.size (encK BK.zero).toArray 40 := Blk.new _ _ _
    obtain ⟨w6, hw6⟩ : ∃ x, x = w3.drew.alloc (.cells (encK BK.zero).toArray 40) := ⟨_, rfl⟩
    have hg6 : w3.heap.size ≤ w3.drew.heap.size := Nat.le_refl _
    obtain ⟨b6, hb6⟩ : ∃ x, x = w3.drew.heap.size := ⟨_, rfl⟩
    rw [← hw6, ← hb6] at hbx
    rw [← hw6] at hHeld ⊢
    rw [← hb6] at hg6 ⊢
    have HB6 := Lib.hid hbx
    have HG6 := Lib.hid hg6
    clear hw6 hb6 hbx hg6
    refine held_store 14 rfl (by kernel_rfl) rfl rfl (fun K hK => ?_)
    refine wp_runU (exec_store (P := Try.prog) (off := 0) 40 (.tmp 6) (.tmp 23) rfl rfl rfl HB6.out info_boot (encK_size HKW.out) (by rw [encK_size (show BK.zero.whole.length = 32 from zer32_len)]; omega) (encK_one k)) ?_
    have hsp : (splice (encK BK.zero).toArray.toList 0 (encK k).toArray.toList).toArray = (encK k).toArray := by rw [splice_all (by simp [encK_len HKW.out, encK_len (show BK.zero.whole.length = 32 from zer32_len)]), Array.toArray_toList]
    rw [hsp]
    have hbf := setRow_blk HB6.out (encK k).toArray
    have hst := setRow_upd hHeld (g := b6) (.inr HG6.out) (encK k).toArray
    have hk := hK.out _ hst
    refine hk (fun hHeld => ?_)
    clear hK hk K hsp hst
    have HBF := Lib.hid hbf
    clear hbf
    refine held_done (by kernel_rfl) ?_
    obtain ⟨w9, hw9⟩ : ∃ z, z = w6.setRow b6 (encK k).toArray := ⟨_, rfl⟩
    rw [← hw9] at HBF hHeld ⊢
    have HX9 := Lib.hid (HX3.out.upd hHeld (by simp))
    have HR9 := Lib.hid (HR3.out.upd hHeld (by simp))
    have HU9 := Lib.hid (HU3.out.trans hHeld)
    have hrb6 : b6 ≠ rb := by have h1 := HR3.out.lt; have h2 := HG6.out; omega
    clear hw9 hHeld
    rcases HKEY.out with ⟨k1, k2⟩ | ⟨k1, k2, k3⟩ | ⟨k1, k2, k3, k4⟩ | ⟨k1, k2, k3, k4, k5⟩ | ⟨k1, k2, k3, k4, k5⟩
    · have HRE := Lib.hid k2
      clear k2
      go_wp2_with (first
        | (go_at_call 28; refine (may_any k _).mono ?_; rw [HMAY.out]; rintro e w10 ⟨rfl, hu10⟩
           have HR9 := Lib.hid (HR9.out.upd hu10 (by simp))
           have HU9 := Lib.hid (HU9.out.trans hu10)
           clear hu10)
        | ((with_reducible show wpList _ _ _ (⟨some 38, _, _, _, _, _⟩ :: _) _ _); refine wpList_runW rfl (boot_load (.tmp 6) rfl rfl HBF.out HKW.out) ?_)
        | (go_at_call 39; (with_reducible show Calls _ _ #[.slice (some ⟨_, 56, _⟩) _ _] _ _); refine (number_any (sl_at (i := 56) (n := 8) (cap := 8) HX9.out (by rw [HX.out]; omega) (by omega) (by omega)) (sl_u8 HU.out _ _) (by rw [sl_len (by rw [HX.out]; omega)]; omega)).mono ?_; rw [← HN56.out]; rintro e _ ⟨rfl, rfl⟩)
        | (go_at_call 39; (with_reducible show Calls _ _ #[.slice (some ⟨_, 53, _⟩) _ _] _ _); refine (number_any (sl_at (i := 53) (n := 3) (cap := 11) HX9.out (by rw [HX.out]; omega) (by omega) (by omega)) (sl_u8 HU.out _ _) (by rw [sl_len (by rw [HX.out]; omega)]; omega)).mono ?_; rw [← HN53.out]; rintro e _ ⟨rfl, rfl⟩)
        | ((with_reducible show wpList _ _ _ (⟨some 42, _, _, _, _, _⟩ :: _) _ _); refine wpList_run rfl (exec_boot0 rfl) ?_)
        | (refine wpList_storeA rfl 40 (.tmp 2) (.tmp 42) rfl rfl rfl HR9.out info_boot (encK_size zer32_len) (encK_size zer32_len) (encK_one _) fun w11 hb11 hu11 hs11 => ?_))
      refine bodyPost_ret (results_boot (b := BK.zero) rfl rfl hb11 zer32_len) rfl ⟨by rw [HRE.out]; rfl, HU9.out.then hu11 (fun q hq => .inr (by have h1 := HRB.out; have h2 := HXB.out; simp at hq; omega))⟩
    · have HRE := Lib.hid k3
      clear k3
      go_wp2_with (first
        | (go_at_call 28; refine (may_any k _).mono ?_; rw [HMAY.out]; rintro e w10 ⟨rfl, hu10⟩
           have HR9 := Lib.hid (HR9.out.upd hu10 (by simp))
           have HU9 := Lib.hid (HU9.out.trans hu10)
           clear hu10)
        | ((with_reducible show wpList _ _ _ (⟨some 38, _, _, _, _, _⟩ :: _) _ _); refine wpList_runW rfl (boot_load (.tmp 6) rfl rfl HBF.out HKW.out) ?_)
        | (go_at_call 39; (with_reducible show Calls _ _ #[.slice (some ⟨_, 56, _⟩) _ _] _ _); refine (number_any (sl_at (i := 56) (n := 8) (cap := 8) HX9.out (by rw [HX.out]; omega) (by omega) (by omega)) (sl_u8 HU.out _ _) (by rw [sl_len (by rw [HX.out]; omega)]; omega)).mono ?_; rw [← HN56.out]; rintro e _ ⟨rfl, rfl⟩)
        | (go_at_call 39; (with_reducible show Calls _ _ #[.slice (some ⟨_, 53, _⟩) _ _] _ _); refine (number_any (sl_at (i := 53) (n := 3) (cap := 11) HX9.out (by rw [HX.out]; omega) (by omega) (by omega)) (sl_u8 HU.out _ _) (by rw [sl_len (by rw [HX.out]; omega)]; omega)).mono ?_; rw [← HN53.out]; rintro e _ ⟨rfl, rfl⟩)
        | ((with_reducible show wpList _ _ _ (⟨some 42, _, _, _, _, _⟩ :: _) _ _); refine wpList_run rfl (exec_boot0 rfl) ?_)
        | (refine wpList_storeA rfl 40 (.tmp 2) (.tmp 42) rfl rfl rfl HR9.out info_boot (encK_size zer32_len) (encK_size zer32_len) (encK_one _) fun w11 hb11 hu11 hs11 => ?_))
      refine bodyPost_ret (results_boot (b := BK.zero) rfl rfl hb11 zer32_len) rfl ⟨by rw [HRE.out]; rfl, HU9.out.then hu11 (fun q hq => .inr (by have h1 := HRB.out; have h2 := HXB.out; simp at hq; omega))⟩
    · have HRE := Lib.hid k4
      clear k4
      go_wp2_with (first
        | (go_at_call 28; refine (may_any k _).mono ?_; rw [HMAY.out]; rintro e w10 ⟨rfl, hu10⟩
           have HR9 := Lib.hid (HR9.out.upd hu10 (by simp))
           have HU9 := Lib.hid (HU9.out.trans hu10)
           clear hu10)
        | ((with_reducible show wpList _ _ _ (⟨some 38, _, _, _, _, _⟩ :: _) _ _); refine wpList_runW rfl (boot_load (.tmp 6) rfl rfl HBF.out HKW.out) ?_)
        | (go_at_call 39; (with_reducible show Calls _ _ #[.slice (some ⟨_, 56, _⟩) _ _] _ _); refine (number_any (sl_at (i := 56) (n := 8) (cap := 8) HX9.out (by rw [HX.out]; omega) (by omega) (by omega)) (sl_u8 HU.out _ _) (by rw [sl_len (by rw [HX.out]; omega)]; omega)).mono ?_; rw [← HN56.out]; rintro e _ ⟨rfl, rfl⟩)
        | (go_at_call 39; (with_reducible show Calls _ _ #[.slice (some ⟨_, 53, _⟩) _ _] _ _); refine (number_any (sl_at (i := 53) (n := 3) (cap := 11) HX9.out (by rw [HX.out]; omega) (by omega) (by omega)) (sl_u8 HU.out _ _) (by rw [sl_len (by rw [HX.out]; omega)]; omega)).mono ?_; rw [← HN53.out]; rintro e _ ⟨rfl, rfl⟩)
        | ((with_reducible show wpList _ _ _ (⟨some 42, _, _, _, _, _⟩ :: _) _ _); refine wpList_run rfl (exec_boot0 rfl) ?_)
        | (refine wpList_storeA rfl 40 (.tmp 2) (.tmp 42) rfl rfl rfl HR9.out info_boot (encK_size zer32_len) (encK_size zer32_len) (encK_one _) fun w11 hb11 hu11 hs11 => ?_))
      refine bodyPost_ret (results_boot (b := BK.zero) rfl rfl hb11 zer32_len) rfl ⟨by rw [HRE.out]; rfl, HU9.out.then hu11 (fun q hq => .inr (by have h1 := HRB.out; have h2 := HXB.out; simp at hq; omega))⟩
    · have HRE := Lib.hid k5
      have HMAY := Lib.hid k4
      clear k5 k4
      go_wp2_with (first
        | (go_at_call 28; refine (may_any k _).mono ?_; rw [HMAY.out]; rintro e w10 ⟨rfl, hu10⟩
           have HR9 := Lib.hid (HR9.out.upd hu10 (by simp))
           have HU9 := Lib.hid (HU9.out.trans hu10)
           clear hu10)
        | ((with_reducible show wpList _ _ _ (⟨some 38, _, _, _, _, _⟩ :: _) _ _); refine wpList_runW rfl (boot_load (.tmp 6) rfl rfl HBF.out HKW.out) ?_)
        | (go_at_call 39; (with_reducible show Calls _ _ #[.slice (some ⟨_, 56, _⟩) _ _] _ _); refine (number_any (sl_at (i := 56) (n := 8) (cap := 8) HX9.out (by rw [HX.out]; omega) (by omega) (by omega)) (sl_u8 HU.out _ _) (by rw [sl_len (by rw [HX.out]; omega)]; omega)).mono ?_; rw [← HN56.out]; rintro e _ ⟨rfl, rfl⟩)
        | (go_at_call 39; (with_reducible show Calls _ _ #[.slice (some ⟨_, 53, _⟩) _ _] _ _); refine (number_any (sl_at (i := 53) (n := 3) (cap := 11) HX9.out (by rw [HX.out]; omega) (by omega) (by omega)) (sl_u8 HU.out _ _) (by rw [sl_len (by rw [HX.out]; omega)]; omega)).mono ?_; rw [← HN53.out]; rintro e _ ⟨rfl, rfl⟩)
        | ((with_reducible show wpList _ _ _ (⟨some 42, _, _, _, _, _⟩ :: _) _ _); refine wpList_run rfl (exec_boot0 rfl) ?_)
        | (refine wpList_storeA rfl 40 (.tmp 2) (.tmp 42) rfl rfl rfl HR9.out info_boot (encK_size zer32_len) (encK_size zer32_len) (encK_one _) fun w11 hb11 hu11 hs11 => ?_))
      refine bodyPost_ret (results_boot (b := BK.zero) rfl rfl hb11 zer32_len) rfl ⟨by rw [HRE.out]; rfl, HU9.out.then hu11 (fun q hq => .inr (by have h1 := HRB.out; have h2 := HXB.out; simp at hq; omega))⟩
    · have HRE := Lib.hid k5
      have HMAY := Lib.hid k4
      have hn40 : n0 ≤ 1099511627776 := by have := of_decide_eq_false k1; omega
      have m40 : IntKind.i64.wrap n0 = n0 := IntWalk.i64_in _ (by omega)
      clear k5 k4 hn40
      go_wp2_with (first
        | (go_at_call 28; refine (may_any k _).mono ?_; rw [HMAY.out]; rintro e w10 ⟨rfl, hu10⟩
           have HR9 := Lib.hid (HR9.out.upd hu10 (by simp))
           have HU9 := Lib.hid (HU9.out.trans hu10)
           have hu10x := hu10)
        | ((with_reducible show wpList _ _ _ (⟨some 38, _, _, _, _, _⟩ :: _) _ _); refine wpList_runW rfl (boot_load (.tmp 6) rfl rfl HBF.out HKW.out) ?_)
        | (go_at_call 39; (with_reducible show Calls _ _ #[.slice (some ⟨_, 56, _⟩) _ _] _ _); refine (number_any (sl_at (i := 56) (n := 8) (cap := 8) HX9.out (by rw [HX.out]; omega) (by omega) (by omega)) (sl_u8 HU.out _ _) (by rw [sl_len (by rw [HX.out]; omega)]; omega)).mono ?_; rw [← HN56.out]; rintro e _ ⟨rfl, rfl⟩)
        | (go_at_call 39; (with_reducible show Calls _ _ #[.slice (some ⟨_, 53, _⟩) _ _] _ _); refine (number_any (sl_at (i := 53) (n := 3) (cap := 11) HX9.out (by rw [HX.out]; omega) (by omega) (by omega)) (sl_u8 HU.out _ _) (by rw [sl_len (by rw [HX.out]; omega)]; omega)).mono ?_; rw [← HN53.out]; rintro e _ ⟨rfl, rfl⟩)
        | ((with_reducible show wpList _ _ _ (⟨some 43, _, _, _, _, _⟩ :: _) _ _); refine wpList_run rfl (boot_load (.tmp 6) rfl rfl (HBF.out.upd hu10x (by simp)) HKW.out) ?_)
        | (refine wpList_storeA rfl 40 (.tmp 2) (.tmp 43) rfl rfl rfl HR9.out info_boot (encK_size HKW.out) (encK_size zer32_len) (encK_one _) fun w11 hb11 hu11 hs11 => ?_))
      refine bodyPost_ret (results_boot (b := k) rfl rfl hb11 HKW.out) rfl ⟨by rw [HRE.out]; rfl, HU9.out.then hu11 (fun q hq => .inr (by have h1 := HRB.out; have h2 := HXB.out; simp at hq; omega))⟩
  · refine wp_run (exec_alloc 40 rfl zero_boot) ?_
    have hk := hK.out (.pointer (some ⟨w3.drew.heap.size, 0, none⟩)) _ (hHeld.alloc (.cells (encK BK.zero).toArray 40))
    refine hk (fun hHeld => ?_)
    clear hK hk K
    simp only [List.setIfInBounds_toArray, List.set_cons_zero, List.set_cons_succ]
    have hbx : Blk (w3.drew.alloc (.cells (encK BK.zero).toArray 40)) w3.drew.heap.size (encK BK.zero).toArray 40 := Blk.new _ _ _
    obtain ⟨w6, hw6⟩ : ∃ x, x = w3.drew.alloc (.cells (encK BK.zero).toArray 40) := ⟨_, rfl⟩
    have hg6 : w3.heap.size ≤ w3.drew.heap.size := Nat.le_refl _
    obtain ⟨b6, hb6⟩ : ∃ x, x = w3.drew.heap.size := ⟨_, rfl⟩
    rw [← hw6, ← hb6] at hbx
    rw [← hw6] at hHeld ⊢
    rw [← hb6] at hg6 ⊢
    have HB6 := Lib.hid hbx
    have HG6 := Lib.hid hg6
    clear hw6 hb6 hbx hg6
    refine held_next 7 18 rfl (by kernel_rfl) rfl rfl (fun K hK => ?_)
    go_simp
    refine (number_any (sl_at (i := 17) (n := 4) (cap := 47) (HX3.out.upd hHeld (by simp)) (by rw [HX.out]; omega) (by omega) (by omega)) (sl_u8 HU.out _ _) (by rw [sl_len (by rw [HX.out]; omega)]; omega)).mono ?_
    rw [← HN17.out]
    rintro e _ ⟨rfl, rfl⟩
    have hk := hK.out (.int .u64 n17) _ hHeld
    simp only [Act.put, List.setIfInBounds_toArray, List.set_cons_zero, List.set_cons_succ] at hk
    refine hk (fun hHeld => ?_)
    clear hK hk K
    refine held_take 8 19 (.int .i64 n17) rfl (by kernel_rfl) (by kernel_rfl) (by kernel_rfl) rfl (fun _ _ _ h => h) rfl hHeld (fun w hS => by go_simp) ?_
    simp only [List.setIfInBounds_toArray, List.set_cons_zero, List.set_cons_succ]
    refine held_take 12 23 (.agg (encK k).toArray) rfl (by kernel_rfl) (by kernel_rfl) (by kernel_rfl) rfl (fun _ _ _ h => h) rfl hHeld (fun w hS => by rw [HK2.out]; exact exec_boot (b := ⟨x8, mn, n17, sl x 21 32⟩) rfl rfl rfl rfl rfl (sl_len (by rw [HX.out]; omega))) ?_
    simp only [List.setIfInBounds_toArray, List.set_cons_zero, List.set_cons_succ]
    refine held_store 14 rfl (by kernel_rfl) rfl rfl (fun K hK => ?_)
    refine wp_runU (exec_store (P := Try.prog) (off := 0) 40 (.tmp 6) (.tmp 23) rfl rfl rfl HB6.out info_boot (encK_size HKW.out) (by rw [encK_size (show BK.zero.whole.length = 32 from zer32_len)]; omega) (encK_one k)) ?_
    have hsp : (splice (encK BK.zero).toArray.toList 0 (encK k).toArray.toList).toArray = (encK k).toArray := by rw [splice_all (by simp [encK_len HKW.out, encK_len (show BK.zero.whole.length = 32 from zer32_len)]), Array.toArray_toList]
    rw [hsp]
    have hbf := setRow_blk HB6.out (encK k).toArray
    have hst := setRow_upd hHeld (g := b6) (.inr HG6.out) (encK k).toArray
    have hk := hK.out _ hst
    refine hk (fun hHeld => ?_)
    clear hK hk K hsp hst
    have HBF := Lib.hid hbf
    clear hbf
    refine held_done (by kernel_rfl) ?_
    obtain ⟨w9, hw9⟩ : ∃ z, z = w6.setRow b6 (encK k).toArray := ⟨_, rfl⟩
    rw [← hw9] at HBF hHeld ⊢
    have HX9 := Lib.hid (HX3.out.upd hHeld (by simp))
    have HR9 := Lib.hid (HR3.out.upd hHeld (by simp))
    have HU9 := Lib.hid (HU3.out.trans hHeld)
    have hrb6 : b6 ≠ rb := by have h1 := HR3.out.lt; have h2 := HG6.out; omega
    clear hw9 hHeld
    rcases HKEY.out with ⟨k1, k2⟩ | ⟨k1, k2, k3⟩ | ⟨k1, k2, k3, k4⟩ | ⟨k1, k2, k3, k4, k5⟩ | ⟨k1, k2, k3, k4, k5⟩
    · have HRE := Lib.hid k2
      clear k2
      go_wp2_with (first
        | (go_at_call 28; refine (may_any k _).mono ?_; rw [HMAY.out]; rintro e w10 ⟨rfl, hu10⟩
           have HR9 := Lib.hid (HR9.out.upd hu10 (by simp))
           have HU9 := Lib.hid (HU9.out.trans hu10)
           clear hu10)
        | ((with_reducible show wpList _ _ _ (⟨some 38, _, _, _, _, _⟩ :: _) _ _); refine wpList_runW rfl (boot_load (.tmp 6) rfl rfl HBF.out HKW.out) ?_)
        | (go_at_call 39; (with_reducible show Calls _ _ #[.slice (some ⟨_, 56, _⟩) _ _] _ _); refine (number_any (sl_at (i := 56) (n := 8) (cap := 8) HX9.out (by rw [HX.out]; omega) (by omega) (by omega)) (sl_u8 HU.out _ _) (by rw [sl_len (by rw [HX.out]; omega)]; omega)).mono ?_; rw [← HN56.out]; rintro e _ ⟨rfl, rfl⟩)
        | (go_at_call 39; (with_reducible show Calls _ _ #[.slice (some ⟨_, 53, _⟩) _ _] _ _); refine (number_any (sl_at (i := 53) (n := 3) (cap := 11) HX9.out (by rw [HX.out]; omega) (by omega) (by omega)) (sl_u8 HU.out _ _) (by rw [sl_len (by rw [HX.out]; omega)]; omega)).mono ?_; rw [← HN53.out]; rintro e _ ⟨rfl, rfl⟩)
        | ((with_reducible show wpList _ _ _ (⟨some 42, _, _, _, _, _⟩ :: _) _ _); refine wpList_run rfl (exec_boot0 rfl) ?_)
        | (refine wpList_storeA rfl 40 (.tmp 2) (.tmp 42) rfl rfl rfl HR9.out info_boot (encK_size zer32_len) (encK_size zer32_len) (encK_one _) fun w11 hb11 hu11 hs11 => ?_))
      refine bodyPost_ret (results_boot (b := BK.zero) rfl rfl hb11 zer32_len) rfl ⟨by rw [HRE.out]; rfl, HU9.out.then hu11 (fun q hq => .inr (by have h1 := HRB.out; have h2 := HXB.out; simp at hq; omega))⟩
    · have HRE := Lib.hid k3
      clear k3
      go_wp2_with (first
        | (go_at_call 28; refine (may_any k _).mono ?_; rw [HMAY.out]; rintro e w10 ⟨rfl, hu10⟩
           have HR9 := Lib.hid (HR9.out.upd hu10 (by simp))
           have HU9 := Lib.hid (HU9.out.trans hu10)
           clear hu10)
        | ((with_reducible show wpList _ _ _ (⟨some 38, _, _, _, _, _⟩ :: _) _ _); refine wpList_runW rfl (boot_load (.tmp 6) rfl rfl HBF.out HKW.out) ?_)
        | (go_at_call 39; (with_reducible show Calls _ _ #[.slice (some ⟨_, 56, _⟩) _ _] _ _); refine (number_any (sl_at (i := 56) (n := 8) (cap := 8) HX9.out (by rw [HX.out]; omega) (by omega) (by omega)) (sl_u8 HU.out _ _) (by rw [sl_len (by rw [HX.out]; omega)]; omega)).mono ?_; rw [← HN56.out]; rintro e _ ⟨rfl, rfl⟩)
        | (go_at_call 39; (with_reducible show Calls _ _ #[.slice (some ⟨_, 53, _⟩) _ _] _ _); refine (number_any (sl_at (i := 53) (n := 3) (cap := 11) HX9.out (by rw [HX.out]; omega) (by omega) (by omega)) (sl_u8 HU.out _ _) (by rw [sl_len (by rw [HX.out]; omega)]; omega)).mono ?_; rw [← HN53.out]; rintro e _ ⟨rfl, rfl⟩)
        | ((with_reducible show wpList _ _ _ (⟨some 42, _, _, _, _, _⟩ :: _) _ _); refine wpList_run rfl (exec_boot0 rfl) ?_)
        | (refine wpList_storeA rfl 40 (.tmp 2) (.tmp 42) rfl rfl rfl HR9.out info_boot (encK_size zer32_len) (encK_size zer32_len) (encK_one _) fun w11 hb11 hu11 hs11 => ?_))
      refine bodyPost_ret (results_boot (b := BK.zero) rfl rfl hb11 zer32_len) rfl ⟨by rw [HRE.out]; rfl, HU9.out.then hu11 (fun q hq => .inr (by have h1 := HRB.out; have h2 := HXB.out; simp at hq; omega))⟩
    · have HRE := Lib.hid k4
      clear k4
      go_wp2_with (first
        | (go_at_call 28; refine (may_any k _).mono ?_; rw [HMAY.out]; rintro e w10 ⟨rfl, hu10⟩
           have HR9 := Lib.hid (HR9.out.upd hu10 (by simp))
           have HU9 := Lib.hid (HU9.out.trans hu10)
           clear hu10)
        | ((with_reducible show wpList _ _ _ (⟨some 38, _, _, _, _, _⟩ :: _) _ _); refine wpList_runW rfl (boot_load (.tmp 6) rfl rfl HBF.out HKW.out) ?_)
        | (go_at_call 39; (with_reducible show Calls _ _ #[.slice (some ⟨_, 56, _⟩) _ _] _ _); refine (number_any (sl_at (i := 56) (n := 8) (cap := 8) HX9.out (by rw [HX.out]; omega) (by omega) (by omega)) (sl_u8 HU.out _ _) (by rw [sl_len (by rw [HX.out]; omega)]; omega)).mono ?_; rw [← HN56.out]; rintro e _ ⟨rfl, rfl⟩)
        | (go_at_call 39; (with_reducible show Calls _ _ #[.slice (some ⟨_, 53, _⟩) _ _] _ _); refine (number_any (sl_at (i := 53) (n := 3) (cap := 11) HX9.out (by rw [HX.out]; omega) (by omega) (by omega)) (sl_u8 HU.out _ _) (by rw [sl_len (by rw [HX.out]; omega)]; omega)).mono ?_; rw [← HN53.out]; rintro e _ ⟨rfl, rfl⟩)
        | ((with_reducible show wpList _ _ _ (⟨some 42, _, _, _, _, _⟩ :: _) _ _); refine wpList_run rfl (exec_boot0 rfl) ?_)
        | (refine wpList_storeA rfl 40 (.tmp 2) (.tmp 42) rfl rfl rfl HR9.out info_boot (encK_size zer32_len) (encK_size zer32_len) (encK_one _) fun w11 hb11 hu11 hs11 => ?_))
      refine bodyPost_ret (results_boot (b := BK.zero) rfl rfl hb11 zer32_len) rfl ⟨by rw [HRE.out]; rfl, HU9.out.then hu11 (fun q hq => .inr (by have h1 := HRB.out; have h2 := HXB.out; simp at hq; omega))⟩
    · have HRE := Lib.hid k5
      have HMAY := Lib.hid k4
      clear k5 k4
      go_wp2_with (first
        | (go_at_call 28; refine (may_any k _).mono ?_; rw [HMAY.out]; rintro e w10 ⟨rfl, hu10⟩
           have HR9 := Lib.hid (HR9.out.upd hu10 (by simp))
           have HU9 := Lib.hid (HU9.out.trans hu10)
           clear hu10)
        | ((with_reducible show wpList _ _ _ (⟨some 38, _, _, _, _, _⟩ :: _) _ _); refine wpList_runW rfl (boot_load (.tmp 6) rfl rfl HBF.out HKW.out) ?_)
        | (go_at_call 39; (with_reducible show Calls _ _ #[.slice (some ⟨_, 56, _⟩) _ _] _ _); refine (number_any (sl_at (i := 56) (n := 8) (cap := 8) HX9.out (by rw [HX.out]; omega) (by omega) (by omega)) (sl_u8 HU.out _ _) (by rw [sl_len (by rw [HX.out]; omega)]; omega)).mono ?_; rw [← HN56.out]; rintro e _ ⟨rfl, rfl⟩)
        | (go_at_call 39; (with_reducible show Calls _ _ #[.slice (some ⟨_, 53, _⟩) _ _] _ _); refine (number_any (sl_at (i := 53) (n := 3) (cap := 11) HX9.out (by rw [HX.out]; omega) (by omega) (by omega)) (sl_u8 HU.out _ _) (by rw [sl_len (by rw [HX.out]; omega)]; omega)).mono ?_; rw [← HN53.out]; rintro e _ ⟨rfl, rfl⟩)
        | ((with_reducible show wpList _ _ _ (⟨some 42, _, _, _, _, _⟩ :: _) _ _); refine wpList_run rfl (exec_boot0 rfl) ?_)
        | (refine wpList_storeA rfl 40 (.tmp 2) (.tmp 42) rfl rfl rfl HR9.out info_boot (encK_size zer32_len) (encK_size zer32_len) (encK_one _) fun w11 hb11 hu11 hs11 => ?_))
      refine bodyPost_ret (results_boot (b := BK.zero) rfl rfl hb11 zer32_len) rfl ⟨by rw [HRE.out]; rfl, HU9.out.then hu11 (fun q hq => .inr (by have h1 := HRB.out; have h2 := HXB.out; simp at hq; omega))⟩
    · have HRE := Lib.hid k5
      have HMAY := Lib.hid k4
      have hn40 : n0 ≤ 1099511627776 := by have := of_decide_eq_false k1; omega
      have m40 : IntKind.i64.wrap n0 = n0 := IntWalk.i64_in _ (by omega)
      clear k5 k4 hn40
      go_wp2_with (first
        | (go_at_call 28; refine (may_any k _).mono ?_; rw [HMAY.out]; rintro e w10 ⟨rfl, hu10⟩
           have HR9 := Lib.hid (HR9.out.upd hu10 (by simp))
           have HU9 := Lib.hid (HU9.out.trans hu10)
           have hu10x := hu10)
        | ((with_reducible show wpList _ _ _ (⟨some 38, _, _, _, _, _⟩ :: _) _ _); refine wpList_runW rfl (boot_load (.tmp 6) rfl rfl HBF.out HKW.out) ?_)
        | (go_at_call 39; (with_reducible show Calls _ _ #[.slice (some ⟨_, 56, _⟩) _ _] _ _); refine (number_any (sl_at (i := 56) (n := 8) (cap := 8) HX9.out (by rw [HX.out]; omega) (by omega) (by omega)) (sl_u8 HU.out _ _) (by rw [sl_len (by rw [HX.out]; omega)]; omega)).mono ?_; rw [← HN56.out]; rintro e _ ⟨rfl, rfl⟩)
        | (go_at_call 39; (with_reducible show Calls _ _ #[.slice (some ⟨_, 53, _⟩) _ _] _ _); refine (number_any (sl_at (i := 53) (n := 3) (cap := 11) HX9.out (by rw [HX.out]; omega) (by omega) (by omega)) (sl_u8 HU.out _ _) (by rw [sl_len (by rw [HX.out]; omega)]; omega)).mono ?_; rw [← HN53.out]; rintro e _ ⟨rfl, rfl⟩)
        | ((with_reducible show wpList _ _ _ (⟨some 43, _, _, _, _, _⟩ :: _) _ _); refine wpList_run rfl (boot_load (.tmp 6) rfl rfl (HBF.out.upd hu10x (by simp)) HKW.out) ?_)
        | (refine wpList_storeA rfl 40 (.tmp 2) (.tmp 43) rfl rfl rfl HR9.out info_boot (encK_size HKW.out) (encK_size zer32_len) (encK_one _) fun w11 hb11 hu11 hs11 => ?_))
      refine bodyPost_ret (results_boot (b := k) rfl rfl hb11 HKW.out) rfl ⟨by rw [HRE.out]; rfl, HU9.out.then hu11 (fun q hq => .inr (by have h1 := HRB.out; have h2 := HXB.out; simp at hq; omega))⟩
end Go.Proofs.Ytpeboaoephkfhaa
