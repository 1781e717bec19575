/- Single operations, run: whole arrays, rows, maps keyed by ints. Of no program. -/
import Derived.Test.YtpeboaoephkfhaaBase
import Derived.Laws.Rows
import Derived.Laws.Tables
import Derived.Laws.CopyRow
import Derived.Laws.Entries
import Derived.Laws.Append
import Derived.Deep.AppendLies
import Derived.StillTailTactics
import Derived.Laws.StructEq
namespace Go.Proofs.Ytpeboaoephkfhaa
open Go.RowKit

section
variable {P : Program} {ops : Array Oper} {Q : Exit → Act → World → Prop} {a : Act} {w w' : World} {rest : List Oper} {o : Oper} {v : Value}

theorem wpList_run (hgd : o.guard = none) (hr : (execOp a.eval o).run P w = .ok (.value v) w') (h : wpList P ops Q rest (a.put o.dst v) w') : wpList P ops Q (o :: rest) a w :=
  wpList_plain hgd fun K hK => by unfold Oper.wp; rw [hr]; exact hK _ _ h

theorem wpList_runU (hgd : o.guard = none) (hr : (execOp a.eval o).run P w = .ok .skip w') (h : wpList P ops Q rest (a.put o.dst undef) w') : wpList P ops Q (o :: rest) a w :=
  wpList_plain hgd fun K hK => by unfold Oper.wp; rw [hr]; exact hK _ _ h

theorem wpList_runW (hw : Region.wanted o (yielded ops a.tmps) = true) (hr : (execOp a.eval o).run P w = .ok (.value v) w') (h : wpList P ops Q rest (a.put o.dst v) w') : wpList P ops Q (o :: rest) a w :=
  wpList_step fun K hK => by rw [if_pos hw]; unfold Oper.wp; rw [hr]; exact hK _ _ h

theorem step_run {E : Prop} {K : Act → World → Prop} (hgd : o.guard = none) (hr : (execOp a.eval o).run P w = .ok (.value v) w') (h : K (a.put o.dst v) w') :
    if Region.wanted o (yielded ops a.tmps) = true then o.wp P a w K Q else E := by
  have hw : Region.wanted o (yielded ops a.tmps) = true := by simp [Region.wanted, hgd]
  rw [if_pos hw]; unfold Oper.wp; rw [hr]; exact h

theorem step_runU {E : Prop} {K : Act → World → Prop} (hgd : o.guard = none) (hr : (execOp a.eval o).run P w = .ok .skip w') (h : K (a.put o.dst undef) w') :
    if Region.wanted o (yielded ops a.tmps) = true then o.wp P a w K Q else E := by
  have hw : Region.wanted o (yielded ops a.tmps) = true := by simp [Region.wanted, hgd]
  rw [if_pos hw]; unfold Oper.wp; rw [hr]; exact h

/-- One operation of a region that draws its order, in the text's order. -/
theorem still_run {R : Act → Prop} (hgd : o.guard = none) (hr : (execOp a.eval o).run P w = .ok (.value v) w) (h : wpStill P ops w R rest (a.put o.dst v)) : wpStill P ops w R (o :: rest) a :=
  wpStill_step fun K hK => by
    have hw : Region.wanted o (yielded ops a.tmps) = true := by simp [Region.wanted, hgd]
    rw [if_pos hw]
    unfold Oper.still
    rw [hr]
    exact ⟨rfl, hK _ h⟩

theorem still_runW {R : Act → Prop} (hw : Region.wanted o (yielded ops a.tmps) = true) (hr : (execOp a.eval o).run P w = .ok (.value v) w) (h : wpStill P ops w R rest (a.put o.dst v)) : wpStill P ops w R (o :: rest) a :=
  wpStill_step fun K hK => by
    rw [if_pos hw]
    unfold Oper.still
    rw [hr]
    exact ⟨rfl, hK _ h⟩

theorem still_skip {R : Act → Prop} (hw : Region.wanted o (yielded ops a.tmps) = false) (h : wpStill P ops w R rest (a.put o.dst undef)) : wpStill P ops w R (o :: rest) a :=
  wpStill_step fun K hK => by rw [if_neg (by rw [hw]; exact Bool.false_ne_true)]; exact hK _ h

theorem wp_run {K : Act → World → Prop} (hr : (execOp a.eval o).run P w = .ok (.value v) w') (h : K (a.put o.dst v) w') : o.wp P a w K Q := by
  unfold Oper.wp; rw [hr]; exact h

theorem wp_runU {K : Act → World → Prop} (hr : (execOp a.eval o).run P w = .ok .skip w') (h : K (a.put o.dst undef) w') : o.wp P a w K Q := by
  unfold Oper.wp; rw [hr]; exact h
end

/-! Rows. -/

theorem setRow_blk {w : World} {g : Nat} {c : Array Value} {T : TypeId} (h : Blk w g c T) (c' : Array Value) : Blk (w.setRow g c') g c' T := setRow_heap w g c c' T _ h
theorem setRow_upd {S : List Nat} {a w : World} (h : Upd S a w) {g : Nat} (hg : g ∈ S ∨ a.heap.size ≤ g) (c' : Array Value) : Upd S a (w.setRow g c') :=
  ⟨h.os, h.tape, h.output, by have := h.size; rw [size_setRow]; exact this, fun k hk hn => by
    rw [setRow_other _ _ _ _ (fun e => by subst e; rcases hg with hg | hg; exact hn hg; omega)]; exact h.block k hk hn⟩

/-- m laid over l from o on. -/
def splice {α : Type} (l : List α) (o : Nat) (m : List α) : List α := l.take o ++ m ++ l.drop (o + m.length)

theorem splice_len {α : Type} {l : List α} {o : Nat} {m : List α} (h : o + m.length ≤ l.length) : (splice l o m).length = l.length := by
  unfold splice; simp; omega

theorem splice_map {α β : Type} (f : α → β) (l : List α) (o : Nat) (m : List α) : (splice l o m).map f = splice (l.map f) o (m.map f) := by
  unfold splice; simp [List.map_take, List.map_drop]

theorem splice_all {α : Type} {l m : List α} (h : m.length = l.length) : splice l 0 m = m := by
  unfold splice; simp; omega

theorem splice_get {α : Type} {l : List α} {o : Nat} {m : List α} (h : o + m.length ≤ l.length) (i : Nat) : (splice l o m)[i]? = if o ≤ i ∧ i < o + m.length then m[i - o]? else l[i]? := by
  unfold splice
  by_cases h1 : i < o
  · rw [if_neg (by omega), List.append_assoc, List.getElem?_append_left (by simp; omega), List.getElem?_take, if_pos h1]
  · by_cases h2 : i < o + m.length
    · rw [if_pos (by omega), List.append_assoc, List.getElem?_append_right (by simp; omega), List.getElem?_append_left (by simp; omega)]
      congr 1; simp; omega
    · rw [if_neg (by omega), List.getElem?_append_right (by simp; omega), List.getElem?_drop]
      congr 1; simp; omega

section
variable {P : Program} {a : Act} {w : World} {o : Oper}

theorem loadCells_at {g off n : Nat} {c : Array Value} {T : TypeId} (hb : Blk w g c T) (hf : off + n ≤ c.size) : (loadCells ⟨g, off, none⟩ n).run P w = .ok (c.extract off (off + n)) w := by
  have hl : (c.extract off (off + n)).toList.length = n := by simp; omega
  have := run_loadCells_list (P := P) w ⟨g, off, none⟩ (c.extract off (off + n)).toList (fun j v hv => by
    have hadd : (⟨g, off, none⟩ : Addr).add j = ⟨g, off + j, none⟩ := by unfold Addr.add; split <;> simp_all
    rw [hadd]
    refine hb.cell ?_
    have hj : j < n := by have := (List.getElem?_eq_some_iff.1 hv).1; omega
    rw [Array.getElem?_toList, Array.getElem?_extract] at hv
    rw [if_pos (by omega)] at hv
    exact hv)
  rw [hl] at this
  rw [this, Array.toArray_toList]

theorem storeCells_at {g off : Nat} {c : Array Value} {T : TypeId} (hb : Blk w g c T) (news : List Value) (hf : off + news.length ≤ c.size) (h1 : ∀ v ∈ news, v.oneCell' = true) :
    (storeCells ⟨g, off, none⟩ news).run P w = .ok () (w.setRow g (splice c.toList off news).toArray) := by
  have := run_storeCells_at P g off T news 0 c w hb (by omega) h1
  rw [Nat.add_zero] at this
  exact this

/-- A whole array, read. -/
theorem exec_load (ty : TypeId) (x : Operand) (ho : o.op = .load ty x) {g off k n : Nat} {e T : TypeId} {c : Array Value} (hx : a.eval x = .pointer (some ⟨g, off, none⟩)) (hb : Blk w g c T)
    (hu : P.underlying ty = some (.array n e)) (hi : (P.info? ty).map (·.size) = some k) (hf : off + k ≤ c.size) : (execOp a.eval o).run P w = .ok (.value (.agg (c.extract off (off + k)))) w := by
  have hl := loadCells_at (P := P) hb hf
  cases hq : P.info? ty with
  | none => simp [hq] at hi
  | some i =>
    have hs : i.size = k := by simpa [hq] using hi
    unfold execOp
    simp [ho, hx, Instr.loadAt, Instr.sureAddr, loadVar, isAgg, underlying, hu, sizeOf, typeInfo, hq, hs, hl]

/-- A whole array, written. -/
theorem exec_store (ty : TypeId) (x y : Operand) (ho : o.op = .store ty x y) {g off k : Nat} {T : TypeId} {c : Array Value} {news : Array Value} (hx : a.eval x = .pointer (some ⟨g, off, none⟩)) (hy : a.eval y = .agg news) (hb : Blk w g c T)
    (hi : (P.info? ty).map (·.size) = some k) (hn : news.size = k) (hf : off + k ≤ c.size) (h1 : ∀ v ∈ news.toList, v.oneCell' = true) :
    (execOp a.eval o).run P w = .ok .skip (w.setRow g (splice c.toList off news.toList).toArray) := by
  have hl := storeCells_at (P := P) hb news.toList (off := off) (by simpa [hn] using hf) h1
  cases hq : P.info? ty with
  | none => simp [hq] at hi
  | some i =>
    have hs : i.size = k := by simpa [hq] using hi
    unfold execOp
    simp [ho, hx, hy, Instr.storeAt, Instr.sureAddr, storeVar, Value.cells, sizeOf, typeInfo, hq, hs, hn, hl]

/-- A new variable. -/
theorem exec_alloc (ty : TypeId) (ho : o.op = .alloc ty) {z : Value} (hz : (P.info? ty).map (·.zero) = some (some z)) :
    (execOp a.eval o).run P w = .ok (.value (.pointer (some ⟨w.heap.size, 0, none⟩))) (w.alloc (.cells z.cells ty)) := by
  cases hq : P.info? ty with
  | none => simp [hq] at hz
  | some i =>
    have hs : i.zero = some z := by simpa [hq] using hz
    unfold execOp
    simp [ho, Instr.alloc, zeroValue, typeInfo, hq, hs, newVar, newRow, newObj, Sem.run]

theorem wpList_alloc {ops : Array Oper} {Q : Exit → Act → World → Prop} {rest : List Oper} (hgd : o.guard = none) (ty : TypeId) (ho : o.op = .alloc ty) {z : Value} (hz : (P.info? ty).map (·.zero) = some (some z))
    (h : ∀ w', Blk w' w.heap.size z.cells ty → Upd [] w w' → w'.heap.size = w.heap.size + 1 → wpList P ops Q rest (a.put o.dst (.pointer (some ⟨w.heap.size, 0, none⟩))) w') : wpList P ops Q (o :: rest) a w :=
  wpList_run hgd (exec_alloc ty ho hz) (h _ (Blk.new _ _ _) ((Upd.refl _ _).alloc _) (by simp))

/-- 'copy' of one-cell elements, between two rows or within one. -/
theorem exec_copy (x y : Operand) (t s : TypeId) (ho : o.op = .call { callee := .builtin .copy, args := #[x, y], argTypes := #[t, s] }) {e : TypeId} (hu : P.underlying t = some (.slice e)) (hi : (P.info? e).map (·.size) = some 1)
    {g off n cp h offh m cph : Nat} {c d : Array Value} {T U : TypeId} (hx : a.eval x = .slice (some ⟨g, off, none⟩) n cp) (hy : a.eval y = .slice (some ⟨h, offh, none⟩) m cph)
    (hb : Blk w g c T) (hd : Blk w h d U) (hf : off + n ≤ c.size) (hg : offh + m ≤ d.size) (h1 : ∀ v ∈ d.toList, v.oneCell' = true) :
    (execOp a.eval o).run P w = .ok (.value (.int .i64 (Nat.min m n))) (w.setRow g (splice c.toList off (d.extract offh (offh + Nat.min m n)).toList).toArray) := by
  have hmn : Nat.min m n ≤ m ∧ Nat.min m n ≤ n := ⟨Nat.min_le_left _ _, Nat.min_le_right _ _⟩
  have hlen : (d.extract offh (offh + Nat.min m n)).toList.length = Nat.min m n := by rw [Array.length_toList, Array.size_extract]; omega
  have hr := run_copy_row (P := P) w t s o.type e g off n cp ⟨h, offh, none⟩ m cph c T (d.extract offh (offh + Nat.min m n)).toList hu hi hb hlen (fun j v hv => by
    have hadd : (⟨h, offh, none⟩ : Addr).add j = ⟨h, offh + j, none⟩ := by unfold Addr.add; split <;> simp_all
    rw [hadd]
    refine hd.cell ?_
    have hj : j < Nat.min m n := by have := (List.getElem?_eq_some_iff.1 hv).1; omega
    rw [Array.getElem?_toList, Array.getElem?_extract] at hv
    rw [if_pos (by omega)] at hv
    exact hv) (by omega) (fun v hv => h1 v (by
      rw [Array.toList_extract, List.extract_eq_take_drop] at hv
      exact List.mem_of_mem_drop (List.mem_of_mem_take hv)))
  unfold execOp
  simp only [ho, resolve, invoke, builtin, Sem.run_bind, Sem.run_pure, Result.andThen_ok, List.map_toArray, List.map_cons, List.map_nil, hx, hy, hr]
  simp only [splice, hlen]; rfl

/-- 'make([]T, n)'. -/
theorem exec_makeSlice (t : TypeId) (x : Operand) (ho : o.op = .makeSlice t x x) {e : TypeId} (hu : P.underlying t = some (.slice e)) {i : TypeInfo} (hi : P.info? e = some i) {z z0 : Value} (hz : i.zero = some z)
    (hzs : z.cells.size = i.size) (hpos : 0 < i.size) (hz0 : ∀ j, j < i.size → z.cells[j]! = z0) {n : Nat} (hx : a.eval x = .int .i64 n) (hb : n * i.bytes ≤ 140737488355328) (hn : n ≤ maxLen) :
    (execOp a.eval o).run P w = .ok (.value (.slice (some ⟨w.heap.size, 0, none⟩) n n)) (w.alloc (.cells (Array.replicate (n * i.size) z0) e)) := by
  have hw : IntKind.i64.wrap (n : Int) = n := by rw [IntKind.wrap_i64]; unfold maxLen at hn; omega
  have hc : (Array.range (n * i.size)).map (fun j => z.cells[j % z.cells.size]!) = Array.replicate (n * i.size) z0 := by
    apply Array.ext
    · simp
    · intro j h1 h2
      rw [Array.getElem_map, Array.getElem_range, Array.getElem_replicate, hzs, hz0 _ (Nat.mod_lt _ hpos)]
  have h1 : ¬ ((i.bytes : Int) * n > 281474976710656) := by
    have h : i.bytes * n ≤ 140737488355328 := by rw [Nat.mul_comm]; exact hb
    have h' : ((i.bytes * n : Nat) : Int) ≤ ((140737488355328 : Nat) : Int) := Int.ofNat_le.2 h
    rw [Int.natCast_mul] at h'
    generalize (i.bytes : Int) * (n : Int) = q at h' ⊢
    omega
  unfold execOp
  by_cases h0 : n = 0
  · subst h0
    have hw0 : IntKind.i64.wrap 0 = 0 := by rw [IntKind.wrap_i64]; omega
    simp [ho, hx, Instr.makeSlice, underlying, hu, asInt, asIntOf, typeInfo, hi, hw0, askRoom, sizeOf, newRow, newObj, Sem.run]
    congr 2
    apply Array.ext
    · simp
    · intro j h1 h2; simp at h1
  · have h3 : n * i.size ≠ 0 := Nat.mul_ne_zero h0 (by omega)
    simp [ho, hx, Instr.makeSlice, underlying, hu, asInt, asIntOf, typeInfo, hi, hw, h1, askRoom, sizeOf, h3, zeroValue, hz, newRow, newObj, Sem.run, hc]
    omega

theorem all_range_ints : ∀ (xs ys : List Int), xs.length = ys.length → ((List.range xs.length).all fun i => xs.getD i 0 == ys.getD i 0) = (xs == ys)
  | [], [], _ => rfl
  | x :: xs, y :: ys, h => by
    have ih := all_range_ints xs ys (by simpa using h)
    rw [List.length_cons, List.range_succ_eq_map, List.all_cons, List.all_map]
    simp only [List.getD_cons_zero, Function.comp_def, List.getD_cons_succ, ih]
    simp [List.cons_beq_cons]
  | [], _ :: _, h => by simp at h
  | _ :: _, [], h => by simp at h

/-- Two arrays of numbers, compared. -/
theorem run_equalIn_ints (w : World) (k : IntKind) (d : Nat) (t e : TypeId) (n : Nat) (ht : P.underlying t = some (.array n e)) (he : P.underlying e = some (.int k)) (hsz : ∀ w, (sizeOf e).run P w = .ok 1 w)
    (xs ys : List Int) (hx : xs.length = n) (hy : ys.length = n) :
    (Op.equalIn (d + 2) t (.agg (xs.map (Value.int k)).toArray) (.agg (ys.map (Value.int k)).toArray)).run P w = .ok (xs == ys) w := by
  rw [← all_range_ints xs ys (hx.trans hy.symm), hx, List.range_eq_range', Op.equalIn]
  simp only [Sem.run_bind, run_underlying ht, Result.andThen_ok, hsz, Std.Legacy.Range.forIn_eq_forIn_range', Std.Legacy.Range.size, Nat.sub_zero, Nat.add_sub_cancel, Nat.div_one]
  have hl : ∀ i ∈ List.range' 0 n 1, i < n := fun i hi => by simpa using (List.mem_range'_1.1 hi).2
  generalize List.range' 0 n 1 = l at hl ⊢
  induction l with
  | nil => simp
  | cons i l ih =>
    have hi : i < n := hl i (by simp)
    have px : (part e (xs.map (Value.int k)).toArray (i * 1)).run P w = .ok (.int k (xs.getD i 0)) w := by
      simp [part, isAgg, run_underlying he, List.getD, List.getElem?_eq_getElem (show i < xs.length by omega)]
    have py : (part e (ys.map (Value.int k)).toArray (i * 1)).run P w = .ok (.int k (ys.getD i 0)) w := by
      simp [part, isAgg, run_underlying he, List.getD, List.getElem?_eq_getElem (show i < ys.length by omega)]
    have pe : (Op.equalIn (d + 1) e (.int k (xs.getD i 0)) (.int k (ys.getD i 0))).run P w = .ok (xs.getD i 0 == ys.getD i 0) w := by
      rw [run_equalIn_int w d e k k _ _ he]
    simp only [List.forIn_cons, Sem.run_bind, px, py, pe, Result.andThen_ok, List.all_cons]
    cases hb : (xs.getD i 0 == ys.getD i 0)
    · simp
    · simp only [Bool.not_true, Bool.false_eq_true, if_false, Sem.run_pure, Result.andThen_ok, Bool.true_and]
      exact ih fun j hj => hl j (by simp [hj])

theorem exec_eq_ints (t : TypeId) (x y : Operand) {u : TypeId} (ho : o.op = .binOp .eql t x y u) {k : IntKind} {e : TypeId} {n : Nat} (ht : P.underlying t = some (.array n e)) (he : P.underlying e = some (.int k)) (hs : (P.info? e).map (·.size) = some 1)
    (hg : P.eqGuardType P.depth t = false) {l m : List Int} (hl : l.length = n) (hm : m.length = n) (hx : a.eval x = .agg (l.map (Value.int k)).toArray) (hy : a.eval y = .agg (m.map (Value.int k)).toArray) :
    (execOp a.eval o).run P w = .ok (.value (.bool (l == m))) w := by
  have hsz : ∀ w, (sizeOf e).run P w = .ok 1 w := by
    intro w
    cases hq : P.info? e with
    | none => simp [hq] at hs
    | some i => simp [hq] at hs; simp [sizeOf, typeInfo, hq, hs]
  have h := run_equalIn_ints (P := P) w k 9998 t e n ht he hsz l m hl hm
  unfold execOp
  simp only [ho, hx, hy]
  simp [eqGuard, program, Sem.run, hg, binOp, Op.equal, Op.maxDepth, h]

theorem exec_neq_ints (t : TypeId) (x y : Operand) {u : TypeId} (ho : o.op = .binOp .neq t x y u) {k : IntKind} {e : TypeId} {n : Nat} (ht : P.underlying t = some (.array n e)) (he : P.underlying e = some (.int k)) (hs : (P.info? e).map (·.size) = some 1)
    (hg : P.eqGuardType P.depth t = false) {l m : List Int} (hl : l.length = n) (hm : m.length = n) (hx : a.eval x = .agg (l.map (Value.int k)).toArray) (hy : a.eval y = .agg (m.map (Value.int k)).toArray) :
    (execOp a.eval o).run P w = .ok (.value (.bool (!(l == m)))) w := by
  have hsz : ∀ w, (sizeOf e).run P w = .ok 1 w := by
    intro w
    cases hq : P.info? e with
    | none => simp [hq] at hs
    | some i => simp [hq] at hs; simp [sizeOf, typeInfo, hq, hs]
  have h := run_equalIn_ints (P := P) w k 9998 t e n ht he hsz l m hl hm
  unfold execOp
  simp only [ho, hx, hy]
  simp [eqGuard, program, Sem.run, hg, binOp, Op.equal, Op.maxDepth, h]

theorem exec_max (x y : Operand) {ts : Array TypeId} (ho : o.op = .call { callee := .builtin .max, args := #[x, y], argTypes := ts }) {k : IntKind} {p q : Int} (hx : a.eval x = .int k p) (hy : a.eval y = .int k q) :
    (execOp a.eval o).run P w = .ok (.value (.int k (max p q))) w := by
  have e : (if p < q then q else p) = max p q := by split <;> omega
  unfold execOp
  simp [ho, resolve, invoke, builtin, hx, hy, Builtin.max_, Builtin.max2, e]

theorem exec_min (x y : Operand) {ts : Array TypeId} (ho : o.op = .call { callee := .builtin .min, args := #[x, y], argTypes := ts }) {k : IntKind} {p q : Int} (hx : a.eval x = .int k p) (hy : a.eval y = .int k q) :
    (execOp a.eval o).run P w = .ok (.value (.int k (min p q))) w := by
  have e : (if q < p then q else p) = min p q := by split <;> omega
  unfold execOp
  simp [ho, resolve, invoke, builtin, hx, hy, Builtin.min_, Builtin.min2, e]

/-! Maps keyed by ints. -/

def MapAt (w : World) (m : Nat) (L : List (Int × Value)) : Prop :=
  ∃ es clock, w.heap[m]? = some (.map es clock) ∧ es.toList.map (fun e => (e.key, e.val)) = L.map (fun p => (Value.int .i64 p.1, p.2))

def mget {α : Type} (L : List (Int × α)) (n : Int) : Option α := (L.find? (fun p => p.1 == n)).map (·.2)

def mset {α : Type} : List (Int × α) → Int → α → List (Int × α)
  | [], n, v => [(n, v)]
  | p :: t, n, v => if p.1 = n then (n, v) :: t else p :: mset t n v

theorem MapAt.lt {w : World} {m : Nat} {L : List (Int × Value)} (h : MapAt w m L) : m < w.heap.size := by obtain ⟨_, _, h, _⟩ := h; exact lt_of_block h
theorem MapAt.drew {w : World} {m : Nat} {L : List (Int × Value)} (h : MapAt w m L) : MapAt w.drew m L := h
theorem MapAt.upd {S : List Nat} {w w' : World} {m : Nat} {L : List (Int × Value)} (h : MapAt w m L) (hu : Upd S w w') (hn : m ∉ S) : MapAt w' m L := by
  obtain ⟨es, c, h, e⟩ := h; exact ⟨es, c, hu.heap h hn, e⟩

theorem mget_map {α β : Type} (f : α → β) (L : List (Int × α)) (n : Int) : mget (L.map fun p => (p.1, f p.2)) n = (mget L n).map f := by
  induction L with
  | nil => rfl
  | cons p t ih =>
    unfold mget at ih ⊢
    by_cases h : p.1 = n
    · rw [List.map_cons, List.find?_cons_of_pos (by simp [h]), List.find?_cons_of_pos (by simp [h])]; rfl
    · rw [List.map_cons, List.find?_cons_of_neg (by simp [h]), List.find?_cons_of_neg (by simp [h]), ih]

theorem mset_map {α β : Type} (f : α → β) (L : List (Int × α)) (n : Int) (v : α) : mset (L.map fun p => (p.1, f p.2)) n (f v) = (mset L n v).map fun p => (p.1, f p.2) := by
  induction L with
  | nil => rfl
  | cons p t ih =>
    simp only [List.map_cons, mset]
    by_cases h : p.1 = n
    · rw [if_pos h, if_pos h]; rfl
    · rw [if_neg h, if_neg h, ih]; rfl

theorem mget_mset {α : Type} (L : List (Int × α)) (n k : Int) (v : α) : mget (mset L n v) k = if k = n then some v else mget L k := by
  induction L with
  | nil =>
    unfold mset mget
    by_cases h : k = n
    · subst h; simp
    · rw [if_neg h, List.find?_cons_of_neg (by simp; omega)]
  | cons p t ih =>
    unfold mset
    by_cases h : p.1 = n
    · rw [if_pos h]
      unfold mget
      by_cases hk : k = n
      · rw [if_pos hk, List.find?_cons_of_pos (by simp [hk])]; rfl
      · rw [if_neg hk, List.find?_cons_of_neg (by simp; omega), List.find?_cons_of_neg (by simp; omega)]
    · rw [if_neg h]
      unfold mget at ih ⊢
      by_cases hpk : p.1 = k
      · rw [List.find?_cons_of_pos (by simp [hpk]), List.find?_cons_of_pos (by simp [hpk]), if_neg (by omega)]
      · rw [List.find?_cons_of_neg (by simp [hpk]), List.find?_cons_of_neg (by simp [hpk]), ih]

theorem mget_isSome {α : Type} {L : List (Int × α)} {n : Int} : (mget L n).isSome = true ↔ n ∈ L.map (·.1) := by
  unfold mget
  rw [Option.isSome_map, List.find?_isSome]
  simp only [List.mem_map, beq_iff_eq]

theorem mset_keys {α : Type} (L : List (Int × α)) (n : Int) (v : α) : (mset L n v).map (·.1) = if n ∈ L.map (·.1) then L.map (·.1) else L.map (·.1) ++ [n] := by
  induction L with
  | nil => rfl
  | cons p t ih =>
    unfold mset
    by_cases h : p.1 = n
    · rw [if_pos h, if_pos (by simp [h])]; simp [h]
    · rw [if_neg h, List.map_cons, ih, List.map_cons]
      by_cases h2 : n ∈ t.map (·.1)
      · rw [if_pos h2, if_pos (List.mem_cons_of_mem _ h2)]
      · rw [if_neg h2, if_neg (by simp only [List.mem_cons, not_or]; exact ⟨fun e => h e.symm, h2⟩)]; rfl

theorem mset_mem {α : Type} {L : List (Int × α)} {n : Int} {v : α} {p : Int × α} (h : p ∈ mset L n v) : p ∈ L ∨ p = (n, v) := by
  induction L with
  | nil => right; simpa [mset] using h
  | cons q t ih =>
    unfold mset at h
    split at h
    · rcases List.mem_cons.1 h with h | h
      · exact .inr h
      · exact .inl (List.mem_cons_of_mem _ h)
    · rcases List.mem_cons.1 h with h | h
      · exact .inl (h ▸ List.mem_cons_self)
      · rcases ih h with h | h
        · exact .inl (List.mem_cons_of_mem _ h)
        · exact .inr h

theorem mget_mem {α : Type} {L : List (Int × α)} {n : Int} {v : α} (h : mget L n = some v) : (n, v) ∈ L := by
  unfold mget at h
  cases hf : L.find? (fun p => p.1 == n) with
  | none => simp [hf] at h
  | some p =>
    have h1 := List.mem_of_find?_eq_some hf
    have h2 := List.find?_some hf
    simp [hf] at h
    simp at h2
    rw [← h, ← h2]; exact h1

/-- The place of a key. -/
def mplace : List (Int × Value) → Int → Nat → Option (Nat × Value)
  | [], _, _ => none
  | p :: t, n, i => if p.1 = n then some (i, p.2) else mplace t n (i + 1)

theorem mplace_get (L : List (Int × Value)) (n : Int) : ∀ i, (mplace L n i).map (·.2) = mget L n := by
  induction L with
  | nil => intro i; rfl
  | cons p t ih =>
    intro i
    unfold mplace mget
    by_cases h : p.1 = n
    · rw [if_pos h, List.find?_cons_of_pos (by simp [h])]; rfl
    · rw [if_neg h, List.find?_cons_of_neg (by simp [h]), ih]; rfl

theorem findNow_int (n : Int) : ∀ (es : List MapEntry) (L : List (Int × Value)) (i : Nat), es.map (fun e => (e.key, e.val)) = L.map (fun p => (Value.int .i64 p.1, p.2)) →
    Instr.findNow (.int .i64) (.int .i64 n) es i = some (mplace L n i) := by
  intro es
  induction es with
  | nil =>
    intro L i h
    cases L with
    | nil => rfl
    | cons p t => simp at h
  | cons e es ih =>
    intro L i h
    cases L with
    | nil => simp at h
    | cons p t =>
      simp only [List.map_cons, List.cons.injEq, Prod.mk.injEq] at h
      obtain ⟨⟨h1, h2⟩, h3⟩ := h
      unfold Instr.findNow mplace
      rw [h1]
      by_cases hp : p.1 = n
      · rw [if_pos hp]
        have : Instr.sameNow (.int .i64) (.int .i64 n) (.int .i64 p.1) = some true := by simp [Instr.sameNow, hp]
        rw [this, h2]
      · rw [if_neg hp]
        have : Instr.sameNow (.int .i64) (.int .i64 n) (.int .i64 p.1) = some false := by simp [Instr.sameNow]; omega
        rw [this]
        exact ih t (i + 1) h3

theorem mset_place (n : Int) (v : Value) : ∀ (es : List MapEntry) (L : List (Int × Value)) (i j : Nat) (x : Value), es.map (fun e => (e.key, e.val)) = L.map (fun p => (Value.int .i64 p.1, p.2)) → mplace L n i = some (i + j, x) →
    (es.modify j fun e => { e with key := .int .i64 n, val := v }).map (fun e => (e.key, e.val)) = (mset L n v).map (fun p => (Value.int .i64 p.1, p.2)) ∧ (es[j]?).map (·.key) = some (.int .i64 n) := by
  intro es
  induction es with
  | nil => intro L i j x h hp; cases L <;> simp [mplace] at h hp
  | cons e es ih =>
    intro L i j x h hp
    cases L with
    | nil => simp at h
    | cons p t =>
      simp only [List.map_cons, List.cons.injEq, Prod.mk.injEq] at h
      obtain ⟨⟨h1, h2⟩, h3⟩ := h
      unfold mplace at hp
      unfold mset
      by_cases hpn : p.1 = n
      · rw [if_pos hpn] at hp ⊢
        simp only [Option.some.injEq, Prod.mk.injEq] at hp
        obtain rfl : j = 0 := by omega
        simp [h3, h1, hpn]
      · rw [if_neg hpn] at hp ⊢
        have hle : ∀ (L : List (Int × Value)) (i k : Nat) (x : Value), mplace L n i = some (k, x) → i ≤ k := by
          intro L
          induction L with
          | nil => intro i k x h; simp [mplace] at h
          | cons q t ih =>
            intro i k x h
            unfold mplace at h
            split at h
            · simp at h; omega
            · have := ih _ _ _ h; omega
        have := hle _ _ _ _ hp
        obtain ⟨j, rfl⟩ : ∃ m, j = m + 1 := ⟨j - 1, by omega⟩
        have := ih t (i + 1) j x h3 (by rw [hp]; congr 2; omega)
        simp [h1, h2, this.1, this.2]

theorem mset_none (n : Int) (v : Value) : ∀ (L : List (Int × Value)) (i : Nat), mplace L n i = none → mset L n v = L ++ [(n, v)] := by
  intro L
  induction L with
  | nil => intro i _; rfl
  | cons p t ih =>
    intro i h
    unfold mplace at h
    unfold mset
    split at h
    · cases h
    · rename_i hp; rw [if_neg hp, ih _ h]; rfl

theorem run_getMap {w : World} {m : Nat} {es : Array MapEntry} {c : Nat} (hh : w.heap[m]? = some (.map es c)) : (getObj m).run P w = .ok (.map es c) w := by
  simp [getObj, Sem.run, hh]

theorem run_setMap {w : World} {m : Nat} {es : Array MapEntry} {c : Nat} (hh : w.heap[m]? = some (.map es c)) (o : Obj) : (setObj m o).run P w = .ok () { w with heap := w.heap.setIfInBounds m o } := by
  simp [setObj, Sem.run, hh]

theorem run_zero {w : World} {et : TypeId} {z : Value} (hz : (P.info? et).map (·.zero) = some (some z)) : (zeroValue et).run P w = .ok z w := by
  cases hq : P.info? et with
  | none => simp [hq] at hz
  | some i =>
    have hs : i.zero = some z := by simpa [hq] using hz
    simp [zeroValue, typeInfo, hq, hs]

theorem run_findKey {w : World} {kt : TypeId} (hk : P.underlying kt = some (.int .i64)) {es : Array MapEntry} {L : List (Int × Value)} (h : es.toList.map (fun e => (e.key, e.val)) = L.map (fun p => (Value.int .i64 p.1, p.2))) (n : Int) :
    (Instr.findKey kt (.int .i64 n) es.toList).run P w = .ok (mplace L n 0) w := by
  simp [Instr.findKey, underlying, hk, findNow_int n es.toList L 0 h]

theorem run_checkKey {w : World} {kt : TypeId} (hk : P.underlying kt = some (.int .i64)) (b : Bool) (n : Int) (f : Nat) : (Instr.checkKey b (f + 1) kt (.int .i64 n)).run P w = .ok () w := by
  simp [Instr.checkKey, underlying, hk]

/-- 'v, ok := m[n]'. -/
theorem exec_lookup2 (t : TypeId) (x y : Operand) (ho : o.op = .lookup t x y true) {kt et : TypeId} (ht : P.underlying t = some (.map kt et)) (hk : P.underlying kt = some (.int .i64)) {z : Value} (hz : (P.info? et).map (·.zero) = some (some z))
    {m : Nat} {n : Int} {L : List (Int × Value)} (hx : a.eval x = .map (some m)) (hy : a.eval y = .int .i64 n) (hm : MapAt w m L) :
    (execOp a.eval o).run P w = .ok (.value (.tuple #[(mget L n).getD z, .bool (mget L n).isSome])) w := by
  obtain ⟨es, clock, hh, he⟩ := hm
  have hf := run_findKey (P := P) (w := w) hk he n
  have hc := run_checkKey (P := P) (w := w) hk es.isEmpty n 9999
  have hg := mplace_get L n 0
  have hgo := run_getMap (P := P) hh
  have hzr := run_zero (w := w) hz
  rw [← hg]
  unfold execOp
  cases hp : mplace L n 0 with
  | none => simp [ho, hx, hy, Instr.lookup, underlying, ht, hgo, hc, hf, hp, hzr]
  | some q => obtain ⟨i, q⟩ := q; simp [ho, hx, hy, Instr.lookup, underlying, ht, hgo, hc, hf, hp]

/-- 'm[n]'. -/
theorem exec_lookup1 (t : TypeId) (x y : Operand) (ho : o.op = .lookup t x y false) {kt et : TypeId} (ht : P.underlying t = some (.map kt et)) (hk : P.underlying kt = some (.int .i64)) {z : Value} (hz : (P.info? et).map (·.zero) = some (some z))
    {m : Nat} {n : Int} {L : List (Int × Value)} (hx : a.eval x = .map (some m)) (hy : a.eval y = .int .i64 n) (hm : MapAt w m L) :
    (execOp a.eval o).run P w = .ok (.value ((mget L n).getD z)) w := by
  obtain ⟨es, clock, hh, he⟩ := hm
  have hf := run_findKey (P := P) (w := w) hk he n
  have hc := run_checkKey (P := P) (w := w) hk es.isEmpty n 9999
  have hg := mplace_get L n 0
  have hgo := run_getMap (P := P) hh
  have hzr := run_zero (w := w) hz
  rw [← hg]
  unfold execOp
  cases hp : mplace L n 0 with
  | none => simp [ho, hx, hy, Instr.lookup, underlying, ht, hgo, hc, hf, hp, hzr]
  | some q => obtain ⟨i, q⟩ := q; simp [ho, hx, hy, Instr.lookup, underlying, ht, hgo, hc, hf, hp]

/-- 'm[n] = v'. -/
theorem exec_mapUpdate (t : TypeId) (x y z : Operand) (ho : o.op = .mapUpdate t x y z) {kt et : TypeId} (ht : P.underlying t = some (.map kt et)) (hk : P.underlying kt = some (.int .i64))
    {m : Nat} {n : Int} {L : List (Int × Value)} (hx : a.eval x = .map (some m)) (hy : a.eval y = .int .i64 n) (hm : MapAt w m L) :
    ∃ w', (execOp a.eval o).run P w = .ok .skip w' ∧ MapAt w' m (mset L n (a.eval z)) ∧ Upd [m] w w' := by
  obtain ⟨es, clock, hh, he⟩ := hm
  have hf := run_findKey (P := P) (w := w) hk he n
  have hc := run_checkKey (P := P) (w := w) hk false n 9999
  have hset : ∀ o : Obj, ({ w with heap := w.heap.setIfInBounds m o } : World).heap[m]? = some o := fun o => by
    have := lt_of_block hh
    simp [this]
  have hupd : ∀ o : Obj, Upd [m] w { w with heap := w.heap.setIfInBounds m o } := fun o =>
    ⟨rfl, rfl, rfl, by simp, fun k _ hn => by
      simp only [List.mem_singleton] at hn
      simp [Ne.symm hn]⟩
  cases hp : mplace L n 0 with
  | none =>
    refine ⟨{ w with heap := w.heap.setIfInBounds m (.map (es.push { key := .int .i64 n, val := a.eval z, born := clock }) (clock + 1)) }, ?_, ⟨_, _, hset _, ?_⟩, hupd _⟩
    · unfold execOp
      simp [ho, hx, hy, Instr.mapUpdate, underlying, ht, run_getMap (P := P) hh, run_setMap (P := P) hh, hc, hf, hp]
    · rw [mset_none _ _ _ _ hp]; simp [he]
  | some q =>
    obtain ⟨i, q⟩ := q
    have hpl := mset_place n (a.eval z) es.toList L 0 i q he (by rw [hp]; simp)
    refine ⟨{ w with heap := w.heap.setIfInBounds m (.map (es.modify i fun e => { e with key := .int .i64 n, val := a.eval z }) clock) }, ?_, ⟨_, _, hset _, ?_⟩, hupd _⟩
    · have hk2 : (es[i]?).map (·.key) = some (.int .i64 n) := by simpa using hpl.2
      unfold execOp
      simp [ho, hx, hy, Instr.mapUpdate, underlying, ht, run_getMap (P := P) hh, run_setMap (P := P) hh, hc, hf, hp, hk2, Instr.keyThatStays, Instr.sameBits]
    · rw [Array.toList_modify]; exact hpl.1

/-- 'clear(m)'. -/
theorem exec_clear (x : Operand) (t : TypeId) (ho : o.op = .call { callee := .builtin .clear, args := #[x], argTypes := #[t] }) {kt et : TypeId} (ht : P.underlying t = some (.map kt et)) {m : Nat} {L : List (Int × Value)} (hx : a.eval x = .map (some m)) (hm : MapAt w m L) :
    ∃ w', (execOp a.eval o).run P w = .ok (.value (.tuple #[])) w' ∧ MapAt w' m [] ∧ Upd [m] w w' := by
  obtain ⟨es, clock, hh, he⟩ := hm
  refine ⟨{ w with heap := w.heap.setIfInBounds m (.map #[] clock) }, ?_, ⟨#[], clock, ?_, rfl⟩, ⟨rfl, rfl, rfl, by simp, fun k _ hn => ?_⟩⟩
  · unfold execOp
    simp [ho, resolve, invoke, builtin, hx, Builtin.clear_, underlying, ht, run_getMap (P := P) hh, run_setMap (P := P) hh]
  · have := lt_of_block hh
    simp [this]
  · simp only [List.mem_singleton] at hn
    simp [Ne.symm hn]
end

end Go.Proofs.Ytpeboaoephkfhaa
