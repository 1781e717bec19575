/- Two boots compared. -/
import Derived.Test.YtpeboaoephkfhaaImgD
import Derived.Laws.StructEq
import Derived.ChangeKeysEq
namespace Go.Proofs.Ytpeboaoephkfhaa
open Go.ChangeShapes Go.WideShapes Go.ChangeAt Go.RowKit

def eqK (k l : BK) : Bool := k.area == l.area && (k.epoch == l.epoch && (k.size == l.size && k.whole == l.whole))
theorem eqK_iff (k l : BK) : eqK k l = true ↔ k = l := by
  obtain ⟨a, b, c, d⟩ := k
  obtain ⟨a', b', c', d'⟩ := l
  simp [eqK]
theorem eqK_refl (k : BK) : eqK k k = true := (eqK_iff k k).2 rfl
theorem eqK_ne {k l : BK} (h : k ≠ l) : eqK k l = false := by
  cases he : eqK k l with
  | false => rfl
  | true => exact absurd ((eqK_iff k l).1 he) h

theorem run_size32 (w : World) : (sizeOf 38).run Try.prog w = .ok 32 w := by
  have h := info_32
  cases hq : (Try.prog).info? 38 with
  | none => simp [hq] at h
  | some i => simp [hq] at h; simp [sizeOf, typeInfo, hq, h]
theorem run_part32 (w : World) (cs : Array Value) (off : Nat) : (part 38 cs off).run Try.prog w = .ok (.agg (cs.extract off (off + 32))) w := by
  have h : (isAgg 38).run Try.prog w = .ok true w := by
    simp [isAgg, underlying, Try.underlying38]
  simp [part, Sem.run_bind, h, run_size32]
theorem encK_cell0 (b : BK) : (encK b).toArray[0]? = some (.int .i64 b.area) := rfl
theorem encK_cell1 (b : BK) : (encK b).toArray[1]? = some (.int .i64 b.epoch) := rfl
theorem encK_cell2 (b : BK) : (encK b).toArray[2]? = some (.int .i64 b.size) := rfl
theorem encK_cells3 (b : BK) (h : b.whole.length = 32) : (encK b).toArray.extract 3 (3 + 32) = U8 b.whole := by
  apply Array.ext'
  rw [Array.toList_extract, List.extract_eq_take_drop, U8_toList]
  show (List.drop 3 (encK b)).take (3 + 32 - 3) = _
  rw [show List.drop 3 (encK b) = b.whole.map (Value.int .u8) from rfl, List.take_of_length_le (by rw [List.length_map, h]; omega)]

theorem boot_plain0 : Try.prog.plainKey 3 = true := by kernel_rfl
theorem boot_plain1 : Try.prog.plainKey 2 = true := by kernel_rfl
theorem boot_stood : Try.prog.stoodInHeld 40 = false := by kernel_rfl
theorem boot_ht : Try.prog.underlying 40 = some (.struct (Try.prog.fieldsOf 40)) := by kernel_rfl
theorem boot_guard : Try.prog.eqGuardType Try.prog.depth 40 = false := by kernel_rfl
theorem boot_fields : ∃ n0 n1 n2 n3 : Field, (Try.prog.fieldsOf 40).toList = [n0, n1, n2, n3] ∧ n0.name ≠ "_" ∧ n1.name ≠ "_" ∧ n2.name ≠ "_" ∧ n3.name ≠ "_" ∧ n0.type = 3 ∧ n1.type = 2 ∧ n2.type = 3 ∧ n3.type = 38 ∧ n0.offset = 0 ∧ n1.offset = 1 ∧ n2.offset = 2 ∧ n3.offset = 3 := by
  have h := boot_ht.symm.trans Try.underlying40
  simp only [Option.some.injEq, TypeDesc.struct.injEq] at h
  rw [h]
  exact ⟨_, _, _, _, rfl, by decide, by decide, by decide, by decide, rfl, rfl, rfl, rfl, rfl, rfl, rfl, rfl⟩
theorem eqFields_step {P : Program} {w : World} {d : Nat} {xs ys : Array Value} {f : Field} {fs : List Field} {a b : Value} {r : Bool} (hn : f.name ≠ "_") (ha : (part f.type xs f.offset).run P w = .ok a w) (hb : (part f.type ys f.offset).run P w = .ok b w)
    (hr : (Op.equalIn d f.type a b).run P w = .ok r w) : (Op.eqFields d xs ys (f :: fs)).run P w = bif r then (Op.eqFields d xs ys fs).run P w else .ok false w := by
  rw [Op.eqFields, if_pos hn]
  simp only [Sem.run_bind, ha, hb, hr, Result.andThen_ok]
  cases r
  · rfl
  · rfl
theorem eqFields_nil {P : Program} {w : World} {d : Nat} {xs ys : Array Value} : (Op.eqFields d xs ys []).run P w = .ok true w := by rw [Op.eqFields]; rfl

theorem run_eqBoot (w : World) (d : Nat) (k l : BK) (hk : k.whole.length = 32) (hl : l.whole.length = 32) :
    (Op.equalIn (d + 3) 40 (.agg (encK k).toArray) (.agg (encK l).toArray)).run Try.prog w = .ok (eqK k l) w := by
  have p1 : ∀ (t : TypeId) (b : BK) (i : Nat) (v : Value), Try.prog.plainKey t = true → (encK b).toArray[i]? = some v → (part t (encK b).toArray i).run Try.prog w = .ok v w := fun t b i v ht h => run_part_plain (P := Try.prog) w ht h
  rw [run_equalIn_struct w (d + 2) 40 _ _ boot_ht boot_stood]
  obtain ⟨n0, n1, n2, n3, hf, b0, b1, b2, b3, t0, t1, t2, t3, o0, o1, o2, o3⟩ := boot_fields
  rw [hf]
  have e0 : (Op.equalIn (d + 2) 3 (.int .i64 k.area) (.int .i64 l.area)).run Try.prog w = .ok (k.area == l.area) w := run_equalIn_int (P := Try.prog) w (d + 1) 3 .i64 .i64 k.area l.area Try.underlying3
  have e1 : (Op.equalIn (d + 2) 2 (.int .i64 k.epoch) (.int .i64 l.epoch)).run Try.prog w = .ok (k.epoch == l.epoch) w := run_equalIn_int (P := Try.prog) w (d + 1) 2 .i64 .i64 k.epoch l.epoch Try.underlying2
  have e2 : (Op.equalIn (d + 2) 3 (.int .i64 k.size) (.int .i64 l.size)).run Try.prog w = .ok (k.size == l.size) w := run_equalIn_int (P := Try.prog) w (d + 1) 3 .i64 .i64 k.size l.size Try.underlying3
  have e3 : (Op.equalIn (d + 2) 38 (.agg (U8 k.whole)) (.agg (U8 l.whole))).run Try.prog w = .ok (k.whole == l.whole) w := run_equalIn_ints (P := Try.prog) w .u8 d 38 5 32 Try.underlying38 Try.underlying5 (size_run (P := Try.prog) (e := 5) (k := 1) (by kernel_rfl)) k.whole l.whole hk hl
  have q0 := p1 3 k 0 _ boot_plain0 (encK_cell0 k)
  have q0' := p1 3 l 0 _ boot_plain0 (encK_cell0 l)
  have q1 := p1 2 k 1 _ boot_plain1 (encK_cell1 k)
  have q1' := p1 2 l 1 _ boot_plain1 (encK_cell1 l)
  have q2 := p1 3 k 2 _ boot_plain0 (encK_cell2 k)
  have q2' := p1 3 l 2 _ boot_plain0 (encK_cell2 l)
  have q3 := run_part32 w (encK k).toArray 3
  have q3' := run_part32 w (encK l).toArray 3
  rw [encK_cells3 k hk] at q3
  rw [encK_cells3 l hl] at q3'
  rw [eqFields_step b0 (by rw [t0, o0]; exact q0) (by rw [t0, o0]; exact q0') (by rw [t0]; exact e0)]
  rw [eqFields_step b1 (by rw [t1, o1]; exact q1) (by rw [t1, o1]; exact q1') (by rw [t1]; exact e1)]
  rw [eqFields_step b2 (by rw [t2, o2]; exact q2) (by rw [t2, o2]; exact q2') (by rw [t2]; exact e2)]
  rw [eqFields_step b3 (by rw [t3, o3]; exact q3) (by rw [t3, o3]; exact q3') (by rw [t3]; exact e3), eqFields_nil]
  unfold eqK
  generalize (k.area == l.area) = x0
  generalize (k.epoch == l.epoch) = x1
  generalize (k.size == l.size) = x2
  generalize (k.whole == l.whole) = x3
  cases x0 <;> cases x1 <;> cases x2 <;> cases x3 <;> rfl

theorem exec_eq_boot {a : Act} {o : Oper} {w : World} {k l : BK} {u : TypeId} (x y : Operand) (ho : o.op = .binOp .eql 40 x y u) (hx : a.eval x = .agg (encK k).toArray) (hy : a.eval y = .agg (encK l).toArray) (hk : k.whole.length = 32) (hl : l.whole.length = 32) :
    (execOp a.eval o).run Try.prog w = .ok (.value (.bool (eqK k l))) w := by
  have h : (Op.equalIn 10000 40 (.agg (encK k).toArray) (.agg (encK l).toArray)).run Try.prog w = .ok (eqK k l) w := run_eqBoot w 9997 k l hk hl
  unfold execOp
  simp only [ho, hx, hy, Sem.run_bind, run_eqGuard_agg (P := Try.prog) w .eql 40 x y _ _ boot_guard, Result.andThen_ok, run_eql_struct, h, Sem.run_pure]
theorem exec_neq_boot {a : Act} {o : Oper} {w : World} {k l : BK} {u : TypeId} (x y : Operand) (ho : o.op = .binOp .neq 40 x y u) (hx : a.eval x = .agg (encK k).toArray) (hy : a.eval y = .agg (encK l).toArray) (hk : k.whole.length = 32) (hl : l.whole.length = 32) :
    (execOp a.eval o).run Try.prog w = .ok (.value (.bool (!eqK k l))) w := by
  have h : (Op.equalIn 10000 40 (.agg (encK k).toArray) (.agg (encK l).toArray)).run Try.prog w = .ok (eqK k l) w := run_eqBoot w 9997 k l hk hl
  unfold execOp
  simp only [ho, hx, hy, Sem.run_bind, run_eqGuard_agg (P := Try.prog) w .neq 40 x y _ _ boot_guard, Result.andThen_ok, run_neq_struct, h, Sem.run_pure]

end Go.Proofs.Ytpeboaoephkfhaa
