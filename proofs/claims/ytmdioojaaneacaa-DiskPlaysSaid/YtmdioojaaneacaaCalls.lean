/- Lists of calls that came in, opened. -/
import Derived.Test.YtmdioojaaneacaaArr
import Derived.Lib.SmallJoins
import Derived.Deep.Slices
namespace Go.Proofs.Ytmdioojaaneacaa
open Go.ChangeShapes Go.WideShapes Go.ChangeAt Go.RowKit

/-- These cells lie there, wherever that is. -/
def CellsAt (w : World) (g off : Nat) (cs : List Value) : Prop := ∀ j v, cs[j]? = some v → w.cell? ⟨g, off + j, none⟩ = some v

theorem CellsAt.upd {S : List Nat} {w w' : World} {g off : Nat} {cs : List Value} (h : CellsAt w g off cs) (hu : Upd S w w') (hg : g < w.heap.size) (hS : g ∉ S) : CellsAt w' g off cs :=
  fun j v hj => (World.cell?_of_block (a := ⟨g, off + j, none⟩) (hu.block g hg hS)).trans (h j v hj)

section
variable {P : Program} {a : Act} {o : Oper} {w : World}

/-- A whole array or struct, read, wherever it lies. -/
theorem exec_loadC (ty : TypeId) (x : Operand) (ho : o.op = .load ty x) {g off k : Nat} {cs : List Value} (hx : a.eval x = .pointer (some ⟨g, off, none⟩)) (hc : CellsAt w g off cs)
    (hu : (∃ n e, P.underlying ty = some (.array n e)) ∨ ∃ fs, P.underlying ty = some (.struct fs)) (hi : (P.info? ty).map (·.size) = some k) (hk : cs.length = k) : (execOp a.eval o).run P w = .ok (.value (.agg cs.toArray)) w := by
  have hl := run_loadCells_list (P := P) w ⟨g, off, none⟩ cs (fun j v hv => by
    have hadd : (⟨g, off, none⟩ : Addr).add j = ⟨g, off + j, none⟩ := by unfold Addr.add; split <;> simp_all
    rw [hadd]; exact hc j v hv)
  rw [hk] at hl
  cases hq : P.info? ty with
  | none => simp [hq] at hi
  | some i =>
    have hs : i.size = k := by simpa [hq] using hi
    unfold execOp
    rcases hu with ⟨n, e, hu⟩ | ⟨fs, hu⟩ <;> simp [ho, hx, Instr.loadAt, Instr.sureAddr, loadVar, isAgg, underlying, hu, sizeOf, typeInfo, hq, hs, hl]
end

/-- One call of a script. -/
structure CallK where
  kind : Int
  n : Int
  b : Blok
  v : Value
  fates : List Int

namespace CallK
def cells (c : CallK) : List Value := .int .i64 c.kind :: .int .i64 c.n :: (c.b.map (Value.int .u8) ++ [c.v])
end CallK

/-- A script, wherever it lies. -/
def CallsAt (w : World) (v : Value) (l : List CallK) : Prop :=
  ∃ a cap, v = .slice a l.length cap ∧ l.length ≤ maxLen ∧ (l ≠ [] → ∃ g off, a = some ⟨g, off, none⟩ ∧ g < w.heap.size ∧ ∀ i c, l[i]? = some c → CellsAt w g (off + i * 67) c.cells ∧ c.b.length = 64 ∧ IntsAt w c.v c.fates)

section
variable {H : Type} {enc : TypeId × Value → H} {P : Program} {w : World} {base : Nat} {held : Bool}

theorem trod_call {fuel : Nat} {cs : List Value} {x : DataW H × List MemPlace} (h : DataW.trod enc Try.prog w base (fun _ => true) held fuel 36 cs = some x) :
    ∃ c : CallK, cs = c.cells ∧ c.b.length = 64 ∧ IntsAt w c.v c.fates := by
  obtain ⟨y0, y1, y2, y3, n, rfl, hl, h0, h1, h2, h3⟩ := Go.Joins.trod_struct4 Try.underlying36 h
  have e0 : Try.prog.cellsOf 3 = 1 := by kernel_rfl
  have e2 : Try.prog.cellsOf 23 = 64 := by kernel_rfl
  have e3 : Try.prog.cellsOf 33 = 1 := by kernel_rfl
  have e4 : Try.prog.cellsOf 36 = 67 := by kernel_rfl
  rw [e4] at hl
  simp only [e0] at h0 h1
  simp only [e2] at h2
  simp only [e3] at h3
  obtain ⟨z0, k0, -, -⟩ := DataW.trod_int Try.underlying3 h0
  obtain ⟨z1, k1, -, -⟩ := DataW.trod_int Try.underlying3 h1
  obtain ⟨b, k2, hb, -⟩ := trod_bytes Try.underlying23 Try.underlying5 (by kernel_rfl) (by kernel_rfl) h2
  obtain ⟨v, fs, k3, hf⟩ := trod_ints Try.underlying33 Try.underlying3 (by kernel_rfl) h3
  refine ⟨⟨z0, z1, b, v, fs⟩, ?_, hb, hf⟩
  have s1 : cs = cs.take 1 ++ ((cs.drop 1).take 1 ++ ((cs.drop 2).take 64 ++ (cs.drop 66).take 1)) := by
    have t3 : (cs.drop 66).take 1 = cs.drop 66 := List.take_of_length_le (by simp; omega)
    rw [t3, show cs.drop 66 = (cs.drop 2).drop 64 by simp, List.take_append_drop, show cs.drop 2 = (cs.drop 1).drop 1 by simp, List.take_append_drop, List.take_append_drop]
  simp only [List.drop_zero] at k0
  rw [s1]
  rw [k0, k1, k2, k3]
  rfl

/-- An argument that is a script. -/
theorem open_calls {v : Value} {d : DataW H} {p : List MemPlace} (ho : ∃ a n c, v = .slice a n c) (h : DataW.Trod enc Try.prog w base (fun _ => true) held 32 v d p) : ∃ l, CallsAt w v l := by
  obtain ⟨a, n, c, rfl⟩ := ho
  obtain ⟨fuel, hf⟩ := h
  have e4 : Try.prog.cellsOf 36 = 67 := by kernel_rfl
  rcases Go.Deep.open_slice Try.underlying32 hf with ⟨e, -⟩ | ⟨a', len, cap, m, fu, D, Pl, e, -, hlc, hcm, hm, -, hel⟩
  · simp only [Value.cells, List.cons.injEq, and_true, Value.slice.injEq] at e
    obtain ⟨rfl, rfl, rfl⟩ := e
    exact ⟨[], none, 0, rfl, by simp, fun h => absurd rfl h⟩
  · simp only [Value.cells, List.cons.injEq, and_true, Value.slice.injEq] at e
    obtain ⟨rfl, rfl, rfl⟩ := e
    rw [if_pos rfl] at hm
    subst hm
    rw [e4] at hel
    have hel2 : ∀ i, i < n → ∃ ck : CallK, w.cells? base (a'.add (i * 67)) 67 = some ck.cells ∧ ck.b.length = 64 ∧ IntsAt w ck.v ck.fates := by
      intro i hi
      obtain ⟨cs', h1, h2⟩ := hel i (by omega)
      obtain ⟨ck, rfl, h3, h4⟩ := trod_call h2
      exact ⟨ck, h1, h3, h4⟩
    obtain ⟨f, hf2⟩ := @Go.Deep.choose_lt CallK ⟨⟨0, 0, [], .bool false, []⟩⟩ n _ hel2
    refine ⟨(List.range n).map f, some a', m, by simp, by simp; omega, fun hne => ?_⟩
    have hpos : 0 < n := by
      rcases Nat.eq_zero_or_pos n with h0 | h0
      · exfalso; apply hne; rw [h0]; rfl
      · exact h0
    have hcell : ∀ i, i < n → ∀ j, j < 67 → w.cell? ((a'.add (i * 67)).add j) = (f i).cells[j]? := fun i hi j hj => (World.cells?_some (hf2 i hi).1).2.2 j hj
    have hlen : ∀ i, i < n → (f i).cells.length = 67 := fun i hi => (World.cells?_some (hf2 i hi).1).2.1
    have hsp : a'.spot = none := by
      have h0 := hcell 0 hpos 0 (by omega)
      rw [List.getElem?_eq_getElem (by rw [hlen 0 hpos]; omega)] at h0
      unfold World.cell? at h0
      split at h0
      · split at h0
        · cases h0
        · rename_i hs; simpa [Addr.add] using hs
      · cases h0
    obtain ⟨g, off, sp⟩ := a'
    simp only at hsp
    subst hsp
    have hadd : ∀ x j, (⟨g, x, none⟩ : Addr).add j = ⟨g, x + j, none⟩ := fun x j => by unfold Addr.add; split <;> simp_all
    refine ⟨g, off, rfl, ?_, fun i c hc => ?_⟩
    · have h0 := hcell 0 hpos 0 (by omega)
      rw [List.getElem?_eq_getElem (by rw [hlen 0 hpos]; omega)] at h0
      have := World.block_lt_of_cell? _ _ h0
      simpa [Addr.add] using this
    · have hi : i < n := by
        have := (List.getElem?_eq_some_iff.1 hc).1
        simpa using this
      have e : c = f i := by
        rw [List.getElem?_map, List.getElem?_range hi] at hc
        simpa using hc.symm
      subst e
      refine ⟨fun j v hj => ?_, (hf2 i hi).2.1, (hf2 i hi).2.2⟩
      have hj67 : j < 67 := by
        have := (List.getElem?_eq_some_iff.1 hj).1
        rw [hlen i hi] at this; exact this
      have h1 := hcell i hi j hj67
      rw [hadd, hadd] at h1
      rw [h1, hj]
end

end Go.Proofs.Ytmdioojaaneacaa
