/- Lists of a journal's calls that came in, opened. -/
import Derived.Test.YtfjmkdjbeoafjaaOpenB
import Derived.Lib.SmallJoins
namespace Go.Proofs.Ytfjmkdjbeoafjaa
open Go.ChangeShapes Go.WideShapes Go.ChangeAt Go.RowKit

/-- These cells lie there, wherever that is. -/
def CellsJ (w : World) (g off : Nat) (cs : List Value) : Prop := ∀ j v, cs[j]? = some v → w.cell? ⟨g, off + j, none⟩ = some v

theorem CellsJ.upd {S : List Nat} {w w' : World} {g off : Nat} {cs : List Value} (h : CellsJ w g off cs) (hu : Upd S w w') (hg : g < w.heap.size) (hS : g ∉ S) : CellsJ w' g off cs :=
  fun j v hj => (World.cell?_of_block (a := ⟨g, off + j, none⟩) (hu.block g hg hS)).trans (h j v hj)

/-- A whole struct, read, wherever it lies. -/
theorem exec_loadJ {P : Program} {a : Act} {o : Oper} {w : World} (ty : TypeId) (x : Operand) (ho : o.op = .load ty x) {g off k : Nat} {cs : List Value} (hx : a.eval x = .pointer (some ⟨g, off, none⟩)) (hc : CellsJ w g off cs)
    (hu : ∃ fs, P.underlying ty = some (.struct fs)) (hi : (P.info? ty).map (·.size) = some k) (hk : cs.length = k) : (execOp a.eval o).run P w = .ok (.value (.agg cs.toArray)) w := by
  have hl := run_loadCells_list (P := P) w ⟨g, off, none⟩ cs (fun j v hv => by
    have hadd : (⟨g, off, none⟩ : Addr).add j = ⟨g, off + j, none⟩ := by unfold Addr.add; split <;> simp_all
    rw [hadd]; exact hc j v hv)
  rw [hk] at hl
  cases hq : P.info? ty with
  | none => simp [hq] at hi
  | some i =>
    have hs : i.size = k := by simpa [hq] using hi
    unfold execOp
    obtain ⟨fs, hu⟩ := hu
    simp [ho, hx, Instr.loadAt, Instr.sureAddr, loadVar, isAgg, underlying, hu, sizeOf, typeInfo, hq, hs, hl]

/-- A whole variable, written. -/
theorem wpList_storeJ {P : Program} {a : Act} {o : Oper} {w : World} {ops : Array Oper} {Q : Exit → Act → World → Prop} {rest : List Oper} (hgd : o.guard = none) (t : TypeId) (x y : Operand) (ho : o.op = .store t x y) {g k : Nat} {T : TypeId} {c news : Array Value} (hx : a.eval x = .pointer (some ⟨g, 0, none⟩)) (hy : a.eval y = .agg news) (hb : Blk w g c T)
    (hi : (P.info? t).map (·.size) = some k) (hn : news.size = k) (hc : c.size = k) (h1 : ∀ v ∈ news.toList, v.oneCell' = true)
    (h : ∀ w', Blk w' g news T → Upd [g] w w' → w'.heap.size = w.heap.size → wpList P ops Q rest (a.put o.dst undef) w') : wpList P ops Q (o :: rest) a w := by
  have hr := exec_store (P := P) t x y ho hx hy hb hi hn (by omega) h1
  rw [splice_all (by simp; omega), Array.toArray_toList] at hr
  exact wpList_runU hgd hr (h _ (setRow_blk hb _) (setRow_upd (Upd.refl _ _) (.inl (by simp)) _) (by simp))

/-- One call of a script. -/
structure CallJ where
  kind : Int
  bv : Value
  b : List Int
  n : Int
  fv : Value
  fates : List Int

def CallJ.cells (c : CallJ) : List Value := [.int .i64 c.kind, c.bv, .int .i64 c.n, c.fv]

/-- What a call of a script brings. -/
def CallJ.in_ (w : World) (c : CallJ) : Prop := BytesAt w c.bv c.b ∧ U8L c.b ∧ IntsAt w c.fv c.fates

/-- A script, wherever it lies. -/
def CallsJ (w : World) (v : Value) (l : List CallJ) : Prop :=
  ∃ a cap, v = .slice a l.length cap ∧ l.length ≤ maxLen ∧ (l ≠ [] → ∃ g off, a = some ⟨g, off, none⟩ ∧ g < w.heap.size ∧ ∀ i c, l[i]? = some c → CellsJ w g (off + i * 4) c.cells ∧ c.in_ w)

section
variable {H : Type} {enc : TypeId × Value → H} {w : World} {base : Nat} {held : Bool}

theorem trod_callJ {fuel : Nat} {cs : List Value} {x : DataW H × List MemPlace} (h : DataW.trod enc Try.prog w base (fun _ => true) held fuel 34 cs = some x) :
    ∃ c : CallJ, cs = c.cells ∧ c.in_ w := by
  obtain ⟨y0, y1, y2, y3, n, rfl, hl, h0, h1, h2, h3⟩ := Go.Joins.trod_struct4 Try.underlying34 h
  have e0 : Try.prog.cellsOf 3 = 1 := by kernel_rfl
  have e1 : Try.prog.cellsOf 31 = 1 := by kernel_rfl
  have e3 : Try.prog.cellsOf 32 = 1 := by kernel_rfl
  have e4 : Try.prog.cellsOf 34 = 4 := by kernel_rfl
  rw [e4] at hl
  simp only [e0] at h0 h2
  simp only [e1] at h1
  simp only [e3] at h3
  obtain ⟨z0, k0, -, -⟩ := DataW.trod_int Try.underlying3 h0
  obtain ⟨bv, b, k1, hb, hbu, -⟩ := trod_bytesS h1
  obtain ⟨z2, k2, -, -⟩ := DataW.trod_int Try.underlying3 h2
  obtain ⟨fv, fs, k3, hf⟩ := trod_ints Try.underlying32 Try.underlying3 (by kernel_rfl) h3
  refine ⟨⟨z0, bv, b, z2, fv, fs⟩, ?_, hb, hbu, hf⟩
  have s1 : cs = cs.take 1 ++ ((cs.drop 1).take 1 ++ ((cs.drop 2).take 1 ++ (cs.drop 3).take 1)) := by
    have t3 : (cs.drop 3).take 1 = cs.drop 3 := List.take_of_length_le (by simp; omega)
    rw [t3, show cs.drop 3 = (cs.drop 2).drop 1 by simp, List.take_append_drop, show cs.drop 2 = (cs.drop 1).drop 1 by simp, List.take_append_drop, List.take_append_drop]
  simp only [List.drop_zero] at k0
  rw [s1]
  rw [k0, k1, k2, k3]
  rfl

/-- An argument that is a script. -/
theorem open_callsJ {v : Value} {d : DataW H} {p : List MemPlace} (ho : ∃ a n c, v = .slice a n c) (h : DataW.Trod enc Try.prog w base (fun _ => true) held 23 v d p) : ∃ l, CallsJ w v l := by
  obtain ⟨a, n, c, rfl⟩ := ho
  obtain ⟨fuel, hf⟩ := h
  have e4 : Try.prog.cellsOf 34 = 4 := by kernel_rfl
  rcases Go.Deep.open_slice Try.underlying23 hf with ⟨e, -⟩ | ⟨a', len, cap, m, fu, D, Pl, e, -, hlc, hcm, hm, -, hel⟩
  · simp only [Value.cells, List.cons.injEq, and_true, Value.slice.injEq] at e
    obtain ⟨rfl, rfl, rfl⟩ := e
    exact ⟨[], none, 0, rfl, by simp, fun h => absurd rfl h⟩
  · simp only [Value.cells, List.cons.injEq, and_true, Value.slice.injEq] at e
    obtain ⟨rfl, rfl, rfl⟩ := e
    rw [if_pos rfl] at hm
    subst hm
    rw [e4] at hel
    have hel2 : ∀ i, i < n → ∃ ck : CallJ, w.cells? base (a'.add (i * 4)) 4 = some ck.cells ∧ ck.in_ w := by
      intro i hi
      obtain ⟨cs', h1, h2⟩ := hel i (by omega)
      obtain ⟨ck, rfl, h3⟩ := trod_callJ h2
      exact ⟨ck, h1, h3⟩
    obtain ⟨f, hf2⟩ := @Go.Deep.choose_lt CallJ ⟨⟨0, .bool false, [], 0, .bool false, []⟩⟩ n _ hel2
    refine ⟨(List.range n).map f, some a', m, by simp, by simp; omega, fun hne => ?_⟩
    have hpos : 0 < n := by
      rcases Nat.eq_zero_or_pos n with h0 | h0
      · exfalso; apply hne; rw [h0]; rfl
      · exact h0
    have hcell : ∀ i, i < n → ∀ j, j < 4 → w.cell? ((a'.add (i * 4)).add j) = (f i).cells[j]? := fun i hi j hj => (World.cells?_some (hf2 i hi).1).2.2 j hj
    have hlen : ∀ i, i < n → (f i).cells.length = 4 := fun i hi => rfl
    have hsp : a'.spot = none := by
      have h0 := hcell 0 hpos 0 (by omega)
      rw [List.getElem?_eq_getElem (by rw [hlen 0 hpos]; omega)] at h0
      unfold World.cell? at h0
      split at h0
      · split at h0
        · cases h0
        · rename_i hs; simpa [Addr.add] using hs
      · cases h0
    obtain ⟨g, off, sp⟩ := a'
    simp only at hsp
    subst hsp
    have hadd : ∀ x j, (⟨g, x, none⟩ : Addr).add j = ⟨g, x + j, none⟩ := fun x j => by unfold Addr.add; split <;> simp_all
    refine ⟨g, off, rfl, ?_, fun i c hc => ?_⟩
    · have h0 := hcell 0 hpos 0 (by omega)
      rw [List.getElem?_eq_getElem (by rw [hlen 0 hpos]; omega)] at h0
      have := World.block_lt_of_cell? _ _ h0
      simpa [Addr.add] using this
    · have hi : i < n := by
        have := (List.getElem?_eq_some_iff.1 hc).1
        simpa using this
      have e : c = f i := by
        rw [List.getElem?_map, List.getElem?_range hi] at hc
        simpa using hc.symm
      subst e
      refine ⟨fun j v hj => ?_, (hf2 i hi).2⟩
      have hj4 : j < 4 := by
        have := (List.getElem?_eq_some_iff.1 hj).1
        rw [hlen i hi] at this; exact this
      have h1 := hcell i hi j hj4
      rw [hadd, hadd] at h1
      rw [h1, hj]
end

end Go.Proofs.Ytfjmkdjbeoafjaa
