/- What the texts of the document's disk need, laid apart for the layers above. -/
import Derived.Test.YtfjmkdjbeoafjaaLaws
import Derived.Test.YtfjmkdjbeoafjaaOpen
import Derived.Deep.DeepCutAuto
import Derived.Deep.CutBlock
import Derived.Deep.RegionHeld3
import Derived.Deep.AppendLies
import Derived.Laws.OwnMore
namespace Go.Proofs.Ytfjmkdjbeoafjaa
open Go.ChangeShapes Go.WideShapes Go.ChangeAt Go.RowKit

theorem get_put (d : DK) (n k : Int) (x : Blok) : (d.put n x).get k = if k = n then x else d.get k := by
  unfold DK.get DK.put
  simp only [mget_mset]
  split <;> rfl

theorem mget_cons {α : Type} (p : Int × α) (t : List (Int × α)) (n : Int) : mget (p :: t) n = if p.1 = n then some p.2 else mget t n := by
  unfold mget
  rw [List.find?_cons]
  by_cases h : p.1 = n
  · have e : (p.1 == n) = true := by simp [h]
    rw [if_pos h, e]; rfl
  · have e : (p.1 == n) = false := by simp [h]
    rw [if_neg h, e]

theorem mget_none {α : Type} {L : List (Int × α)} {n : Int} (h : n ∉ L.map (·.1)) : mget L n = none := by
  cases hm : mget L n with
  | none => rfl
  | some x => exact absurd (mget_isSome.1 (by rw [hm]; rfl)) h

theorem flush_len (d : DK) : d.flush.last.length = d.last.length := by
  unfold DK.flush; split
  · rfl
  · exact DK.settleL_len _ _ _ _

theorem flush_dn (d : DK) : d.flush.down = d.down := by unfold DK.flush; split <;> rfl

theorem flush_fr (d : DK) (h : d.down = false) : d.flush.fresh = [] := by unfold DK.flush; rw [h]; rfl

/-- These cells lie there, wherever that is. -/
def CellsAt (w : World) (g off : Nat) (cs : List Value) : Prop := ∀ j v, cs[j]? = some v → w.cell? ⟨g, off + j, none⟩ = some v

theorem CellsAt.upd {S : List Nat} {w w' : World} {g off : Nat} {cs : List Value} (h : CellsAt w g off cs) (hu : Upd S w w') (hg : g < w.heap.size) (hS : g ∉ S) : CellsAt w' g off cs :=
  fun j v hj => (World.cell?_of_block (a := ⟨g, off + j, none⟩) (hu.block g hg hS)).trans (h j v hj)

section
variable {P : Program} {a : Act} {o : Oper} {w : World}

/-- A whole array or struct, read, wherever it lies. -/
theorem exec_loadC (ty : TypeId) (x : Operand) (ho : o.op = .load ty x) {g off k : Nat} {cs : List Value} (hx : a.eval x = .pointer (some ⟨g, off, none⟩)) (hc : CellsAt w g off cs)
    (hu : (∃ n e, P.underlying ty = some (.array n e)) ∨ ∃ fs, P.underlying ty = some (.struct fs)) (hi : (P.info? ty).map (·.size) = some k) (hk : cs.length = k) : (execOp a.eval o).run P w = .ok (.value (.agg cs.toArray)) w := by
  have hl := run_loadCells_list (P := P) w ⟨g, off, none⟩ cs (fun j v hv => by
    have hadd : (⟨g, off, none⟩ : Addr).add j = ⟨g, off + j, none⟩ := by unfold Addr.add; split <;> simp_all
    rw [hadd]; exact hc j v hv)
  rw [hk] at hl
  cases hq : P.info? ty with
  | none => simp [hq] at hi
  | some i =>
    have hs : i.size = k := by simpa [hq] using hi
    unfold execOp
    rcases hu with ⟨n, e, hu⟩ | ⟨fs, hu⟩ <;> simp [ho, hx, Instr.loadAt, Instr.sureAddr, loadVar, isAgg, underlying, hu, sizeOf, typeInfo, hq, hs, hl]
end

/-- A block of bytes, read, wherever it lies. -/
theorem arr_loadC {a : Act} {o : Oper} {w : World} {g off : Nat} {b : Blok} (x : Operand) (ho : o.op = .load 54 x) (hx : a.eval x = .pointer (some ⟨g, off, none⟩)) (hc : CellsAt w g off (b.map (Value.int .u8))) (hb : b.length = 64) :
    (execOp a.eval o).run Try.prog w = .ok (.value (.agg (U8 b))) w :=
  exec_loadC (P := Try.prog) 54 x ho hx hc (.inl ⟨_, _, Try.underlying54⟩) info_arr (by simp [hb])

theorem set_len64 {L : List Blok} {x : Blok} (h : ∀ b ∈ L, b.length = 64) (hx : x.length = 64) (m : Nat) : ∀ b ∈ L.set m x, b.length = 64 := fun b hb => by
  rcases List.mem_or_eq_of_mem_set hb with h1 | h1
  · exact h b h1
  · rw [h1]; exact hx

theorem dirty_len (d : DK) : d.dirty.length = d.fresh.length := by simp [DK.dirty]

theorem dirty_old (d : DK) (n : Int) (x : Blok) (h : (mget d.fresh n).isSome = true) : (d.put n x).dirty = d.dirty := by
  unfold DK.put DK.dirty; rw [mset_keys, if_pos (mget_isSome.1 h)]

theorem dirty_new (d : DK) (n : Int) (x : Blok) (h : (mget d.fresh n).isSome = false) : (d.put n x).dirty = d.dirty ++ [n] := by
  unfold DK.put DK.dirty; rw [mset_keys, if_neg (fun hm => by rw [mget_isSome.2 hm] at h; cases h)]

theorem DInv.beside {w0 w w' : World} {b : Nat} {S T : List Nat} {d : DK} (h : DInv w0 w b S d) (hu : Upd T w w') (hT : ∀ k ∈ S, k ∉ T) (h0 : ∀ k ∈ T, w0.heap.size ≤ k) : DInv w0 w' b S d :=
  ⟨h.disk.upd hu hT, h.upd.then hu (fun k hk => .inr (h0 k hk)), h.base⟩

end Go.Proofs.Ytfjmkdjbeoafjaa
