/- Arrays of blocks in variables of their own: twenty blocks, twenty truth values. -/
import Derived.Test.YtmdioojaaneacaaDiskL
namespace Go.Proofs.Ytmdioojaaneacaa
open Go.ChangeShapes Go.WideShapes Go.ChangeAt Go.RowKit

section
variable {P : Program} {a : Act} {o : Oper} {w : World}

/-- The zero value of an array type, built. -/
theorem exec_build0 (t : TypeId) (ho : o.op = .build t #[]) {e : TypeId} {n k : Nat} (ht : P.underlying t = some (.array n e)) (hs : (P.info? e).map (·.size) = some k) {c : Array Value} (hz : (P.info? t).map (·.zero) = some (some (.agg c))) :
    (execOp a.eval o).run P w = .ok (.value (.agg c)) w := by
  have hz' := run_zero (P := P) (w := w) hz
  have hs' : ∀ w, (sizeOf e).run P w = .ok k w := by
    intro w
    cases hq : P.info? e with
    | none => simp [hq] at hs
    | some i => simp [hq] at hs; simp [sizeOf, typeInfo, hq, hs]
  unfold execOp
  simp [ho, Instr.build, hz', underlying, ht, hs', Instr.fill, Value.cells]

theorem wpList_build0 {ops : Array Oper} {Q : Exit → Act → World → Prop} {rest : List Oper} (hgd : o.guard = none) (t : TypeId) (ho : o.op = .build t #[]) {e : TypeId} {n k : Nat} (ht : P.underlying t = some (.array n e)) (hs : (P.info? e).map (·.size) = some k) {c : Array Value} (hz : (P.info? t).map (·.zero) = some (some (.agg c)))
    (h : wpList P ops Q rest (a.put o.dst (.agg c)) w) : wpList P ops Q (o :: rest) a w := wpList_run hgd (exec_build0 t ho ht hs hz) h

/-- A whole variable, written. -/
theorem wpList_storeAll {ops : Array Oper} {Q : Exit → Act → World → Prop} {rest : List Oper} (hgd : o.guard = none) (t : TypeId) (x y : Operand) (ho : o.op = .store t x y) {g k : Nat} {T : TypeId} {c news : Array Value} (hx : a.eval x = .pointer (some ⟨g, 0, none⟩)) (hy : a.eval y = .agg news) (hb : Blk w g c T)
    (hi : (P.info? t).map (·.size) = some k) (hn : news.size = k) (hc : c.size = k) (h1 : ∀ v ∈ news.toList, v.oneCell' = true)
    (h : ∀ w', Blk w' g news T → Upd [g] w w' → w'.heap.size = w.heap.size → wpList P ops Q rest (a.put o.dst undef) w') : wpList P ops Q (o :: rest) a w := by
  have hr := exec_store (P := P) t x y ho hx hy hb hi hn (by omega) h1
  rw [splice_all (by simp; omega), Array.toArray_toList] at hr
  exact wpList_runU hgd hr (h _ (setRow_blk hb _) (setRow_upd (Upd.refl _ _) (.inl (by simp)) _) (by simp))
end

/-- Truth values as cells. -/
def BO (l : List Bool) : Array Value := (l.map Value.bool).toArray
theorem BO_size (l : List Bool) : (BO l).size = l.length := by simp [BO]
theorem BO_get (l : List Bool) (i : Nat) (h : i < l.length) : (BO l)[i]? = some (.bool (l.getD i false)) := by
  unfold BO; simp [List.getElem?_map, List.getD_eq_getElem?_getD, List.getElem?_eq_getElem h]
theorem BO_set (l : List Bool) (i : Nat) (x : Bool) : (BO l).setIfInBounds i (.bool x) = BO (l.set i x) := by
  unfold BO; apply Array.ext'; simp [List.map_set]
theorem BO_one (l : List Bool) : ∀ v ∈ (BO l).toList, v.oneCell' = true := by
  intro v hv; unfold BO at hv; obtain ⟨x, _, rfl⟩ := List.mem_map.1 hv; rfl

def zero20 : List Blok := List.replicate 20 DK.zeros
theorem zero20_len : ∀ b ∈ zero20, b.length = 64 := fun b hb => by rw [List.eq_of_mem_replicate hb]; exact DK.zeros_len

theorem info_a20 : (Try.prog.info? 34).map (·.size) = some 1280 := by kernel_rfl
theorem zero_a20 : (Try.prog.info? 34).map (·.zero) = some (some (.agg (U8 zero20.flatten))) := by kernel_rfl

theorem own_keep {w w' : World} {S S' : List Nat} {base : Nat} {e : TypeId} {size n : Nat} {v : Value} {xs : List Value} (h : w.ownsRow base e size v n xs) (hk : Keep w S w' S') (hS : ∀ g, v.ownBlock = some g → g ∉ S) :
    w'.ownsRow base e size v n xs ∧ ∀ g, v.ownBlock = some g → g ∉ S' := by
  have hlt : ∀ g, v.ownBlock = some g → g < w.heap.size := fun g hg => (h.lt g hg).2
  refine ⟨⟨h.1, ?_⟩, fun g hg => (hk.2 g (hlt g hg) (hS g hg)).1⟩
  rcases h.2 with h2 | ⟨g, cap, cur, rfl, hg, hh, r⟩
  · exact .inl h2
  · refine .inr ⟨g, cap, cur, rfl, hg, ?_, r⟩
    rw [(hk.2 g (hlt g rfl) (hS g rfl)).2]; exact hh

/-- The disk is not touched by what lies beside it. -/
theorem DInv.beside {w0 w w' : World} {b : Nat} {S T : List Nat} {d : DK} (h : DInv w0 w b S d) (hu : Upd T w w') (hT : ∀ k ∈ S, k ∉ T) (h0 : ∀ k ∈ T, w0.heap.size ≤ k) : DInv w0 w' b S d :=
  ⟨h.disk.upd hu hT, h.upd.then hu (fun k hk => .inr (h0 k hk)), h.base⟩

/-- A list that came in, behind the calls. -/
theorem IntsAt.later {w0 w : World} {v : Value} {l : List Int} (h : IntsAt w0 v l) (hu : Upd [] w0 w) : IntsAt w v l := h.upd0 hu

end Go.Proofs.Ytmdioojaaneacaa
