/- The document's journal: piece. -/
import Derived.Test.YtfjmkdjbeoafjaaRefK
import Derived.Great.BuildSlice
import Derived.Deep.AppendLies
namespace Go.Proofs.Ytfjmkdjbeoafjaa
open Go.ChangeShapes Go.WideShapes Go.ChangeAt Go.RowKit

/-- An empty slice literal: a row of its own without cells. -/
theorem exec_build_empty {P : Program} {o : Oper} {a : Act} {w : World} (t e : TypeId) {k : Nat} (ho : o.op = .buildSlice t 0 #[]) (hu : P.underlying t = some (.slice e)) (hi : (P.info? e).map (·.size) = some k) :
    (execOp a.eval o).run P w = .ok (.value (.slice (some ⟨w.heap.size, 0, none⟩) 0 0)) (w.alloc (.cells #[] e)) := by
  cases hq : P.info? e with
  | none => simp [hq] at hi
  | some i =>
    have hr : (Instr.buildSlice t 0 #[]).run P w = .ok (.slice (some ⟨w.heap.size, 0, none⟩) 0 0) (w.alloc (.cells #[] e)) := by
      simp [Instr.buildSlice, run_underlying hu, sizeOf, typeInfo, hq, newRow, Instr.fill]
      rw [show Array.range 0 = #[] from by simp [Array.range], Array.map_empty]
    unfold execOp
    simp [ho, hr]

/-- 'b[l:h]' of an array. -/
theorem exec_slice_arr {P : Program} {o : Oper} {a : Act} {w : World} (t : TypeId) (x y z : Operand) (ho : o.op = .slice t x (some y) (some z) none) {N : Nat} (ht : P.underlying t = some (.array (P.arrayLen t) (P.elem t))) (hN : P.arrayLen t = N) (hs : (P.info? (P.elem t)).map (·.size) = some 1)
    {g l h m : Nat} {kl kh : IntKind} (hx : a.eval x = .pointer (some ⟨g, 0, none⟩)) (hy : a.eval y = .int kl l) {h' : Int} (hz : a.eval z = .int kh h') (hh : h' = (h : Int)) (h1 : l ≤ h) (h2 : h ≤ N) (h3 : l < N) (hm : h - l = m) :
    (execOp a.eval o).run P w = .ok (.value (.slice (some ⟨g, l, none⟩) m (N - l))) w := by
  subst hh hm
  have hadd : (⟨g, 0, none⟩ : Addr).add l = ⟨g, l, none⟩ := by unfold Addr.add; split <;> simp_all
  have hz' : ∀ w, (sizeOf (P.elem t)).run P w = .ok 1 w := by
    intro w
    cases hq : P.info? (P.elem t) with
    | none => simp [hq] at hs
    | some i => simp [hq] at hs; simp [sizeOf, typeInfo, hq, hs]
  have e1 := run_sliceAt_array_lh (P := P) w t ⟨g, 0, none⟩ ht kl kh (l : Int) (h : Int) (by omega) (by omega) (by rw [hN]; omega)
  rw [hz', Result.andThen_ok, hN] at e1
  have e2 : slicedAt ⟨g, 0, none⟩ (l : Int).toNat (h : Int).toNat N 1 = .slice (some ⟨g, l, none⟩) (h - l) (N - l) := by
    unfold slicedAt
    rw [if_neg (by simp; omega)]
    simp [hadd]
  rw [e2] at e1
  unfold execOp
  simp only [ho, hx, hy, hz, Option.map_some, Option.map_none, Sem.run_bind, e1, Result.andThen_ok, Sem.run_pure]

/-- What the document says of a block: the same as goodB. -/
theorem piece_key (head tail least n b10 b11 : Int) (within sz r : Bool) (h0 : 0 ≤ head) (hl : 1 ≤ least) (hr : r = (decide (max least 1 ≤ head) && (!within || head == least) && (head == tail) && sz && decide (b10 ≤ 1) && (b11 == 0))) :
    ((head == 0) = true ∧ r = false) ∨ ((head == 0) = false ∧ (head == tail) = false ∧ r = false) ∨ ((head == 0) = false ∧ (head == tail) = true ∧ decide (head < least) = true ∧ r = false) ∨
    ((head == 0) = false ∧ (head == tail) = true ∧ decide (head < least) = false ∧ within = true ∧ (head == least) = false ∧ r = false) ∨
    ((head == 0) = false ∧ (head == tail) = true ∧ decide (head < least) = false ∧ (within = false ∨ within = true ∧ (head == least) = true) ∧
      ((sz = false ∧ r = false) ∨ (sz = true ∧ decide (1 < b10) = true ∧ r = false) ∨ (sz = true ∧ decide (1 < b10) = false ∧ (b11 == 0) = false ∧ r = false) ∨ (sz = true ∧ decide (1 < b10) = false ∧ (b11 == 0) = true ∧ r = true))) := by
  have hm : decide (max least 1 ≤ head) = !decide (head < least) := by
    by_cases h : head < least
    · rw [decide_eq_true h, decide_eq_false (by omega)]; rfl
    · rw [decide_eq_false h, decide_eq_true (by omega)]; rfl
  have h1 : decide (b10 ≤ 1) = !decide (1 < b10) := by
    by_cases h : 1 < b10
    · rw [decide_eq_true h, decide_eq_false (by omega)]; rfl
    · rw [decide_eq_false h, decide_eq_true (by omega)]; rfl
  have h00 : (head == 0) = true → decide (head < least) = true := fun h => by simp at h ⊢; omega
  rw [hm, h1] at hr
  subst hr
  revert h00
  cases head == 0 <;> cases decide (head < least) <;> cases within <;> cases head == least <;> cases head == tail <;> cases sz <;> cases decide (1 < b10) <;> cases b11 == 0 <;> simp

/-- The size that a block says, as the document asks for it. -/
theorem psize_key (n x : Int) (r : Bool) (h : r = (n == 44 || (x == 1 && (decide (0 < n) && decide (n < 44))))) :
    ((n == 44) = true ∧ r = true) ∨ ((n == 44) = false ∧ (x == 1) = false ∧ r = false) ∨ ((n == 44) = false ∧ (x == 1) = true ∧ decide (1 ≤ n) = false ∧ r = false) ∨
      ((n == 44) = false ∧ (x == 1) = true ∧ decide (1 ≤ n) = true ∧ decide (n ≤ 44) = false ∧ r = false) ∨ ((n == 44) = false ∧ (x == 1) = true ∧ decide (1 ≤ n) = true ∧ decide (n ≤ 44) = true ∧ r = true) := by
  subst h
  by_cases h1 : n = 44
  · left; simp [h1]
  · right
    have e1 : (n == 44) = false := by simpa using h1
    rw [e1]
    by_cases h2 : x = 1
    · right
      have e2 : (x == 1) = true := by simpa using h2
      rw [e2]
      by_cases h3 : 0 < n
      · right
        by_cases h4 : n < 44
        · right; rw [decide_eq_true h3, decide_eq_true h4, decide_eq_true (by omega : 1 ≤ n), decide_eq_true (by omega : n ≤ 44)]; simp
        · left; rw [decide_eq_true h3, decide_eq_false h4, decide_eq_true (by omega : 1 ≤ n), decide_eq_false (by omega : ¬ n ≤ 44)]; simp
      · left; rw [decide_eq_false h3, decide_eq_false (by omega : ¬ 1 ≤ n)]; simp
    · left
      have e2 : (x == 1) = false := by simpa using h2
      rw [e2]; simp

end Go.Proofs.Ytfjmkdjbeoafjaa
