/- 'append(s, x)' of one element: a slice of one is built, then appended. Of no program. -/
import Derived.Test.YtpeboaoephkfhaaOps
import Derived.Test.YtpeboaoephkfhaaHeld
import Derived.Great.BuildSlice
import Derived.Deep.AppendLies
namespace Go.Proofs.Ytpeboaoephkfhaa
open Go.RowKit

/-- 's[l:h]' of a slice of one-cell elements. -/
theorem exec_slice_lh {P : Program} {a : Act} {w : World} {o : Oper} (t : TypeId) (x y z : Operand) (ho : o.op = .slice t x (some y) (some z) none) (ht : P.underlying t = some (.slice (P.elem t))) (hs : (P.info? (P.elem t)).map (·.size) = some 1)
    {g off n cap l h : Nat} {kl kh : IntKind} (hx : a.eval x = .slice (some ⟨g, off, none⟩) n cap) (hy : a.eval y = .int kl l) {h' : Int} (hz : a.eval z = .int kh h') (hh : h' = (h : Int)) (h1 : l ≤ h) (h2 : h ≤ cap) (h3 : l < cap) {m : Nat} (hm : h - l = m) :
    (execOp a.eval o).run P w = .ok (.value (.slice (some ⟨g, off + l, none⟩) m (cap - l))) w := by
  subst hh hm
  have hadd : (⟨g, off, none⟩ : Addr).add l = ⟨g, off + l, none⟩ := by unfold Addr.add; split <;> simp_all
  have hz' : ∀ w, (sizeOf (P.elem t)).run P w = .ok 1 w := by
    intro w
    cases hq : P.info? (P.elem t) with
    | none => simp [hq] at hs
    | some i => simp [hq] at hs; simp [sizeOf, typeInfo, hq, hs]
  have e1 := run_slice_lh (P := P) (w := w) t (some ⟨g, off, none⟩) n cap ht kl kh (l : Int) (h : Int) (by omega) (by omega) (by omega)
  rw [hz', Result.andThen_ok] at e1
  have e2 : sliced (some ⟨g, off, none⟩) (l : Int).toNat (h : Int).toNat cap 1 = .slice (some ⟨g, off + l, none⟩) (h - l) (cap - l) := by
    unfold sliced
    rw [if_neg (by simp; omega)]
    simp [hadd]
  rw [e2] at e1
  unfold execOp
  simp only [ho, hx, hy, hz, Option.map_some, Option.map_none, Sem.run_bind, run_sliceAt_slice _ t _ _ _ _ ht, e1, Result.andThen_ok, Sem.run_pure]

/-- 's[l:]' of a slice of one-cell elements. -/
theorem exec_slice_l {P : Program} {a : Act} {w : World} {o : Oper} (t : TypeId) (x y : Operand) (ho : o.op = .slice t x (some y) none none) (ht : P.underlying t = some (.slice (P.elem t))) (hs : (P.info? (P.elem t)).map (·.size) = some 1)
    {g off n cap l : Nat} {kl : IntKind} (hx : a.eval x = .slice (some ⟨g, off, none⟩) n cap) (hy : a.eval y = .int kl l) (h1 : l ≤ n) (h3 : l < cap) :
    (execOp a.eval o).run P w = .ok (.value (.slice (some ⟨g, off + l, none⟩) (n - l) (cap - l))) w := by
  have hadd : (⟨g, off, none⟩ : Addr).add l = ⟨g, off + l, none⟩ := by unfold Addr.add; split <;> simp_all
  have hz' : ∀ w, (sizeOf (P.elem t)).run P w = .ok 1 w := by
    intro w
    cases hq : P.info? (P.elem t) with
    | none => simp [hq] at hs
    | some i => simp [hq] at hs; simp [sizeOf, typeInfo, hq, hs]
  have e1 := run_slice_l (P := P) (w := w) t (some ⟨g, off, none⟩) n cap ht kl (l : Int) (by omega) (by omega)
  rw [hz', Result.andThen_ok] at e1
  have e2 : sliced (some ⟨g, off, none⟩) (l : Int).toNat n cap 1 = .slice (some ⟨g, off + l, none⟩) (n - l) (cap - l) := by
    unfold sliced
    rw [if_neg (by simp; omega)]
    simp [hadd]
  rw [e2] at e1
  unfold execOp
  simp only [ho, hx, hy, Option.map_some, Option.map_none, Sem.run_bind, run_sliceAt_slice _ t _ _ _ _ ht, e1, Result.andThen_ok, Sem.run_pure]

theorem one_slice (a : Option Addr) (n c : Nat) : ∀ x ∈ (Value.slice a n c).cells.toList, x.oneCell' = true := by
  intro x hx
  have e : (Value.slice a n c).cells = #[.slice a n c] := rfl
  rw [e] at hx
  have : x = .slice a n c := by simpa using hx
  subst this; rfl

theorem wpList_push {P : Program} {ops : Array Oper} {Q : Exit → Act → World → Prop} {a : Act} {w : World} {rest : List Oper} {o1 o2 : Oper} (d d2 : Tmp) (t e : TypeId) (s x : Operand) (z : Value) (size bytes : Nat) (ht : P.underlying t = some (.slice e))
    (hi : (P.info? e).map (fun i => (i.zero, i.size, i.bytes)) = some (some z, size, bytes)) (hzs : z.cells.size = size) (hsz : 0 < size) (hs24 : size ≤ 2 ^ 24)
    (base : Nat) (v : Value) (n : Nat) (xs : List Value) (u : Value)
    (hg1 : o1.guard = none) (hg2 : o2.guard = none) (ho1 : o1.op = .buildSlice t 1 #[(0, x)]) (hd1 : o1.dst = some d) (ho2 : o2.op = .call { callee := .builtin .append, args := #[s, .tmp d], argTypes := #[t, t] }) (hd2 : o2.dst = some d2)
    (hsd : s ≠ .tmp d) (hdl : d < a.tmps.size) (hs : a.eval s = v) (hx : a.eval x = u)
    (hown : w.ownsRow base e size v n xs) (hu : u.cells.size = size) (h1 : ∀ c ∈ u.cells.toList, c.oneCell' = true) (h63 : n + 1 ≤ maxLen) (hbytes : (n + 1) * bytes ≤ 140737488355328) (hbase : base ≤ w.heap.size)
    (h : ∀ g cap w', w'.ownsRow base e size (.slice (some ⟨g, 0, none⟩) (n + 1) cap) (n + 1) (xs ++ u.cells.toList) → Upd v.ownBlock.toList w w' → (v.ownBlock = some g ∨ w.heap.size < g) → g < w'.heap.size → base ≤ g →
      wpList P ops Q rest ((a.put (some d) (.slice (some ⟨w.heap.size, 0, none⟩) 1 1)).put (some d2) (.slice (some ⟨g, 0, none⟩) (n + 1) cap)) w') : wpList P ops Q (o1 :: o2 :: rest) a w := by
  cases hie : P.info? e with
  | none => simp [hie] at hi
  | some ie =>
    simp only [hie, Option.map_some, Option.some.injEq, Prod.mk.injEq] at hi
    obtain ⟨hz, hisz, hib⟩ := hi
    refine wpList_buildSlice hg1 t e 1 _ ho1 (([u].flatMap fun v => v.cells.toList).toArray) ie z ht hie hz (by rw [hisz]; omega) (by rw [hisz]; omega) ?_ ?_
    · rw [hisz]
      have := Go.Great.fill_whole hsz [u] ((Array.range (1 * size)).map (z.cells[· % z.cells.size]!)) (by simpa using hu) (by simp)
      simpa [hx] using this
    · rw [hd1]
      have e1 : ([u].flatMap fun v => v.cells.toList).toArray = u.cells := by simp
      rw [e1]
      refine wpList_append_lies _ hg2 s (.tmp d) t ho2 base e ie z size bytes ht hie hz hisz hib hzs hsz v n xs ?_ (hown.alloc _) ⟨w.heap.size, 0, none⟩ 1 1 u.cells.toList ?_ (by simpa using hu) ?_ h1 (by omega) h63 hbytes (by simp; omega) (w.heap.size + 1) (by simp) ?_
      · rw [Act.eval_put (by intro d' hd' e; cases hd'; exact hsd e)]; exact hs
      · unfold Act.put Act.eval
        simp [hdl]
      · intro j c hj
        have hb : Blk (w.alloc (.cells u.cells e)) w.heap.size u.cells e := Blk.new _ _ _
        have hadd : (⟨w.heap.size, 0, none⟩ : Addr).add j = ⟨w.heap.size, j, none⟩ := by unfold Addr.add; split <;> simp_all
        rw [hadd]
        exact hb.cell (by rw [← Array.getElem?_toList]; exact hj)
      · intro g cap w' ho' hgr hat hlt
        rw [hd2]
        have hbg : base ≤ g := (ho'.lt g rfl).1
        refine h g cap w' ho' (((Upd.refl _ _).alloc _).grown hgr (fun k hk => .inl (by simp [hk]))) ?_ hlt hbg
        rcases hat with hat | hat
        · exact .inl hat
        · right; omega

end Go.Proofs.Ytpeboaoephkfhaa
