/- Slicing and copying of rows of structs, run; the walk of slices.Insert at facts. -/
import Derived.Test.YtbdmnmjdnfpfbaaLatH
import Derived.Lib.Overlaps
import Derived.Lib.AppendZerosOnto
import Derived.Laws.Externs
namespace Go.Proofs.Ytbdmnmjdnfpfbaa
open Go.ChangeShapes Go.WideShapes Go.ChangeAt Go.RowKit

section
variable {P : Program} {a : Act} {w : World} {o : Oper}

theorem size_run {P : Program} {e : TypeId} {k : Nat} (hs : (P.info? e).map (·.size) = some k) : ∀ w, (sizeOf e).run P w = .ok k w := by
  intro w
  cases hq : P.info? e with
  | none => simp [hq] at hs
  | some i => simp [hq] at hs; simp [sizeOf, typeInfo, hq, hs]

/-- 's[l:]'. -/
theorem exec_sliceL0 (t : TypeId) (x y : Operand) (ho : o.op = .slice t x (some y) none none) (ht : P.underlying t = some (.slice (P.elem t))) {k : Nat} (hs : (P.info? (P.elem t)).map (·.size) = some k)
    {b : Option Addr} {n cap l : Nat} {kl : IntKind} (hx : a.eval x = .slice b n cap) (hy : a.eval y = .int kl l) (h1 : l ≤ n) {r : Value} (hr : sliced b l n cap k = r) :
    (execOp a.eval o).run P w = .ok (.value r) w := by
  subst hr
  have e1 := run_slice_l (P := P) (w := w) t b n cap ht kl (l : Int) (by omega) (by omega)
  rw [size_run hs, Result.andThen_ok] at e1
  unfold execOp
  simp only [ho, hx, hy, Option.map_some, Option.map_none, Sem.run_bind, run_sliceAt_slice _ t _ _ _ _ ht, e1, Result.andThen_ok, Sem.run_pure, Int.toNat_natCast]

theorem exec_sliceLK (t : TypeId) (x y : Operand) (ho : o.op = .slice t x (some y) none none) (ht : P.underlying t = some (.slice (P.elem t))) {k : Nat} (hs : (P.info? (P.elem t)).map (·.size) = some k)
    {g off n cap l m : Nat} {kl : IntKind} (hx : a.eval x = .slice (some ⟨g, off, none⟩) n cap) {l' : Int} (hy : a.eval y = .int kl l') (hl : l' = (l : Int)) (h1 : l ≤ n) (h3 : l < cap) (hm : n - l = m) {q : Nat} (hq : off + l * k = q) :
    (execOp a.eval o).run P w = .ok (.value (.slice (some ⟨g, q, none⟩) m (cap - l))) w := by
  subst hm hl hq
  rw [exec_sliceL0 t x y ho ht hs hx hy h1 rfl]
  unfold sliced
  rw [if_neg (by omega)]
  have hadd : (⟨g, off, none⟩ : Addr).add (l * k) = ⟨g, off + l * k, none⟩ := by unfold Addr.add; split <;> simp_all
  simp [hadd]

/-- 's[:h]'. -/
theorem exec_sliceHK (t : TypeId) (x z : Operand) (ho : o.op = .slice t x none (some z) none) (ht : P.underlying t = some (.slice (P.elem t))) {k : Nat} (hs : (P.info? (P.elem t)).map (·.size) = some k)
    {g off n cap h : Nat} {kh : IntKind} (hx : a.eval x = .slice (some ⟨g, off, none⟩) n cap) {h' : Int} (hz : a.eval z = .int kh h') (hh : h' = (h : Int)) (h2 : h ≤ cap) :
    (execOp a.eval o).run P w = .ok (.value (.slice (some ⟨g, off, none⟩) h cap)) w := by
  subst hh
  have e1 := run_slice_h (P := P) (w := w) t (some ⟨g, off, none⟩) n cap ht kh (h : Int) (by omega) (by omega)
  rw [size_run hs, Result.andThen_ok] at e1
  have hadd : (⟨g, off, none⟩ : Addr).add 0 = ⟨g, off, none⟩ := by unfold Addr.add; split <;> simp_all
  unfold execOp
  simp only [ho, hx, hz, Option.map_some, Option.map_none, Sem.run_bind, run_sliceAt_slice _ t _ _ _ _ ht, e1, Result.andThen_ok, Sem.run_pure, Int.toNat_natCast]
  unfold sliced
  simp [hadd]

/-- 'copy' into a row of structs. -/
theorem run_copy_rowK (w : World) (dT sT ty elem : TypeId) (g o dLen dCap : Nat) (a : Addr) (sLen sCap k n : Nat) (cur : Array Value) (t : TypeId) (cs : List Value)
    (hu : P.underlying dT = some (.slice elem)) (hs : (P.info? elem).map (·.size) = some k)
    (hg : w.heap[g]? = some (.cells cur t (0, 0))) (hmin : Nat.min sLen dLen = n) (hn : cs.length = n * k)
    (hsrc : ∀ j v, cs[j]? = some v → w.cell? (a.add j) = some v) (hfit : o + cs.length ≤ cur.size) (h1 : ∀ v ∈ cs, v.oneCell' = true) :
    (Builtin.copy_ #[dT, sT] ty #[.slice (some ⟨g, o, none⟩) dLen dCap, .slice (some a) sLen sCap]).run P w =
      .ok (goInt n) (w.setRow g (cur.toList.take o ++ cs ++ cur.toList.drop (o + cs.length)).toArray) := by
  have hl := run_loadCells_list (P := P) w a cs hsrc
  have hst := run_storeCells_at P g o t cs 0 cur w hg (by simpa using hfit) h1
  rw [hn] at hl
  cases hq : P.info? elem with
  | none => simp [hq] at hs
  | some i =>
    have hi : i.size = k := by simpa [hq] using hs
    simp [Builtin.copy_, run_underlying hu, Builtin.lenOf, Builtin.firstCells, sizeOf, typeInfo, hq, hi, hmin, hl, hst]

theorem wpList_copyK {ops : Array Oper} {Q : Exit → Act → World → Prop} {rest : List Oper} (hgd : o.guard = none) (x y : Operand) (t s : TypeId) (ho : o.op = .call { callee := .builtin .copy, args := #[x, y], argTypes := #[t, s] })
    {elem T : TypeId} {k n g off dLen dCap sLen sCap : Nat} {ad : Addr} {cur : Array Value} (cs : List Value) (hx : a.eval x = .slice (some ⟨g, off, none⟩) dLen dCap) (hy : a.eval y = .slice (some ad) sLen sCap)
    (hu : P.underlying t = some (.slice elem)) (hs : (P.info? elem).map (·.size) = some k) (hb : Blk w g cur T) (hmin : Nat.min sLen dLen = n) (hn : cs.length = n * k)
    (hsrc : ∀ j v, cs[j]? = some v → w.cell? (ad.add j) = some v) (hfit : off + cs.length ≤ cur.size) (h1 : ∀ v ∈ cs, v.oneCell' = true)
    (h : ∀ w', Blk w' g (cur.toList.take off ++ cs ++ cur.toList.drop (off + cs.length)).toArray T → Upd [g] w w' → wpList P ops Q rest (a.put o.dst (.int .i64 n)) w') : wpList P ops Q (o :: rest) a w := by
  have hr := run_copy_rowK (P := P) w t s o.type elem g off dLen dCap ad sLen sCap k n cur T cs hu hs hb hmin hn hsrc hfit h1
  refine wpList_run hgd ?_ (h _ (setRow_blk hb _) (setRow_upd (Upd.refl _ _) (.inl (by simp)) _))
  unfold execOp
  simp only [ho, resolve, invoke, builtin, Sem.run_bind, Sem.run_pure, Result.andThen_ok, List.map_toArray, List.map_cons, List.map_nil, hx, hy, hr]
  rfl
end

/-- What stands in a row behind a copy by one place, and one more. -/
theorem shift_list (cur e : List Value) (i n k : Nat) (he : e.length = k) (hc : (n + 1) * k ≤ cur.length) (hi : i ≤ n) (cs c1 c2 : List Value) (hcs : cs = (cur.drop (i * k)).take ((n - i) * k))
    (h1 : c1 = cur.take ((i + 1) * k) ++ cs ++ cur.drop ((i + 1) * k + cs.length)) (h2 : c2 = c1.take (i * k) ++ e ++ c1.drop (i * k + e.length)) :
    c2.length = cur.length ∧ c2.take ((n + 1) * k) = cur.take (i * k) ++ e ++ cs := by
  obtain ⟨A, hA⟩ : ∃ A, A = i * k := ⟨_, rfl⟩
  obtain ⟨D, hD⟩ : ∃ D, D = (n - i) * k := ⟨_, rfl⟩
  have e1 : (i + 1) * k = A + k := by rw [hA, Nat.add_mul, Nat.one_mul]
  have e2 : (n + 1) * k = A + D + k := by rw [hA, hD, ← Nat.add_mul, show i + (n - i) = n by omega, Nat.add_mul, Nat.one_mul]
  rw [e1] at h1
  rw [e2] at hc ⊢
  rw [← hA] at h2 hcs ⊢
  rw [← hD] at hcs
  have hcl : cs.length = D := by rw [hcs, List.length_take, List.length_drop]; omega
  rw [hcl] at h1
  have hta : (cur.take (A + k)).length = A + k := by rw [List.length_take]; omega
  have hc1a : c1.take A = cur.take A := by
    rw [h1, List.append_assoc, List.take_append_of_le_length (by omega), List.take_take, Nat.min_eq_left (by omega)]
  have hc1b : c1.drop (A + k) = cs ++ cur.drop (A + k + D) := by
    rw [h1, List.append_assoc, List.drop_left' hta]
  rw [hc1a, he, hc1b] at h2
  have hla : (cur.take A).length = A := by rw [List.length_take]; omega
  refine ⟨?_, ?_⟩
  · rw [h2]; simp only [List.length_append, List.length_drop, hla, he, hcl]; omega
  · rw [h2, ← List.append_assoc, List.take_append_of_le_length (by simp only [List.length_append, hla, he, hcl]; omega), List.take_of_length_le (by simp only [List.length_append, hla, he, hcl]; omega)]

/-- The same in a new row. -/
theorem grow_list (c0 olds e cs rest c1 c2 : List Value) (i n k : Nat) (ho : olds.length = i * k) (he : e.length = k) (hi : i ≤ n) (hcs : cs.length = (n - i) * k) (h0 : c0 = olds ++ rest) (hr : (n + 1) * k ≤ c0.length)
    (h1 : c1 = c0.take (i * k) ++ e ++ c0.drop (i * k + e.length)) (h2 : c2 = c1.take ((i + 1) * k) ++ cs ++ c1.drop ((i + 1) * k + cs.length)) :
    c2.length = c0.length ∧ c2.take ((n + 1) * k) = olds ++ e ++ cs := by
  obtain ⟨A, hA⟩ : ∃ A, A = i * k := ⟨_, rfl⟩
  obtain ⟨D, hD⟩ : ∃ D, D = (n - i) * k := ⟨_, rfl⟩
  have e1 : (i + 1) * k = A + k := by rw [hA, Nat.add_mul, Nat.one_mul]
  have e2 : (n + 1) * k = A + D + k := by rw [hA, hD, ← Nat.add_mul, show i + (n - i) = n by omega, Nat.add_mul, Nat.one_mul]
  rw [e1] at h2
  rw [e2] at hr ⊢
  rw [← hA] at h1 ho
  rw [← hD] at hcs
  have ht : c0.take A = olds := by rw [h0, ← ho, List.take_left]
  rw [ht, he] at h1
  have hl1 : (olds ++ e).length = A + k := by rw [List.length_append, ho, he]
  have h1a : c1.take (A + k) = olds ++ e := by rw [h1, ← hl1, List.take_left]
  have h1b : c1.length = c0.length := by rw [h1]; simp only [List.length_append, List.length_drop, ho, he]; omega
  rw [h1a] at h2
  refine ⟨?_, ?_⟩
  · rw [h2]; simp only [List.length_append, List.length_drop, ho, he, hcs, h1b]; omega
  · rw [h2, List.take_append_of_le_length (by simp only [List.length_append, ho, he, hcs]; omega), List.take_of_length_le (by simp only [List.length_append, ho, he, hcs]; omega)]

end Go.Proofs.Ytbdmnmjdnfpfbaa
