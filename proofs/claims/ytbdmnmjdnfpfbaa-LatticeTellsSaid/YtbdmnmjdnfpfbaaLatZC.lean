/- Steps for LatticeOwn: nothing appended; a fact written into a row. -/
import Derived.Test.YtbdmnmjdnfpfbaaLatZB
import Derived.Test.YtbdmnmjdnfpfbaaLatX
namespace Go.Proofs.Ytbdmnmjdnfpfbaa
open Go.ChangeShapes Go.WideShapes Go.ChangeAt Go.RowKit

section
variable {P : Program} {w : World}
theorem run_append_noneC (base : Nat) (t ty e : TypeId) (i : TypeInfo) (size c : Nat) (ht : P.underlying t = some (.slice e)) (hi : P.info? e = some i)
    (v : Value) (n : Nat) (xs : List Value) (hown : w.ownsRow base e size v n xs) :
    (Builtin.append_ #[t, t] ty #[v, .slice none 0 c]).run P w = .ok v w := by
  rcases hown.2 with ⟨rfl, rfl⟩ | ⟨g, cap, cur, rfl, _, _, hnc, _⟩
  · simp [Builtin.append_, run_underlying ht, sizeOf, typeInfo, hi, Builtin.lenOf, Builtin.firstCells]
  · simp [Builtin.append_, run_underlying ht, sizeOf, typeInfo, hi, Builtin.lenOf, Builtin.firstCells, hnc, storeCells]

theorem wpList_append_noneC {ops : Array Oper} {rest : List Oper} {o : Oper} {a : Act} {Q : Exit → Act → World → Prop} (hgd : o.guard = none) (s x : Operand) (t : TypeId)
    (ho : o.op = .call { callee := .builtin .append, args := #[s, x], argTypes := #[t, t] })
    (base : Nat) (e : TypeId) (i : TypeInfo) (size c : Nat) (ht : P.underlying t = some (.slice e)) (hi : P.info? e = some i)
    (v : Value) (n : Nat) (xs : List Value) (hs : a.eval s = v) (hown : w.ownsRow base e size v n xs) (hx : a.eval x = .slice none 0 c)
    (h : wpList P ops Q rest (a.put o.dst v) w) : wpList P ops Q (o :: rest) a w := by
  refine wpList_plain hgd fun K hK => ?_
  have hrun := run_append_noneC (P := P) (w := w) base t o.type e i size c ht hi v n xs hown
  unfold Oper.wp
  simp [execOp, ho, resolve, invoke, builtin, hs, hx, hrun, Result.andThen]
  exact hK _ _ h

/-- A part of a row, written. -/
theorem wpList_storeK {a : Act} {o : Oper} {ops : Array Oper} {Q : Exit → Act → World → Prop} {rest : List Oper} (hgd : o.guard = none) (t : TypeId) (x y : Operand) (ho : o.op = .store t x y) {g k off : Nat} {T : TypeId} {c news : Array Value} (hx : a.eval x = .pointer (some ⟨g, off, none⟩)) (hy : a.eval y = .agg news) (hb : Blk w g c T)
    (hi : (P.info? t).map (·.size) = some k) (hn : news.size = k) (hc : off + k ≤ c.size) (h1 : ∀ v ∈ news.toList, v.oneCell' = true)
    (h : ∀ w', (∃ c', Blk w' g c' T ∧ c'.size = c.size) → Upd [g] w w' → wpList P ops Q rest (a.put o.dst undef) w') : wpList P ops Q (o :: rest) a w := by
  have hr := exec_store (P := P) t x y ho hx hy hb hi hn hc h1
  refine wpList_runU hgd hr (h _ ⟨_, setRow_blk hb _, ?_⟩ (setRow_upd (Upd.refl _ _) (.inl (by simp)) _))
  rw [List.size_toArray, splice_len (by rw [Array.length_toList, Array.length_toList]; omega), Array.length_toList]
end

set_option maxHeartbeats 1000000 in
/-- A list, copied behind an empty row of the call's own. -/
theorem wpList_copyF {w : World} {ops : Array Oper} {rest : List Oper} {o : Oper} {a : Act} {Q : Exit → Act → World → Prop} (hgd : o.guard = none) (s x : Operand)
    (ho : o.op = .call { callee := .builtin .append, args := #[s, x], argTypes := #[23, 23] }) (base : Nat) (v0 : Value) (hs : a.eval s = v0) (hown : w.ownsRow base 31 38 v0 0 []) (hbase : base ≤ w.heap.size)
    {aa : Option Addr} {n ac : Nat} (hx : a.eval x = .slice aa n ac) {T : List Nat} {L : List FK} (hn : n = L.length) (hl : n ≤ 1000) (h : FsAt w T (.slice aa n ac) L) (hT : ∀ y ∈ T, y < base)
    (hk : ∀ wv w' cvs, OL w' base wv L cvs T → Upd v0.ownBlock.toList w w' → wpList Try.prog ops Q rest (a.put o.dst wv) w') : wpList Try.prog ops Q (o :: rest) a w := by
  have hwf := h.wf
  obtain ⟨i0, hi, hz0, hz1, hz2⟩ := info_parts info_factB
  cases aa with
  | none =>
    have hL : L = [] := by
      obtain ⟨_, _, _, e, -, -, -, -, hc⟩ := h
      cases L with
      | nil => rfl
      | cons f t => obtain ⟨g, off, e2, -⟩ := hc (by simp); rw [e2] at e; cases e
    subst hL
    have hn0 : n = 0 := hn
    subst hn0
    exact wpList_append_noneC hgd s x 23 ho base 31 i0 38 ac Try.underlying23 hi v0 0 [] hs hown hx (hk v0 w [] ⟨hown, ChunksL.nil _ _, fun f hf => by simp at hf⟩ (Upd.refl _ _))
  | some ad =>
    obtain ⟨cvs, hch, hnews, hblk⟩ := h.news
    have hel := encL_len L cvs hch.1 hwf
    have hone := encL_one' hch
    refine wpList_append_own w hgd s x 23 ho base 31 i0 (.agg (encF FK.zero (.slice none 0 0)).toArray) 38 96 Try.underlying23 hi hz0 hz1 hz2 rfl (by decide) v0 0 [] hs hown ad n ac (encL L cvs) hx (by rw [hel, hn]) hnews hone (by unfold maxLen; omega) (by omega) hbase fun v' w1 ho' hg _ => ?_
    have hu : Upd v0.ownBlock.toList w w1 := (Upd.refl _ _).grown hg (fun k hk => .inl (by simp [hk]))
    refine hk v' w1 cvs ⟨?_, hch.upd hu (fun y hy hm => ?_), hwf⟩ hu
    · rw [← hn]; simpa using ho'
    · have h1 := (hown.lt y (by simpa using hm)).1
      have h2 := hT y hy
      omega

theorem exec_bare1 {a : Act} {o : Oper} {w : World} {x : Operand} {k : Int} (ho : o.op = .build 31 #[(0, x)]) (hx : a.eval x = .int .i64 k) :
    (execOp a.eval o).run Try.prog w = .ok (.value (.agg (encF (FK.bare k 0 0) (.slice none 0 0)).toArray)) w := by
  have hz' := run_zero (P := Try.prog) (w := w) zero_fact
  unfold execOp
  simp [ho, Instr.build, hz', underlying, Try.underlying31, Instr.fill, Value.cells, hx, encF, FK.zero, FK.bare, encM]

theorem own_blk {w : World} {lo : Nat} {t : TypeId} {a : Option Addr} {n cap k : Nat} {xs : List Value} (h : w.ownsRow lo t k (.slice a n cap) n xs) :
    (0 < n → ∃ g, a = some ⟨g, 0, none⟩) ∧ ∀ g, a = some ⟨g, 0, none⟩ → lo ≤ g ∧ n ≤ cap ∧ ∃ cur, Blk w g cur t ∧ cur.size = cap * k := by
  rcases h.2 with ⟨hv, hn⟩ | ⟨g, cap', cur, hv, hb, hh, hnc, -, hs, -⟩
  · cases hv
    exact ⟨fun h => absurd h (Nat.lt_irrefl 0), fun g e => by cases e⟩
  · cases hv
    exact ⟨fun _ => ⟨g, rfl⟩, fun g' e => by cases e; exact ⟨hb, hnc, cur, hh, hs⟩⟩

end Go.Proofs.Ytbdmnmjdnfpfbaa
