/- Blocks of memory, and what a step leaves as it was: small laws of no program. -/
import Derived.Below
import Derived.OneCell
import Derived.WalkKit
import Derived.Deep.Draws
import Derived.ChangeAlike
import Derived.ScopeJumps
import Derived.Lib.Hide
namespace Go.Proofs.Ytpeboaoephkfhaa
open Go.RowKit

/-- Block b is cells c of type T. -/
def Blk (w : World) (b : Nat) (c : Array Value) (T : TypeId) : Prop := w.heap[b]? = some (.cells c T (0, 0))

/-- What turned is only blocks of S, and new ones. -/
structure Upd (S : List Nat) (w w' : World) : Prop where
  os : w'.os = w.os
  tape : w'.tape = w.tape
  output : w'.output = w.output
  size : w.heap.size ≤ w'.heap.size
  block : ∀ k, k < w.heap.size → k ∉ S → w'.heap[k]? = w.heap[k]?

theorem Upd.refl (S : List Nat) (w : World) : Upd S w w := ⟨rfl, rfl, rfl, Nat.le_refl _, fun _ _ _ => rfl⟩
theorem Upd.trans {S : List Nat} {a b c : World} (h : Upd S a b) (k : Upd S b c) : Upd S a c :=
  ⟨k.os.trans h.os, k.tape.trans h.tape, k.output.trans h.output, Nat.le_trans h.size k.size, fun i hi hs => (k.block i (Nat.lt_of_lt_of_le hi h.size) hs).trans (h.block i hi hs)⟩
/-- The second step may turn new blocks, too. -/
theorem Upd.then {S T : List Nat} {a b c : World} (h : Upd S a b) (k : Upd T b c) (hT : ∀ x ∈ T, x ∈ S ∨ a.heap.size ≤ x) : Upd S a c :=
  ⟨k.os.trans h.os, k.tape.trans h.tape, k.output.trans h.output, Nat.le_trans h.size k.size, fun i hi hs =>
    (k.block i (Nat.lt_of_lt_of_le hi h.size) (fun hx => by rcases hT i hx with h1 | h1; exact hs h1; omega)).trans (h.block i hi hs)⟩
theorem Upd.mono {S T : List Nat} {w w' : World} (h : Upd S w w') (hS : ∀ x ∈ S, x ∈ T ∨ w.heap.size ≤ x) : Upd T w w' :=
  ⟨h.os, h.tape, h.output, h.size, fun k hk hn => h.block k hk (fun hx => by rcases hS k hx with h1 | h1; exact hn h1; omega)⟩
theorem Upd.drew {S : List Nat} {a w : World} (h : Upd S a w) : Upd S a w.drew := ⟨h.os, h.tape, h.output, h.size, h.block⟩
theorem Upd.drewN {S : List Nat} {a w : World} (h : Upd S a w) (n : Nat) : Upd S a (w.drewN n) := ⟨h.os, h.tape, h.output, h.size, h.block⟩
theorem Upd.alike {S : List Nat} {a w w' : World} (h : Upd S a w) (ha : w'.Alike w) (ht : w'.tape = w.tape) : Upd S a w' :=
  ⟨ha.2.1.trans h.os, ht.trans h.tape, ha.2.2.trans h.output, by rw [ha.1]; exact h.size, fun k hk hn => by rw [ha.1]; exact h.block k hk hn⟩
theorem Upd.alloc {S : List Nat} {a w : World} (h : Upd S a w) (o : Obj) : Upd S a (w.alloc o) :=
  ⟨h.os, h.tape, h.output, by have := h.size; simp; omega, fun k hk hn => (Below.heap_alloc w o k (Nat.lt_of_lt_of_le hk h.size)).trans (h.block k hk hn)⟩
theorem Upd.setCell {S : List Nat} {a w : World} (h : Upd S a w) {p : Addr} (hp : p.block ∈ S ∨ a.heap.size ≤ p.block) (u : Value) : Upd S a (w.setCell p u) :=
  ⟨h.os, h.tape, h.output, by have := h.size; simp; omega, fun k hk hn => by
    rw [Below.heap_setCell _ _ _ _ (fun e => by subst e; rcases hp with hp | hp; exact hn hp; omega)]; exact h.block k hk hn⟩
theorem Upd.grown {S : List Nat} {a w w' : World} {row : Option Nat} (h : Upd S a w) (hg : w.grownBy w' row) (hr : ∀ k, row = some k → k ∈ S ∨ a.heap.size ≤ k) : Upd S a w' :=
  ⟨hg.os.trans h.os, hg.tape.trans h.tape, hg.output.trans h.output, Nat.le_trans h.size hg.size, fun k hk hn =>
    (hg.block k (Nat.lt_of_lt_of_le hk h.size) (fun e => by rcases hr k e.symm with h1 | h1; exact hn h1; omega)).trans (h.block k hk hn)⟩
theorem Upd.below {S : List Nat} {a w w' : World} (h : Upd S w w') (hb : Below a.heap.size a w) (hS : ∀ x ∈ S, a.heap.size ≤ x) : Below a.heap.size a w' :=
  ⟨h.os.trans hb.os, h.tape.trans hb.tape, h.output.trans hb.output, Nat.le_trans hb.size h.size, fun k hk =>
    (h.block k (Nat.lt_of_lt_of_le hk hb.size) (fun hx => by have := hS k hx; omega)).trans (hb.block k hk)⟩
theorem Below.upd {S : List Nat} {w w' : World} (h : Below w.heap.size w w') : Upd S w w' := ⟨h.os, h.tape, h.output, h.size, fun k hk _ => h.block k hk⟩
theorem Upd.toBelow {w w' : World} (h : Upd [] w w') : Below w.heap.size w w' := ⟨h.os, h.tape, h.output, h.size, fun k hk => h.block k hk (by simp)⟩
theorem Below.grownW {w w' : World} (h : Below w.heap.size w w') : w.grownBy w' none := ⟨h.os, h.tape, h.output, h.size, fun k hk _ => h.block k hk⟩
theorem Upd.heap {S : List Nat} {w w' : World} (h : Upd S w w') {k : Nat} {o : Obj} (hk : w.heap[k]? = some o) (hn : k ∉ S) : w'.heap[k]? = some o :=
  (h.block k (lt_of_block hk) hn).trans hk

section
variable {w : World} {b : Nat} {c : Array Value} {T : TypeId}
theorem Blk.lt (h : Blk w b c T) : b < w.heap.size := lt_of_block h
theorem Blk.cell (h : Blk w b c T) {o : Nat} {v : Value} (hv : c[o]? = some v) : w.cell? ⟨b, o, none⟩ = some v := by
  unfold Blk at h; simp [World.cell?, h, hv]
theorem Blk.cell_lt (h : Blk w b c T) {o : Nat} (ho : o < c.size) : ∃ v, w.cell? ⟨b, o, none⟩ = some v := ⟨c[o], h.cell (Array.getElem?_eq_getElem ho)⟩
theorem Blk.free (h : Blk w b c T) (o : Nat) : w.frozen? ⟨b, o, none⟩ = false := by
  unfold Blk at h
  simp [World.frozen?, h]
theorem Blk.set (h : Blk w b c T) (o : Nat) (v : Value) : Blk (w.setCell ⟨b, o, none⟩ v) b (c.setIfInBounds o v) T := by
  unfold Blk at h ⊢
  simp only [World.setCell, Array.getElem?_modify, h]
  simp
theorem Blk.set_other (h : Blk w b c T) {p : Addr} (hne : b ≠ p.block) (v : Value) : Blk (w.setCell p v) b c T := by
  unfold Blk at h ⊢
  rw [Below.heap_setCell _ _ _ _ hne]; exact h
theorem Blk.alloc (h : Blk w b c T) (o : Obj) : Blk (w.alloc o) b c T := by
  unfold Blk at h ⊢
  rw [Below.heap_alloc w o b (lt_of_block h)]; exact h
theorem Blk.new (w : World) (c : Array Value) (T : TypeId) : Blk (w.alloc (.cells c T)) w.heap.size c T := heap_alloc_new w _
theorem Blk.drew (h : Blk w b c T) : Blk w.drew b c T := h
theorem Blk.upd {S : List Nat} {w' : World} (h : Blk w b c T) (hu : Upd S w w') (hn : b ∉ S) : Blk w' b c T := hu.heap h hn
theorem Blk.alike {w' : World} (h : Blk w b c T) (ha : w'.Alike w) : Blk w' b c T := by unfold Blk at *; rw [ha.1]; exact h
theorem Blk.grown {row : Option Nat} {w' : World} (h : Blk w b c T) (hg : w.grownBy w' row) (hn : some b ≠ row) : Blk w' b c T := by
  unfold Blk at *; rw [hg.block b (lt_of_block h) hn]; exact h
end

theorem own_slice {w : World} {base e size n : Nat} {v : Value} {xs : List Value} (h : w.ownsRow base e size v n xs) : ∃ a cap, v = .slice a n cap := by
  rcases h.2 with ⟨rfl, rfl⟩ | ⟨g, cap, _, rfl, _⟩
  · exact ⟨_, _, rfl⟩
  · exact ⟨_, _, rfl⟩

theorem own_form {w : World} {base e size n : Nat} {v : Value} {xs : List Value} (h : w.ownsRow base e size v n xs) (hn : n ≠ 0) : ∃ g cap, v = .slice (some ⟨g, 0, none⟩) n cap := by
  rcases h.2 with ⟨_, h0⟩ | ⟨g, cap, _, rfl, _⟩
  · exact absurd h0 hn
  · exact ⟨g, cap, rfl⟩

/-- A scope with jumps back: the way from the head to the label is walked by itself. -/
theorem wp_scope_jumps2 {P : Program} {a : Act} {w : World} {Q : Exit → Act → World → Prop} {c rest : Code} (l : Nat) (J : Act → World → Prop) (μ : Act → World → Nat) (hf : findLabel c l = some (.seq .skip rest))
    (pass : ∀ a w, J a w → rest.wp P (Exit.jump l (fun a' w' => J a' w' ∧ μ a' w' < μ a w) Q) a w)
    (first : Hid (∀ a w, J a w → rest.wp P (Exit.jump l J Q) a w) → c.wp P (Exit.jump l J Q) a w) : (Code.scope c).wp P Q a w :=
  wp_scope_jumps l J μ hf (first (fun a w h => wp_mono (pass a w h) fun e a' w' q => by
    cases e <;> first | exact q | exact ⟨q.1, q.2.1⟩)) fun a w h => wp_seq (wp_skip (pass a w h))

end Go.Proofs.Ytpeboaoephkfhaa
