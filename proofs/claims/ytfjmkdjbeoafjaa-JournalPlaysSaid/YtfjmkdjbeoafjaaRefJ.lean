/- Both disks side by side; the walk of Did. -/
import Derived.Test.YtfjmkdjbeoafjaaRefI
namespace Go.Proofs.Ytfjmkdjbeoafjaa
open Go.ChangeShapes Go.WideShapes Go.ChangeAt Go.RowKit

theorem RefAt.keep {w w' : World} {b : Nat} {R S S' : List Nat} {d : DK} (h : RefAt w b R d) (hk : Keep w S w' S') (hS : ∀ k ∈ R, k ∉ S) : RefAt w' b R d ∧ ∀ k ∈ R, k ∉ S' := by
  have hlt := h.lt
  have hin : ∀ k ∈ R, w'.heap[k]? = w.heap[k]? := fun k hkR => (hk.2 k (hlt k hkR) (hS k hkR)).2
  refine ⟨?_, fun k hkR => (hk.2 k (hlt k hkR) (hS k hkR)).1⟩
  obtain ⟨lg, lc, ng, nc, ov, rfl, hn, hw, h1, h2, h3, h4⟩ := h
  have own : ∀ {e : TypeId} {size n : Nat} {v : Value} {xs : List Value}, w.ownsRow 0 e size v n xs → (∀ g, v.ownBlock = some g → w'.heap[g]? = w.heap[g]?) → w'.ownsRow 0 e size v n xs := by
    intro e size n v xs h hg
    refine ⟨h.1, ?_⟩
    rcases h.2 with h2 | ⟨g, cap, cur, rfl, h0, hh, r⟩
    · exact .inl h2
    · exact .inr ⟨g, cap, cur, rfl, h0, by rw [hg g rfl]; exact hh, r⟩
  refine ⟨lg, lc, ng, nc, ov, rfl, hn, hw, by unfold Blk at *; rw [hin b (by simp)]; exact h1, own h2 (fun g hg => hin g ?_), own h3 (fun g hg => hin g ?_), own h4 (fun g hg => hin g (by simp [hg]))⟩
  · simp [Value.ownBlock] at hg; simp [hg]
  · simp [Value.ownBlock] at hg; simp [hg]

/-- The disk says d, the document's disk says r, and they lie apart. -/
structure Both (w0 w : World) (p : Nat) (S : List Nat) (q : Nat) (R : List Nat) (d r : DK) : Prop where
  disk : DInv w0 w p S d
  ref : RefAt w q R r
  sep : ∀ k ∈ R, k ∉ S
  base : ∀ k ∈ R, w0.heap.size ≤ k

theorem Both.quiet {w0 w w' : World} {p q : Nat} {S R : List Nat} {d r : DK} (h : Both w0 w p S q R d r) (hu : Upd [] w w') : Both w0 w' p S q R d r :=
  ⟨h.disk.quiet hu, h.ref.upd0 hu, h.sep, h.base⟩

theorem Both.left {w0 w w' : World} {p q : Nat} {S S' R : List Nat} {d d' r : DK} (h : Both w0 w p S q R d r) (hd : DInv w0 w' p S' d') (hk : Keep w S w' S') : Both w0 w' p S' q R d' r :=
  ⟨hd, (h.ref.keep hk h.sep).1, (h.ref.keep hk h.sep).2, h.base⟩

theorem Both.right {w0 w w' : World} {p q : Nat} {S R R' : List Nat} {d r r' : DK} (h : Both w0 w p S q R d r) (hr : RefAt w' q R' r') (hu : Upd R w w') (hs : Sub w R R') : Both w0 w' p S q R' d r' :=
  ⟨h.disk.beside hu (fun k hk hkR => h.sep k hkR hk) h.base, hr, fun k hk hkS => by
    rcases hs k hk with h1 | h1
    · exact h.sep k h1 hkS
    · have := h.disk.disk.lt k hkS; omega, fun k hk => by
    rcases hs k hk with h1 | h1
    · exact h.base k h1
    · exact Nat.le_trans h.disk.upd.size h1⟩

theorem run_loadC {P : Program} {w : World} {g off k : Nat} {cs : List Value} (hc : CellsAt w g off cs) (hk : cs.length = k) : (loadCells ⟨g, off, none⟩ k).run P w = .ok cs.toArray w := by
  subst hk
  exact run_loadCells_list (P := P) w ⟨g, off, none⟩ cs (fun j v hv => by
    have hadd : (⟨g, off, none⟩ : Addr).add j = ⟨g, off + j, none⟩ := by unfold Addr.add; split <;> simp_all
    rw [hadd]; exact hc j v hv)

end Go.Proofs.Ytfjmkdjbeoafjaa
