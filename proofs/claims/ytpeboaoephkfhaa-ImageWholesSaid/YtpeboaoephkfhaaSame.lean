/- The walk of shipwrightref06.Same: two lists of numbers. -/
import Derived.Test.YtpeboaoephkfhaaRows
import Derived.Test.YtpeboaoephkfhaaBase
import Derived.WalkKit
import Derived.ProofKit
import Derived.OpenShut
import Derived.Outline
import Derived.BigQuiet
import Derived.Deep.QuietTactic
namespace Go.Proofs.Ytpeboaoephkfhaa
open Go.ChangeShapes Go.WideShapes Go.ChangeAt Go.RowKit

/-- A value that is a slice of these ints, wherever it lies. -/
def IntsAt (w : World) (v : Value) (l : List Int) : Prop :=
  ∃ a cap, v = .slice a l.length cap ∧ l.length ≤ maxLen ∧ (l ≠ [] → ∃ g off, a = some ⟨g, off, none⟩ ∧ g < w.heap.size ∧ ∀ i, i < l.length → w.cell? ⟨g, off + i, none⟩ = some (.int .i64 (l.getD i 0)))

theorem IntsAt.of_own {w : World} {base : Nat} {v : Value} {l : List Int} {n : Nat} (h : w.ownsRow base 3 1 v n (l.map (Value.int .i64))) (hl : l.length = n) : IntsAt w v l := by
  subst hl
  rcases h.2 with ⟨rfl, hn⟩ | ⟨g, cap, cur, rfl, hb, hg, hnc, hcm, hcs, htk⟩
  · exact ⟨none, 0, by rw [hn], by rw [hn]; unfold maxLen; omega, fun hne => absurd (List.eq_nil_of_length_eq_zero hn) hne⟩
  · refine ⟨_, _, rfl, by omega, fun _ => ⟨g, 0, rfl, Blk.lt hg, fun i hi => ?_⟩⟩
    rw [Nat.zero_add]
    refine Blk.cell hg ?_
    rw [Nat.mul_one] at htk
    have h1 : (cur.toList.take l.length)[i]? = some (.int .i64 (l.getD i 0)) := by
      rw [htk]; simp [List.getElem?_map, List.getD_eq_getElem?_getD]; rw [List.getElem?_eq_getElem hi]; simp
    rw [List.getElem?_take, if_pos hi] at h1
    simpa using h1

/-- The list lies outside these blocks (none has no place). -/
def IntsOut (v : Value) (l : List Int) (S : List Nat) : Prop := ∀ g off len cap, l ≠ [] → v = .slice (some ⟨g, off, none⟩) len cap → g ∉ S

theorem IntsAt.out {w : World} {v : Value} {l : List Int} {S : List Nat} (h : IntsAt w v l) (hS : ∀ k ∈ S, w.heap.size ≤ k) : IntsOut v l S := by
  obtain ⟨a, cap, rfl, hm, h⟩ := h
  intro g off len cap' hne e hg
  obtain ⟨g', off', rfl, hlt, -⟩ := h hne
  cases e
  have := hS g hg
  omega

theorem IntsAt.upd {S : List Nat} {w w' : World} {v : Value} {l : List Int} (h : IntsAt w v l) (hu : Upd S w w') (hS : IntsOut v l S) : IntsAt w' v l := by
  obtain ⟨a, cap, rfl, hm, h⟩ := h
  refine ⟨a, cap, rfl, hm, fun hne => ?_⟩
  obtain ⟨g, off, rfl, hg, hc⟩ := h hne
  refine ⟨g, off, rfl, Nat.lt_of_lt_of_le hg hu.size, fun i hi => ?_⟩
  rw [← hc i hi]
  exact World.cell?_of_block (a := ⟨g, off + i, none⟩) (hu.block g hg (hS g off _ _ hne rfl))

theorem IntsAt.upd0 {w w' : World} {v : Value} {l : List Int} (h : IntsAt w v l) (hu : Upd [] w w') : IntsAt w' v l := h.upd hu (fun _ _ _ _ _ _ => by simp)

def eqB (l m : List Int) : Bool := decide (l = m)

theorem eqB_step {l m : List Int} (hlen : l.length = m.length) (h : ∀ j, j < l.length → l.getD j 0 = m.getD j 0) : eqB l m = true := by
  unfold eqB
  simp only [decide_eq_true_eq]
  refine List.ext_getElem? fun i => ?_
  by_cases hi : i < l.length
  · have := h i hi
    simp only [List.getD_eq_getElem?_getD, List.getElem?_eq_getElem hi, List.getElem?_eq_getElem (hlen ▸ hi)] at this ⊢
    simpa using this
  · rw [List.getElem?_eq_none (by omega), List.getElem?_eq_none (by omega)]

end Go.Proofs.Ytpeboaoephkfhaa
