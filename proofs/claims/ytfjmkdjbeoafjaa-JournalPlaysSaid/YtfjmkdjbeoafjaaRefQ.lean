/- The document's journal in memory; the walk of its Open where it makes none. -/
import Derived.Test.YtfjmkdjbeoafjaaRefO
import Derived.IntWalk
namespace Go.Proofs.Ytfjmkdjbeoafjaa
open Go.ChangeShapes Go.WideShapes Go.ChangeAt Go.RowKit

/-- The document's journal lies at block j, over the document's disk at block q; J: all its blocks. -/
def RJAt (w : World) (j : Nat) (J : List Nat) (q : Nat) (k : JK) : Prop :=
  ∃ (rv : Value) (rvs : List Value) (T : List Nat), J = j :: (rv.ownBlock.toList ++ T) ∧ j ∉ T ∧ (∀ g, rv.ownBlock = some g → g ≠ j ∧ g ∉ T) ∧ (∀ g ∈ T, g < w.heap.size) ∧ k.WF ∧
    Blk w j #[.pointer (some ⟨q, 0, none⟩), .int .i64 k.from_, .int .i64 k.blocks, .int .i64 k.life, .int .i64 k.used, rv] 57 ∧
    w.ownsRow 0 31 1 rv k.recs.length rvs ∧ RecsAt w T rvs k.recs

theorem RJAt.upd {S : List Nat} {w w' : World} {j : Nat} {J : List Nat} {q : Nat} {k : JK} (h : RJAt w j J q k) (hu : Upd S w w') (hS : ∀ x ∈ J, x ∉ S) : RJAt w' j J q k := by
  obtain ⟨rv, rvs, T, rfl, h1, h2, h3, h4, h5, h6, h7⟩ := h
  exact ⟨rv, rvs, T, rfl, h1, h2, fun g hg => Nat.lt_of_lt_of_le (h3 g hg) hu.size, h4, h5.upd hu (hS _ (by simp)), own_upd h6 hu (fun g hg => hS _ (by simp [hg])), h7.upd hu (fun g hg => hS _ (by simp [hg]))⟩

theorem RJAt.upd0 {w w' : World} {j : Nat} {J : List Nat} {q : Nat} {k : JK} (h : RJAt w j J q k) (hu : Upd [] w w') : RJAt w' j J q k := h.upd hu (by simp)

theorem RJAt.wf {w : World} {j : Nat} {J : List Nat} {q : Nat} {k : JK} (h : RJAt w j J q k) : k.WF := by obtain ⟨_, _, _, _, _, _, _, h, _⟩ := h; exact h

theorem RJAt.lt {w : World} {j : Nat} {J : List Nat} {q : Nat} {k : JK} (h : RJAt w j J q k) : ∀ x ∈ J, x < w.heap.size := by
  obtain ⟨rv, rvs, T, rfl, h1, h2, h3, h4, h5, h6, h7⟩ := h
  intro x hx
  simp only [List.mem_cons, List.mem_append, Option.mem_toList] at hx
  rcases hx with rfl | hx | hx
  · exact h5.lt
  · exact (h6.lt x hx).2
  · exact h3 x hx

/-- What the document's journal says of its records is a list of lists of bytes. -/
theorem RJAt.lists {w : World} {j : Nat} {J : List Nat} {q : Nat} {k : JK} (h : RJAt w j J q k) : ∃ rv T, Blk w j #[.pointer (some ⟨q, 0, none⟩), .int .i64 k.from_, .int .i64 k.blocks, .int .i64 k.life, .int .i64 k.used, rv] 57 ∧ ListsAt w T rv k.recs := by
  obtain ⟨rv, rvs, T, rfl, h1, h2, h3, h4, h5, h6, h7⟩ := h
  exact ⟨rv, _, h5, ListsAt.of_own h6 rfl h7⟩

set_option maxRecDepth 100000 in
set_option maxHeartbeats 1000000 in
theorem ropen_arg (q : Nat) (R : List Nat) (d : DK) (f n : Int) (w : World) (h : RefAt w q R d) (hf : f < 0 ∨ n < 0 ∨ (d.last.length : Int) < f ∨ (d.last.length : Int) - f < n) :
    Calls Try.prog 22 #[.pointer (some ⟨q, 0, none⟩), .int .i64 f, .int .i64 n] w fun e w' => e = .returned (.tuple #[.pointer none, .int .i64 1]) ∧ w = w' := by
  obtain ⟨lg, lc, ng, nc, ov, rfl, hn, hw, h1, -⟩ := h
  have hm := hw.many
  have c1 := h1.cell (o := 1) rfl
  rw [DK.now_len] at c1
  obtain ⟨m, hmm⟩ : ∃ m, m = d.last.length := ⟨_, rfl⟩
  rw [← hmm] at hf hm c1
  have key : decide (f < 0) = true ∨ (decide (f < 0) = false ∧ decide (n < 0) = true) ∨ (decide (f < 0) = false ∧ decide (n < 0) = false ∧ decide ((m : Int) < f) = true) ∨
      (decide (f < 0) = false ∧ decide (n < 0) = false ∧ decide ((m : Int) < f) = false ∧ decide ((m : Int) - f < n) = true ∧ 0 ≤ f ∧ f ≤ (m : Int)) := by
    simp only [decide_eq_true_eq, decide_eq_false_iff_not]; omega
  clear h1 hf hmm hw hn
  rcases key with q1 | ⟨q1, q2⟩ | ⟨q1, q2, q3⟩ | ⟨q1, q2, q3, q4, q5, q6⟩
  all_goals
    go_enter Try.func22, Try.ntmps22
    go_wp2_with fail
    go_ret2
    exact ⟨rfl, rfl⟩

set_option maxRecDepth 100000 in
set_option maxHeartbeats 1000000 in
theorem ropen_down (q : Nat) (R : List Nat) (d : DK) (f n : Nat) (w : World) (h : RefAt w q R d) (hf : f + n ≤ d.last.length) (hd : d.down = true) :
    Calls Try.prog 22 #[.pointer (some ⟨q, 0, none⟩), .int .i64 f, .int .i64 n] w fun e w' => e = .returned (.tuple #[.pointer none, .int .i64 60]) ∧ w = w' := by
  obtain ⟨lg, lc, ng, nc, ov, rfl, hn, hw, h1, -⟩ := h
  have hm := hw.many
  have c1 := h1.cell (o := 1) rfl
  have c3 := h1.cell (o := 3) rfl
  rw [DK.now_len] at c1
  rw [hd] at c3
  obtain ⟨m, hmm⟩ : ∃ m, m = d.last.length := ⟨_, rfl⟩
  rw [← hmm] at hf hm c1
  have q1 : decide ((f : Int) < 0) = false := by simp
  have q2 : decide ((n : Int) < 0) = false := by simp
  have q3 : decide ((m : Int) < (f : Int)) = false := by simp; omega
  have q4 : decide ((m : Int) - (f : Int) < (n : Int)) = false := by simp; omega
  clear h1 hmm hw hn hd
  go_enter Try.func22, Try.ntmps22
  go_wp2_with fail
  go_ret2
  exact ⟨rfl, rfl⟩

end Go.Proofs.Ytfjmkdjbeoafjaa
