/- The walk of Open. -/
import Derived.Test.YtfjmkdjbeoafjaaJrnC
namespace Go.Proofs.Ytfjmkdjbeoafjaa
open Go.ChangeShapes Go.WideShapes Go.ChangeAt Go.RowKit

theorem exec_max3 {P : Program} {a : Act} {w : World} {o : Oper} (x y z : Operand) {ts : Array TypeId} (ho : o.op = .call { callee := .builtin .max, args := #[x, y, z], argTypes := ts }) {k : IntKind} {p q r : Int} (hx : a.eval x = .int k p) (hy : a.eval y = .int k q) (hz : a.eval z = .int k r) {s : Int} (hs : max (max p q) r = s) :
    (execOp a.eval o).run P w = .ok (.value (.int k s)) w := by
  subst hs
  have e : ∀ p q : Int, (if p < q then q else p) = max p q := by intro p q; split <;> omega
  unfold execOp
  simp [ho, resolve, invoke, builtin, hx, hy, hz, Builtin.max_, Builtin.max2, e]

/-- A list of lists of bytes that the call itself made: its row, and the blocks U of its elements. -/
structure LL (wx : World) (lo : Nat) (v : Value) (us : List Value) (U : List Nat) (L : List (List Int)) : Prop where
  own : wx.ownsRow lo 31 1 v L.length us
  recs : RecsAt wx U us L
  sep : ∀ g, v.ownBlock = some g → g ∉ U
  new : ∀ g ∈ U, lo ≤ g ∧ g < wx.heap.size

theorem LL.nil (wx : World) (lo : Nat) : LL wx lo (.slice none 0 0) [] [] [] := ⟨World.ownsRow_nil _ _ _ _, RecsAt.nil _ _, by simp, by simp⟩

theorem LL.upd {S : List Nat} {wx wy : World} {lo : Nat} {v : Value} {us : List Value} {U : List Nat} {L : List (List Int)} (h : LL wx lo v us U L) (hu : Upd S wx wy) (hv : ∀ g, v.ownBlock = some g → g ∉ S) (hU : ∀ g ∈ U, g ∉ S) : LL wy lo v us U L :=
  ⟨own_upd h.own hu hv, h.recs.upd hu hU, h.sep, fun g hg => ⟨(h.new g hg).1, Nat.lt_of_lt_of_le (h.new g hg).2 hu.size⟩⟩

theorem LL.upd0 {wx wy : World} {lo : Nat} {v : Value} {us : List Value} {U : List Nat} {L : List (List Int)} (h : LL wx lo v us U L) (hu : Upd [] wx wy) : LL wy lo v us U L := h.upd hu (by simp) (by simp)

theorem LL.push {w2 w3 : World} {lo : Nat} {ov v' cv : Value} {us : List Value} {U : List Nat} {L : List (List Int)} {r : List Int} {g : Nat} (h : LL w2 lo ov us U L) (hcb : BytesAt w2 cv r) (hcv : ∀ x, cv.ownBlock = some x → lo ≤ x ∧ x < w2.heap.size ∧ ov.ownBlock ≠ some x)
    (ho : w3.ownsRow lo 31 1 v' (L.length + 1) (us ++ [cv])) (hv' : v'.ownBlock = some g) (hu : Upd ov.ownBlock.toList w2 w3) (hg : ov.ownBlock = some g ∨ w2.heap.size < g) : LL w3 lo v' (us ++ [cv]) (cv.ownBlock.toList ++ U) (L ++ [r]) := by
  have hst := rec_step (lo := lo) h.recs hcb (fun x hx => ⟨(hcv x hx).1, (hcv x hx).2.1⟩) (fun x hx => ⟨h.sep x hx, fun e => (hcv x e).2.2 hx⟩) h.new hu hg
  exact ⟨by rw [List.length_append, List.length_singleton]; exact ho, hst.1, fun x hx => by rw [hv'] at hx; cases hx; exact hst.2.1, hst.2.2⟩

theorem LL.elem {wx : World} {lo n : Nat} {oa : Option Addr} {oc : Nat} {us : List Value} {U : List Nat} {L : List (List Int)} (h : LL wx lo (.slice oa n oc) us U L) {i : Nat} (hi : i < L.length) :
    ∃ g, oa = some ⟨g, 0, none⟩ ∧ n = L.length ∧ lo ≤ g ∧ g < wx.heap.size ∧ wx.cell? ⟨g, i, none⟩ = some (us.getD i undef) ∧ BytesAt wx (us.getD i undef) (L.getD i []) := by
  rcases h.own.2 with ⟨e, hn⟩ | ⟨g, cap', cur, e, hb, hg, hnc, hcm, hcs, htk⟩
  · omega
  · cases e
    refine ⟨g, rfl, rfl, hb, Blk.lt hg, Blk.cell hg ?_, (h.recs.2 i hi).1⟩
    rw [Nat.mul_one] at htk
    have hlt : i < us.length := by rw [h.recs.1]; exact hi
    have h1 : (cur.toList.take L.length)[i]? = some (us.getD i undef) := by
      rw [htk, List.getD_eq_getElem?_getD, List.getElem?_eq_getElem hlt]; rfl
    rw [List.getElem?_take, if_pos hi] at h1
    simpa using h1

theorem life_same (v : Value) (l : List Int) (w : World) (h : BytesAt w v l) (h8 : 8 ≤ l.length) (hr : U8L l) :
    Calls Try.prog 36 #[v] w fun e w' => e = .returned (.int .i64 (life8 l)) ∧ w' = w := (life_any v l w h h8 hr).mono fun _ _ ⟨a, b⟩ => ⟨a, b.symm⟩

set_option maxRecDepth 100000 in
theorem open_nil (f n : Int) (w : World) :
    Calls Try.prog 12 #[.pointer none, .int .i64 f, .int .i64 n] w fun e w' => e = .returned (.tuple #[.pointer none, .int .i64 1]) ∧ w = w' := by
  go_enter Try.func12, Try.ntmps12
  go_wp2
  go_step3
  go_wp2
  rw [Exit.noGoto_ret]
  go_ret2
  exact ⟨rfl, rfl⟩

set_option maxRecDepth 100000 in
set_option maxHeartbeats 1000000 in
theorem open_arg (p : Nat) (S : List Nat) (d : DK) (f n : Int) (w : World) (h : DiskAt w p S d) (hf : f < 0 ∨ n < 0 ∨ (d.last.length : Int) < f ∨ (d.last.length : Int) - f < n) :
    Calls Try.prog 12 #[.pointer (some ⟨p, 0, none⟩), .int .i64 f, .int .i64 n] w fun e w' => e = .returned (.tuple #[.pointer none, .int .i64 1]) ∧ w = w' := by
  have hm := h.wf.many
  have H := Lib.hid h
  obtain ⟨m, hmm⟩ : ∃ m, m = d.last.length := ⟨_, rfl⟩
  have C := fun w (h : DiskAt w p S d) => blocks_any p S d w h
  rw [← hmm] at hf hm C
  have HC := Lib.hid C
  have key : decide (f < 0) = true ∨ (decide (f < 0) = false ∧ decide (n < 0) = true) ∨ (decide (f < 0) = false ∧ decide (n < 0) = false ∧ decide ((m : Int) < f) = true) ∨
      (decide (f < 0) = false ∧ decide (n < 0) = false ∧ decide ((m : Int) < f) = false ∧ decide ((m : Int) - f < n) = true ∧ 0 ≤ f ∧ f ≤ (m : Int)) := by
    simp only [decide_eq_true_eq, decide_eq_false_iff_not]; omega
  clear h hf hmm C
  rcases key with q1 | ⟨q1, q2⟩ | ⟨q1, q2, q3⟩ | ⟨q1, q2, q3, q4, q5, q6⟩
  all_goals
    go_enter Try.func12, Try.ntmps12
    go_wp2
    go_step3
    go_wp2_with (go_at_call 32; refine (HC.out _ H.out).mono ?_; rintro e w1 ⟨rfl, rfl⟩)
    rw [Exit.noGoto_ret]
    go_ret2
    exact ⟨rfl, rfl⟩

set_option maxRecDepth 100000 in
set_option maxHeartbeats 4000000 in
theorem open_down (p : Nat) (S : List Nat) (d : DK) (f n : Nat) (w : World) (h : DiskAt w p S d) (hf : f + n ≤ d.last.length) (hd : d.down = true) :
    Calls Try.prog 12 #[.pointer (some ⟨p, 0, none⟩), .int .i64 f, .int .i64 n] w fun e w' => e = .returned (.tuple #[.pointer none, .int .i64 60]) ∧ w = w' := by
  have hm := h.wf.many
  have H := Lib.hid h
  obtain ⟨m, hmm⟩ : ∃ m, m = d.last.length := ⟨_, rfl⟩
  have C := fun w (h : DiskAt w p S d) => blocks_any p S d w h
  have D := fun w (h : DiskAt w p S d) => down_any p S d w h
  rw [← hmm] at hf hm C
  rw [hd] at D
  have HC := Lib.hid C
  have HD := Lib.hid D
  have q1 : decide ((f : Int) < 0) = false := by simp
  have q2 : decide ((n : Int) < 0) = false := by simp
  have q3 : decide ((m : Int) < (f : Int)) = false := by simp; omega
  have q4 : decide ((m : Int) - (f : Int) < (n : Int)) = false := by simp; omega
  clear h hmm C D hd
  go_enter Try.func12, Try.ntmps12
  go_wp2
  go_step3
  go_wp2_with (first
    | (go_at_call 32; refine (HC.out _ H.out).mono ?_; rintro e w1 ⟨rfl, rfl⟩)
    | (go_at_call 33; refine (HD.out _ H.out).mono ?_; rintro e w1 ⟨rfl, rfl⟩))
  rw [Exit.noGoto_ret]
  go_ret2
  exact ⟨rfl, rfl⟩

end Go.Proofs.Ytfjmkdjbeoafjaa
