/- A row of the call's own, and another one appended to it; the walks of the document's Append where it appends nothing. -/
import Derived.Test.YtfjmkdjbeoafjaaRefR
import Derived.Deep.Upon
namespace Go.Proofs.Ytfjmkdjbeoafjaa
open Go.ChangeShapes Go.WideShapes Go.ChangeAt Go.RowKit

/-- A whole row, none or more of it, is appended to an empty one. -/
theorem wpList_append_clone {P : Program} {w : World} {ops : Array Oper} {rest : List Oper} {o : Oper} {a : Act} {Q : Exit → Act → World → Prop} (hgd : o.guard = none) (s x : Operand) (t : TypeId)
    (ho : o.op = .call { callee := .builtin .append, args := #[s, x], argTypes := #[t, t] })
    (base : Nat) (e : TypeId) (i : TypeInfo) (z : Value) (size bytes : Nat) (ht : P.underlying t = some (.slice e)) (hi : P.info? e = some i) (hz : i.zero = some z)
    (hsize : i.size = size) (hby : i.bytes = bytes) (hzs : z.cells.size = size) (hsz : 0 < size)
    (v : Value) (hs : a.eval s = v) (hown : w.ownsRow base e size v 0 [])
    (u : Value) (m : Nat) (us : List Value) (hx : a.eval x = u) (hu : w.ownsRow 0 e size u m us) (h1 : ∀ c ∈ us, c.oneCell' = true)
    (h63 : m ≤ maxLen) (hbytes : m * bytes ≤ 140737488355328) (hbase : base ≤ w.heap.size)
    (h : ∀ v' w', w'.ownsRow base e size v' m us → w.grownBy w' v.ownBlock → wpList P ops Q rest (a.put o.dst v') w') :
    wpList P ops Q (o :: rest) a w := by
  rcases hu.2 with ⟨rfl, rfl⟩ | ⟨g, cap, cur, rfl, -, -⟩
  · have hus : us = [] := List.eq_nil_of_length_eq_zero (by rw [hu.1, Nat.zero_mul])
    subst hus
    obtain ⟨va, vc, hv, hle⟩ : ∃ va vc, v = .slice va 0 vc ∧ 0 ≤ vc := by
      rcases hown.2 with ⟨h, -⟩ | ⟨g, cap, cur, h, -⟩
      · exact ⟨_, _, h, Nat.zero_le _⟩
      · exact ⟨_, _, h, Nat.zero_le _⟩
    refine wpList_plain hgd fun K hK => ?_
    have hr := run_append_nothing (P := P) w t t o.type e i ht hi va 0 vc hle (.slice none 0 0) (Src.ofNil w ht 0)
    rw [← hv] at hr
    unfold Oper.wp execOp
    simp only [ho, resolve, invoke, builtin, Sem.run_bind, Sem.run_pure, Result.andThen_ok, List.map_toArray, List.map_cons, List.map_nil, hs, hx, hr]
    exact hK _ _ (h v w hown ⟨rfl, rfl, rfl, Nat.le_refl _, fun _ _ _ => rfl⟩)
  · refine wpList_append_own_at _ hgd s x t ho base e i z size bytes ht hi hz hsize hby hzs hsz v 0 [] hs hown ⟨g, 0, none⟩ m cap us hx hu.1 (hu.cells rfl) h1 (by omega) (by rw [Nat.zero_add]; exact hbytes) hbase ?_
    intro v' w' h2 h3 _ _
    rw [Nat.zero_add, List.nil_append] at h2
    exact h v' w' h2 h3

set_option maxHeartbeats 1000000 in
theorem rappend_bad (v : Value) (b : List Int) (j : Nat) (w : World) (hb : BytesAt w v b) (h : b.length = 0 ∨ 2000 < b.length) :
    Calls Try.prog 23 #[.pointer (some ⟨j, 0, none⟩), v] w fun e w' => e = .returned (.int .i64 71) ∧ Upd [] w w' := by
  obtain ⟨a, cap, rfl, -⟩ := hb
  obtain ⟨n, hn⟩ : ∃ n, n = b.length := ⟨_, rfl⟩
  rw [← hn] at h ⊢
  clear hn
  have key : (n = 0) ∨ ((((n : Int) == 0) = false) ∧ (decide ((2000 : Int) < (n : Int)) = true) ∧ 2000 < n) := by
    simp only [decide_eq_true_eq, beq_eq_false_iff_ne, ne_eq]; omega
  rcases key with rfl | ⟨q1, q2, q3⟩
  all_goals
    go_enter Try.func23, Try.ntmps23
    go_wp2
    go_ret
    exact ⟨rfl, Upd.refl _ _⟩

set_option maxHeartbeats 1000000 in
theorem rappend_full (v : Value) (b : List Int) (j : Nat) (J : List Nat) (q : Nat) (k : JK) (w : World) (hb : BytesAt w v b) (h0 : 0 < b.length) (h1 : b.length ≤ 2000) (hj : RJAt w j J q k) (hf : k.blocks - k.used < needJ b) :
    Calls Try.prog 23 #[.pointer (some ⟨j, 0, none⟩), v] w fun e w' => e = .returned (.int .i64 70) ∧ Upd [] w w' := by
  have hnd := fun w (h : BytesAt w v b) => rneed_any v b w h (by omega)
  have HBA := Lib.hid hb
  obtain ⟨a, cap, rfl, -⟩ := hb
  have x1 := hj.wf.used
  have x2 := hj.wf.room
  obtain ⟨rv, rvs, T, rfl, -, -, -, -, h5, -, -⟩ := hj
  have c2 := h5.cell (o := 2) rfl
  have c4 := h5.cell (o := 4) rfl
  obtain ⟨nd, hnde⟩ : ∃ nd, nd = needJ b := ⟨_, rfl⟩
  rw [← hnde] at hf hnd
  have HN := Lib.hid hnd
  have hnd1 : nd ≤ 46 := by rw [hnde]; unfold needJ; omega
  obtain ⟨n, hn⟩ : ∃ n, n = b.length := ⟨_, rfl⟩
  rw [← hn] at h0 h1 HN HBA ⊢
  clear hn hnd hnde h5
  have q1 : ((n : Int) == 0) = false := by simp only [beq_eq_false_iff_ne, ne_eq]; omega
  have q2 : decide ((2000 : Int) < (n : Int)) = false := by simp only [decide_eq_false_iff_not]; omega
  have q3 : decide ((k.blocks : Int) - (k.used : Int) < (nd : Int)) = true := by simp only [decide_eq_true_eq]; omega
  go_enter Try.func23, Try.ntmps23
  go_upto_region 4 with (go_at_call 45; refine (HN.out _ HBA.out).mono ?_; rintro e w1 ⟨rfl, rfl⟩)
  go_quiet (fail)
  go_wp2
  go_ret
  exact ⟨rfl, (Upd.refl _ _).drewN _⟩

end Go.Proofs.Ytfjmkdjbeoafjaa
