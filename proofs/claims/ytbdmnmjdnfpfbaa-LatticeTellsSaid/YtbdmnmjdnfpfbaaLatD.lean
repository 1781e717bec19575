/- The walks of cmp.Compare and of Less. -/
import Derived.Test.YtbdmnmjdnfpfbaaLatC
namespace Go.Proofs.Ytbdmnmjdnfpfbaa
open Go.ChangeShapes Go.WideShapes Go.ChangeAt Go.RowKit

def cmpI (a b : Int) : Int := if a < b then -1 else if b < a then 1 else 0

theorem nan_any (x : Int) (w : World) : Calls Try.prog 59 #[.int .i64 x] w fun e w' => e = .returned (.bool false) ∧ w = w' := by
  go_enter Try.func59, Try.ntmps59
  go_wp2
  go_ret
  exact ⟨rfl, rfl⟩

theorem cmp_any (a b : Int) (w : World) : Calls Try.prog 46 #[.int .i64 a, .int .i64 b] w fun e w' => e = .returned (.int .i64 (cmpI a b)) ∧ w = w' := by
  have key : (decide (a < b) = true ∧ cmpI a b = -1) ∨ (decide (a < b) = false ∧ decide (b < a) = true ∧ cmpI a b = 1) ∨ (decide (a < b) = false ∧ decide (b < a) = false ∧ cmpI a b = 0) := by
    unfold cmpI
    by_cases h1 : a < b
    · left; exact ⟨decide_eq_true h1, if_pos h1⟩
    · right
      by_cases h2 : b < a
      · left; exact ⟨decide_eq_false h1, decide_eq_true h2, by rw [if_neg h1, if_pos h2]⟩
      · right; exact ⟨decide_eq_false h1, decide_eq_false h2, by rw [if_neg h1, if_neg h2]⟩
  obtain ⟨r, hr⟩ : ∃ r, r = cmpI a b := ⟨_, rfl⟩
  rw [← hr] at key ⊢
  clear hr
  rcases key with ⟨h1, rfl⟩ | ⟨h1, h2, rfl⟩ | ⟨h1, h2, rfl⟩
  all_goals
    go_enter Try.func46, Try.ntmps46
    go_wp2_with (first
      | (go_at_call 59; refine (nan_any a _).mono ?_; rintro e w1 ⟨rfl, rfl⟩)
      | (go_at_call 59; refine (nan_any b _).mono ?_; rintro e w1 ⟨rfl, rfl⟩))
    go_ret
    exact ⟨rfl, rfl⟩

theorem cmpI_key (a b : Int) : (cmpI a b = 0 ∧ a = b) ∨ ((cmpI a b != 0) = true ∧ a ≠ b ∧ decide (cmpI a b < 0) = decide (a < b)) := by
  unfold cmpI
  by_cases h1 : a < b
  · right; simp [h1]; omega
  · by_cases h2 : b < a
    · right; simp [h1, h2]; omega
    · left; simp [h1, h2]; omega

/-- 'a[i]' of an array by value, whose elements are arrays. -/
theorem exec_indexA {P : Program} {a : Act} {o : Oper} {w : World} (t : TypeId) (x y : Operand) (ho : o.op = .index t x y) {n k : Nat} {e : TypeId} (ht : P.underlying t = some (.array n e)) (he : ∃ m f, P.underlying e = some (.array m f)) (hs : (P.info? e).map (·.size) = some k)
    {cs : Array Value} {i : Nat} (hi : i < n) (hx : a.eval x = .agg cs) {kk : IntKind} (hy : a.eval y = .int kk i) {c : Array Value} (hc : cs.extract (i * k) (i * k + k) = c) : (execOp a.eval o).run P w = .ok (.value (.agg c)) w := by
  subst hc
  have h0 : (0 : Int) ≤ i ∧ (i : Int) < n := by omega
  obtain ⟨m, f, he⟩ := he
  cases hq : P.info? e with
  | none => simp [hq] at hs
  | some j =>
    have hs : j.size = k := by simpa [hq] using hs
    unfold execOp
    simp [ho, hx, hy, Instr.index, asIntOf, underlying, ht, he, part, isAgg, sizeOf, typeInfo, hq, hs, hi]

theorem boxed2 (w : World) (c d : Array Value) (T U : TypeId) : Blk ((w.alloc (.cells c T)).alloc (.cells d U)) w.heap.size c T ∧ Blk ((w.alloc (.cells c T)).alloc (.cells d U)) (w.heap.size + 1) d U ∧ Upd [] w ((w.alloc (.cells c T)).alloc (.cells d U)) := by
  refine ⟨(Blk.new _ _ _).alloc _, ?_, ((Upd.refl _ _).alloc _).alloc _⟩
  have := Blk.new (w.alloc (.cells c T)) d U
  rwa [show (w.alloc (.cells c T)).heap.size = w.heap.size + 1 by simp] at this

set_option maxRecDepth 100000 in
set_option maxHeartbeats 2000000 in
theorem less_any (f g : FK) (cv dv : Value) (w : World) :
    Calls Try.prog 21 #[.agg (encF f cv).toArray, .agg (encF g dv).toArray] w fun x w' => x = .returned (.bool (f.less g)) ∧ Upd [] w w' := by
  have HCM := Lib.hid cmp_any
  have ke := cmpI_key f.epoch g.epoch
  have kk := cmpI_key f.kind g.kind
  have kn := cmpI_key f.node g.node
  obtain ⟨r, hr⟩ : ∃ r, r = f.less g := ⟨_, rfl⟩
  have HR := Lib.hid hr
  rw [← hr]
  obtain ⟨w2, hw2⟩ : ∃ w2, w2 = (w.alloc (.cells (encF f cv).toArray 31)).alloc (.cells (encF g dv).toArray 31) := ⟨_, rfl⟩
  obtain ⟨hb1, hb2, hu⟩ := boxed2 w (encF f cv).toArray (encF g dv).toArray 31 31
  rw [← hw2] at hb1 hb2 hu
  have c0 : w2.cell? ⟨w.heap.size, 0, none⟩ = some (.int .i64 f.kind) := hb1.cell (o := 0) rfl
  have c1 : w2.cell? ⟨w.heap.size, 1, none⟩ = some (.int .i64 f.epoch) := hb1.cell (o := 1) rfl
  have c2 : w2.cell? ⟨w.heap.size, 2, none⟩ = some (.int .i64 f.node) := hb1.cell (o := 2) rfl
  have d0 : w2.cell? ⟨w.heap.size + 1, 0, none⟩ = some (.int .i64 g.kind) := hb2.cell (o := 0) rfl
  have d1 : w2.cell? ⟨w.heap.size + 1, 1, none⟩ = some (.int .i64 g.epoch) := hb2.cell (o := 1) rfl
  have d2 : w2.cell? ⟨w.heap.size + 1, 2, none⟩ = some (.int .i64 g.node) := hb2.cell (o := 2) rfl
  have HU := Lib.hid hu
  have HW2 := Lib.hid hw2
  clear hw2 hb1 hb2 hu hr
  go_enter Try.func21, Try.ntmps21
  go_wp2_with fail
  rw [← HW2.out]
  go_step3
  go_wp2_with fail
  go_step3
  go_wp2_with fail
  go_loopw [5, 7, 24] (fun n _ i wx => ∃ k : Nat, k ≤ 3 ∧ i = .int .i64 k ∧ n = .int .i64 0 ∧ Upd [] w wx ∧ (1 ≤ k → f.epoch = g.epoch) ∧ (2 ≤ k → f.kind = g.kind) ∧ (3 ≤ k → f.node = g.node)) (fun _ _ i _ => 3 - (intOf i).toNat)
  case atStart => exact ⟨0, by omega, rfl, rfl, HU.out, by omega, by omega, by omega⟩
  case round =>
    obtain ⟨k, hk, rfl, rfl, hu, e1, e2, e3⟩ := hrel
    have k4 : k = 0 ∨ k = 1 ∨ k = 2 ∨ k = 3 := by omega
    rcases k4 with rfl | rfl | rfl | rfl
    · rcases ke with ⟨z, e⟩ | ⟨z, ne, dl⟩
      · have Z := Lib.hid z
        have E := Lib.hid (⟨e, e1, e2⟩ : f.epoch = g.epoch ∧ _ ∧ _)
        have HU2 := Lib.hid hu
        clear z e e1 e2 e3 hu kk kn
        go_wp2_with (first
          | ((with_reducible show wpList _ _ _ (⟨some 26, _, _, _, _, _⟩ :: _) _ _); refine wpList_run rfl (exec_indexA 66 (.tmp 23) (.tmp 24) rfl Try.underlying66 ⟨_, _, Try.underlying65⟩ (by kernel_rfl : _ = some 2) (i := 0) (by omega) rfl rfl rfl) ?_)
          | (go_at_call 46; refine (HCM.out _ _ _).mono ?_; rw [Z.out]; rintro x w3 ⟨rfl, rfl⟩))
        obtain ⟨e, e1, e2⟩ := E.out
        go_roundw
        case rel => exact ⟨1, by omega, by go_num, rfl, HU2.out.alloc _, fun _ => e, by omega, by omega⟩
        case measure => simp [intOf]
      · obtain ⟨ci, hci⟩ : ∃ x, x = cmpI f.epoch g.epoch := ⟨_, rfl⟩
        rw [← hci] at z dl
        have hr : r = decide (ci < 0) := by
          rw [HR.out, dl]; unfold FK.less
          rw [decide_eq_false (show ¬ f.epoch = g.epoch from ne)]; simp
        have HC := Lib.hid hci
        have HR2 := Lib.hid hr
        have HU2 := Lib.hid hu
        clear ne dl hci hr e1 e2 e3 hu kk kn
        go_wp2_with (first
          | ((with_reducible show wpList _ _ _ (⟨some 26, _, _, _, _, _⟩ :: _) _ _); refine wpList_run rfl (exec_indexA 66 (.tmp 23) (.tmp 24) rfl Try.underlying66 ⟨_, _, Try.underlying65⟩ (by kernel_rfl : _ = some 2) (i := 0) (by omega) rfl rfl rfl) ?_)
          | (go_at_call 46; refine (HCM.out _ _ _).mono ?_; rw [← HC.out]; rintro x w3 ⟨rfl, rfl⟩))
        rw [Exit.noGoto_ret]
        go_ret
        exact ⟨by rw [HR2.out]; rfl, HU2.out.alloc _⟩
    · rcases kk with ⟨z, e⟩ | ⟨z, ne, dl⟩
      · have Z := Lib.hid z
        have E := Lib.hid (⟨e, e1, e2⟩ : f.kind = g.kind ∧ _ ∧ _)
        have HU2 := Lib.hid hu
        clear z e e1 e2 e3 hu ke kn
        go_wp2_with (first
          | ((with_reducible show wpList _ _ _ (⟨some 26, _, _, _, _, _⟩ :: _) _ _); refine wpList_run rfl (exec_indexA 66 (.tmp 23) (.tmp 24) rfl Try.underlying66 ⟨_, _, Try.underlying65⟩ (by kernel_rfl : _ = some 2) (i := 1) (by omega) rfl rfl rfl) ?_)
          | (go_at_call 46; refine (HCM.out _ _ _).mono ?_; rw [Z.out]; rintro x w3 ⟨rfl, rfl⟩))
        obtain ⟨e, e1, e2⟩ := E.out
        go_roundw
        case rel => exact ⟨2, by omega, by go_num, rfl, HU2.out.alloc _, fun _ => e1 (by omega), fun _ => e, by omega⟩
        case measure => simp [intOf]
      · obtain ⟨ci, hci⟩ : ∃ x, x = cmpI f.kind g.kind := ⟨_, rfl⟩
        rw [← hci] at z dl
        have hr : r = decide (ci < 0) := by
          rw [HR.out, dl]; unfold FK.less
          rw [decide_eq_true (e1 (by omega)), decide_eq_false (show ¬ f.epoch < g.epoch by rw [e1 (by omega)]; omega), decide_eq_false (show ¬ f.kind = g.kind from ne)]; simp
        have HC := Lib.hid hci
        have HR2 := Lib.hid hr
        have HU2 := Lib.hid hu
        clear ne dl hci hr e1 e2 e3 hu ke kn
        go_wp2_with (first
          | ((with_reducible show wpList _ _ _ (⟨some 26, _, _, _, _, _⟩ :: _) _ _); refine wpList_run rfl (exec_indexA 66 (.tmp 23) (.tmp 24) rfl Try.underlying66 ⟨_, _, Try.underlying65⟩ (by kernel_rfl : _ = some 2) (i := 1) (by omega) rfl rfl rfl) ?_)
          | (go_at_call 46; refine (HCM.out _ _ _).mono ?_; rw [← HC.out]; rintro x w3 ⟨rfl, rfl⟩))
        rw [Exit.noGoto_ret]
        go_ret
        exact ⟨by rw [HR2.out]; rfl, HU2.out.alloc _⟩
    · rcases kn with ⟨z, e⟩ | ⟨z, ne, dl⟩
      · have Z := Lib.hid z
        have E := Lib.hid (⟨e, e1, e2⟩ : f.node = g.node ∧ _ ∧ _)
        have HU2 := Lib.hid hu
        clear z e e1 e2 e3 hu ke kk
        go_wp2_with (first
          | ((with_reducible show wpList _ _ _ (⟨some 26, _, _, _, _, _⟩ :: _) _ _); refine wpList_run rfl (exec_indexA 66 (.tmp 23) (.tmp 24) rfl Try.underlying66 ⟨_, _, Try.underlying65⟩ (by kernel_rfl : _ = some 2) (i := 2) (by omega) rfl rfl rfl) ?_)
          | (go_at_call 46; refine (HCM.out _ _ _).mono ?_; rw [Z.out]; rintro x w3 ⟨rfl, rfl⟩))
        obtain ⟨e, e1, e2⟩ := E.out
        go_roundw
        case rel => exact ⟨3, by omega, by go_num, rfl, HU2.out.alloc _, fun _ => e1 (by omega), fun _ => e2 (by omega), fun _ => e⟩
        case measure => simp [intOf]
      · obtain ⟨ci, hci⟩ : ∃ x, x = cmpI f.node g.node := ⟨_, rfl⟩
        rw [← hci] at z dl
        have hr : r = decide (ci < 0) := by
          rw [HR.out, dl]; unfold FK.less
          rw [decide_eq_true (e1 (by omega)), decide_eq_false (show ¬ f.epoch < g.epoch by rw [e1 (by omega)]; omega), decide_eq_true (e2 (by omega)), decide_eq_false (show ¬ f.kind < g.kind by rw [e2 (by omega)]; omega)]; simp
        have HC := Lib.hid hci
        have HR2 := Lib.hid hr
        have HU2 := Lib.hid hu
        clear ne dl hci hr e1 e2 e3 hu ke kk
        go_wp2_with (first
          | ((with_reducible show wpList _ _ _ (⟨some 26, _, _, _, _, _⟩ :: _) _ _); refine wpList_run rfl (exec_indexA 66 (.tmp 23) (.tmp 24) rfl Try.underlying66 ⟨_, _, Try.underlying65⟩ (by kernel_rfl : _ = some 2) (i := 2) (by omega) rfl rfl rfl) ?_)
          | (go_at_call 46; refine (HCM.out _ _ _).mono ?_; rw [← HC.out]; rintro x w3 ⟨rfl, rfl⟩))
        rw [Exit.noGoto_ret]
        go_ret
        exact ⟨by rw [HR2.out]; rfl, HU2.out.alloc _⟩
    · have hr : r = false := by
        rw [HR.out]; unfold FK.less
        rw [e1 (by omega), e2 (by omega), e3 (by omega)]; simp
      have HR2 := Lib.hid hr
      have HU2 := Lib.hid hu
      clear hr e1 e2 e3 hu ke kk kn
      go_wp2_with fail
      rw [Exit.noGoto_ret]
      go_ret
      exact ⟨by rw [HR2.out]; rfl, HU2.out⟩

end Go.Proofs.Ytbdmnmjdnfpfbaa
