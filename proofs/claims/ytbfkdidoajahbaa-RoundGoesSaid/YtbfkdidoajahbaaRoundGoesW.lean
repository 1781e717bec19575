/- The walk of RoundGoes. -/
import Derived.Test.YtbfkdidoajahbaaRoundF
import Derived.Deep.RegionHeld3
namespace Go.Proofs.Ytbfkdidoajahbaa
open Go.ChangeShapes Go.WideShapes Go.ChangeAt Go.RowKit Round

theorem goes_key {n me d : Int} {m : Nat} (h : 2 ≤ n ∧ n ≤ 9 ∧ 0 ≤ me ∧ me < n) (hm : m < 100) :
    turnZ n me d ((m : Int) + (n - 1)) = turnZ n me (orderZ n me d).2 m ∧ ((m : Int) < n - 1 → turnZ n me d m = (orderZ n me d).1.getD m 0) ∧ ((orderZ n me d).1.length : Int) = n - 1 := by
  have e1 : orderZ n me d = order n.toNat me.toNat d := by unfold orderZ; rw [if_pos (by omega)]
  have hlen : (order n.toNat me.toNat d).1.length = n.toNat - 1 := order_len (by omega) d
  refine ⟨?_, ?_, ?_⟩
  · unfold turnZ
    rw [if_pos (by omega), if_pos (by omega), e1, turn_ge _ (by omega) (by omega)]
    congr 1; omega
  · intro hl
    unfold turnZ
    rw [if_pos (by omega), e1, turn_lt _ (by omega)]
    rfl
  · rw [e1, hlen]; omega

set_option maxHeartbeats 1000000 in
theorem RoundGoes.walk (n me d o at_ : Int) (w : World) (_ : (Lit.int .i64 n).wf = true) (_ : (Lit.int .i64 me).wf = true) (wd : (Lit.int .u64 d).wf = true) (wo : (Lit.int .u64 o).wf = true) (wa : (Lit.int .u8 at_).wf = true) :
    Calls Try.prog 6 #[.int .i64 n, .int .i64 me, .int .u64 d, .int .u64 o, .int .u8 at_] w fun e w' => e = .returned (.bool true) ∧ Below w.heap.size w w' := by
  by_cases hv : 2 ≤ n ∧ n ≤ 9 ∧ 0 ≤ me ∧ me < n
  · have hd := bounds_u64 wd
    have ho := bounds_u64 wo
    have ha := bounds_u8 wa
    obtain ⟨m, hm⟩ := Int.eq_ofNat_of_zero_le (show 0 ≤ at_ % 100 by omega)
    have hm100 : m < 100 := by omega
    obtain ⟨k1, k2, k3⟩ := goes_key (d := d) hv hm100
    have hmt : at_.tmod 100 = (m : Int) := by rw [Int.tmod_eq_emod_of_nonneg ha.1]; exact hm
    obtain ⟨l, hl⟩ : ∃ l, l = (orderZ n me d).1 := ⟨_, rfl⟩
    obtain ⟨dd, hdd⟩ : ∃ l, l = (orderZ n me d).2 := ⟨_, rfl⟩
    obtain ⟨x, hx⟩ : ∃ x, x = drawP d := ⟨_, rfl⟩
    obtain ⟨y, hy⟩ : ∃ y, y = drawP o := ⟨_, rfl⟩
    obtain ⟨t, ht⟩ : ∃ t, t = turnZ n me dd m := ⟨_, rfl⟩
    obtain ⟨t1, ht1⟩ : ∃ t, t = turnZ n me d m := ⟨_, rfl⟩
    have g9 : ((x == y) == (d == o)) = true := by
      by_cases e : d = o
      · subst e; rw [hx, hy]; simp
      · have : x ≠ y := fun e2 => e (drawP_inj (by omega) (by omega) (by omega) (by omega) (by rw [← hx, ← hy, e2]))
        have a1 : (x == y) = false := by simp [this]
        have a2 : (d == o) = false := by simp [e]
        rw [a1, a2]; rfl
    have O1 := order_any n me d
    have T1 := turn_any n me d m
    have T2 := turn_any n me d (m + (n - 1))
    have T3 := turn_any n me dd m
    have D1 := draw_any d
    have D2 := draw_any o
    rw [← hl, ← hdd] at O1
    rw [← hdd, ← ht] at k1
    rw [k1] at T2
    rw [← ht] at T3
    rw [← hx] at D1
    rw [← hy] at D2
    rw [← ht1] at T1
    rw [← ht1, ← hl] at k2
    rw [← hl] at k3
    have HO1 := Lib.hid O1
    have HT1 := Lib.hid T1
    have HT2 := Lib.hid T2
    have HT3 := Lib.hid T3
    have HD1 := Lib.hid D1
    have HD2 := Lib.hid D2
    have K2 := Lib.hid k2
    have hle : (l.length : Int) ≤ n - 1 := by omega
    have hge : n - 1 ≤ (l.length : Int) := by omega
    have Hk3 := Lib.hid k3
    clear O1 T1 T2 T3 D1 D2 hx hy ht ht1 hdd hl k1 k2 k3 hd ho hm wd wo wa
    obtain ⟨h1, h2, h3, h4⟩ := hv
    have g1 : decide (n < 2) = false := by simp; omega
    have g2 : decide (9 < n) = false := by simp; omega
    have g3 : decide (me < 0) = false := by simp; omega
    have g4 : decide (n ≤ me) = false := by simp; omega
    have g5 : ((l.length : Int) == n - 1) = true := by simp; omega
    have g6 : (t == t) = true := by simp
    have g7 : (t1 == t1) = true := by simp
    by_cases hlt : (m : Int) < n - 1
    · have g8 : decide (n - 1 ≤ (m : Int)) = false := by simp; omega
      have c0 := K2.out hlt
      have C0 := Lib.hid c0
      clear c0
      go_enter Try.func6, Try.ntmps6
      go_wp2_with fail
      refine (awake_any _).mono ?_
      rintro e w1 ⟨rfl, hu1⟩
      go_wp2_with fail
      refine (HO1.out _).mono ?_
      rintro e w2 ⟨a, cap, rfl, hi, hu2⟩
      obtain ⟨_, _, hs, -, hcell⟩ := hi
      obtain ⟨g, off, rfl, hgl, hcell⟩ := hcell (fun e => by rw [e] at hle hge; simp at hle hge; omega)
      simp only [Value.slice.injEq] at hs
      obtain ⟨rfl, -, -⟩ := hs
      have c1 := hcell m (by omega)
      rw [← C0.out] at c1
      have hml : (m : Int) < (l.length : Int) := by omega
      have hml' : m < l.length := by omega
      have Hu := Lib.hid (hu1.trans hu2)
      clear hu1 hu2 hcell
      go_wp2_with fail
      go_region_held3 (fun w' => w'.cell? ⟨g, off + m, none⟩ = some (.int .i64 t1))
        (first
          | go_keep
          | (rw [World.cell?_of_block (a := ⟨g, off + m, none⟩) (hu3.block g (by simpa using hgl) (by simp))]; assumption))
        (first | (go_at_call 13; refine (HT1.out _).mono ?_; rintro e w3 ⟨rfl, hu3⟩))
      go_wp2_with fail
      refine (HT2.out _).mono ?_
      rintro e w4 ⟨rfl, hu4⟩
      go_wp2_with fail
      refine (HT3.out _).mono ?_
      rintro e w5 ⟨rfl, hu5⟩
      go_wp2_with fail
      refine (HD1.out _).mono ?_
      rintro e w6 ⟨rfl, rfl⟩
      go_wp2_with fail
      refine (HD2.out _).mono ?_
      rintro e w6 ⟨rfl, rfl⟩
      go_wp2
      go_ret
      exact ⟨rfl, ((((Hu.out.drew).trans hu3).trans hu4).trans hu5).toBelow⟩
    · have g8 : decide (n - 1 ≤ (m : Int)) = true := by simp; omega
      go_enter Try.func6, Try.ntmps6
      go_wp2_with fail
      refine (awake_any _).mono ?_
      rintro e w1 ⟨rfl, hu1⟩
      go_wp2_with fail
      refine (HO1.out _).mono ?_
      rintro e w2 ⟨a, cap, rfl, hi, hu2⟩
      have Hu := Lib.hid (hu1.trans hu2)
      clear hu1 hu2 hi
      go_wp2_with fail
      go_quiet (fail)
      go_wp2_with fail
      refine (HT2.out _).mono ?_
      rintro e w4 ⟨rfl, hu4⟩
      go_wp2_with fail
      refine (HT3.out _).mono ?_
      rintro e w5 ⟨rfl, hu5⟩
      go_wp2_with fail
      refine (HD1.out _).mono ?_
      rintro e w6 ⟨rfl, rfl⟩
      go_wp2_with fail
      refine (HD2.out _).mono ?_
      rintro e w6 ⟨rfl, rfl⟩
      go_wp2
      go_ret
      exact ⟨rfl, ((((Hu.out).drewN _).trans hu4).trans hu5).toBelow⟩
  · have key : (decide (n < 2) = true) ∨ (decide (n < 2) = false ∧ decide (9 < n) = true) ∨ (decide (n < 2) = false ∧ decide (9 < n) = false ∧ decide (me < 0) = true) ∨ (decide (n < 2) = false ∧ decide (9 < n) = false ∧ decide (me < 0) = false ∧ decide (n ≤ me) = true) := by
      simp only [decide_eq_true_eq, decide_eq_false_iff_not]; omega
    clear hv
    rcases key with h1 | ⟨h1, h2⟩ | ⟨h1, h2, h3⟩ | ⟨h1, h2, h3, h4⟩
    all_goals
      go_enter Try.func6, Try.ntmps6
      go_wp2_with (go_at_call 7; refine (awake_any _).mono ?_; rintro e w1 ⟨rfl, hu1⟩)
      go_ret
      exact ⟨rfl, hu1.toBelow⟩

end Go.Proofs.Ytbfkdidoajahbaa
