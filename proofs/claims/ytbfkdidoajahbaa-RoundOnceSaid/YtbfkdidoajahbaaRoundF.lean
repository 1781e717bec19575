/- The contracts at whole numbers; the walk of awake. -/
import Derived.Test.YtbfkdidoajahbaaRoundC
import Derived.Test.YtbfkdidoajahbaaRoundE
import Derived.Test.YtbfkdidoajahbaaSame
namespace Go.Proofs.Ytbfkdidoajahbaa.Round
open Go.ChangeShapes Go.WideShapes Go.ChangeAt Go.RowKit

/-- An order, whatever is asked. -/
def orderZ (n me d : Int) : List Int × Int := if 1 ≤ n ∧ n ≤ 9 ∧ 0 ≤ me ∧ me < n then order n.toNat me.toNat d else ([], d)

/-- Whose turn it is, whatever is asked. -/
def turnZ (n me d at_ : Int) : Int :=
  if 2 ≤ n ∧ n ≤ 9 ∧ 0 ≤ me ∧ me < n ∧ 0 ≤ at_ ∧ at_ ≤ 1048576 then turn n.toNat me.toNat d at_.toNat else -1

theorem order_any (n me d : Int) (w : World) :
    Calls Try.prog 8 #[.int .i64 n, .int .i64 me, .int .u64 d] w fun e w' =>
      ∃ a cap, e = .returned (.tuple #[.slice a (orderZ n me d).1.length cap, .int .u64 (orderZ n me d).2]) ∧ IntsAt w' (.slice a (orderZ n me d).1.length cap) (orderZ n me d).1 ∧ Upd [] w w' := by
  unfold orderZ
  by_cases h : 1 ≤ n ∧ n ≤ 9 ∧ 0 ≤ me ∧ me < n
  · rw [if_pos h]
    obtain ⟨n, rfl⟩ := Int.eq_ofNat_of_zero_le (show 0 ≤ n by omega)
    obtain ⟨me, rfl⟩ := Int.eq_ofNat_of_zero_le (show 0 ≤ me by omega)
    refine (order_yes n me d w h).mono ?_
    rintro e w' ⟨v, rfl, ho, hu⟩
    have hl : (order n me d).1.length = n - 1 := order_len (by omega) d
    have hi := IntsAt.of_own ho hl
    obtain ⟨a, cap, rfl⟩ := own_slice ho
    simp only [Int.toNat_natCast]
    rw [hl]
    exact ⟨a, cap, rfl, hi, hu⟩
  · rw [if_neg h]
    refine (order_no n me d w (by omega)).mono ?_
    rintro e w' ⟨rfl, hu⟩
    exact ⟨none, 0, rfl, ⟨none, 0, rfl, by simp, fun h => absurd rfl h⟩, hu⟩

theorem ref_order_any (n me d : Int) (w : World) :
    Calls Try.prog 9 #[.int .i64 n, .int .i64 me, .int .u64 d] w fun e w' =>
      ∃ a cap, e = .returned (.tuple #[.slice a (orderZ n me d).1.length cap, .int .u64 (orderZ n me d).2]) ∧ IntsAt w' (.slice a (orderZ n me d).1.length cap) (orderZ n me d).1 ∧ Upd [] w w' := by
  unfold orderZ
  by_cases h : 1 ≤ n ∧ n ≤ 9 ∧ 0 ≤ me ∧ me < n
  · rw [if_pos h]
    obtain ⟨n, rfl⟩ := Int.eq_ofNat_of_zero_le (show 0 ≤ n by omega)
    obtain ⟨me, rfl⟩ := Int.eq_ofNat_of_zero_le (show 0 ≤ me by omega)
    refine (ref_order_yes n me d w h).mono ?_
    rintro e w' ⟨v, rfl, ho, hu⟩
    have hl : (order n me d).1.length = n - 1 := order_len (by omega) d
    have hi := IntsAt.of_own ho hl
    obtain ⟨a, cap, rfl⟩ := own_slice ho
    simp only [Int.toNat_natCast]
    rw [hl]
    exact ⟨a, cap, rfl, hi, hu⟩
  · rw [if_neg h]
    refine (ref_order_no n me d w (by omega)).mono ?_
    rintro e w' ⟨rfl, hu⟩
    exact ⟨none, 0, rfl, ⟨none, 0, rfl, by simp, fun h => absurd rfl h⟩, hu⟩

theorem turn_any (n me d at_ : Int) (w : World) :
    Calls Try.prog 13 #[.int .i64 n, .int .i64 me, .int .u64 d, .int .i64 at_] w fun e w' => e = .returned (.int .i64 (turnZ n me d at_)) ∧ Upd [] w w' := by
  unfold turnZ
  by_cases h : 2 ≤ n ∧ n ≤ 9 ∧ 0 ≤ me ∧ me < n ∧ 0 ≤ at_ ∧ at_ ≤ 1048576
  · rw [if_pos h]
    obtain ⟨n, rfl⟩ := Int.eq_ofNat_of_zero_le (show 0 ≤ n by omega)
    obtain ⟨me, rfl⟩ := Int.eq_ofNat_of_zero_le (show 0 ≤ me by omega)
    obtain ⟨at_, rfl⟩ := Int.eq_ofNat_of_zero_le (show 0 ≤ at_ by omega)
    exact turn_yes n me d at_ w (by omega) (by unfold valid; omega) (by omega)
  · rw [if_neg h]
    by_cases ha : at_ < 0 ∨ 1048576 < at_
    · exact turn_far n me d at_ w ha
    by_cases hn : n < 1 ∨ 9 < n ∨ me < 0 ∨ n ≤ me
    · exact turn_none n me d at_ w (by omega) (by omega) hn
    · obtain rfl : n = 1 := by omega
      obtain rfl : me = 0 := by omega
      exact turn_one d at_ w (by omega) (by omega)

theorem ref_turn_any (n me d at_ : Int) (w : World) :
    Calls Try.prog 14 #[.int .i64 n, .int .i64 me, .int .u64 d, .int .i64 at_] w fun e w' => e = .returned (.int .i64 (turnZ n me d at_)) ∧ Upd [] w w' := by
  unfold turnZ
  by_cases h : 2 ≤ n ∧ n ≤ 9 ∧ 0 ≤ me ∧ me < n ∧ 0 ≤ at_ ∧ at_ ≤ 1048576
  · rw [if_pos h]
    obtain ⟨n, rfl⟩ := Int.eq_ofNat_of_zero_le (show 0 ≤ n by omega)
    obtain ⟨me, rfl⟩ := Int.eq_ofNat_of_zero_le (show 0 ≤ me by omega)
    obtain ⟨at_, rfl⟩ := Int.eq_ofNat_of_zero_le (show 0 ≤ at_ by omega)
    exact ref_turn_yes n me d at_ w (by omega) (by unfold valid; omega) (by omega)
  · rw [if_neg h]
    by_cases hn : n < 1 ∨ 9 < n ∨ me < 0 ∨ n ≤ me
    · exact ref_turn_no n me d at_ w hn
    · obtain ⟨n, rfl⟩ := Int.eq_ofNat_of_zero_le (show 0 ≤ n by omega)
      obtain ⟨me, rfl⟩ := Int.eq_ofNat_of_zero_le (show 0 ≤ me by omega)
      exact ref_turn_far n me d at_ w (by unfold valid; omega) (by omega)

set_option maxHeartbeats 400000 in
theorem awake_any (w : World) : Calls Try.prog 7 #[] w fun e w' => e = .returned (.bool true) ∧ Upd [] w w' := by
  have o1 : orderZ 2 0 5 = ([1], 5) := by decide
  have o2 : orderZ 1 0 5 = ([], 5) := by decide
  have t1 : turnZ 2 1 5 77 = 0 := by decide +kernel
  have t2 : turnZ 1 0 5 0 = -1 := by decide
  have d1 : drawP 0 = 1442695040888963407 := by decide
  have O1 := order_any 2 0 5
  have O2 := order_any 1 0 5
  have T1 := turn_any 2 1 5 77
  have T2 := turn_any 1 0 5 0
  have D1 := draw_any 0
  rw [o1] at O1
  rw [o2] at O2
  rw [t1] at T1
  rw [t2] at T2
  rw [d1] at D1
  have HO1 := Lib.hid O1
  have HO2 := Lib.hid O2
  have HT1 := Lib.hid T1
  have HT2 := Lib.hid T2
  have HD1 := Lib.hid D1
  clear o1 o2 t1 t2 d1 O1 O2 T1 T2 D1
  go_enter Try.func7, Try.ntmps7
  go_wp2_with fail
  refine (HO1.out _).mono ?_
  rintro e w1 ⟨a, cap, rfl, hi1, hu1⟩
  go_wp2_with fail
  refine (HO2.out _).mono ?_
  rintro e w2 ⟨a2, cap2, rfl, -, hu2⟩
  have hi2 := hi1.upd0 hu2
  have Hu := Lib.hid (hu1.trans hu2)
  clear hi1 hu1 hu2
  obtain ⟨_, _, hs, -, hc⟩ := hi2
  obtain ⟨g, off, rfl, -, hc⟩ := hc (by simp)
  simp only [Value.slice.injEq] at hs
  obtain ⟨rfl, -, -⟩ := hs
  have hc0 := hc 0 (by simp)
  clear hc
  have hc1 : w2.cell? ⟨g, off, none⟩ = some (.int .i64 1) := hc0
  clear hc0
  go_wp2_with fail
  refine (HD1.out _).mono ?_
  rintro e w3 ⟨rfl, rfl⟩
  go_wp2_with fail
  refine (HT1.out _).mono ?_
  rintro e w3 ⟨rfl, hu3⟩
  go_wp2_with fail
  refine (HT2.out _).mono ?_
  rintro e w4 ⟨rfl, hu4⟩
  go_wp2
  go_ret
  exact ⟨rfl, (Hu.out.trans hu3).trans hu4⟩

end Go.Proofs.Ytbfkdidoajahbaa.Round
