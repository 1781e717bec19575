/- The walk of RoundFair. -/
import Derived.Test.YtbfkdidoajahbaaRoundF
import Derived.IntWalk
namespace Go.Proofs.Ytbfkdidoajahbaa
open Go.ChangeShapes Go.WideShapes Go.ChangeAt Go.RowKit Round

/-- A row of nine numbers: when it was last whose turn. -/
def Lasts (cur : Array Value) (f : Nat → Int) (a : Nat) : Prop := ∀ x : Nat, x < 9 → cur[x]? = some (.int .i64 (lastOcc f a x))

theorem lasts_set {cur : Array Value} {f : Nat → Int} {a : Nat} {x : Int} (h : Lasts cur f a) (h0 : 0 ≤ x) (hx : f a = x) : Lasts (cur.setIfInBounds x.toNat (.int .i64 a)) f (a + 1) := by
  intro y hy
  have hlt : y < cur.size := (Array.getElem?_eq_some_iff.1 (h y hy)).1
  rw [Array.getElem?_setIfInBounds]
  unfold lastOcc
  split
  · rename_i e
    rw [if_pos (by omega), if_pos (by omega)]
  · rename_i e
    rw [if_neg (by omega)]
    exact h y hy

set_option maxHeartbeats 1000000 in
theorem RoundFair.walk (n me d : Int) (w : World) (_ : (Lit.int .i64 n).wf = true) (_ : (Lit.int .i64 me).wf = true) (_ : (Lit.int .u64 d).wf = true) :
    Calls Try.prog 5 #[.int .i64 n, .int .i64 me, .int .u64 d] w fun e w' => e = .returned (.bool true) ∧ Below w.heap.size w w' := by
  by_cases hv : 2 ≤ n ∧ n ≤ 9 ∧ 0 ≤ me ∧ me < n
  · obtain ⟨n, rfl⟩ := Int.eq_ofNat_of_zero_le (show 0 ≤ n by omega)
    obtain ⟨me, rfl⟩ := Int.eq_ofNat_of_zero_le (show 0 ≤ me by omega)
    obtain ⟨h1, h2, h3, h4⟩ := hv
    have hn2 : 2 ≤ n := by omega
    have hme : me < n := by omega
    have T1 := fun a : Nat => turn_any n me d a
    have tz : ∀ a : Nat, a < 100 → turnZ n me d a = turn n me d a := fun a ha => by unfold turnZ; rw [if_pos (by omega)]; rfl
    have HT := Lib.hid T1
    have Htz := Lib.hid tz
    clear T1 tz
    have g1 : decide ((n : Int) < 2) = false := by simp; omega
    have g2 : decide ((9 : Int) < n) = false := by simp; omega
    have g3 : decide ((me : Int) < 0) = false := by simp
    have g4 : decide (n ≤ me) = false := by simp; omega
    go_enter Try.func5, Try.ntmps5
    go_wp2_with fail
    refine (awake_any _).mono ?_
    rintro e w1 ⟨rfl, hu1⟩
    have Hu1 := Lib.hid hu1
    clear hu1
    go_wp2
    go_loopw [9] (fun i wr => ∃ k : Nat, k ≤ 9 ∧ i = .int .i64 k ∧ (∃ cur, Blk wr w1.heap.size cur 33 ∧ cur.size = 9 ∧ ∀ x, x < k → cur[x]? = some (.int .i64 (-1))) ∧ Upd [] w1 wr) (fun i _ => 9 - (intOf i).toNat)
    case atStart => exact ⟨0, Nat.zero_le _, rfl, ⟨_, Blk.new _ _ _, rfl, fun x hx => by omega⟩, (Upd.refl _ _).alloc _⟩
    case round =>
      obtain ⟨k, hk, rfl, ⟨cur, hc, hs, hcur⟩, hu⟩ := hrel
      by_cases hk9 : k < 9
      · have hk9' : (k : Int) < 9 := by omega
        obtain ⟨old, c1⟩ := hc.cell_lt (o := k) (by omega)
        have f1 := hc.free k
        have HS := Lib.hid (hc.set k (.int .i64 (-1)))
        have Hc := Lib.hid hcur
        have HU := Lib.hid (hu.setCell (p := ⟨w1.heap.size, k, none⟩) (.inr (Nat.le_refl _)) (.int .i64 (-1)))
        have Hs := Lib.hid hs
        clear hc hs hcur hu
        go_wp2
        go_roundw
        case rel =>
          refine ⟨k + 1, by omega, by go_num, ⟨_, HS.out, by simpa using Hs.out, fun x hx => ?_⟩, HU.out⟩
          rw [Array.getElem?_setIfInBounds]
          have := Hs.out
          split
          · rw [if_pos (by omega)]
          · exact Hc.out x (by omega)
        case measure => simp [intOf]; omega
      · obtain rfl : k = 9 := by omega
        have HC := Lib.hid hc
        have Hcur := Lib.hid hcur
        have HU := Lib.hid hu
        clear hc hs hcur hu
        rw [show (((9 : Nat)) : Int) = 9 from rfl]
        go_wp2
        go_loopw [11] (fun i wr => ∃ k : Nat, k ≤ 100 ∧ i = .int .i64 k ∧ (∃ cur, Blk wr w1.heap.size cur 33 ∧ Lasts cur (turn n me d) k) ∧ Upd [] w1 wr) (fun i _ => 100 - (intOf i).toNat)
        case atStart => exact ⟨0, Nat.zero_le _, rfl, ⟨_, HC.out, fun x hx => Hcur.out x hx⟩, HU.out⟩
        case round =>
          obtain ⟨k, hk, rfl, ⟨cur, hc, hl⟩, hu⟩ := hrel
          by_cases hk1 : k < 100
          · have hk1' : (k : Int) < 100 := by omega
            have htm := others_mem.1 (turn_mem hn2 hme d k)
            have hf := fair hn2 hme d k
            obtain ⟨x, hx⟩ : ∃ x, x = turn n me d k := ⟨_, rfl⟩
            rw [← hx] at htm hf
            obtain ⟨y, hy⟩ : ∃ y, y = lastOcc (turn n me d) k x := ⟨_, rfl⟩
            rw [← hy] at hf
            have c1 := hc.cell (hl x.toNat (by omega))
            rw [show ((x.toNat : Nat) : Int) = x by omega, ← hy] at c1
            have f1 := hc.free x.toNat
            have HS := Lib.hid hc
            have HL := Lib.hid (lasts_set hl htm.1 hx.symm)
            have HU2 := Lib.hid hu
            have T := Lib.hid (HT.out k)
            have T' := T.out
            rw [Htz.out k hk1, ← hx] at T'
            have HT' := Lib.hid T'
            obtain ⟨hx0, hxn, hxm⟩ := htm
            have hx9 : x < 9 := by omega
            have q1 : decide (x < 0) = false := by simp; omega
            have q2 : decide ((n : Int) ≤ x) = false := by simp; omega
            have q3 : (x == (me : Int)) = false := by simp; omega
            have hc' := hu.size
            have hB : w1.heap.size < wr.heap.size := hc.lt
            clear hc hl hu hx hy T T' hxm
            rcases hf with rfl | ⟨b, rfl, hbk, hdiv, hfar⟩
            · have Hz := Lib.hid hc'
              clear hc'
              go_wp2_with fail
              refine (HT'.out _).mono ?_
              rintro e w2 ⟨rfl, hu2⟩
              have c2 : w2.cell? ⟨w1.heap.size, x.toNat, none⟩ = some (.int .i64 (-1)) := (World.cell?_of_block (hu2.block _ hB (by simp))).trans c1
              have f2 : w2.frozen? ⟨w1.heap.size, x.toNat, none⟩ = false := (World.frozen?_of_block (hu2.block _ hB (by simp))).trans f1
              have HS2 := Lib.hid ((HS.out.upd hu2 (by simp)).set x.toNat (.int .i64 k))
              have HU3 := Lib.hid ((HU2.out.then hu2 (by simp)).setCell (p := ⟨w1.heap.size, x.toNat, none⟩) (.inr (Nat.le_refl _)) (.int .i64 k))
              clear hu2
              go_wp2_with fail
              go_quiet (fail)
              go_wp2
              go_roundw
              case rel => exact ⟨k + 1, by omega, by go_num, ⟨_, HS2.out, HL.out⟩, ⟨HU3.out.os, HU3.out.tape, HU3.out.output, HU3.out.size, HU3.out.block⟩⟩
              case measure => simp [intOf]; omega
            · have Hz := Lib.hid hc'
              have q4 : ((b : Int) / ((n : Int) - 1) == (k : Int) / ((n : Int) - 1)) = false := by
                simp only [beq_eq_false_iff_ne, ne_eq]
                intro e
                apply hdiv
                rw [show ((n : Int) - 1) = ((n - 1 : Nat) : Int) by omega] at e
                exact_mod_cast e
              have q5 : decide (2 * ((n : Int) - 1) - 2 < (k : Int) - b - 1) = false := by simp; omega
              clear hc' hdiv
              go_wp2_with fail
              refine (HT'.out _).mono ?_
              rintro e w2 ⟨rfl, hu2⟩
              have c2 : w2.cell? ⟨w1.heap.size, x.toNat, none⟩ = some (.int .i64 b) := (World.cell?_of_block (hu2.block _ hB (by simp))).trans c1
              have f2 : w2.frozen? ⟨w1.heap.size, x.toNat, none⟩ = false := (World.frozen?_of_block (hu2.block _ hB (by simp))).trans f1
              have HS2 := Lib.hid ((HS.out.upd hu2 (by simp)).set x.toNat (.int .i64 k))
              have HU3 := Lib.hid ((HU2.out.then hu2 (by simp)).setCell (p := ⟨w1.heap.size, x.toNat, none⟩) (.inr (Nat.le_refl _)) (.int .i64 k))
              clear hu2
              go_wp2_with fail
              have e1 : IntKind.i64.wrap ((b : Int) / ((n : Int) - 1)) = (b : Int) / ((n : Int) - 1) := by
                have h1 := Int.ediv_nonneg (show 0 ≤ (b : Int) by omega) (show 0 ≤ (n : Int) - 1 by omega)
                have h2 := Int.ediv_le_self ((n : Int) - 1) (show 0 ≤ (b : Int) by omega)
                exact IntWalk.i64_in _ (by omega)
              have e2 : IntKind.i64.wrap ((k : Int) / ((n : Int) - 1)) = (k : Int) / ((n : Int) - 1) := by
                have h1 := Int.ediv_nonneg (show 0 ≤ (k : Int) by omega) (show 0 ≤ (n : Int) - 1 by omega)
                have h2 := Int.ediv_le_self ((n : Int) - 1) (show 0 ≤ (k : Int) by omega)
                exact IntWalk.i64_in _ (by omega)
              have e3 : IntKind.i64.wrap ((k : Int) - b) = (k : Int) - b := IntWalk.i64_in _ (by omega)
              have e4 : IntKind.i64.wrap ((k : Int) - b - 1) = (k : Int) - b - 1 := IntWalk.i64_in _ (by omega)
              have e5 : IntKind.i64.wrap (2 * ((n : Int) - 1)) = 2 * ((n : Int) - 1) := IntWalk.i64_in _ (by omega)
              have e6 : IntKind.i64.wrap (2 * ((n : Int) - 1) - 2) = 2 * ((n : Int) - 1) - 2 := IntWalk.i64_in _ (by omega)
              have e7 : ¬ ((n : Int) - 1 = 0) := by omega
              go_quiet (fail)
              clear e1 e2 e3 e4 e5 e6 e7
              go_wp2
              go_roundw
              case rel => exact ⟨k + 1, by omega, by go_num, ⟨_, HS2.out, HL.out⟩, ⟨HU3.out.os, HU3.out.tape, HU3.out.output, HU3.out.size, HU3.out.block⟩⟩
              case measure => simp [intOf]; omega
          · have HU := Lib.hid hu
            clear hc hl hu
            go_wp2
            go_ret
            exact ⟨rfl, (Hu1.out.then HU.out (by simp)).toBelow⟩
  · have key : (decide (n < 2) = true) ∨ (decide (n < 2) = false ∧ decide (9 < n) = true) ∨ (decide (n < 2) = false ∧ decide (9 < n) = false ∧ decide (me < 0) = true) ∨ (decide (n < 2) = false ∧ decide (9 < n) = false ∧ decide (me < 0) = false ∧ decide (n ≤ me) = true) := by
      simp only [decide_eq_true_eq, decide_eq_false_iff_not]; omega
    clear hv
    rcases key with h1 | ⟨h1, h2⟩ | ⟨h1, h2, h3⟩ | ⟨h1, h2, h3, h4⟩
    all_goals
      go_enter Try.func5, Try.ntmps5
      go_wp2_with (go_at_call 7; refine (awake_any _).mono ?_; rintro e w1 ⟨rfl, hu1⟩)
      go_ret
      exact ⟨rfl, hu1.toBelow⟩

end Go.Proofs.Ytbfkdidoajahbaa
