/- The walk of JournalLives. -/
import Derived.Test.YtfjmkdjbeoafjaaJrnN
namespace Go.Proofs.Ytfjmkdjbeoafjaa
open Go.ChangeShapes Go.WideShapes Go.ChangeAt Go.RowKit

set_option maxRecDepth 100000 in
set_option maxHeartbeats 4000000 in
theorem JournalLives.walk (v0 : Value) (l : List (List Int)) (w : World) (hl : ListsAt w (List.range w.heap.size) v0 l) (hu8 : ∀ b ∈ l, U8L b) :
    Calls Try.prog 7 #[v0] w fun e w' => e = .returned (.bool true) ∧ Below w.heap.size w w' := by
  obtain ⟨la, lc, rfl, hlm, hlb⟩ := hl
  have HLB := Lib.hid hlb
  have HU8 := Lib.hid hu8
  clear hlb hu8
  unfold maxLen at hlm
  go_enter Try.func7, Try.ntmps7
  go_wp2_with fail
  refine (awake_any _).mono ?_
  rintro e w1 ⟨rfl, hu1⟩
  go_wp2_with fail
  refine (new_law 100 w (by omega) (by omega) hu1).mono ?_
  rintro e w2 ⟨p, S, rfl, hd, hu2, hS⟩
  have HD := Lib.hid hd
  clear hd hu1 hu2 hS
  have HFR : Hid (Fr (DK.new (100 : Int).toNat) 0 100 0 0 []) := Lib.hid (Fr.new (by decide))
  go_wp2_with fail
  go_loopw [6, 7, 8] (fun lv rv i wx => ∃ (m : Nat) (S : List Nat) (d : DK) (L x : Int) (used : Nat) (recs : List (List Int)), m ≤ 10 ∧ m ≤ l.length ∧ i = .int .i64 m ∧ lv = .int .i64 x ∧ rv = .int .i64 (100 - (used : Int)) ∧ 0 ≤ x ∧ x ≤ L ∧ L ≤ m ∧ used ≤ 7 * m ∧ DInv w wx p S d ∧ Fr d 0 100 L used recs ∧ d.Byt) (fun _ _ i _ => 10 - (intOf i).toNat)
  case atStart => exact ⟨0, S, _, 0, 0, 0, [], by omega, Nat.zero_le _, rfl, rfl, by simp, by omega, by omega, by omega, by omega, HD.out, HFR.out, DK.Byt.new _⟩
  case round =>
    obtain ⟨m, S5, d, L, x, used, recs, hm10, hml, rfl, rfl, rfl, hx00, hxL, hLm, hus, hd5, hf5, hy5⟩ := hrel
    have HD5 := Lib.hid hd5
    have HF5 := Lib.hid hf5
    have HY5 := Lib.hid hy5
    clear hd5 hf5 hy5 HD HFR
    by_cases hend : m < 10 ∧ m < l.length
    · obtain ⟨h10, hlt⟩ := hend
      obtain ⟨g, off, ba, bc, rfl, hcell, hbat, hbT⟩ := lists_elem HLB.out hlt
      obtain ⟨b, hb⟩ : ∃ b, b = l.getD m [] := ⟨_, rfl⟩
      rw [← hb] at hcell hbat hbT
      have hbu : U8L b := HU8.out b (by rw [hb, List.getD_eq_getElem?_getD, List.getElem?_eq_getElem hlt]; exact List.getElem_mem hlt)
      obtain ⟨n1, hn1⟩ : ∃ n1, n1 = b.length := ⟨_, rfl⟩
      rw [← hn1] at hcell hbat
      have hgl : g < w.heap.size := World.block_lt_of_cell? w _ hcell
      have HCELL := Lib.hid hcell
      have HBA := Lib.hid hbat
      have HBU := Lib.hid hbu
      have HN1 := Lib.hid hn1
      have h10' : (m : Int) < 10 := by omega
      have hlt' : (m : Int) < (l.length : Int) := by omega
      have hx0 : (0 : Int) ≤ (m : Int) := by omega
      have hlife : decide (L + 1 ≤ x) = false := by simp only [decide_eq_false_iff_not]; omega
      clear hcell hbat hbT hbu hn1 hb
      go_upto_region 11 with (go_at_call 12; refine (bopen_law (n := 100) HD5.out HF5.out (by omega) HY5.out rfl).mono ?_; rintro e w6 ⟨j, J, rfl, hb6, -, -⟩; have HB6 := Lib.hid hb6; clear hb6)
      have hc6 := (World.cell?_of_block (a := ⟨g, off + m, none⟩) (HB6.out.jd.disk.upd.block g hgl (by simp))).trans HCELL.out
      have key : (n1 = 0) ∨ (((n1 : Int) == 0) = false ∧ decide ((300 : Int) < (n1 : Int)) = true ∧ 300 < n1) ∨ (((n1 : Int) == 0) = false ∧ decide ((300 : Int) < (n1 : Int)) = false ∧ 0 < n1 ∧ n1 ≤ 300) := by
        simp only [decide_eq_true_eq, decide_eq_false_iff_not, beq_eq_false_iff_ne, ne_eq]; omega
      have HR1 : Hid (∀ w, JAt w j J p ⟨0, 100, L + 1, used, recs⟩ → Calls Try.prog 20 #[.pointer (some ⟨j, 0, none⟩)] w fun e w' => e = .returned (.int .i64 (100 - (used : Int))) ∧ Upd [] w w') := Lib.hid (fun w h => jroom_any j J p _ w h)
      have HL1 : Hid (∀ w, JAt w j J p ⟨0, 100, L + 1, used, recs⟩ → Calls Try.prog 16 #[.pointer (some ⟨j, 0, none⟩)] w fun e w' => e = .returned (.int .i64 (L + 1)) ∧ w = w') := Lib.hid (fun w h => jlife_any j J p _ w h)
      clear hc6
      go_upto_region 13 with (first
        | (go_at_call 16; refine (HL1.out _ HB6.out.jd.jrn).mono ?_; rintro e w7 ⟨rfl, rfl⟩)
        | (go_at_call 20; refine (HR1.out _ HB6.out.jd.jrn).mono ?_; rintro e w8 ⟨rfl, hu8⟩; have HB8 := Lib.hid (HB6.out.quiet hu8); clear hu8))
      have hc8 := (World.cell?_of_block (a := ⟨g, off + m, none⟩) (HB8.out.jd.disk.upd.block g hgl (by simp))).trans HCELL.out
      rcases key with rfl | ⟨q1, q2, q3⟩ | ⟨q1, q2, q3, q4⟩
      · go_wp2_with fail
        go_roundw
        case rel => exact ⟨m + 1, S5, d, L, x, used, recs, by omega, by omega, by go_num, rfl, rfl, hx00, hxL, by omega, by omega, HB8.out.jd.disk, HF5.out, HY5.out⟩
        case measure => simp [intOf]; omega
      · go_wp2_with fail
        go_roundw
        case rel => exact ⟨m + 1, S5, d, L, x, used, recs, by omega, by omega, by go_num, rfl, rfl, hx00, hxL, by omega, by omega, HB8.out.jd.disk, HF5.out, HY5.out⟩
        case measure => simp [intOf]; omega
      · have hcd : (JK.mk 0 100 (L + 1) used recs).code b = 0 := code_small (by rw [← HN1.out]; exact q3) (by rw [← HN1.out]; exact q4) (by show used + 7 ≤ 100; omega)
        have HCD := Lib.hid hcd
        have HAP := Lib.hid (app_ok hcd)
        have hnd : (n1 : Int) + 43 ≤ 343 := by omega
        clear hcd
        go_upto_region 16 with (first
          | (go_at_call 13; refine (bapp_law HB8.out _ b HBA.out HBU.out).mono ?_; rw [HCD.out, HAP.out]; rintro e w9 ⟨rfl, S9, J9, L9, hb9, hk9⟩
             have HB9 := Lib.hid hb9
             clear hb9 hk9)
          | (go_at_call 14; refine (jforce_law HB9.out.jd).mono ?_; rw [show DK.fcode _ = 0 from by unfold DK.fcode; rw [HB9.out.ji.1.up]; rfl]; rintro e w10 ⟨rfl, S10, hj10, -⟩
             have HJ10 := Lib.hid hj10
             clear hj10))
        have hneed : ((used + needJ b : Nat) : Int) = (used : Int) + ((n1 : Int) + 43) / 44 := by have h1 := HN1.out; unfold needJ; omega
        have hn7 : needJ b ≤ 7 := by have h1 := HN1.out; unfold needJ; omega
        have HN7 := Lib.hid hn7
        have HNEED := Lib.hid hneed
        have HL2 : Hid (∀ w, JAt w j J9 p ((JK.mk 0 100 (L + 1) used recs).push b) → Calls Try.prog 16 #[.pointer (some ⟨j, 0, none⟩)] w fun e w' => e = .returned (.int .i64 (L + 1)) ∧ w = w') := Lib.hid (fun w h => jlife_any j J9 p _ w h)
        have HR2 : Hid (∀ w, JAt w j J9 p ((JK.mk 0 100 (L + 1) used recs).push b) → Calls Try.prog 20 #[.pointer (some ⟨j, 0, none⟩)] w fun e w' => e = .returned (.int .i64 (100 - (used : Int) - ((n1 : Int) + 43) / 44)) ∧ Upd [] w w') := Lib.hid (fun w h => by
          have h1 := jroom_any j J9 p _ w h
          have e : (((JK.mk 0 100 (L + 1) used recs).push b).blocks : Int) - (((JK.mk 0 100 (L + 1) used recs).push b).used : Int) = 100 - (used : Int) - ((n1 : Int) + 43) / 44 := by
            show (100 : Int) - ((used + needJ b : Nat) : Int) = _
            rw [HNEED.out]; omega
          rw [e] at h1; exact h1)
        have hc10 := (World.cell?_of_block (a := ⟨g, off + m, none⟩) (HJ10.out.disk.upd.block g hgl (by simp))).trans HCELL.out
        have hquo : 0 ≤ ((n1 : Int) + 43) / 44 ∧ ((n1 : Int) + 43) / 44 ≤ 7 := by omega
        obtain ⟨hq0, hq7⟩ := hquo
        clear hc8 hneed hn7 HR1 HL1
        go_wp2_with (first
          | (go_at_call 16; refine (HL2.out _ HJ10.out.jrn).mono ?_; rintro e w11 ⟨rfl, rfl⟩)
          | (go_at_call 20; refine (HR2.out _ HJ10.out.jrn).mono ?_; rintro e w12 ⟨rfl, hu12⟩; have HJ12 := Lib.hid (HJ10.out.quiet hu12); clear hu12))
        have hf9 : Fr (DK.app d (JK.mk 0 100 (L + 1) used recs) b) 0 100 (L + 1) (used + needJ b) (recs ++ [b]) := by
          have h1 := HB9.out.ji.1
          have h2 := (JI.app ⟨HF5.out, (by show L ≤ L + 1; omega), (by show 1 ≤ L + 1; omega), (by show L + 1 ≤ 1099511627776; omega)⟩ b : JI _ _ (if (JK.mk 0 100 (L + 1) used recs).code b = 0 then L + 1 else L))
          rw [if_pos HCD.out, HAP.out] at h2
          exact h2.1
        have hf12 := hf9.flush HB9.out.jd.disk.disk.wf
        go_roundw
        case rel => exact ⟨m + 1, S10, _, L + 1, L + 1, used + needJ b, _, by omega, by omega, by go_num, rfl, by rw [HNEED.out]; go_num, by omega, by omega, by omega, by have h1 := HN7.out; omega, HJ12.out.disk, hf12, HB9.out.byt.flush⟩
        case measure => simp [intOf]; omega
    · have key : decide (m < l.length) = false ∨ (decide (m < l.length) = true ∧ m = 10) := by
        simp only [decide_eq_true_eq, decide_eq_false_iff_not]; omega
      clear hend hm10 hml
      rcases key with q1 | ⟨q1, rfl⟩
      · go_wp2_with fail
        go_ret
        exact ⟨rfl, HD5.out.upd.toBelow⟩
      · rw [show (((10 : Nat)) : Int) = 10 from rfl]
        have q1' : decide ((10 : Int) < (l.length : Int)) = true := by simp only [decide_eq_true_eq] at q1 ⊢; omega
        go_wp2_with fail
        go_ret
        exact ⟨rfl, HD5.out.upd.toBelow⟩

end Go.Proofs.Ytfjmkdjbeoafjaa
