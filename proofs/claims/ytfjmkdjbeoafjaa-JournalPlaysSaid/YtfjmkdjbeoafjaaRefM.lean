/- The document's journal: the walk of piece. -/
import Derived.Test.YtfjmkdjbeoafjaaRefL
import Derived.OwnWalk
namespace Go.Proofs.Ytfjmkdjbeoafjaa
open Go.ChangeShapes Go.WideShapes Go.ChangeAt Go.RowKit

set_option maxHeartbeats 4000000 in
theorem rpiece_no (b : Blok) (least : Int) (within : Bool) (w : World) (hl : b.length = 64) (hr : U8L b) (h1 : 1 ≤ least) (hg : goodB b least within = false) :
    Calls Try.prog 44 #[.agg (U8 b), .int .i64 least, .bool within] w fun e w' => e = .returned (.tuple #[.slice none 0 0, .bool false, .bool false]) ∧ Upd [] w w' := by
  have hh := (life8_bound b hr).1
  have k1 := piece_key (life8 b) (life8 (b.drop 56)) least (cnt b) (b.getD 10 0) (b.getD 11 0) within (sizeB b) (goodB b least within) hh h1 rfl
  have k2 := psize_key (cnt b) (b.getD 10 0) (sizeB b) rfl
  rw [hg] at k1
  obtain ⟨head, hhd⟩ : ∃ x, x = life8 b := ⟨_, rfl⟩
  obtain ⟨tail, htl⟩ : ∃ x, x = life8 (b.drop 56) := ⟨_, rfl⟩
  obtain ⟨sz, hsz⟩ : ∃ x, x = sizeB b := ⟨_, rfl⟩
  rw [← hhd, ← htl, ← hsz] at k1
  rw [← hsz] at k2
  have L0 := fun w => rlife_any b 0 w (by omega) hl hr
  have L1 := fun w => rlife_any b 56 w (by omega) hl hr
  rw [List.drop_zero, ← hhd] at L0
  rw [← htl] at L1
  have r8 := hr.getD 8
  have r9 := hr.getD 9
  have e8 := U8_get b 8 (by omega)
  have e9 := U8_get b 9 (by omega)
  have e10 := U8_get b 10 (by omega)
  have e11 := U8_get b 11 (by omega)
  have hcnt : cnt b = b.getD 8 0 * 256 + b.getD 9 0 := rfl
  generalize b.getD 8 0 = b8 at *
  generalize b.getD 9 0 = b9 at *
  generalize b.getD 10 0 = b10 at *
  generalize b.getD 11 0 = b11 at *
  rw [hcnt] at k2
  obtain ⟨r80, r81⟩ := r8
  obtain ⟨r90, r91⟩ := r9
  have HL0 := Lib.hid L0
  have HL1 := Lib.hid L1
  have K1 := Lib.hid k1
  have K2 := Lib.hid k2
  have HL := Lib.hid hl
  obtain ⟨w1, hw1⟩ : ∃ w1, w1 = w.alloc (.cells (U8 b) 54) := ⟨_, rfl⟩
  obtain ⟨B, hBe⟩ : ∃ B, B = w.heap.size := ⟨_, rfl⟩
  have hb1 : Blk w1 B (U8 b) 54 := by rw [hw1, hBe]; exact Blk.new _ _ _
  have hu1 : Upd [] w w1 := by rw [hw1]; exact (Upd.refl _ _).alloc _
  have HW := Lib.hid hw1
  have HBE := Lib.hid hBe
  have HB1 := Lib.hid hb1
  have HU1 := Lib.hid hu1
  clear L0 L1 k1 k2 hg hhd htl hsz hcnt hr hl hw1 hBe hb1 hu1 hh
  go_enter Try.func44, Try.ntmps44
  go_upto_region 1 with fail
  rw [← HW.out, ← HBE.out]
  go_upto_region 2 with (first
    | ((with_reducible show wpList _ _ _ (⟨some 13, _, _, _, _, _⟩ :: _) _ _); refine wpList_run rfl (arr_load (.tmp 3) rfl rfl HB1.out HL.out) ?_)
    | (go_at_call 43; refine (HL0.out _).mono ?_; rintro e w2 ⟨rfl, hu2⟩
       have HB2 := Lib.hid (HB1.out.upd hu2 (by simp))
       have HU2 := Lib.hid (HU1.out.trans hu2)
       clear hu2))
  go_upto_region 3 with (first
    | ((with_reducible show wpList _ _ _ (⟨some 15, _, _, _, _, _⟩ :: _) _ _); refine wpList_run rfl (arr_load (.tmp 3) rfl rfl HB2.out HL.out) ?_)
    | (go_at_call 43; refine (HL1.out _).mono ?_; rintro e w3 ⟨rfl, hu3⟩
       have HB3 := Lib.hid (HB2.out.upd hu3 (by simp))
       have HU3 := Lib.hid (HU2.out.trans hu3)
       clear hu3))
  have c8 := HB3.out.cell (o := 8) e8
  have c9 := HB3.out.cell (o := 9) e9
  have c10 := HB3.out.cell (o := 10) e10
  have c11 := HB3.out.cell (o := 11) e11
  clear e8 e9 e10 e11
  go_upto_region 4 with fail
  go_cut [12] (fun v12 wx => v12 = .bool sz ∧ wx = w3)
  case first =>
    have k2 := K2.out
    rcases k2 with ⟨q1, rfl⟩ | ⟨q1, q2, rfl⟩ | ⟨q1, q2, q3, rfl⟩ | ⟨q1, q2, q3, q4, rfl⟩ | ⟨q1, q2, q3, q4, rfl⟩
    all_goals
      go_wp2_with fail
      go_meet
      exact ⟨rfl, rfl⟩
  case rest =>
    obtain ⟨rfl, rfl⟩ := hcut
    have k1 := K1.out
    clear K1 K2
    rcases k1 with ⟨q1, -⟩ | ⟨q1, q2, -⟩ | ⟨q1, q2, q3, -⟩ | ⟨q1, q2, q3, rfl, q4, -⟩ | ⟨q1, q2, q3, q4, ⟨rfl, -⟩ | ⟨rfl, q5, -⟩ | ⟨rfl, q5, q6, -⟩ | ⟨-, -, -, q6⟩⟩
    · go_wp2_with fail
      exact bodyPost_ret (results_tmp3 rfl _ _ _) rfl ⟨rfl, HU3.out⟩
    · have z2 : (head != tail) = true := by show (!(head == tail)) = true; rw [q2]; rfl
      go_wp2_with fail
      exact bodyPost_ret (results_tmp3 rfl _ _ _) rfl ⟨rfl, HU3.out⟩
    · have z2 : (head != tail) = false := by show (!(head == tail)) = false; rw [q2]; rfl
      go_wp2_with fail
      exact bodyPost_ret (results_tmp3 rfl _ _ _) rfl ⟨rfl, HU3.out⟩
    · have z2 : (head != tail) = false := by show (!(head == tail)) = false; rw [q2]; rfl
      have z4 : (head != least) = true := by show (!(head == least)) = true; rw [q4]; rfl
      go_wp2_with fail
      exact bodyPost_ret (results_tmp3 rfl _ _ _) rfl ⟨rfl, HU3.out⟩
    · have z2 : (head != tail) = false := by show (!(head == tail)) = false; rw [q2]; rfl
      rcases q4 with rfl | ⟨rfl, q4⟩
      · go_wp2_with fail
        exact bodyPost_ret (results_tmp3 rfl _ _ _) rfl ⟨rfl, HU3.out⟩
      · have z4 : (head != least) = false := by show (!(head == least)) = false; rw [q4]; rfl
        go_wp2_with fail
        exact bodyPost_ret (results_tmp3 rfl _ _ _) rfl ⟨rfl, HU3.out⟩
    · have z2 : (head != tail) = false := by show (!(head == tail)) = false; rw [q2]; rfl
      rcases q4 with rfl | ⟨rfl, q4⟩
      · go_wp2_with fail
        exact bodyPost_ret (results_tmp3 rfl _ _ _) rfl ⟨rfl, HU3.out⟩
      · have z4 : (head != least) = false := by show (!(head == least)) = false; rw [q4]; rfl
        go_wp2_with fail
        exact bodyPost_ret (results_tmp3 rfl _ _ _) rfl ⟨rfl, HU3.out⟩
    · have z2 : (head != tail) = false := by show (!(head == tail)) = false; rw [q2]; rfl
      have z6 : (b11 != 0) = true := by show (!(b11 == 0)) = true; rw [q6]; rfl
      rcases q4 with rfl | ⟨rfl, q4⟩
      · go_wp2_with fail
        exact bodyPost_ret (results_tmp3 rfl _ _ _) rfl ⟨rfl, HU3.out⟩
      · have z4 : (head != least) = false := by show (!(head == least)) = false; rw [q4]; rfl
        go_wp2_with fail
        exact bodyPost_ret (results_tmp3 rfl _ _ _) rfl ⟨rfl, HU3.out⟩
    · cases q6

end Go.Proofs.Ytfjmkdjbeoafjaa
