/- The walk of ImageNil. -/
import Derived.Test.YtpeboaoephkfhaaImgK
import Derived.Test.YtpeboaoephkfhaaOpenK
import Derived.Test.YtpeboaoephkfhaaImgL
namespace Go.Proofs.Ytpeboaoephkfhaa
open Go.ChangeShapes Go.WideShapes Go.ChangeAt Go.RowKit

theorem put_nil (f room at_ : Int) (v : Value) (w : World) : Calls Try.prog 15 #[.pointer none, .int .i64 f, .int .i64 room, .int .i64 at_, v] w fun e w' => e = .returned (.int .i64 1) ∧ w = w' := by
  go_enter Try.func15, Try.ntmps15
  go_wp2_with (go_at_call 26; refine (area_nil f room _).mono ?_; rintro e _ ⟨rfl, rfl⟩)
  go_ret
  exact ⟨rfl, rfl⟩

theorem get_nil (f room size : Int) (w : World) : Calls Try.prog 16 #[.pointer none, .int .i64 f, .int .i64 room, .int .i64 size] w fun e w' => e = .returned (.tuple #[.slice none 0 0, .int .i64 1]) ∧ w = w' := by
  go_enter Try.func16, Try.ntmps16
  go_wp2_with (go_at_call 26; refine (area_nil f room _).mono ?_; rintro e _ ⟨rfl, rfl⟩)
  exact bodyPost_ret (results_tmp2 rfl _ _ _) rfl ⟨rfl, rfl⟩

theorem bstart_nil (at_ : Int) (w : World) : Calls Try.prog 17 #[.pointer none, .int .i64 at_] w fun e w' => e = .returned (.tuple #[.agg (encK BK.zero).toArray, .int .i64 0, .int .i64 1]) ∧ Upd [] w w' := by
  go_enter Try.func17, Try.ntmps17
  go_wp2_with (first
    | (refine wpList_alloc rfl 40 rfl zero_boot fun w1 hb1 hu1 hs1 => ?_)
    | (go_at_call 26; refine (area_nil at_ 2 _).mono ?_; rintro e _ ⟨rfl, rfl⟩)
    | ((with_reducible show wpList _ _ _ (⟨some 18, _, _, _, _, _⟩ :: _) _ _); refine wpList_run rfl (exec_boot0 rfl) ?_)
    | (refine wpList_storeA rfl 40 (.tmp 4) (.tmp 18) rfl rfl rfl hb1 info_boot (encK_size zer32_len) (encK_size zer32_len) (encK_one _) fun w11 hb11 hu11 hs11 => ?_))
  exact bodyPost_ret (results_boot3 (b := BK.zero) rfl rfl hb11 zer32_len) rfl ⟨rfl, hu1.then hu11 (fun q hq => .inr (by simp at hq; omega))⟩

theorem whole_nil (f room : Int) (k : BK) (w : World) : Calls Try.prog 19 #[.pointer none, .int .i64 f, .int .i64 room, .agg (encK k).toArray] w fun e w' => e = .returned (.int .i64 1) ∧ Upd [] w w' := by
  obtain ⟨w1, hw1⟩ : ∃ w1, w1 = w.alloc (.cells (encK k).toArray 40) := ⟨_, rfl⟩
  have hb : Blk w1 w.heap.size (encK k).toArray 40 := by rw [hw1]; exact Blk.new _ _ _
  have hu : Upd [] w w1 := by rw [hw1]; exact (Upd.refl _ _).alloc _
  have c2 : w1.cell? ⟨w.heap.size, 2, none⟩ = some (.int .i64 k.size) := hb.cell (o := 2) rfl
  have HU := Lib.hid hu
  have HW := Lib.hid hw1
  clear hw1 hb hu
  go_enter Try.func19, Try.ntmps19
  go_upto_region 1 with fail
  rw [← HW.out]
  go_wp2_with (go_at_call 16; refine (get_nil f room k.size _).mono ?_; rintro e _ ⟨rfl, rfl⟩)
  go_ret
  exact ⟨rfl, HU.out⟩

theorem point_nil (at_ : Int) (k : BK) (w : World) : Calls Try.prog 18 #[.pointer none, .int .i64 at_, .agg (encK k).toArray] w fun e w' => e = .returned (.int .i64 1) ∧ Upd [] w w' := by
  have HU : Hid (Upd [] w (w.alloc (.cells (encK k).toArray 40))) := Lib.hid ((Upd.refl _ _).alloc _)
  obtain ⟨w1, hw1⟩ : ∃ w1, w1 = w.alloc (.cells (encK k).toArray 40) := ⟨_, rfl⟩
  rw [← hw1] at HU
  have HW := Lib.hid hw1
  clear hw1
  go_enter Try.func18, Try.ntmps18
  go_upto_region 1 with fail
  rw [← HW.out]
  go_wp2_with (first
    | (go_at_call 17; refine (bstart_nil at_ _).mono ?_; rintro e w2 ⟨rfl, hu2⟩)
    | (refine wpList_alloc rfl 40 rfl zero_boot fun w3 hb3 hu3 hs3 => ?_
       refine wpList_storeA rfl 40 (.tmp 7) (.tmp 16) rfl rfl rfl hb3 info_boot (encK_size zer32_len) (encK_size zer32_len) (encK_one _) fun w4 hb4 hu4 hs4 => ?_
       simp only [Act.put, List.setIfInBounds_toArray, List.set_cons_zero, List.set_cons_succ]))
  go_ret
  exact ⟨rfl, ((HU.out.trans hu2).trans hu3).then hu4 (fun q hq => .inr (by have := HU.out.size; have := hu2.size; simp at hq; omega))⟩

theorem ImageNil.walk (n : Int) (v : Value) (k : BK) (w : World) (hn : (Lit.int .i64 n).wf = true) (hv : v = .agg (encK k).toArray) (hk : k.WF) (hr : k.Rng) :
    Calls Try.prog 6 #[.int .i64 n, v] w fun e w' => e = .returned (.bool true) ∧ Below w.heap.size w w' := by
  subst hv
  have HK := Lib.hid hk.whole
  obtain ⟨w1, hw1⟩ : ∃ w1, w1 = w.alloc (.cells (encK k).toArray 40) := ⟨_, rfl⟩
  have hb : Blk w1 w.heap.size (encK k).toArray 40 := by rw [hw1]; exact Blk.new _ _ _
  have hu : Upd [] w w1 := by rw [hw1]; exact (Upd.refl _ _).alloc _
  have HB1 := Lib.hid hb
  have HU1 := Lib.hid hu
  have HW1 := Lib.hid hw1
  have HE : Hid (eqK BK.zero BK.zero = true) := Lib.hid (eqK_refl _)
  clear hw1 hb hu hk hr hn
  go_enter Try.func6, Try.ntmps6
  go_upto_region 1 with fail
  rw [← HW1.out]
  go_upto_region 4 with (first
    | (go_at_call 10; refine (awake_any _).mono ?_; rintro e w2 ⟨rfl, hu2⟩)
    | (go_at_call 16; refine (get_nil n n n _).mono ?_; rintro e _ ⟨rfl, rfl⟩)
    | (go_at_call 17; refine (bstart_nil n _).mono ?_; rintro e w3 ⟨rfl, hu3⟩)
    | (refine wpList_alloc rfl 40 rfl zero_boot fun w4 hb4 hu4 hs4 => ?_
       refine wpList_storeA rfl 40 (.tmp 8) (.tmp 22) rfl rfl rfl hb4 info_boot (encK_size zer32_len) (encK_size zer32_len) (encK_one _) fun w5 hb5 hu5 hs5 => ?_
       simp only [Act.put, List.setIfInBounds_toArray, List.set_cons_zero, List.set_cons_succ]))
  have hz := hu2.size
  have hz3 := hu3.size
  have hu15 : Upd [] w1 w5 := ((hu2.trans hu3).trans hu4).then hu5 (fun q hq => .inr (by simp at hq; omega))
  obtain ⟨yb, hyb⟩ : ∃ y, y = w3.heap.size := ⟨_, rfl⟩
  rw [← hyb] at hb5 ⊢
  have HB5 := Lib.hid hb5
  have HK5 := Lib.hid (HB1.out.upd hu15 (by simp))
  have HU5 := Lib.hid (HU1.out.trans hu15)
  clear hz hz3 hu15 hu2 hu3 hb4 hu4 hs4 hb5 hu5 hs5 hyb
  go_wp2_with (first
    | (go_at_call 15; refine (put_nil n n n _ _).mono ?_; rintro e _ ⟨rfl, rfl⟩)
    | ((with_reducible show wpList _ _ _ (⟨some 44, _, _, _, _, _⟩ :: _) _ _); refine wpList_runW rfl (boot_load (.tmp 3) rfl rfl HK5.out HK.out) ?_)
    | (go_at_call 18; refine (point_nil n k _).mono ?_; rintro e w6 ⟨rfl, hu6⟩; have HB6 := Lib.hid (HB5.out.upd hu6 (by simp)); have HK6 := Lib.hid (HK5.out.upd hu6 (by simp)); have HU6 := Lib.hid (HU5.out.trans hu6); clear hu6)
    | ((with_reducible show wpList _ _ _ (⟨some 49, _, _, _, _, _⟩ :: _) _ _); refine wpList_runW rfl (boot_load (.tmp 8) rfl rfl HB6.out zer32_len) ?_)
    | ((with_reducible show wpList _ _ _ (⟨some 50, _, _, _, _, _⟩ :: _) _ _); refine wpList_runW rfl (exec_boot0 rfl) ?_)
    | ((with_reducible show wpList _ _ _ (⟨some 51, _, _, _, _, _⟩ :: _) _ _); refine wpList_runW rfl (exec_eq_boot (k := BK.zero) (l := BK.zero) (.tmp 49) (.tmp 50) rfl rfl rfl zer32_len zer32_len) ?_; rw [HE.out])
    | ((with_reducible show wpList _ _ _ (⟨some 64, _, _, _, _, _⟩ :: _) _ _); refine wpList_runW rfl (boot_load (.tmp 3) rfl rfl HK6.out HK.out) ?_)
    | (go_at_call 19; refine (whole_nil n n k _).mono ?_; rintro e w7 ⟨rfl, hu7⟩))
  go_ret
  exact ⟨rfl, (HU6.out.trans hu7).toBelow⟩

end Go.Proofs.Ytpeboaoephkfhaa
