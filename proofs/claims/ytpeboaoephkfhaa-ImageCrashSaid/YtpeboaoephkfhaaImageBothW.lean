/- The walk of ImageBoth. -/
import Derived.Test.YtpeboaoephkfhaaImgK
import Derived.Test.YtpeboaoephkfhaaImgL
import Derived.Test.YtpeboaoephkfhaaImgN
import Derived.Test.YtpeboaoephkfhaaOpenK
namespace Go.Proofs.Ytpeboaoephkfhaa
open Go.ChangeShapes Go.WideShapes Go.ChangeAt Go.RowKit

theorem D2.byt {n : Nat} {was prev : BK} {x y : Blok} (h : St n was prev x y) : (D2 x y).Byt :=
  ⟨fun b hb => by simp [D2] at hb; rcases hb with rfl | rfl; exact h.u8.1; exact h.u8.2, fun p hp => by simp [D2] at hp⟩

/-- The disk is not touched by what lies beside it. -/
theorem DInv.beside {w0 w w' : World} {b : Nat} {S T : List Nat} {d : DK} (h : DInv w0 w b S d) (hu : Upd T w w') (hT : ∀ k ∈ S, k ∉ T) (h0 : ∀ k ∈ T, w0.heap.size ≤ k) : DInv w0 w' b S d :=
  ⟨h.disk.upd hu hT, h.upd.then hu (fun k hk => .inr (h0 k hk)), h.base⟩
theorem Var.upd {w w' : World} {S T : List Nat} {B : Nat} {c : Array Value} {U : TypeId} (h : Var w S B c U) (hu : Upd T w w') (hT : B ∉ T) : Var w' S B c U := ⟨h.1.upd hu hT, h.2⟩

theorem lit_u8 {n : Int} (h : (Lit.int .u8 n).wf = true) : 0 ≤ n ∧ n ≤ 255 := by
  have e1 : IntKind.u8.min = 0 := by decide
  have e2 : IntKind.u8.max = 255 := by decide
  simp [Lit.wf, e1, e2] at h
  omega

set_option maxRecDepth 100000 in
set_option maxHeartbeats 4000000 in
theorem ImageBoth.walk (va : Value) (a : BK) (vb : Value) (b : BK) (at_ by_ : Int) (w : World) (ha : va = .agg (encK a).toArray) (haw : a.WF) (har : a.Rng) (hb : vb = .agg (encK b).toArray) (hbw : b.WF) (hbr : b.Rng)
    (hat : (Lit.int .u8 at_).wf = true) (hby : (Lit.int .u8 by_).wf = true) :
    Calls Try.prog 8 #[va, vb, .int .u8 at_, .int .u8 by_] w fun e w' => e = .returned (.bool true) ∧ Below w.heap.size w w' := by
  subst ha hb
  have hatr := lit_u8 hat
  have hbyr := lit_u8 hby
  obtain ⟨A, rfl⟩ : ∃ A : Nat, at_ = A := ⟨at_.toNat, by omega⟩
  have HAW := Lib.hid haw
  have HAR := Lib.hid har
  have HBW := Lib.hid hbw
  have HBR := Lib.hid hbr
  obtain ⟨w1, hw1⟩ : ∃ w1, w1 = w.alloc (.cells (encK a).toArray 40) := ⟨_, rfl⟩
  have hb1 : Blk w1 w.heap.size (encK a).toArray 40 := by rw [hw1]; exact Blk.new _ _ _
  have hu1 : Upd [] w w1 := by rw [hw1]; exact (Upd.refl _ _).alloc _
  have hs1 : w1.heap.size = w.heap.size + 1 := by rw [hw1]; simp
  obtain ⟨w2, hw2⟩ : ∃ w2, w2 = w1.alloc (.cells (encK b).toArray 40) := ⟨_, rfl⟩
  have hb2 : Blk w2 w1.heap.size (encK b).toArray 40 := by rw [hw2]; exact Blk.new _ _ _
  have hu2 : Upd [] w1 w2 := by rw [hw2]; exact (Upd.refl _ _).alloc _
  rw [hs1] at hb2
  obtain ⟨A0, hA0⟩ : ∃ x, x = w.heap.size := ⟨_, rfl⟩
  rw [← hA0] at hb1 hb2 hs1
  obtain ⟨B0, hB0⟩ : ∃ x, x = A0 + 1 := ⟨_, rfl⟩
  rw [← hB0] at hb2 hs1
  have HA2 := Lib.hid (hb1.upd hu2 (by simp))
  have HB2 := Lib.hid hb2
  have HU2 := Lib.hid (hu1.trans hu2)
  have HW1 := Lib.hid hw1
  have HW2 := Lib.hid hw2
  have HA0 := Lib.hid hA0
  have HB0 := Lib.hid hB0
  clear hw1 hb1 hu1 hs1 hw2 hb2 hu2 hA0 hB0 haw har hbw hbr hat hby
  go_enter Try.func8, Try.ntmps8
  go_upto_region 1 with fail
  rw [← HW1.out, ← HW2.out, ← HA0.out, ← HB0.out]
  go_upto_region 4 with (go_at_call 10; refine (awake_any _).mono ?_; rintro e w3 ⟨rfl, hu3⟩)
  have HA3 := Lib.hid (HA2.out.upd hu3 (by simp))
  have HB3 := Lib.hid (HB2.out.upd hu3 (by simp))
  have HU3 := Lib.hid (HU2.out.trans hu3)
  clear hu3
  go_upto_region 7 with (go_at_call 12; refine (new_law 2 w (by omega) (by omega) HU3.out).mono ?_; rintro e w4 ⟨p, S4, rfl, hd4, hu4, hS4⟩)
  have HD4 : Hid (DInv w w4 p S4 (D2 DK.zeros DK.zeros)) := Lib.hid hd4
  have HA4 : Hid (Var w4 S4 A0 (encK a).toArray 40) := Lib.hid ⟨HA3.out.upd hu4 (by simp), fun hm => by have := hS4 _ hm; have := HA3.out.lt; omega⟩
  have HB4 : Hid (Var w4 S4 B0 (encK b).toArray 40) := Lib.hid ⟨HB3.out.upd hu4 (by simp), fun hm => by have := hS4 _ hm; have := HB3.out.lt; omega⟩
  have HBY4 := Lib.hid (D2.byt St.zero)
  clear hd4 hu4 hS4 HA3 HB3 HU3 HA2 HB2 HU2
  rcases St.zero.point (by omega) HAW.out HAR.out.area with ⟨-, hp⟩ | ⟨-, z, -, hp, hst⟩
  · have HP := Lib.hid hp
    clear hp
    go_wp2_with (first
      | ((with_reducible show wpList _ _ _ (⟨some 31, _, _, _, _, _⟩ :: _) _ _); refine wpList_run rfl (boot_load (.tmp 4) rfl rfl HA4.out.1 HAW.out.whole) ?_)
      | (go_at_call 18; refine (point_law HD4.out HBY4.out 0 (by omega) a HAW.out HAR.out.area).mono ?_; rw [HP.out]; rintro e w5 ⟨rfl, S5, hd5, -, -⟩))
    go_ret
    exact ⟨rfl, hd5.upd.toBelow⟩
  · have hp : pointF (D2 DK.zeros DK.zeros) 0 a = (D2 z DK.zeros, 0) := hp
    have hst : St 1 a BK.zero z DK.zeros := hst
    have HP := Lib.hid hp
    have HST := Lib.hid hst
    have HBY5 := Lib.hid (D2.byt hst)
    clear hp hst
    rcases HST.out.point (by omega) HBW.out HBR.out.area with ⟨-, hp⟩ | ⟨-, z2, -, hp, hst⟩
    · have HP2 := Lib.hid hp
      clear hp
      go_wp2_with (first
        | ((with_reducible show wpList _ _ _ (⟨some 31, _, _, _, _, _⟩ :: _) _ _); refine wpList_run rfl (boot_load (.tmp 4) rfl rfl HA4.out.1 HAW.out.whole) ?_)
        | ((with_reducible show wpList _ _ _ (⟨some 36, _, _, _, _, _⟩ :: _) _ _); refine wpList_runW rfl (boot_load (.tmp 5) rfl rfl HB5.out.1 HBW.out.whole) ?_)
        | (go_at_call 18; refine (point_law HD5.out HBY5.out 0 (by omega) b HBW.out HBR.out.area).mono ?_; rw [HP2.out]; rintro e w6 ⟨rfl, S6, hd6, -, -⟩)
        | (go_at_call 18; refine (point_law HD4.out HBY4.out 0 (by omega) a HAW.out HAR.out.area).mono ?_; rw [HP.out]; rintro e w5 ⟨rfl, S5, hd5, -, hk5⟩; have HD5 := Lib.hid hd5; have HB5 := Lib.hid (HB4.out.keep hk5); clear hd5 hk5))
      go_ret
      exact ⟨rfl, hd6.upd.toBelow⟩
    · have hp : pointF (D2 z DK.zeros) 0 b = (D2 z z2, 0) := hp
      have hst : St 2 b a z z2 := hst
      have HP2 := Lib.hid hp
      have HST2 := Lib.hid hst
      have HBY6 := Lib.hid (D2.byt hst)
      have HS7 : Hid (startF (D2 z z2) 0 = (b, 2, 0)) := Lib.hid (hst.start (by decide))
      clear hp hst
      go_upto_region 9 with (first
        | ((with_reducible show wpList _ _ _ (⟨some 31, _, _, _, _, _⟩ :: _) _ _); refine wpList_run rfl (boot_load (.tmp 4) rfl rfl HA4.out.1 HAW.out.whole) ?_)
        | ((with_reducible show wpList _ _ _ (⟨some 36, _, _, _, _, _⟩ :: _) _ _); refine wpList_runW rfl (boot_load (.tmp 5) rfl rfl HB5.out.1 HBW.out.whole) ?_)
        | (go_at_call 18; refine (point_law HD5.out HBY5.out 0 (by omega) b HBW.out HBR.out.area).mono ?_; rw [HP2.out]; rintro e w6 ⟨rfl, S6, hd6, -, hk6⟩)
        | (go_at_call 18; refine (point_law HD4.out HBY4.out 0 (by omega) a HAW.out HAR.out.area).mono ?_; rw [HP.out]; rintro e w5 ⟨rfl, S5, hd5, -, hk5⟩; have HD5 := Lib.hid hd5; have HA5 := Lib.hid (HA4.out.keep hk5); have HB5 := Lib.hid (HB4.out.keep hk5); clear hd5 hk5))
      have HD6 := Lib.hid hd6
      have HA6 := Lib.hid (HA5.out.keep hk6)
      have HB6 := Lib.hid (HB5.out.keep hk6)
      clear hd6 hk6 HA4 HB4 HD4 HA5 HB5 HD5
      go_upto_region 10 with (first
        | (go_at_call 17; refine (bstart_law HD6.out HBY6.out 0 (by omega)).mono ?_; rw [HS7.out]; rintro e w7 ⟨rfl, hd7, hu7⟩)
        | (refine wpList_alloc rfl 40 rfl zero_boot fun w8 hb8 hu8 hs8 => ?_
           refine wpList_storeA rfl 40 (.tmp 12) (.tmp 43) rfl rfl rfl hb8 info_boot (encK_size HBW.out.whole) (encK_size zer32_len) (encK_one _) fun w9 hb9 hu9 hs9 => ?_
           simp only [Act.put, List.setIfInBounds_toArray, List.set_cons_zero, List.set_cons_succ]))
      obtain ⟨X0, hX0⟩ : ∃ x, x = w7.heap.size := ⟨_, rfl⟩
      have hu79 : Upd [] w7 w9 := hu8.then hu9 (fun q hq => .inr (by simp at hq; omega))
      have HX9 := Lib.hid (hd7.var hb9)
      have HD9 := Lib.hid (hd7.quiet hu79)
      have HA9 := Lib.hid (HA6.out.keep (Keep.quiet (hu7.trans hu79)))
      have HB9 := Lib.hid (HB6.out.keep (Keep.quiet (hu7.trans hu79)))
      rw [← hX0] at HX9 ⊢
      clear hd7 hu7 hb8 hu8 hs8 hb9 hu9 hs9 hX0 hu79 HA6 HB6 HD6
      go_upto_region 11 with (first
        | (go_at_call 21; refine (read_law HD9.out 1).mono ?_; rw [D2.rd1, D2.code z z2 1 (.inr rfl)]; rintro e w10 ⟨rfl, hd10, hk10⟩)
        | (refine wpList_alloc rfl 32 rfl zero_arr fun w11 hb11 hu11 hs11 => ?_
           refine wpList_store rfl (.tmp 15) (.tmp 49) rfl rfl rfl hb11 DK.zeros_len HST2.out.len.2 fun w12 hb12 hu12 hs12 => ?_
           simp only [Act.put, List.setIfInBounds_toArray, List.set_cons_zero, List.set_cons_succ]))
      obtain ⟨C0, hC0⟩ : ∃ x, x = w10.heap.size := ⟨_, rfl⟩
      have hu102 : Upd [] w10 w12 := hu11.then hu12 (fun q hq => .inr (by simp at hq; omega))
      have HC12 := Lib.hid (hd10.var hb12)
      have HD12 := Lib.hid (hd10.quiet hu102)
      have HA12 := Lib.hid (HA9.out.keep (hk10.trans (Keep.quiet hu102)))
      have HB12 := Lib.hid (HB9.out.keep (hk10.trans (Keep.quiet hu102)))
      have HX12 := Lib.hid (HX9.out.keep (hk10.trans (Keep.quiet hu102)))
      have hC1 : Hid (X0 < C0 ∧ A0 < C0 ∧ B0 < C0 ∧ w.heap.size ≤ C0) := Lib.hid (by
        have h1 := HX9.out.1.lt
        have h2 := HA9.out.1.lt
        have h3 := HB9.out.1.lt
        have h4 := hk10.1
        have h5 := HA0.out
        rw [hC0]; exact ⟨by omega, by omega, by omega, by omega⟩)
      rw [← hC0] at HC12 ⊢
      clear hd10 hk10 hb11 hu11 hs11 hb12 hu12 hs12 hC0 hu102 HA9 HB9 HD9 HX9
      obtain ⟨o, ho⟩ : ∃ o, o = A % 8 := ⟨_, rfl⟩
      have ho8 : o < 8 := by omega
      have hmod : (A : Int) % 8 = (o : Int) := by omega
      obtain ⟨v, hv⟩ : ∃ v, v = z2.getD o 0 := ⟨_, rfl⟩
      have HV := Lib.hid hv
      have HZL := Lib.hid HST2.out.len.2
      have m0 : IntKind.i64.wrap (A : Int) = (A : Int) := IntWalk.i64_in _ (by omega)
      have co : w12.cell? ⟨C0, o, none⟩ = some (.int .u8 v) := by rw [HV.out]; exact HC12.out.1.cell (o := o) (U8_get _ _ (by rw [HZL.out]; omega))
      have fo := HC12.out.1.free o
      have i0 : (0 : Int) ≤ (o : Int) := by omega
      have i1 : (o : Int) < 64 := by omega
      obtain ⟨xv, hxv⟩ : ∃ x, bits .xor .u8 v by_ = x := ⟨_, rfl⟩
      have HXV := Lib.hid hxv
      clear ho hv
      go_upto_region 12 with fail
      have hu13 : Upd [C0] w12 (w12.setCell ⟨C0, o, none⟩ (.int .u8 xv)) := (Upd.refl _ _).setCell (.inl (by simp)) _
      have hb13 := HC12.out.1.set o (.int .u8 xv)
      have e13 : (U8 z2).setIfInBounds o (.int .u8 xv) = U8 (z2.set o xv) := by
        unfold U8; rw [List.setIfInBounds_toArray, ← List.map_set]
      rw [e13] at hb13
      obtain ⟨w13, hw13⟩ : ∃ x, x = w12.setCell ⟨C0, o, none⟩ (.int .u8 xv) := ⟨_, rfl⟩
      rw [← hw13] at hu13 hb13 ⊢
      have hc0 : C0 ≠ A0 ∧ C0 ≠ B0 ∧ C0 ≠ X0 := by
        have h1 := hC1.out
        exact ⟨by omega, by omega, by omega⟩
      have HD13 := Lib.hid (HD12.out.beside (T := [C0]) hu13 (fun k hk hm => by simp at hm; subst hm; exact HC12.out.2 hk) (fun k hk => by simp at hk; have h1 := hC1.out; have h2 := HA0.out; omega))
      have HA13 := Lib.hid (HA12.out.upd hu13 (by simp; omega))
      have HB13 := Lib.hid (HB12.out.upd hu13 (by simp; omega))
      have HX13 := Lib.hid (HX12.out.upd hu13 (by simp; omega))
      obtain ⟨c, hc⟩ : ∃ c, c = z2.set o xv := ⟨_, rfl⟩
      rw [← hc] at hb13
      have hcl : c.length = 64 := by rw [hc, List.length_set]; exact HZL.out
      have HCL := Lib.hid hcl
      have HC13 : Hid (Var w13 S6 C0 (U8 c) 32) := Lib.hid ⟨hb13, HC12.out.2⟩
      have hbs := both_start HST2.out ho8 v HV.out by_ (by omega)
      rw [HXV.out, ← hc] at hbs
      have hcu : U8L c := by rw [hc, ← HXV.out]; exact set_u8 HST2.out.u8.2 o (xor8_rng v by_)
      have HBY13 : Hid ((D2 z z2).write 1 c).Byt := Lib.hid (HBY6.out.write 1 hcu)
      have HBS := Lib.hid hbs
      clear hu13 hb13 e13 hw13 hc0 hc hcl co fo hcu hbs HD12 HA12 HB12 HX12 HC12
      go_upto_region 13 with (first
        | (refine wpList_run rfl (arr_load (.tmp 15) rfl rfl HC13.out.1 HCL.out) ?_)
        | (go_at_call 13; refine (write_law HD13.out 1 c HCL.out).mono ?_; rintro e w14 ⟨rfl, S14, hd14, hk14⟩))
      have HD14 := Lib.hid hd14
      have HA14 := Lib.hid (HA13.out.keep hk14)
      have HB14 := Lib.hid (HB13.out.keep hk14)
      have HX14 := Lib.hid (HX13.out.keep hk14)
      clear hd14 hk14 HD13 HA13 HB13 HX13 HC13
      obtain ⟨R, hR⟩ : ∃ R, R = if by_ = 0 then (b, (2 : Int), (0 : Int)) else (a, 1, 0) := ⟨_, rfl⟩
      have hrl : R.1.whole.length = 32 := by rw [hR]; split; exact HBW.out.whole; exact HAW.out.whole
      obtain ⟨rb, rn, re⟩ := R
      have hre : re = 0 := by have := congrArg (fun x => x.2.2) hR; simp only at this; rw [this]; split <;> rfl
      subst hre
      have HRL : Hid (rb.whole.length = 32) := Lib.hid hrl
      have HR := Lib.hid hR
      clear hR hrl
      go_upto_region 14 with (first
        | (go_at_call 17; refine (bstart_law HD14.out HBY13.out 0 (by omega)).mono ?_; rw [HBS.out, ← HR.out]; rintro e w15 ⟨rfl, hd15, hu15⟩)
        | (refine wpList_alloc rfl 40 rfl zero_boot fun w16 hb16 hu16 hs16 => ?_
           refine wpList_storeA rfl 40 (.tmp 17) (.tmp 68) rfl rfl rfl hb16 info_boot (encK_size HRL.out) (encK_size zer32_len) (encK_one _) fun w17 hb17 hu17 hs17 => ?_
           simp only [Act.put, List.setIfInBounds_toArray, List.set_cons_zero, List.set_cons_succ]))
      have hu157 : Upd [] w15 w17 := hu16.then hu17 (fun q hq => .inr (by simp at hq; omega))
      have HY17 := Lib.hid hb17
      have HU17 := Lib.hid (hd15.quiet hu157).upd
      have HA17 := Lib.hid (HA14.out.keep (Keep.quiet (hu15.trans hu157))).1
      have HB17 := Lib.hid (HB14.out.keep (Keep.quiet (hu15.trans hu157))).1
      have HX17 := Lib.hid (HX14.out.keep (Keep.quiet (hu15.trans hu157))).1
      have HEB : Hid (eqK b b = true) := Lib.hid (eqK_refl b)
      have HEA : Hid (eqK a a = true) := Lib.hid (eqK_refl a)
      clear hd15 hu15 hb16 hu16 hs16 hb17 hu17 hs17 hu157
      by_cases hz : by_ = 0
      · have hr := HR.out
        rw [if_pos hz] at hr
        simp only [Prod.mk.injEq, and_true] at hr
        obtain ⟨rfl, rfl⟩ := hr
        subst hz
        go_wp2_with (first
          | ((with_reducible show wpList _ _ _ (⟨some 74, _, _, _, _, _⟩ :: _) _ _); refine wpList_runW rfl (boot_load (.tmp 12) rfl rfl HX17.out HBW.out.whole) ?_)
          | ((with_reducible show wpList _ _ _ (⟨some 75, _, _, _, _, _⟩ :: _) _ _); refine wpList_runW rfl (boot_load (.tmp 5) rfl rfl HB17.out HBW.out.whole) ?_)
          | ((with_reducible show wpList _ _ _ (⟨some 76, _, _, _, _, _⟩ :: _) _ _); refine wpList_runW rfl (exec_eq_boot (k := rb) (l := rb) (.tmp 74) (.tmp 75) rfl rfl rfl HBW.out.whole HBW.out.whole) ?_; rw [HEB.out])
          | ((with_reducible show wpList _ _ _ (⟨some 94, _, _, _, _, _⟩ :: _) _ _); refine wpList_runW rfl (boot_load (.tmp 17) rfl rfl HY17.out HBW.out.whole) ?_)
          | ((with_reducible show wpList _ _ _ (⟨some 95, _, _, _, _, _⟩ :: _) _ _); refine wpList_runW rfl (boot_load (.tmp 5) rfl rfl HB17.out HBW.out.whole) ?_)
          | ((with_reducible show wpList _ _ _ (⟨some 96, _, _, _, _, _⟩ :: _) _ _); refine wpList_runW rfl (exec_eq_boot (k := rb) (l := rb) (.tmp 94) (.tmp 95) rfl rfl rfl HBW.out.whole HBW.out.whole) ?_; rw [HEB.out]))
        go_ret
        exact ⟨rfl, HU17.out.toBelow⟩
      · have hr := HR.out
        rw [if_neg hz] at hr
        simp only [Prod.mk.injEq, and_true] at hr
        obtain ⟨rfl, rfl⟩ := hr
        have hzb : (by_ == (0 : Int)) = false := by simpa using hz
        go_wp2_with (first
          | ((with_reducible show wpList _ _ _ (⟨some 74, _, _, _, _, _⟩ :: _) _ _); refine wpList_runW rfl (boot_load (.tmp 12) rfl rfl HX17.out HBW.out.whole) ?_)
          | ((with_reducible show wpList _ _ _ (⟨some 75, _, _, _, _, _⟩ :: _) _ _); refine wpList_runW rfl (boot_load (.tmp 5) rfl rfl HB17.out HBW.out.whole) ?_)
          | ((with_reducible show wpList _ _ _ (⟨some 76, _, _, _, _, _⟩ :: _) _ _); refine wpList_runW rfl (exec_eq_boot (k := b) (l := b) (.tmp 74) (.tmp 75) rfl rfl rfl HBW.out.whole HBW.out.whole) ?_; rw [HEB.out])
          | ((with_reducible show wpList _ _ _ (⟨some 104, _, _, _, _, _⟩ :: _) _ _); refine wpList_runW rfl (boot_load (.tmp 17) rfl rfl HY17.out HAW.out.whole) ?_)
          | ((with_reducible show wpList _ _ _ (⟨some 105, _, _, _, _, _⟩ :: _) _ _); refine wpList_runW rfl (boot_load (.tmp 4) rfl rfl HA17.out HAW.out.whole) ?_)
          | ((with_reducible show wpList _ _ _ (⟨some 106, _, _, _, _, _⟩ :: _) _ _); refine wpList_runW rfl (exec_eq_boot (k := rb) (l := rb) (.tmp 104) (.tmp 105) rfl rfl rfl HAW.out.whole HAW.out.whole) ?_; rw [HEA.out]))
        go_ret
        exact ⟨rfl, HU17.out.toBelow⟩
end Go.Proofs.Ytpeboaoephkfhaa
