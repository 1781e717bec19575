/- The walk of ImageBack. -/
import Derived.Test.YtpeboaoephkfhaaImgK
import Derived.Test.YtpeboaoephkfhaaImgO
import Derived.Test.YtpeboaoephkfhaaDiskG
import Derived.Test.YtpeboaoephkfhaaOpenY
import Derived.StillTailTactics
import Derived.Deep.CutBlock
import Derived.Deep.DeepCutAuto
namespace Go.Proofs.Ytpeboaoephkfhaa
open Go.ChangeShapes Go.WideShapes Go.ChangeAt Go.RowKit

theorem allB_get (x : Int) (j : Nat) (hj : j < 64) : (allB x).getD j 0 = x := by
  unfold allB; rw [List.getD_eq_getElem?_getD, List.getElem?_replicate, if_pos hj]; rfl
theorem allB_u8 {x : Int} (h : 0 ≤ x ∧ x < 256) : U8L (allB x) := by
  intro y hy; unfold allB at hy; rw [List.eq_of_mem_replicate hy]; exact h

theorem lit_u8' {n : Int} (h : (Lit.int .u8 n).wf = true) : 0 ≤ n ∧ n ≤ 255 := by
  have e1 : IntKind.u8.min = 0 := by decide
  have e2 : IntKind.u8.max = 255 := by decide
  simp [Lit.wf, e1, e2] at h
  omega
theorem lit_u16 {n : Int} (h : (Lit.int .u16 n).wf = true) : 0 ≤ n ∧ n ≤ 65535 := by
  have e1 : IntKind.u16.min = 0 := by decide
  have e2 : IntKind.u16.max = 65535 := by decide
  simp [Lit.wf, e1, e2] at h
  omega

/-- A disk of twenty blocks of which the first n are filled. -/
structure Fill (d : DK) (n : Nat) (x : Int) : Prop where
  wf : d.WF
  byt : d.Byt
  up : d.down = false
  len : d.last.length = 20
  all : ∀ i, i < 64 * n → Go.Proofs.Ytpeboaoephkfhaa.byt d i = x

theorem Fill.new (x : Int) : Fill (DK.new (20 : Int).toNat) 0 x := ⟨DK.WF.new (by decide), DK.Byt.new _, rfl, rfl, fun i h => by omega⟩
theorem Fill.step {d : DK} {n : Nat} {x : Int} (h : Fill d n x) (hn : n < 20) (hx : 0 ≤ x ∧ x < 256) : Fill (d.write (n : Int) (allB x)) (n + 1) x :=
  ⟨h.wf.write (allB_len x), h.byt.write _ (allB_u8 hx), by rw [write_down]; exact h.up, by rw [write_last]; exact h.len, fun i hi => by
    rw [byt_write h.up (by rw [h.len]; exact hn)]
    by_cases hc : i / 64 = n
    · rw [if_pos hc, allB_get _ _ (Nat.mod_lt _ (by omega))]
    · rw [if_neg hc]; exact h.all i (by omega)⟩

set_option maxRecDepth 100000 in
set_option maxHeartbeats 4000000 in
theorem ImageBack.walk (fr rm pl fill : Int) (bv : Value) (b : List Int) (w : World) (hfr : (Lit.int .u8 fr).wf = true) (hrm : (Lit.int .u8 rm).wf = true) (hpl : (Lit.int .u16 pl).wf = true) (hfi : (Lit.int .u8 fill).wf = true) (hb : BytesAt w bv b) (hbu : U8L b) :
    Calls Try.prog 5 #[.int .u8 fr, .int .u8 rm, .int .u16 pl, .int .u8 fill, bv] w fun e w' => e = .returned (.bool true) ∧ Below w.heap.size w w' := by
  have r1 := lit_u8' hfr
  have r2 := lit_u8' hrm
  have r3 := lit_u16 hpl
  have r4 := lit_u8' hfi
  obtain ⟨F, rfl⟩ : ∃ F : Nat, fr = F := ⟨fr.toNat, by omega⟩
  obtain ⟨R, rfl⟩ : ∃ R : Nat, rm = R := ⟨rm.toNat, by omega⟩
  obtain ⟨P0, rfl⟩ : ∃ P : Nat, pl = P := ⟨pl.toNat, by omega⟩
  obtain ⟨ba, bc, rfl⟩ := hb.form
  have hbm := hb
  obtain ⟨ba', bc', e, hbc, hbm, -⟩ := hbm
  cases e
  unfold maxLen at hbm
  obtain ⟨bl, hbl⟩ : ∃ n, n = b.length := ⟨_, rfl⟩
  have hblm : bl ≤ 2 ^ 63 - 1 := by omega
  rw [← hbl] at hb ⊢
  have HB := Lib.hid hb
  have HBU := Lib.hid hbu
  have HBL := Lib.hid hbl
  clear hb hbu hbl hfr hrm hpl hfi hbc hbm
  go_enter Try.func5, Try.ntmps5
  go_upto_region 4 with (go_at_call 10; refine (awake_any _).mono ?_; rintro e w1 ⟨rfl, hu1⟩)
  go_upto_region 5 with (go_at_call 12; refine (new_law 20 w (by omega) (by omega) hu1).mono ?_; rintro e w2 ⟨p, S2, rfl, hd2, -, -⟩)
  have HD2 := Lib.hid hd2
  clear hd2 hu1
  by_cases hbig : 700 < bl
  · have k1 : (700 : Int) < (bl : Int) := by omega
    go_wp2_with fail
    go_ret
    exact ⟨rfl, HD2.out.upd.toBelow⟩
  · have k1 : ¬ (700 : Int) < (bl : Int) := by omega
    obtain ⟨a, ha⟩ : ∃ a, a = F % 10 := ⟨_, rfl⟩
    obtain ⟨k, hk⟩ : ∃ k, k = R % 11 := ⟨_, rfl⟩
    obtain ⟨A, hA⟩ : ∃ A, A = P0 % 640 := ⟨_, rfl⟩
    have q1 : (F : Int) % 10 = (a : Int) := by omega
    have q2 : (R : Int) % 11 = (k : Int) := by omega
    have q3 : (P0 : Int) % 640 = (A : Int) := by omega
    have m1 : IntKind.i64.wrap (F : Int) = (F : Int) := IntWalk.i64_in _ (by omega)
    have m2 : IntKind.i64.wrap (R : Int) = (R : Int) := IntWalk.i64_in _ (by omega)
    have m3 : IntKind.i64.wrap (P0 : Int) = (P0 : Int) := IntWalk.i64_in _ (by omega)
    have hal : a < 10 := by omega
    have hkl : k < 11 := by omega
    have hAl : A < 640 := by omega
    have HF := Lib.hid (show 0 ≤ fill ∧ fill < 256 by omega)
    clear ha hk hA
    go_upto_region 10 with fail
    rw [q1, q2, q3]
    go_upto_block 0 with fail
    clear q1 q2 q3 m1 m2 m3
    go_cut [] (fun wx => ∃ (d : DK) (S : List Nat), DInv w wx p S d ∧ Fill d 20 fill)
    case first =>
      go_wp2_with fail
      go_loopw [17] (fun iv wx => ∃ (n : Nat) (d : DK) (S : List Nat), iv = .int .i64 n ∧ n ≤ 20 ∧ DInv w wx p S d ∧ Fill d n fill) (fun iv _ => 20 - (intOf iv).toNat)
      case atStart => exact ⟨0, _, S2, rfl, by omega, HD2.out, Fill.new fill⟩
      case round =>
        obtain ⟨n, d, S, rfl, hn, hd, hf⟩ := hrel
        have HD := Lib.hid hd
        have HFI := Lib.hid hf
        clear hd hf HD2
        by_cases hn20 : n < 20
        · have k2 : (n : Int) < 20 := by omega
          have m4 : IntKind.i64.wrap ((n : Int) + 1) = ((n + 1 : Nat) : Int) := by rw [IntWalk.i64_in _ (by omega)]; omega
          go_wp2_with (first
            | (go_at_call 14; refine (all_any fill _).mono ?_; rintro e w3 ⟨rfl, hu3⟩)
            | (go_at_call 13; refine (write_law (HD.out.quiet hu3) n (allB fill) (allB_len fill)).mono ?_; rintro e w4 ⟨rfl, S4, hd4, hk4⟩))
          have HF4 := Lib.hid (HFI.out.step hn20 HF.out)
          exact ⟨⟨n + 1, _, S4, by simp, by omega, hd4, HF4.out⟩, by simp [intOf]; omega⟩
        · obtain rfl : n = 20 := by omega
          rw [show ((20 : Nat) : Int) = 20 from rfl]
          go_wp2_with fail
          go_meet
          exact ⟨d, S, HD.out, HFI.out⟩
    case rest =>
      obtain ⟨d, S, hd, hf⟩ := hcut
      have HD := Lib.hid hd
      have HFI := Lib.hid hf
      have hbo := HB.out.out hd.base
      have hb3 := HB.out.upd0 hd.upd
      have HBO := Lib.hid hbo
      have HB3 := Lib.hid hb3
      clear hd hf hbo hb3 HD2
      have m5 : IntKind.i64.wrap ((A : Int) + (bl : Int)) = (A : Int) + (bl : Int) := IntWalk.i64_in _ (by omega)
      have m6 : IntKind.i64.wrap (64 * (k : Int)) = 64 * (k : Int) := IntWalk.i64_in _ (by omega)
      by_cases hfit : A + bl ≤ k * 64
      · obtain ⟨d', hp, hw', hd', hl', hby'⟩ := putF_law HFI.out.wf HFI.out.up a k A b (by rw [HFI.out.len]; omega) (by rw [← HBL.out]; exact hfit)
        rw [← HBL.out] at hby'
        have HP := Lib.hid hp
        have HW' := Lib.hid hw'
        have HD' := Lib.hid hd'
        have HL' := Lib.hid hl'
        have HBYT := Lib.hid hby'
        have k3 : ¬ 64 * (k : Int) < (A : Int) + (bl : Int) := by omega
        obtain ⟨all, hg, hgl, hgb⟩ := getF_at hw' hd' 0 20 1280 0 20 1280 rfl rfl rfl (by rw [hl', HFI.out.len]; omega) (by omega)
        have HG := Lib.hid hg
        have HGL := Lib.hid hgl
        have HGB := Lib.hid hgb
        clear hp hw' hd' hl' hby' hg hgl hgb
        go_upto_region 17 with (go_at_call 15; refine (put_law HD.out HFI.out.byt a k A HB3.out HBU.out HBO.out (by rw [← HBL.out]; omega) (by omega) (by omega)).mono ?_; rw [HP.out]; rintro e w5 ⟨rfl, S5, hd5, hy5, hk5⟩)
        have HD5 := Lib.hid hd5
        have HY5 := Lib.hid hy5
        have HB5 := Lib.hid (HB.out.upd0 hd5.upd)
        clear hd5 hy5 hk5 HD HB3 HBO
        go_upto_region 18 with (go_at_call 16; refine (get_law HD5.out HY5.out 0 20 1280 (by omega) (by omega)).mono ?_; rw [HG.out]; rintro e w6 ⟨v, rfl, hv6, hd6, hu6⟩)
        obtain ⟨va, vc, rfl⟩ := hv6.form
        rw [HGL.out] at hv6 ⊢
        obtain ⟨vg, vo, rfl, -, hvgl, hvc⟩ := hv6.at (by rw [HGL.out]; omega)
        have HVC := Lib.hid hvc
        have HD6 := Lib.hid hd6
        have HB6 := Lib.hid (HB.out.upd0 hd6.upd)
        clear hv6 hd6 hu6 hvgl hvc HD5 HB5
        obtain ⟨lo, hlo⟩ : ∃ lo, lo = 64 * a + A := ⟨_, rfl⟩
        have c0 : (64 * (a : Int) + (A : Int)) = (lo : Int) := by omega
        have m7 : IntKind.i64.wrap (64 * (a : Int)) = 64 * (a : Int) := IntWalk.i64_in _ (by omega)
        have m8 : IntKind.i64.wrap (64 * (a : Int) + (A : Int)) = (lo : Int) := by rw [IntWalk.i64_in _ (by omega)]; omega
        have m9 : IntKind.i64.wrap ((lo : Int) + (bl : Int)) = (lo : Int) + (bl : Int) := IntWalk.i64_in _ (by omega)
        have HBYT2 : Hid (∀ i, i < 1280 → all.getD i 0 = if lo ≤ i ∧ i < lo + bl then b.getD (i - lo) 0 else fill) := Lib.hid (fun i hi => by
          rw [HGB.out i hi, Nat.mul_zero, Nat.zero_add, HBYT.out, ← hlo]
          split
          · rfl
          · exact HFI.out.all i (by omega))
        have HLO := Lib.hid hlo
        clear hlo c0
        go_upto_region 21 with fail
        go_loopw [21] (fun iv wx => ∃ (i : Nat), iv = .int .i64 i ∧ i ≤ 1280 ∧ wx = w6) (fun iv _ => 1280 - (intOf iv).toNat)
        case atStart => exact ⟨0, rfl, by omega, rfl⟩
        case round =>
          obtain ⟨i, rfl, hi, rfl⟩ := hrel
          by_cases hi2 : i < 1280
          · have k4 : (i : Int) < 1280 := by omega
            have k5 : (0 : Int) ≤ (i : Int) := by omega
            have m10 : IntKind.i64.wrap ((i : Int) + 1) = (i : Int) + 1 := IntWalk.i64_in _ (by omega)
            obtain ⟨av, hav⟩ : ∃ av, av = all.getD i 0 := ⟨_, rfl⟩
            have ca : wr.cell? ⟨vg, vo + i, none⟩ = some (.int .u8 av) := by rw [hav]; exact HVC.out i (by rw [HGL.out]; exact hi2)
            have hval := HBYT2.out i hi2
            rw [← hav] at hval
            clear hav
            by_cases h1 : lo ≤ i
            · have k6 : ¬ (i : Int) < (lo : Int) := by omega
              by_cases h2 : i < lo + bl
              · have k7 : (i : Int) < (lo : Int) + (bl : Int) := by omega
                rw [if_pos ⟨h1, h2⟩] at hval
                obtain ⟨j, hj⟩ : ∃ j, j = i - lo := ⟨_, rfl⟩
                rw [← hj] at hval
                obtain ⟨bg, bo, rfl, -, -, hbc⟩ := HB6.out.at (by rw [← HBL.out]; omega)
                have cb : wr.cell? ⟨bg, bo + j, none⟩ = some (.int .u8 av) := by rw [hval]; exact hbc j (by rw [← HBL.out]; omega)
                have m11 : IntKind.i64.wrap ((i : Int) - 64 * (a : Int)) = (i : Int) - 64 * (a : Int) := IntWalk.i64_in _ (by omega)
                have m12 : IntKind.i64.wrap ((i : Int) - 64 * (a : Int) - (A : Int)) = (j : Int) := by have := HLO.out; rw [IntWalk.i64_in _ (by omega)]; omega
                have j0 : (0 : Int) ≤ (j : Int) := by omega
                have j1 : (j : Int) < (bl : Int) := by omega
                clear hbc hval hj
                go_wp2_with fail
                exact ⟨⟨i + 1, by simp, by omega, trivial⟩, by simp [intOf]; omega⟩
              · have k7 : ¬ (i : Int) < (lo : Int) + (bl : Int) := by omega
                rw [if_neg (by omega)] at hval
                subst hval
                go_wp2_with fail
                exact ⟨⟨i + 1, by simp, by omega, trivial⟩, by simp [intOf]; omega⟩
            · have k6 : (i : Int) < (lo : Int) := by omega
              rw [if_neg (by omega)] at hval
              subst hval
              go_wp2_with fail
              exact ⟨⟨i + 1, by simp, by omega, trivial⟩, by simp [intOf]; omega⟩
          · obtain rfl : i = 1280 := by omega
            rw [show ((1280 : Nat) : Int) = 1280 from rfl]
            obtain ⟨x, hg2, hxl, hxb⟩ := getF_at HW'.out HD'.out a k ((A : Int) + (bl : Int)) a k (A + bl) rfl rfl (by simp) (by rw [HL'.out, HFI.out.len]; omega) hfit
            have hxd : x.drop A = b := by
              apply List.ext_getElem?
              intro j
              rw [List.getElem?_drop]
              by_cases hj : j < bl
              · have e1 := hxb (A + j) (by omega)
                rw [HBYT.out, if_pos (by omega), List.getD_eq_getElem?_getD, List.getElem?_eq_getElem (by omega), show 64 * a + (A + j) - (64 * a + A) = j by omega] at e1
                rw [List.getElem?_eq_getElem (by omega), List.getElem?_eq_getElem (by rw [← HBL.out]; exact hj)]
                rw [List.getD_eq_getElem?_getD, List.getElem?_eq_getElem (by rw [← HBL.out]; exact hj)] at e1
                simpa using e1
              · rw [List.getElem?_eq_none (by omega), List.getElem?_eq_none (by rw [← HBL.out]; omega)]
            have HG2 := Lib.hid hg2
            have HXL := Lib.hid hxl
            have HXD := Lib.hid hxd
            clear hg2 hxl hxb hxd hi hi2
            go_upto_region 29 with (go_at_call 16; refine (get_law HD6.out HY5.out a k ((A : Int) + (bl : Int)) (by omega) (by omega)).mono ?_; rw [HG2.out]; rintro e w7 ⟨v, rfl, hv7, hd7, hu7⟩)
            obtain ⟨xa, xc, rfl⟩ := hv7.form
            have hB7 := HB.out.upd0 (hd7.upd.drew)
            have hs7 := (hv7.upd0 ((Upd.refl [] w7).drew)).slicedL (i := A) (by rw [HXL.out]; omega)
            rw [HXD.out] at hs7
            rw [HXL.out] at hv7 hs7 ⊢
            have HS7 := Lib.hid hs7
            have HB7 := Lib.hid hB7
            have HU7 := Lib.hid hd7.upd
            clear hv7 hd7 hu7 hs7 hB7
            refine wp_region_still_lit mixed (by kernel_rfl) ?_
            iterate 5 still_step
            refine still_runW rfl (exec_sliceL0 (l := A) 26 (.tmp 141) (.tmp 142) rfl Try.underlying26 (by kernel_rfl : _ = some 1) rfl rfl (by omega) rfl) ?_
            refine still_runW rfl (exec_str (.tmp 143) rfl rfl HS7.out) ?_
            still_step
            refine still_runW rfl (exec_str (.tmp 145) rfl rfl HB7.out) ?_
            iterate 3 still_step
            refine wpStill_nil ?_
            change (Exit.then _ _ Exit.normal _ w7.drew)
            go_wp2_with fail
            all_goals
              go_ret
              exact ⟨rfl, HU7.out.drew.toBelow⟩
      · have hp : putF d (a : Int) (k : Int) (A : Int) b = (d, 1) := by
          unfold putF
          rw [if_pos (by rw [← HBL.out]; omega)]
        have HP := Lib.hid hp
        have k3 : 64 * (k : Int) < (A : Int) + (bl : Int) := by omega
        clear hp
        go_wp2_with (go_at_call 15; refine (put_law HD.out HFI.out.byt a k A HB3.out HBU.out HBO.out (by rw [← HBL.out]; omega) (by omega) (by omega)).mono ?_; rw [HP.out]; rintro e w5 ⟨rfl, S5, hd5, -, -⟩)
        go_ret
        exact ⟨rfl, hd5.upd.toBelow⟩
end Go.Proofs.Ytpeboaoephkfhaa
