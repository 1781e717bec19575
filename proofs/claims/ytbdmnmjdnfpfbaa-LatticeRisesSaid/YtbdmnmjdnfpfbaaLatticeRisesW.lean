/- The walk of LatticeRises. (Printed by wip/tools/gen_latw.py.) -/
import Derived.Test.YtbdmnmjdnfpfbaaLatV
namespace Go.Proofs.Ytbdmnmjdnfpfbaa
open Go.ChangeShapes Go.WideShapes Go.ChangeAt Go.RowKit

set_option maxRecDepth 100000 in
set_option maxHeartbeats 4000000 in
theorem LatticeRises.walk (nodes : Int) (v : Value) (L : List FK) (fv : Value) (f : FK × Value) (w : World) (_ : (Lit.int .i64 nodes).wf = true) (h : FI w v L) (hfe : fv = .agg (encF f.1 f.2).toArray) (hf : f.1.WF) (hc : CI w f.2 f.1.chunks) :
    Calls Try.prog 6 #[.int .i64 nodes, v, fv] w fun e w' => e = .returned (.bool true) ∧ Below w.heap.size w w' := by
  subst hfe
  obtain ⟨f, fv⟩ := f
  have hf : f.WF := hf
  have hc : CI w fv f.chunks := hc
  obtain ⟨A, hA⟩ : ∃ A, A = grownL nodes L 40 := ⟨_, rfl⟩
  have hga : Good nodes A := by rw [hA]; exact Good.grown _ _ _
  have hal : A.length ≤ 40 := by rw [hA]; exact grownL_len _ _ _
  obtain ⟨B, hB⟩ : ∃ B, B = addL nodes A f := ⟨_, rfl⟩
  have hgb : Good nodes B := by rw [hB]; exact hga.add f
  have hbl : B.length ≤ A.length + 1 := by rw [hB]; exact (addL_len nodes A f).1
  have hsub : ∀ x ∈ A, hasL B x.kind x.epoch x.node = true := fun x hx => by rw [hB]; exact hasL_of_mem (mem_addL hx)
  obtain ⟨cd, hcd⟩ : ∃ x, x = addCode nodes A f := ⟨_, rfl⟩
  obtain ⟨ck, hck⟩ : ∃ x, x = f.chk nodes := ⟨_, rfl⟩
  have key : ((cd == 0) = true ∧ (ck == 0) = true ∧ (cd != 0) = false ∧ hasL B f.kind f.epoch f.node = true) ∨ ((cd == 0) = false ∧ (ck == 0) = false ∧ (cd != 0) = true) := by
    have hy := addCode_yes (nodes := nodes) (L := A) (f := f) (by omega)
    rw [← hcd, ← hck, ← hB] at hy
    by_cases h0 : cd = 0
    · left; simp [h0, hy.1.1 h0, hy.2 h0]
    · right; have : ck ≠ 0 := fun h1 => h0 (hy.1.2 h1); simp [h0, this]
  have HKEY := Lib.hid key
  have HGA := Lib.hid hga
  have HGB := Lib.hid hgb
  have HSUB := Lib.hid hsub
  have HF := Lib.hid hf
  have HFI := Lib.hid h
  have HC := Lib.hid hc
  have HEA := Lib.hid hA
  have HEB := Lib.hid hB
  have HECD := Lib.hid hcd
  have HECK := Lib.hid hck
  obtain ⟨a0, c0, rfl⟩ := h.form
  obtain ⟨w1, hw1⟩ : ∃ w1, w1 = w.alloc (.cells (encF f fv).toArray 31) := ⟨_, rfl⟩
  obtain ⟨hb, hu⟩ := boxed w (encF f fv).toArray 31
  rw [← hw1] at hb hu
  obtain ⟨tb, htb⟩ : ∃ x, x = w.heap.size := ⟨_, rfl⟩
  rw [← htb] at hb
  have HB1 := Lib.hid hb
  have HU1 := Lib.hid hu
  have HW1 := Lib.hid hw1
  have HTB := Lib.hid htb
  clear hw1 hb hu htb h hf hc hA hB hcd hck key hga hgb hsub
  go_enter Try.func6, Try.ntmps6
  go_upto_region 1 with fail
  rw [← HW1.out, ← HTB.out]
  go_upto_region 4 with (go_at_call 12; refine (awake_any _).mono ?_; rintro e w2 ⟨rfl, hu2⟩
                         have HB2 := Lib.hid (HB1.out.upd hu2 (by simp))
                         have HU2 := Lib.hid (HU1.out.trans hu2)
                         have HL2 := Lib.hid (CellsAt.of_blk HB2.out)
                         clear hu2)
  clear HB1 HU1 HW1 HTB
  obtain ⟨fw, hfw⟩ : ∃ x, x = f.few := ⟨_, rfl⟩
  have HFW := Lib.hid hfw
  clear hfw
  go_upto_if 18 with (first
    | ((with_reducible show wpList _ _ _ (⟨some 16, _, _, _, _, _⟩ :: _) _ _); refine wpList_run rfl (fact_load (.tmp 5) rfl rfl HL2.out HF.out) ?_)
    | (go_at_call 14; refine (few_any f fv _ (HC.out.upd0 HU2.out)).mono ?_; rw [← HFW.out]; rintro e w3 ⟨rfl, hu3⟩
       have HB3 := Lib.hid (HB2.out.upd hu3 (by simp))
       have HU3 := Lib.hid (HU2.out.trans hu3)
       have HL3 := Lib.hid (CellsAt.of_blk HB3.out)
       clear hu3))
  clear HB2 HU2 HL2 HFW
  cases fw with
  | false =>
    go_wp2_with fail
    go_ret
    exact ⟨rfl, HU3.out.toBelow⟩
  | true =>
    go_upto_region 7 with (go_at_call 13; refine (grown_fi nodes 40 (HFI.out.upd0 HU3.out)).mono ?_; rw [← HEA.out]; rintro e w4 ⟨av, rfl, ha, hu4⟩
                           have HA4 := Lib.hid ha
                           obtain ⟨aa, ac, rfl⟩ := ha.form
                           have HB4 := Lib.hid (HB3.out.upd hu4 (by simp))
                           have HU4 := Lib.hid (HU3.out.trans hu4)
                           have HL4 := Lib.hid (CellsAt.of_blk HB4.out)
                           clear ha hu4)
    clear HB3 HU3 HL3
    go_upto_region 9 with (first
      | ((with_reducible show wpList _ _ _ (⟨some 25, _, _, _, _, _⟩ :: _) _ _); refine wpList_run rfl (fact_load (.tmp 5) rfl rfl HL4.out HF.out) ?_)
      | (go_at_call 19; refine (add_fi nodes HA4.out HF.out (HC.out.upd0 HU4.out) (by omega)).mono ?_; rw [← HECD.out, ← HEB.out]; rintro e w5 ⟨bv, rfl, hb5, hu5⟩
         have HBL := Lib.hid hb5
         obtain ⟨ba, bc, rfl⟩ := hb5.form
         have HA5 := Lib.hid (HA4.out.upd0 hu5)
         have HB5 := Lib.hid (HB4.out.upd hu5 (by simp))
         have HU5 := Lib.hid (HU4.out.trans hu5)
         clear hb5 hu5))
    clear HB4 HU4 HL4 HA4 HFI
    obtain ⟨an, han⟩ : ∃ n, n = A.length := ⟨_, rfl⟩
    obtain ⟨bn, hbn⟩ : ∃ n, n = B.length := ⟨_, rfl⟩
    rw [← han] at hal hbl HA5 ⊢
    rw [← hbn] at hbl HBL ⊢
    have HAN := Lib.hid han
    have HBN := Lib.hid hbn
    clear han hbn
    go_loopw [11] (fun i wx => ∃ (m : Nat), m ≤ bn ∧ i = .int .i64 m ∧ Upd [] w5 wx) (fun i _ => bn - (intOf i).toNat)
    case atStart => exact ⟨0, Nat.zero_le _, rfl, Upd.refl _ _⟩
    case round =>
      obtain ⟨m, hm, rfl, hu⟩ := hrel
      have HU := Lib.hid hu
      clear hu
      by_cases hlt : m < bn
      · have hlx : m < B.length := by rw [← HBN.out]; exact hlt
        obtain ⟨g, off, cv1, rfl, hg, hcl, hch, hwf⟩ := HBL.out.get hlx
        have hg := Nat.lt_of_lt_of_le hg HU.out.size
        have hck1 := HGB.out.chk_at hlx
        obtain ⟨f1, hf1⟩ : ∃ f1, f1 = B.getD m FK.zero := ⟨_, rfl⟩
        rw [← hf1] at hcl hch hwf hck1
        have HC1 := Lib.hid (hcl.upd HU.out (Nat.lt_of_lt_of_le (by assumption) (Nat.le_refl _)) (by simp))
        have HCH1 := Lib.hid (hch.upd0 HU.out)
        have HWF1 := Lib.hid hwf
        have HCK1 := Lib.hid hck1
        have HF1 := Lib.hid hf1
        have hx0 : (0 : Int) ≤ (m : Int) := by omega
        have hx1 : (m : Int) < (bn : Int) := by omega
        clear hcl hch hwf hck1 hf1
        go_upto_region 11 with fail
        rcases Nat.eq_zero_or_pos m with rfl | hpos
        · as_aux_lemma =>
            refine held_start (fun w' => Upd [] wr w') 24 mixed rfl ((Upd.refl _ _).drew) (fun hHeld => ?_)
            refine held_take 0 35 (.int .i64 nodes) rfl (by kernel_rfl) (by kernel_rfl) (by kernel_rfl) rfl (fun _ _ _ h => h) rfl hHeld (fun w hS => by rfl) ?_
            simp only [List.setIfInBounds_toArray, List.set_cons_zero, List.set_cons_succ]
            refine held_take 1 36 (.slice (some ⟨g, off, none⟩) bn bc) rfl (by kernel_rfl) (by kernel_rfl) (by kernel_rfl) rfl (fun _ _ _ h => h) rfl hHeld (fun w hS => by rfl) ?_
            simp only [List.setIfInBounds_toArray, List.set_cons_zero, List.set_cons_succ]
            refine held_take 2 37 (.int .i64 (0 : Nat)) rfl (by kernel_rfl) (by kernel_rfl) (by kernel_rfl) rfl (fun _ _ _ h => h) rfl hHeld (fun w hS => by rfl) ?_
            simp only [List.setIfInBounds_toArray, List.set_cons_zero, List.set_cons_succ]
            refine held_take 3 38 (.pointer (some ⟨g, off + (0) * 38, none⟩)) rfl (by kernel_rfl) (by kernel_rfl) (by kernel_rfl) rfl (fun _ _ _ h => h) rfl hHeld (fun w hS => by go_simp) ?_
            simp only [List.setIfInBounds_toArray, List.set_cons_zero, List.set_cons_succ]
            refine held_take 4 39 (.agg (encF f1 cv1).toArray) rfl (by kernel_rfl) (by kernel_rfl) (by kernel_rfl) rfl (fun _ _ _ h => h) rfl hHeld (fun w hS => by exact fact_load (.tmp 38) rfl rfl (HC1.out.upd hS hg (by simp)) HWF1.out) ?_
            simp only [List.setIfInBounds_toArray, List.set_cons_zero, List.set_cons_succ]
            refine held_next 5 40 rfl (by kernel_rfl) rfl rfl (fun K hK => ?_)
            go_simp
            refine (check_fi nodes HWF1.out (HCH1.out.upd0 hHeld)).mono ?_
            rw [HCK1.out]
            rintro e w6 ⟨rfl, hu6⟩
            have hk := hK.out (.int .i64 0) _ (hHeld.trans hu6)
            simp only [Act.put, List.setIfInBounds_toArray, List.set_cons_zero, List.set_cons_succ] at hk
            refine hk (fun hHeld => ?_)
            clear hK hk K
            refine held_take 6 41 (.bool false) rfl (by kernel_rfl) (by kernel_rfl) (by kernel_rfl) rfl (fun _ _ _ h => h) rfl hHeld (fun w hS => by go_simp) ?_
            simp only [List.setIfInBounds_toArray, List.set_cons_zero, List.set_cons_succ]
            refine held_take 7 42 (.bool false) rfl (by kernel_rfl) (by kernel_rfl) (by kernel_rfl) rfl (fun _ _ _ h => h) rfl hHeld (fun w hS => by rfl) ?_
            simp only [List.setIfInBounds_toArray, List.set_cons_zero, List.set_cons_succ]
            refine held_take 8 43 (.int .i64 (0 : Nat)) rfl (by kernel_rfl) (by kernel_rfl) (by kernel_rfl) rfl (fun _ _ _ h => h) rfl hHeld (fun w hS => by rfl) ?_
            simp only [List.setIfInBounds_toArray, List.set_cons_zero, List.set_cons_succ]
            refine held_take 9 44 (.bool false) rfl (by kernel_rfl) (by kernel_rfl) (by kernel_rfl) rfl (fun _ _ _ h => h) rfl hHeld (fun w hS => by go_simp) ?_
            simp only [List.setIfInBounds_toArray, List.set_cons_zero, List.set_cons_succ]
            refine held_take 10 45 (.bool false) rfl (by kernel_rfl) (by kernel_rfl) (by kernel_rfl) rfl (fun _ _ _ h => h) rfl hHeld (fun w hS => by rfl) ?_
            simp only [List.setIfInBounds_toArray, List.set_cons_zero, List.set_cons_succ]
            refine held_skip 11 46 rfl (by kernel_rfl) (by kernel_rfl) (by kernel_rfl) rfl (fun _ _ _ h => h) rfl hHeld ?_
            simp only [List.setIfInBounds_toArray, List.set_cons_zero, List.set_cons_succ]
            refine held_skip 12 47 rfl (by kernel_rfl) (by kernel_rfl) (by kernel_rfl) rfl (fun _ _ _ h => h) rfl hHeld ?_
            simp only [List.setIfInBounds_toArray, List.set_cons_zero, List.set_cons_succ]
            refine held_skip 13 48 rfl (by kernel_rfl) (by kernel_rfl) (by kernel_rfl) rfl (fun _ _ _ h => h) rfl hHeld ?_
            simp only [List.setIfInBounds_toArray, List.set_cons_zero, List.set_cons_succ]
            refine held_skip 14 49 rfl (by kernel_rfl) (by kernel_rfl) (by kernel_rfl) rfl (fun _ _ _ h => h) rfl hHeld ?_
            simp only [List.setIfInBounds_toArray, List.set_cons_zero, List.set_cons_succ]
            refine held_skip 15 50 rfl (by kernel_rfl) (by kernel_rfl) (by kernel_rfl) rfl (fun _ _ _ h => h) rfl hHeld ?_
            simp only [List.setIfInBounds_toArray, List.set_cons_zero, List.set_cons_succ]
            refine held_skip 16 51 rfl (by kernel_rfl) (by kernel_rfl) (by kernel_rfl) rfl (fun _ _ _ h => h) rfl hHeld ?_
            simp only [List.setIfInBounds_toArray, List.set_cons_zero, List.set_cons_succ]
            refine held_skip 17 52 rfl (by kernel_rfl) (by kernel_rfl) (by kernel_rfl) rfl (fun _ _ _ h => h) rfl hHeld ?_
            simp only [List.setIfInBounds_toArray, List.set_cons_zero, List.set_cons_succ]
            refine held_skip 18 53 rfl (by kernel_rfl) (by kernel_rfl) (by kernel_rfl) rfl (fun _ _ _ h => h) rfl hHeld ?_
            simp only [List.setIfInBounds_toArray, List.set_cons_zero, List.set_cons_succ]
            refine held_skip 19 54 rfl (by kernel_rfl) (by kernel_rfl) (by kernel_rfl) rfl (fun _ _ _ h => h) rfl hHeld ?_
            simp only [List.setIfInBounds_toArray, List.set_cons_zero, List.set_cons_succ]
            refine held_skip 20 55 rfl (by kernel_rfl) (by kernel_rfl) (by kernel_rfl) rfl (fun _ _ _ h => h) rfl hHeld ?_
            simp only [List.setIfInBounds_toArray, List.set_cons_zero, List.set_cons_succ]
            refine held_skip 21 56 rfl (by kernel_rfl) (by kernel_rfl) (by kernel_rfl) rfl (fun _ _ _ h => h) rfl hHeld ?_
            simp only [List.setIfInBounds_toArray, List.set_cons_zero, List.set_cons_succ]
            refine held_take 22 57 (.bool false) rfl (by kernel_rfl) (by kernel_rfl) (by kernel_rfl) rfl (fun _ _ _ h => h) rfl hHeld (fun w hS => by rfl) ?_
            simp only [List.setIfInBounds_toArray, List.set_cons_zero, List.set_cons_succ]
            refine held_take 23 58 (.bool false) rfl (by kernel_rfl) (by kernel_rfl) (by kernel_rfl) rfl (fun _ _ _ h => h) rfl hHeld (fun w hS => by rfl) ?_
            simp only [List.setIfInBounds_toArray, List.set_cons_zero, List.set_cons_succ]
            refine held_done (by kernel_rfl) ?_
            go_wp2_with fail
            go_roundw
            case rel => exact ⟨0 + 1, by omega, by go_num, HU.out.trans hHeld⟩
            case measure => simp [intOf]; omega
        · as_aux_lemma =>
            obtain ⟨p, hpm⟩ : ∃ p, p + 1 = m := ⟨m - 1, by omega⟩
            obtain ⟨g', off', cv0, hge, -, hcl0, -, hwf0⟩ := HBL.out.get (i := p) (by omega)
            cases hge
            have hls := HGB.out.less_at (i := p) (by omega)
            rw [hpm, ← HF1.out] at hls
            obtain ⟨f0, hf0⟩ : ∃ f0, f0 = B.getD p FK.zero := ⟨_, rfl⟩
            rw [← hf0] at hcl0 hwf0 hls
            have HC0 := Lib.hid (hcl0.upd HU.out (by assumption) (by simp))
            have HWF0 := Lib.hid hwf0
            have HLS := Lib.hid hls
            have hwr : IntKind.i64.wrap ((m : Int) - 1) = (p : Int) := by rw [IntWalk.i64_in _ (by omega)]; omega
            have hp0 : (0 : Int) ≤ (p : Int) := by omega
            have hp1 : (p : Int) < (bn : Int) := by omega
            have hp2 : (0 : Int) < (m : Int) := by omega
            clear hcl0 hwf0 hls hf0 hpm
            refine held_start (fun w' => Upd [] wr w') 24 mixed rfl ((Upd.refl _ _).drew) (fun hHeld => ?_)
            refine held_take 0 35 (.int .i64 nodes) rfl (by kernel_rfl) (by kernel_rfl) (by kernel_rfl) rfl (fun _ _ _ h => h) rfl hHeld (fun w hS => by rfl) ?_
            simp only [List.setIfInBounds_toArray, List.set_cons_zero, List.set_cons_succ]
            refine held_take 1 36 (.slice (some ⟨g, off, none⟩) bn bc) rfl (by kernel_rfl) (by kernel_rfl) (by kernel_rfl) rfl (fun _ _ _ h => h) rfl hHeld (fun w hS => by rfl) ?_
            simp only [List.setIfInBounds_toArray, List.set_cons_zero, List.set_cons_succ]
            refine held_take 2 37 (.int .i64 (m : Nat)) rfl (by kernel_rfl) (by kernel_rfl) (by kernel_rfl) rfl (fun _ _ _ h => h) rfl hHeld (fun w hS => by rfl) ?_
            simp only [List.setIfInBounds_toArray, List.set_cons_zero, List.set_cons_succ]
            refine held_take 3 38 (.pointer (some ⟨g, off + (m) * 38, none⟩)) rfl (by kernel_rfl) (by kernel_rfl) (by kernel_rfl) rfl (fun _ _ _ h => h) rfl hHeld (fun w hS => by go_simp) ?_
            simp only [List.setIfInBounds_toArray, List.set_cons_zero, List.set_cons_succ]
            refine held_take 4 39 (.agg (encF f1 cv1).toArray) rfl (by kernel_rfl) (by kernel_rfl) (by kernel_rfl) rfl (fun _ _ _ h => h) rfl hHeld (fun w hS => by exact fact_load (.tmp 38) rfl rfl (HC1.out.upd hS hg (by simp)) HWF1.out) ?_
            simp only [List.setIfInBounds_toArray, List.set_cons_zero, List.set_cons_succ]
            refine held_next 5 40 rfl (by kernel_rfl) rfl rfl (fun K hK => ?_)
            go_simp
            refine (check_fi nodes HWF1.out (HCH1.out.upd0 hHeld)).mono ?_
            rw [HCK1.out]
            rintro e w6 ⟨rfl, hu6⟩
            have hk := hK.out (.int .i64 0) _ (hHeld.trans hu6)
            simp only [Act.put, List.setIfInBounds_toArray, List.set_cons_zero, List.set_cons_succ] at hk
            refine hk (fun hHeld => ?_)
            clear hK hk K
            refine held_take 6 41 (.bool false) rfl (by kernel_rfl) (by kernel_rfl) (by kernel_rfl) rfl (fun _ _ _ h => h) rfl hHeld (fun w hS => by go_simp) ?_
            simp only [List.setIfInBounds_toArray, List.set_cons_zero, List.set_cons_succ]
            refine held_take 7 42 (.bool false) rfl (by kernel_rfl) (by kernel_rfl) (by kernel_rfl) rfl (fun _ _ _ h => h) rfl hHeld (fun w hS => by rfl) ?_
            simp only [List.setIfInBounds_toArray, List.set_cons_zero, List.set_cons_succ]
            refine held_take 8 43 (.int .i64 (m : Nat)) rfl (by kernel_rfl) (by kernel_rfl) (by kernel_rfl) rfl (fun _ _ _ h => h) rfl hHeld (fun w hS => by rfl) ?_
            simp only [List.setIfInBounds_toArray, List.set_cons_zero, List.set_cons_succ]
            refine held_take 9 44 (.bool true) rfl (by kernel_rfl) (by kernel_rfl) (by kernel_rfl) rfl (fun _ _ _ h => h) rfl hHeld (fun w hS => by go_simp) ?_
            simp only [List.setIfInBounds_toArray, List.set_cons_zero, List.set_cons_succ]
            refine held_take 10 45 (.bool true) rfl (by kernel_rfl) (by kernel_rfl) (by kernel_rfl) rfl (fun _ _ _ h => h) rfl hHeld (fun w hS => by rfl) ?_
            simp only [List.setIfInBounds_toArray, List.set_cons_zero, List.set_cons_succ]
            refine held_take 11 46 (.slice (some ⟨g, off, none⟩) bn bc) rfl (by kernel_rfl) (by kernel_rfl) (by kernel_rfl) rfl (fun _ _ _ h => h) rfl hHeld (fun w hS => by rfl) ?_
            simp only [List.setIfInBounds_toArray, List.set_cons_zero, List.set_cons_succ]
            refine held_take 12 47 (.int .i64 (m : Nat)) rfl (by kernel_rfl) (by kernel_rfl) (by kernel_rfl) rfl (fun _ _ _ h => h) rfl hHeld (fun w hS => by rfl) ?_
            simp only [List.setIfInBounds_toArray, List.set_cons_zero, List.set_cons_succ]
            refine held_take 13 48 (.int .i64 (p : Nat)) rfl (by kernel_rfl) (by kernel_rfl) (by kernel_rfl) rfl (fun _ _ _ h => h) rfl hHeld (fun w hS => by go_simp) ?_
            simp only [List.setIfInBounds_toArray, List.set_cons_zero, List.set_cons_succ]
            refine held_take 14 49 (.pointer (some ⟨g, off + p * 38, none⟩)) rfl (by kernel_rfl) (by kernel_rfl) (by kernel_rfl) rfl (fun _ _ _ h => h) rfl hHeld (fun w hS => by go_simp) ?_
            simp only [List.setIfInBounds_toArray, List.set_cons_zero, List.set_cons_succ]
            refine held_take 15 50 (.agg (encF f0 cv0).toArray) rfl (by kernel_rfl) (by kernel_rfl) (by kernel_rfl) rfl (fun _ _ _ h => h) rfl hHeld (fun w hS => by exact fact_load (.tmp 49) rfl rfl (HC0.out.upd hS hg (by simp)) HWF0.out) ?_
            simp only [List.setIfInBounds_toArray, List.set_cons_zero, List.set_cons_succ]
            refine held_take 16 51 (.slice (some ⟨g, off, none⟩) bn bc) rfl (by kernel_rfl) (by kernel_rfl) (by kernel_rfl) rfl (fun _ _ _ h => h) rfl hHeld (fun w hS => by rfl) ?_
            simp only [List.setIfInBounds_toArray, List.set_cons_zero, List.set_cons_succ]
            refine held_take 17 52 (.int .i64 (m : Nat)) rfl (by kernel_rfl) (by kernel_rfl) (by kernel_rfl) rfl (fun _ _ _ h => h) rfl hHeld (fun w hS => by rfl) ?_
            simp only [List.setIfInBounds_toArray, List.set_cons_zero, List.set_cons_succ]
            refine held_take 18 53 (.pointer (some ⟨g, off + (m) * 38, none⟩)) rfl (by kernel_rfl) (by kernel_rfl) (by kernel_rfl) rfl (fun _ _ _ h => h) rfl hHeld (fun w hS => by go_simp) ?_
            simp only [List.setIfInBounds_toArray, List.set_cons_zero, List.set_cons_succ]
            refine held_take 19 54 (.agg (encF f1 cv1).toArray) rfl (by kernel_rfl) (by kernel_rfl) (by kernel_rfl) rfl (fun _ _ _ h => h) rfl hHeld (fun w hS => by exact fact_load (.tmp 53) rfl rfl (HC1.out.upd hS hg (by simp)) HWF1.out) ?_
            simp only [List.setIfInBounds_toArray, List.set_cons_zero, List.set_cons_succ]
            refine held_next 20 55 rfl (by kernel_rfl) rfl rfl (fun K hK => ?_)
            go_simp
            refine (less_any f0 f1 cv0 cv1 _).mono ?_
            rw [HLS.out]
            rintro e w7 ⟨rfl, hu7⟩
            have hk := hK.out (.bool true) _ (hHeld.trans hu7)
            simp only [Act.put, List.setIfInBounds_toArray, List.set_cons_zero, List.set_cons_succ] at hk
            refine hk (fun hHeld => ?_)
            clear hK hk K
            refine held_take 21 56 (.bool false) rfl (by kernel_rfl) (by kernel_rfl) (by kernel_rfl) rfl (fun _ _ _ h => h) rfl hHeld (fun w hS => by rfl) ?_
            simp only [List.setIfInBounds_toArray, List.set_cons_zero, List.set_cons_succ]
            refine held_take 22 57 (.bool false) rfl (by kernel_rfl) (by kernel_rfl) (by kernel_rfl) rfl (fun _ _ _ h => h) rfl hHeld (fun w hS => by rfl) ?_
            simp only [List.setIfInBounds_toArray, List.set_cons_zero, List.set_cons_succ]
            refine held_take 23 58 (.bool false) rfl (by kernel_rfl) (by kernel_rfl) (by kernel_rfl) rfl (fun _ _ _ h => h) rfl hHeld (fun w hS => by rfl) ?_
            simp only [List.setIfInBounds_toArray, List.set_cons_zero, List.set_cons_succ]
            refine held_done (by kernel_rfl) ?_
            go_wp2_with fail
            go_roundw
            case rel => exact ⟨m + 1, by omega, by go_num, HU.out.trans hHeld⟩
            case measure => simp [intOf]; omega
      · obtain rfl : bn = m := by omega
        clear hlt hm
        go_upto_region 14 with fail
        go_loopw [12] (fun i wx => ∃ (m : Nat), m ≤ an ∧ i = .int .i64 m ∧ Upd [] w5 wx) (fun i _ => an - (intOf i).toNat)
        case atStart => exact ⟨0, Nat.zero_le _, rfl, HU.out⟩
        case round =>
          clear HU
          obtain ⟨m, hm, rfl, hu⟩ := hrel
          have HU := Lib.hid hu
          clear hu
          by_cases hlt : m < an
          · have hlx : m < A.length := by rw [← HAN.out]; exact hlt
            obtain ⟨g, off, cv1, rfl, hg, hcl, hch, hwf⟩ := HA5.out.get hlx
            have hg := Nat.lt_of_lt_of_le hg HU.out.size
            have hsb := HSUB.out _ (getD_mem hlx)
            obtain ⟨f1, hf1⟩ : ∃ f1, f1 = A.getD m FK.zero := ⟨_, rfl⟩
            rw [← hf1] at hcl hsb
            have HC1 := Lib.hid (hcl.upd HU.out (Nat.lt_of_lt_of_le (by assumption) (Nat.le_refl _)) (by simp))
            have HSB := Lib.hid hsb
            have hx0 : (0 : Int) ≤ (m : Int) := by omega
            have hx1 : (m : Int) < (an : Int) := by omega
            have hbl1 : B.length ≤ 1000 := by rw [← HBN.out]; omega
            clear hcl hch hwf hsb hf1
            go_upto_region 16 with fail
            refine held_start (fun w' => Upd [] wr w') 18 mixed rfl ((Upd.refl _ _).drew) (fun hHeld => ?_)
            refine held_take 0 65 (.slice ba bn bc) rfl (by kernel_rfl) (by kernel_rfl) (by kernel_rfl) rfl (fun _ _ _ h => h) rfl hHeld (fun w hS => by rfl) ?_
            simp only [List.setIfInBounds_toArray, List.set_cons_zero, List.set_cons_succ]
            refine held_take 1 66 (.slice (some ⟨g, off, none⟩) an ac) rfl (by kernel_rfl) (by kernel_rfl) (by kernel_rfl) rfl (fun _ _ _ h => h) rfl hHeld (fun w hS => by rfl) ?_
            simp only [List.setIfInBounds_toArray, List.set_cons_zero, List.set_cons_succ]
            refine held_take 2 67 (.int .i64 (m : Nat)) rfl (by kernel_rfl) (by kernel_rfl) (by kernel_rfl) rfl (fun _ _ _ h => h) rfl hHeld (fun w hS => by rfl) ?_
            simp only [List.setIfInBounds_toArray, List.set_cons_zero, List.set_cons_succ]
            refine held_take 3 68 (.pointer (some ⟨g, off + m * 38, none⟩)) rfl (by kernel_rfl) (by kernel_rfl) (by kernel_rfl) rfl (fun _ _ _ h => h) rfl hHeld (fun w hS => by go_simp) ?_
            simp only [List.setIfInBounds_toArray, List.set_cons_zero, List.set_cons_succ]
            refine held_take 4 69 (.pointer (some ⟨g, off + m * 38, none⟩)) rfl (by kernel_rfl) (by kernel_rfl) (by kernel_rfl) rfl (fun _ _ _ h => h) rfl hHeld (fun w hS => by go_simp) ?_
            simp only [List.setIfInBounds_toArray, List.set_cons_zero, List.set_cons_succ]
            refine held_take 5 70 (.int .i64 f1.kind) rfl (by kernel_rfl) (by kernel_rfl) (by kernel_rfl) rfl (fun _ _ _ h => h) rfl hHeld (fun w hS => by have c : w.cell? ⟨g, off + m * 38, none⟩ = some (.int .i64 f1.kind) := (HC1.out.upd hS hg (by simp)) 0 _ rfl; go_simp) ?_
            simp only [List.setIfInBounds_toArray, List.set_cons_zero, List.set_cons_succ]
            refine held_take 6 71 (.slice (some ⟨g, off, none⟩) an ac) rfl (by kernel_rfl) (by kernel_rfl) (by kernel_rfl) rfl (fun _ _ _ h => h) rfl hHeld (fun w hS => by rfl) ?_
            simp only [List.setIfInBounds_toArray, List.set_cons_zero, List.set_cons_succ]
            refine held_take 7 72 (.int .i64 (m : Nat)) rfl (by kernel_rfl) (by kernel_rfl) (by kernel_rfl) rfl (fun _ _ _ h => h) rfl hHeld (fun w hS => by rfl) ?_
            simp only [List.setIfInBounds_toArray, List.set_cons_zero, List.set_cons_succ]
            refine held_take 8 73 (.pointer (some ⟨g, off + m * 38, none⟩)) rfl (by kernel_rfl) (by kernel_rfl) (by kernel_rfl) rfl (fun _ _ _ h => h) rfl hHeld (fun w hS => by go_simp) ?_
            simp only [List.setIfInBounds_toArray, List.set_cons_zero, List.set_cons_succ]
            refine held_take 9 74 (.pointer (some ⟨g, off + m * 38 + 1, none⟩)) rfl (by kernel_rfl) (by kernel_rfl) (by kernel_rfl) rfl (fun _ _ _ h => h) rfl hHeld (fun w hS => by go_simp) ?_
            simp only [List.setIfInBounds_toArray, List.set_cons_zero, List.set_cons_succ]
            refine held_take 10 75 (.int .i64 f1.epoch) rfl (by kernel_rfl) (by kernel_rfl) (by kernel_rfl) rfl (fun _ _ _ h => h) rfl hHeld (fun w hS => by have c : w.cell? ⟨g, off + m * 38 + 1, none⟩ = some (.int .i64 f1.epoch) := (HC1.out.upd hS hg (by simp)) 1 _ rfl; go_simp) ?_
            simp only [List.setIfInBounds_toArray, List.set_cons_zero, List.set_cons_succ]
            refine held_take 11 76 (.slice (some ⟨g, off, none⟩) an ac) rfl (by kernel_rfl) (by kernel_rfl) (by kernel_rfl) rfl (fun _ _ _ h => h) rfl hHeld (fun w hS => by rfl) ?_
            simp only [List.setIfInBounds_toArray, List.set_cons_zero, List.set_cons_succ]
            refine held_take 12 77 (.int .i64 (m : Nat)) rfl (by kernel_rfl) (by kernel_rfl) (by kernel_rfl) rfl (fun _ _ _ h => h) rfl hHeld (fun w hS => by rfl) ?_
            simp only [List.setIfInBounds_toArray, List.set_cons_zero, List.set_cons_succ]
            refine held_take 13 78 (.pointer (some ⟨g, off + m * 38, none⟩)) rfl (by kernel_rfl) (by kernel_rfl) (by kernel_rfl) rfl (fun _ _ _ h => h) rfl hHeld (fun w hS => by go_simp) ?_
            simp only [List.setIfInBounds_toArray, List.set_cons_zero, List.set_cons_succ]
            refine held_take 14 79 (.pointer (some ⟨g, off + m * 38 + 2, none⟩)) rfl (by kernel_rfl) (by kernel_rfl) (by kernel_rfl) rfl (fun _ _ _ h => h) rfl hHeld (fun w hS => by go_simp) ?_
            simp only [List.setIfInBounds_toArray, List.set_cons_zero, List.set_cons_succ]
            refine held_take 15 80 (.int .i64 f1.node) rfl (by kernel_rfl) (by kernel_rfl) (by kernel_rfl) rfl (fun _ _ _ h => h) rfl hHeld (fun w hS => by have c : w.cell? ⟨g, off + m * 38 + 2, none⟩ = some (.int .i64 f1.node) := (HC1.out.upd hS hg (by simp)) 2 _ rfl; go_simp) ?_
            simp only [List.setIfInBounds_toArray, List.set_cons_zero, List.set_cons_succ]
            refine held_next 16 81 rfl (by kernel_rfl) rfl rfl (fun K hK => ?_)
            go_simp
            refine (has_fi f1.kind f1.epoch f1.node ((HBL.out.upd0 HU.out).upd0 hHeld) hbl1).mono ?_
            rw [HSB.out]
            rintro e w6 ⟨rfl, hu6⟩
            have hk := hK.out (.bool true) _ (hHeld.trans hu6)
            simp only [Act.put, List.setIfInBounds_toArray, List.set_cons_zero, List.set_cons_succ] at hk
            refine hk (fun hHeld => ?_)
            clear hK hk K
            refine held_take 17 82 (.bool false) rfl (by kernel_rfl) (by kernel_rfl) (by kernel_rfl) rfl (fun _ _ _ h => h) rfl hHeld (fun w hS => by rfl) ?_
            simp only [List.setIfInBounds_toArray, List.set_cons_zero, List.set_cons_succ]
            refine held_done (by kernel_rfl) ?_
            go_wp2_with fail
            go_roundw
            case rel => exact ⟨m + 1, by omega, by go_num, HU.out.trans hHeld⟩
            case measure => simp [intOf]; omega
          · obtain rfl : an = m := by omega
            clear hlt hm
            have HU6 := Lib.hid (HU5.out.trans HU.out)
            have HB6 := Lib.hid (HB5.out.upd HU.out (by simp))
            have HBL6 := Lib.hid (HBL.out.upd0 HU.out)
            have HC6 := Lib.hid (HC.out.upd0 HU6.out)
            have HL6 := Lib.hid (CellsAt.of_blk HB6.out)
            have hbl1 : B.length ≤ 1000 := by rw [← HBN.out]; omega
            have hwr : IntKind.i64.wrap ((an : Int) + 1) = (an : Int) + 1 := IntWalk.i64_in _ (by omega)
            have hle : decide ((bn : Int) ≤ (an : Int) + 1) = true := by simp; omega
            have HKEY2 := HKEY
            rcases HKEY2.out with ⟨k1, k2, k3, k4⟩ | ⟨k1, k2, k3⟩
            · have HK4 := Lib.hid k4
              clear k4
              go_wp2_with (first
                | ((with_reducible show wpList _ _ _ (⟨some 86, _, _, _, _, _⟩ :: _) _ _); refine wpList_run rfl (fact_load (.tmp 5) rfl rfl HL6.out HF.out) ?_)
                | (go_at_call 20; refine (check_fi nodes HF.out HC6.out).mono ?_; rw [← HECK.out]; rintro e w7 ⟨rfl, hu7⟩
                   have hb7 := HB6.out.upd hu7 (by simp)
                   have c0 : w7.cell? ⟨tb, 0, none⟩ = some (.int .i64 f.kind) := hb7.cell (o := 0) rfl
                   have c1 : w7.cell? ⟨tb, 1, none⟩ = some (.int .i64 f.epoch) := hb7.cell (o := 1) rfl
                   have c2 : w7.cell? ⟨tb, 2, none⟩ = some (.int .i64 f.node) := hb7.cell (o := 2) rfl
                   have HBL7 := Lib.hid (HBL6.out.upd0 hu7)
                   have HU7 := Lib.hid (HU6.out.trans hu7)
                   clear hu7 hb7)
                | (go_at_call 22; refine (has_fi f.kind f.epoch f.node HBL7.out hbl1).mono ?_; rw [HK4.out]; rintro e w8 ⟨rfl, hu8⟩
                   have HU8 := Lib.hid (HU7.out.trans hu8)
                   clear hu8))
              go_ret
              exact ⟨rfl, HU8.out.toBelow⟩
            · go_wp2_with (first
                | ((with_reducible show wpList _ _ _ (⟨some 86, _, _, _, _, _⟩ :: _) _ _); refine wpList_run rfl (fact_load (.tmp 5) rfl rfl HL6.out HF.out) ?_)
                | (go_at_call 20; refine (check_fi nodes HF.out HC6.out).mono ?_; rw [← HECK.out]; rintro e w7 ⟨rfl, hu7⟩
                   have HU7 := Lib.hid (HU6.out.trans hu7)
                   clear hu7))
              go_ret
              exact ⟨rfl, HU7.out.toBelow⟩

end Go.Proofs.Ytbdmnmjdnfpfbaa
