/- The walk of LatticeTells. -/
import Derived.Test.YtbdmnmjdnfpfbaaLatRD
import Derived.Test.YtbdmnmjdnfpfbaaLatRG
import Derived.Test.YtbdmnmjdnfpfbaaLatRE
import Derived.Test.YtbdmnmjdnfpfbaaLatS
import Derived.Test.YtbdmnmjdnfpfbaaLatT
import Derived.Test.YtbdmnmjdnfpfbaaSame
namespace Go.Proofs.Ytbdmnmjdnfpfbaa
open Go.ChangeShapes Go.WideShapes Go.ChangeAt Go.RowKit

theorem manL_chunks {L : List FK} (epoch : Int) (h : ∀ f ∈ L, f.chunks.length ≤ 1000) : (manL L epoch).1.chunks.length ≤ 1000 := by
  unfold manL
  split
  · exact Nat.zero_le _
  · rename_i f t hf
    exact h f (List.mem_filter.1 (show f ∈ allL L 1 epoch by rw [hf]; exact List.mem_cons_self)).1

set_option maxRecDepth 100000 in
set_option maxHeartbeats 4000000 in
theorem LatticeTells.walk (nodes : Int) (v : Value) (L : List FK) (kind epoch majority : Int) (w : World) (_ : (Lit.int .i64 nodes).wf = true) (h : FI w v L) (_ : (Lit.int .i64 kind).wf = true) (_ : (Lit.int .i64 epoch).wf = true) (_ : (Lit.int .i64 majority).wf = true) :
    Calls Try.prog 10 #[.int .i64 nodes, v, .int .i64 kind, .int .i64 epoch, .int .i64 majority] w fun e w' => e = .returned (.bool true) ∧ Below w.heap.size w w' := by
  have hnm := h.maxLen
  have HF := Lib.hid h
  obtain ⟨a, cap, rfl⟩ := h.form
  obtain ⟨n, hn⟩ : ∃ n, n = L.length := ⟨_, rfl⟩
  rw [← hn] at HF hnm ⊢
  have HN := Lib.hid hn
  clear hn h
  go_enter Try.func10, Try.ntmps10
  go_upto_region 7 with (go_at_call 12; refine (awake_any _).mono ?_; rintro e w2 ⟨rfl, hu2⟩
                         have HU2 := Lib.hid hu2
                         clear hu2)
  go_loopw [12, 13, 14] (fun av bv i wx => ∃ (m : Nat) (C : List FK), m ≤ n ∧ m ≤ 40 ∧ i = .int .i64 m ∧ C = mergeL nodes [] ((L.take m).filter FK.few) ∧ FI wx av C ∧ FI wx bv C ∧ Upd [] w wx) (fun _ _ i _ => n - (intOf i).toNat)
  case atStart => exact ⟨0, [], Nat.zero_le _, Nat.zero_le _, rfl, rfl, FI.nil _, FI.nil _, HU2.out⟩
  case round =>
    clear HU2
    obtain ⟨m, C, hm, hmm, rfl, hC, ha, hb, hu⟩ := hrel
    have HEC := Lib.hid hC
    have HA := Lib.hid ha
    have HB := Lib.hid hb
    have HU := Lib.hid hu
    obtain ⟨aa, ac, rfl⟩ := ha.form
    obtain ⟨ba, bc, rfl⟩ := hb.form
    have HGC : Hid (Good nodes C) := Lib.hid (by rw [hC]; exact Good.merge _ (Good.nil nodes))
    have HLC : Hid (C.length ≤ 900) := Lib.hid (by rw [hC]; exact mergeL_le nodes (by omega) _ _ (by simp))
    clear hC ha hb hu
    by_cases hend : m < n ∧ m < 40
    · obtain ⟨hlt, hlm⟩ := hend
      have hlx : m < L.length := by rw [← HN.out]; exact hlt
      obtain ⟨g, off, cv, rfl, hg, hcl, hch, hwf⟩ := HF.out.get hlx
      have hfs := filter_snoc FK.few L m hlx FK.zero
      obtain ⟨f, hf⟩ : ∃ f, f = L.getD m FK.zero := ⟨_, rfl⟩
      rw [← hf] at hcl hch hwf hfs
      have hgx := Nat.lt_of_lt_of_le hg HU.out.size
      have HC := Lib.hid (hcl.upd HU.out hg (by simp))
      have HCH := Lib.hid (hch.upd0 HU.out)
      have HWF := Lib.hid hwf
      have HFS := Lib.hid hfs
      have hx0 : (0 : Int) ≤ (m : Int) := by omega
      have hx1 : (m : Int) < (n : Int) := by omega
      have hx2 : (m : Int) < 40 := by omega
      obtain ⟨fw, hfw⟩ : ∃ x, x = f.few := ⟨_, rfl⟩
      rw [← hfw] at HFS
      have HFW := Lib.hid (few_any f cv wr HCH.out)
      rw [← hfw] at HFW
      clear hcl hch hwf hfs hf hfw hg
      go_upto_region 10 with (first
        | ((with_reducible show wpList _ _ _ (⟨some 46, _, _, _, _, _⟩ :: _) _ _); refine wpList_run rfl (fact_load (.tmp 45) rfl rfl HC.out HWF.out) ?_)
        | (go_at_call 14; refine HFW.out.mono ?_; rintro e w4 ⟨rfl, hu4⟩
           have HU4 := Lib.hid (HU.out.trans hu4)
           have HC4 := Lib.hid (HC.out.upd hu4 hgx (by simp))
           have HCH4 := Lib.hid (HCH.out.upd0 hu4)
           have HA4 := Lib.hid (HA.out.upd0 hu4)
           have HB4 := Lib.hid (HB.out.upd0 hu4)
           have hg4 := Nat.lt_of_lt_of_le hgx hu4.size
           clear hu4))
      cases fw with
      | false =>
        have HCE : Hid (C = mergeL nodes [] ((L.take (m + 1)).filter FK.few)) := Lib.hid (by rw [HFS.out, HEC.out]; simp)
        go_wp2_with fail
        go_roundw
        case rel => exact ⟨m + 1, C, by omega, by omega, by go_num, HCE.out, HA4.out, HB4.out, HU4.out⟩
        case measure => simp [intOf]; omega
      | true =>
        obtain ⟨D, hD⟩ : ∃ D, D = addL nodes C f := ⟨_, rfl⟩
        have HDE : Hid (D = mergeL nodes [] ((L.take (m + 1)).filter FK.few)) := Lib.hid (by rw [HFS.out, if_pos rfl, mergeL_snoc, ← HEC.out, hD])
        have HDC : Hid (∀ f ∈ D, f.chunks.length ≤ 1000) := Lib.hid (by rw [hD]; exact ok_less_1000 (HGC.out.add f))
        obtain ⟨cd, hcd⟩ : ∃ x, x = addCode nodes C f := ⟨_, rfl⟩
        have HED := Lib.hid hD
        have HECD := Lib.hid hcd
        clear hD hcd
        have hnt : (!true) = false := rfl
        go_upto_region 12 with (first
          | ((with_reducible show wpList _ _ _ (⟨some 56, _, _, _, _, _⟩ :: _) _ _); refine wpList_run rfl (fact_load (.tmp 55) rfl rfl HC4.out HWF.out) ?_)
          | (go_at_call 19; refine (add_fi nodes HA4.out HWF.out HCH4.out (by have := HLC.out; omega)).mono ?_; rw [← HECD.out, ← HED.out]; rintro e w5 ⟨xv, rfl, hx5, hu5⟩
             have HX5 := Lib.hid hx5
             have HU5 := Lib.hid (HU4.out.trans hu5)
             have HC5 := Lib.hid (HC4.out.upd hu5 hg4 (by simp))
             have HCH5 := Lib.hid (HCH4.out.upd0 hu5)
             have HB5 := Lib.hid (HB4.out.upd0 hu5)
             clear hx5 hu5))
        go_upto_region 13 with (first
          | ((with_reducible show wpList _ _ _ (⟨some 66, _, _, _, _, _⟩ :: _) _ _); refine wpList_run rfl (fact_load (.tmp 65) rfl rfl HC5.out HWF.out) ?_)
          | (go_at_call 25; refine (radd_fi nodes HB5.out HWF.out HCH5.out HLC.out).mono ?_; rw [← HECD.out, ← HED.out]; rintro e w6 ⟨yv, rfl, hy6, hu6⟩
             have HY6 := Lib.hid hy6
             have HX6 := Lib.hid (HX5.out.upd0 hu6)
             have HU6 := Lib.hid (HU5.out.trans hu6)
             clear hy6 hu6))
        go_wp2_with (go_at_call 15; refine (same11_yes HX6.out HY6.out HDC.out).mono ?_; rintro e w7 ⟨rfl, hu7⟩
                     have HX7 := Lib.hid (HX6.out.upd0 hu7)
                     have HY7 := Lib.hid (HY6.out.upd0 hu7)
                     have HU7 := Lib.hid (HU6.out.trans hu7)
                     clear hu7)
        go_roundw
        case rel => exact ⟨m + 1, D, by omega, by omega, by go_num, HDE.out, HX7.out, HY7.out, HU7.out⟩
        case measure => simp [intOf]; omega
    · have HL1 : Hid (C.length ≤ 1000) := Lib.hid (by have := HLC.out; omega)
      have HCC : Hid (∀ f ∈ C, f.chunks.length ≤ 1000) := Lib.hid (ok_less_1000 HGC.out)
      obtain ⟨mn, hmn⟩ : ∃ x, x = manL C epoch := ⟨_, rfl⟩
      have HMC : Hid (mn.1.chunks.length ≤ 1000) := Lib.hid (by rw [hmn]; exact manL_chunks epoch HCC.out)
      obtain ⟨W, hW⟩ : ∃ x, x = whoL C kind epoch := ⟨_, rfl⟩
      obtain ⟨ab, hab⟩ : ∃ x, x = abortedL C epoch majority := ⟨_, rfl⟩
      obtain ⟨bs, hbs⟩ : ∃ x, x = bestL C majority := ⟨_, rfl⟩
      obtain ⟨nx, hnx⟩ : ∃ x, x = nextL C := ⟨_, rfl⟩
      obtain ⟨hs, hhs⟩ : ∃ x, x = hasL C kind epoch majority := ⟨_, rfl⟩
      have HMN := Lib.hid hmn
      have HW := Lib.hid hW
      have HAB := Lib.hid hab
      have HBS := Lib.hid hbs
      have HNX := Lib.hid hnx
      have HHS := Lib.hid hhs
      obtain ⟨mf, mb⟩ := mn
      have hq : m = n ∨ ((40 : Int) < (n : Int) ∧ m = 40) := by
        by_cases h : m < n
        · right; exact ⟨by omega, by omega⟩
        · left; omega
      clear hend hm hmm hmn hW hab hbs hnx hhs
      rcases hq with rfl | ⟨q1, rfl⟩
      all_goals
        go_upto_region 19 with (first
          | (refine wpList_alloc rfl 29 rfl zero_man fun w8 hb8 hu8 hs8 => ?_)
          | (refine wpList_storeA rfl 29 (.tmp 21) (.tmp 86) rfl rfl rfl hb8 info_man (encM_size HWF1.out _) (encM_size FK.zero_wf _) (encM_one' HCI1.out) fun w9 hb9 hu9 hs9 => ?_)
          | (go_at_call 26; refine (manifest_fi epoch HA.out HL1.out HCC.out).mono ?_; rw [← HMN.out]; rintro e w7 ⟨cv1, rfl, hci, hwf, hu7⟩
             have HCI1 : Hid (CI w7 cv1 mf.chunks) := Lib.hid hci
             have HWF1 : Hid mf.WF := Lib.hid hwf
             have HA7 := Lib.hid (HA.out.upd0 hu7)
             have HB7 := Lib.hid (HB.out.upd0 hu7)
             have HU7 := Lib.hid (HU.out.trans hu7)
             clear hci hwf hu7))
        obtain ⟨tb, htb⟩ : ∃ x, x = w7.heap.size := ⟨_, rfl⟩
        rw [← htb] at hb9 ⊢
        have hu9' : Upd [] w7 w9 := hu8.then hu9 (by simp)
        have HA9 := Lib.hid (HA7.out.upd0 hu9')
        have HB9 := Lib.hid (HB7.out.upd0 hu9')
        have HU9 := Lib.hid (HU7.out.trans hu9')
        have HCI9 := Lib.hid (HCI1.out.upd0 hu9')
        have HM9 := Lib.hid hb9
        clear hb8 hu8 hs8 hb9 hu9 hs9 hu9' htb HA7 HB7 HU7
        go_upto_region 20 with (first
          | (refine wpList_alloc rfl 29 rfl zero_man fun w11 hb11 hu11 hs11 => ?_)
          | (refine wpList_storeA rfl 29 (.tmp 23) (.tmp 92) rfl rfl rfl hb11 info_man (encM_size HWF1.out _) (encM_size FK.zero_wf _) (encM_one' HCI2.out) fun w12 hb12 hu12 hs12 => ?_)
          | (go_at_call 27; refine (rmanifest_fi epoch HB9.out).mono ?_; rw [← HMN.out]; rintro e w10 ⟨cv2, rfl, hci, -, hu10⟩
             have HCI2 : Hid (CI w10 cv2 mf.chunks) := Lib.hid hci
             have HA10 := Lib.hid (HA9.out.upd0 hu10)
             have HB10 := Lib.hid (HB9.out.upd0 hu10)
             have HU10 := Lib.hid (HU9.out.trans hu10)
             have HCI10 := Lib.hid (HCI9.out.upd0 hu10)
             have HM10 := Lib.hid (HM9.out.upd hu10 (by simp))
             clear hci hu10))
        obtain ⟨tc, htc⟩ : ∃ x, x = w10.heap.size := ⟨_, rfl⟩
        rw [← htc] at hb12 ⊢
        have hu12' : Upd [] w10 w12 := hu11.then hu12 (by simp)
        have HA := Lib.hid (HA10.out.upd0 hu12')
        have HB := Lib.hid (HB10.out.upd0 hu12')
        have HU := Lib.hid (HU10.out.trans hu12')
        have HCI1 := Lib.hid (HCI10.out.upd0 hu12')
        have HCI2 := Lib.hid (HCI2.out.upd0 hu12')
        have HM1 := Lib.hid (CellsAt.of_blk (HM10.out.upd hu12' (by simp)))
        have HM2 := Lib.hid (CellsAt.of_blk hb12)
        clear hb11 hu11 hs11 hb12 hu12 hs12 hu12' htc HA9 HB9 HU9 HCI9 HM9 HA10 HB10 HU10 HCI10 HM10
        go_upto_region 21 with (first
          | ((with_reducible show wpList _ _ _ (⟨some 94, _, _, _, _, _⟩ :: _) _ _); refine wpList_run rfl (man_load (.tmp 21) rfl rfl HM1.out HWF1.out) ?_)
          | ((with_reducible show wpList _ _ _ (⟨some 95, _, _, _, _, _⟩ :: _) _ _); refine wpList_run rfl (man_load (.tmp 23) rfl rfl HM2.out HWF1.out) ?_)
          | (go_at_call 28; refine (same05_yes HWF1.out HCI1.out HCI2.out HMC.out).mono ?_; rintro e w13 ⟨rfl, hu13⟩
             have HA := Lib.hid (HA.out.upd0 hu13)
             have HB := Lib.hid (HB.out.upd0 hu13)
             have HU := Lib.hid (HU.out.trans hu13)
             clear hu13))
        clear HM1 HM2 HCI1 HCI2
        go_upto_region 23 with (first
          | (go_at_call 23; refine (who_fi kind epoch HA.out HL1.out).mono ?_; rw [← HW.out]; rintro e w14 ⟨wv, rfl, hw, hu14⟩
             have HI1 : Hid (IntsAt w14 wv W) := Lib.hid (IntsAt.of_own hw rfl)
             have HA := Lib.hid (HA.out.upd0 hu14)
             have HB := Lib.hid (HB.out.upd0 hu14)
             have HU := Lib.hid (HU.out.trans hu14)
             clear hw hu14)
          | (go_at_call 30; refine (rwho_fi kind epoch HB.out HL1.out).mono ?_; rw [← HW.out]; rintro e w15 ⟨zv, rfl, hw, hu15⟩
             have HI2 : Hid (IntsAt w15 zv W) := Lib.hid (IntsAt.of_own hw rfl)
             have HI1 := Lib.hid (HI1.out.upd0 hu15)
             have HA := Lib.hid (HA.out.upd0 hu15)
             have HB := Lib.hid (HB.out.upd0 hu15)
             have HU := Lib.hid (HU.out.trans hu15)
             clear hw hu15)
          | (go_at_call 29; refine (same_any _ _ W W _ HI1.out HI2.out).mono ?_; rw [show eqB W W = true by unfold eqB; simp]; rintro e w16 ⟨rfl, hu16⟩
             have HA := Lib.hid (HA.out.upd0 hu16)
             have HB := Lib.hid (HB.out.upd0 hu16)
             have HU := Lib.hid (HU.out.trans hu16)
             clear hu16))
        clear HI1 HI2
        go_upto_region 24 with (first
          | (go_at_call 24; refine (aborted_fi epoch majority HA.out HL1.out).mono ?_; rw [← HAB.out]; rintro e w17 ⟨rfl, hu17⟩
             have HA := Lib.hid (HA.out.upd0 hu17)
             have HB := Lib.hid (HB.out.upd0 hu17)
             have HU := Lib.hid (HU.out.trans hu17)
             clear hu17)
          | (go_at_call 31; refine (raborted_fi epoch majority HB.out HL1.out).mono ?_; rw [← HAB.out]; rintro e w17 ⟨rfl, hu17⟩
             have HA := Lib.hid (HA.out.upd0 hu17)
             have HB := Lib.hid (HB.out.upd0 hu17)
             have HU := Lib.hid (HU.out.trans hu17)
             clear hu17)
          | (go_at_call 32; refine (best_fi majority HA.out HL1.out).mono ?_; rw [← HBS.out]; rintro e w17 ⟨rfl, hu17⟩
             have HA := Lib.hid (HA.out.upd0 hu17)
             have HB := Lib.hid (HB.out.upd0 hu17)
             have HU := Lib.hid (HU.out.trans hu17)
             clear hu17)
          | (go_at_call 33; refine (rbest_fi majority HB.out HL1.out).mono ?_; rw [← HBS.out]; rintro e w17 ⟨rfl, hu17⟩
             have HA := Lib.hid (HA.out.upd0 hu17)
             have HB := Lib.hid (HB.out.upd0 hu17)
             have HU := Lib.hid (HU.out.trans hu17)
             clear hu17))
        go_upto_region 25 with (first
          | (go_at_call 34; refine (next_fi HA.out).mono ?_; rw [← HNX.out]; rintro e w17 ⟨rfl, hu17⟩
             have HA := Lib.hid (HA.out.upd0 hu17)
             have HB := Lib.hid (HB.out.upd0 hu17)
             have HU := Lib.hid (HU.out.trans hu17)
             clear hu17)
          | (go_at_call 35; refine (rnext_fi HB.out).mono ?_; rw [← HNX.out]; rintro e w17 ⟨rfl, hu17⟩
             have HA := Lib.hid (HA.out.upd0 hu17)
             have HB := Lib.hid (HB.out.upd0 hu17)
             have HU := Lib.hid (HU.out.trans hu17)
             clear hu17)
          | (go_at_call 22; refine (has_fi kind epoch majority HA.out HL1.out).mono ?_; rw [← HHS.out]; rintro e w17 ⟨rfl, hu17⟩
             have HA := Lib.hid (HA.out.upd0 hu17)
             have HB := Lib.hid (HB.out.upd0 hu17)
             have HU := Lib.hid (HU.out.trans hu17)
             clear hu17)
          | (go_at_call 36; refine (rhas_fi kind epoch majority HB.out).mono ?_; rw [← HHS.out]; rintro e w17 ⟨rfl, hu17⟩
             have HA := Lib.hid (HA.out.upd0 hu17)
             have HB := Lib.hid (HB.out.upd0 hu17)
             have HU := Lib.hid (HU.out.trans hu17)
             clear hu17))
        go_wp2_with fail
        go_ret
        exact ⟨rfl, HU.out.toBelow⟩

end Go.Proofs.Ytbdmnmjdnfpfbaa
