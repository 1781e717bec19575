/- The walk of LatticeBest. (Printed by wip/tools/gen_best.py.) -/
import Derived.Test.YtbdmnmjdnfpfbaaLatY
import Derived.Test.YtbdmnmjdnfpfbaaLatV
namespace Go.Proofs.Ytbdmnmjdnfpfbaa
open Go.ChangeShapes Go.WideShapes Go.ChangeAt Go.RowKit

set_option maxRecDepth 100000 in
set_option maxHeartbeats 4000000 in
theorem LatticeBest.walk (nodes : Int) (v : Value) (L : List FK) (u : Value) (M : List FK) (maj : Int) (w : World) (_ : (Lit.int .i64 nodes).wf = true) (h : FI w v L) (hm : FI w u M) (hmw : (Lit.int .i64 maj).wf = true) :
    Calls Try.prog 11 #[.int .i64 nodes, v, u, .int .i64 maj] w fun e w' => e = .returned (.bool true) ∧ Below w.heap.size w w' := by
  obtain ⟨A, hA⟩ : ∃ A, A = grownL nodes L 40 := ⟨_, rfl⟩
  obtain ⟨G, hG⟩ : ∃ G, G = grownL nodes M 40 := ⟨_, rfl⟩
  obtain ⟨B, hB⟩ : ∃ B, B = mergeL nodes A G := ⟨_, rfl⟩
  have hga : Good nodes A := by rw [hA]; exact Good.grown _ _ _
  have hal : A.length ≤ 40 := by rw [hA]; exact grownL_len _ _ _
  have hgl : G.length ≤ 40 := by rw [hG]; exact grownL_len _ _ _
  have hbl : B.length ≤ A.length + G.length := by rw [hB]; exact mergeL_len2 _ _ _
  obtain ⟨best, hbest⟩ : ∃ x, x = bestL A maj := ⟨_, rfl⟩
  have hnm : nextL A ≤ nextL B := by rw [hB]; exact next_more
  have hab : ∀ e, abortedL A e maj = true → abortedL B e maj = true := fun e he => by rw [hB]; exact aborted_more he
  have hbm : ∀ f ∈ A, f.kind = 1 → best < f.epoch → abortedL A f.epoch maj = true := fun f hf hk hb => best_most hf hk (by rw [← hbest]; exact hb)
  have hbi : best ≠ 0 → (manL A best).2 = true ∧ abortedL A best maj = false := fun hb => by rw [hbest] at hb ⊢; exact best_is hb
  have hna : ∀ f ∈ A, (ofN f.epoch).2 < nextL A := fun f hf => next_above hf
  have hcl : ∀ f ∈ A, f.chunks.length ≤ 1000 := ok_less_1000 hga
  have HAL : Hid (A.length ≤ 1000) := Lib.hid (by omega)
  have HBL : Hid (B.length ≤ 1000) := Lib.hid (by omega)
  obtain ⟨nA, hnA⟩ : ∃ x, x = nextL A := ⟨_, rfl⟩
  obtain ⟨nB, hnB⟩ : ∃ x, x = nextL B := ⟨_, rfl⟩
  rw [← hnA, ← hnB] at hnm
  rw [← hnA] at hna
  have HNM := Lib.hid hnm
  have HAB := Lib.hid hab
  have HBM := Lib.hid hbm
  have HBI := Lib.hid hbi
  have HNA := Lib.hid hna
  have HCL := Lib.hid hcl
  have HEA := Lib.hid hA
  have HEG := Lib.hid hG
  have HEB := Lib.hid hB
  have HEBEST := Lib.hid hbest
  have HENA := Lib.hid hnA
  have HENB := Lib.hid hnB
  have HFI := Lib.hid h
  have HFM := Lib.hid hm
  obtain ⟨a0, c0, rfl⟩ := h.form
  obtain ⟨m0, d0, rfl⟩ := hm.form
  clear hga hal hgl hbl hnm hab hbm hbi hna hcl hA hG hB hbest hnA hnB h hm hmw
  go_enter Try.func11, Try.ntmps11
  go_upto_region 4 with (go_at_call 12; refine (awake_any _).mono ?_; rintro e w2 ⟨rfl, hu2⟩
                         have HU2 := Lib.hid hu2
                         clear hu2)
  go_upto_region 5 with (go_at_call 13; refine (grown_fi nodes 40 (HFI.out.upd0 HU2.out)).mono ?_; rw [← HEA.out]; rintro e w3 ⟨av, rfl, ha, hu3⟩
                         have HA3 := Lib.hid ha
                         obtain ⟨aa, ac, rfl⟩ := ha.form
                         have HU3 := Lib.hid (HU2.out.trans hu3)
                         clear ha hu3)
  clear HU2
  obtain ⟨an, han⟩ : ∃ n, n = A.length := ⟨_, rfl⟩
  rw [← han] at HA3 ⊢
  have HAN := Lib.hid han
  have han2 : an ≤ 1000 := by rw [han]; exact HAL.out
  clear han
  go_upto_region 6 with (first
    | (go_at_call 13; refine (grown_fi nodes 40 (HFM.out.upd0 HU3.out)).mono ?_; rw [← HEG.out]; rintro e w4 ⟨gv, rfl, hg, hu4⟩
       have HG4 := Lib.hid hg
       have HA4 := Lib.hid (HA3.out.upd0 hu4)
       have HU4 := Lib.hid (HU3.out.trans hu4)
       clear hg hu4)
    | (go_at_call 16; refine (merge_fi nodes HA4.out HG4.out HAL.out).mono ?_; rw [← HEB.out]; rintro e w5 ⟨bv, rfl, hb, hu5⟩
       have HB5 := Lib.hid hb
       obtain ⟨ba, bc, rfl⟩ := hb.form
       have HA5 := Lib.hid (HA4.out.upd0 hu5)
       have HU5 := Lib.hid (HU4.out.trans hu5)
       clear hb hu5))
  clear HA3 HU3 HG4 HA4 HU4 HFM HFI
  obtain ⟨bn, hbn⟩ : ∃ n, n = B.length := ⟨_, rfl⟩
  rw [← hbn] at HB5 ⊢
  have HBN := Lib.hid hbn
  clear hbn
  go_upto_region 7 with (go_at_call 32; refine (best_fi maj HA5.out HAL.out).mono ?_; rw [← HEBEST.out]; rintro e w6 ⟨rfl, hu6⟩
                         have HA6 := Lib.hid (HA5.out.upd0 hu6)
                         have HB6 := Lib.hid (HB5.out.upd0 hu6)
                         have HU6 := Lib.hid (HU5.out.trans hu6)
                         clear hu6)
  clear HA5 HB5 HU5
  by_cases hz : best = 0
  · have hz' : (best != 0) = false := by simp [hz]
    have HZ := Lib.hid hz
    clear hz
    go_upto_region 12 with fail
    clear hz'
    have HA := HA6
    have HB := HB6
    have HU := HU6
    clear HA6 HB6 HU6
    as_aux_lemma =>
      go_loopw [15] (fun i wx => ∃ (m : Nat), m ≤ an ∧ i = .int .i64 m ∧ FI wx (.slice aa an ac) A ∧ FI wx (.slice ba bn bc) B ∧ Upd [] w wx) (fun i _ => an - (intOf i).toNat)
      case atStart => exact ⟨0, Nat.zero_le _, rfl, HA.out, HB.out, HU.out⟩
      case round =>
        clear HA HB HU
        obtain ⟨m, hm, rfl, ha, hb, hu⟩ := hrel
        have HA := Lib.hid ha
        have HB := Lib.hid hb
        have HU := Lib.hid hu
        clear ha hb hu
        by_cases hlt : m < an
        · have hlx : m < A.length := by rw [← HAN.out]; exact hlt
          obtain ⟨g, off, cv1, rfl, hg, hcl, -, -⟩ := HA.out.get hlx
          have hmem := getD_mem hlx
          obtain ⟨f1, hf1⟩ : ∃ f1, f1 = A.getD m FK.zero := ⟨_, rfl⟩
          rw [← hf1] at hcl hmem
          obtain ⟨ep, hep⟩ : ∃ x, x = f1.epoch := ⟨_, rfl⟩
          obtain ⟨kd, hkd⟩ : ∃ x, x = f1.kind := ⟨_, rfl⟩
          have cc0 : wr.cell? ⟨g, off + m * 38, none⟩ = some (.int .i64 kd) := by rw [hkd]; exact hcl 0 _ rfl
          have cc1 : wr.cell? ⟨g, off + m * 38 + 1, none⟩ = some (.int .i64 ep) := by rw [hep]; exact hcl 1 _ rfl
          have hbm := HBM.out f1 hmem
          have hna := HNA.out f1 hmem
          rw [← hep] at hbm hna
          rw [← hkd] at hbm
          have hx0 : (0 : Int) ≤ (m : Int) := by omega
          have hx1 : (m : Int) < (an : Int) := by omega
          obtain ⟨b1, hb1⟩ : ∃ b, b = abortedL A ep maj := ⟨_, rfl⟩
          obtain ⟨b2, hb2⟩ : ∃ b, b = abortedL B ep maj := ⟨_, rfl⟩
          have h12 : b1 = true → b2 = true := by rw [hb1, hb2]; exact HAB.out ep
          rw [← hb1] at hbm
          have HB1 := Lib.hid hb1
          have HB2 := Lib.hid hb2
          have hnn : (ofN ep).2 < nA := hna
          have HNN := Lib.hid hnn
          clear hcl hmem hf1 hep hkd hna hb1 hb2 hnn
          go_upto_region 15 with fail
          cases b1 with
          | true =>
            obtain rfl : b2 = true := h12 rfl
            clear h12 hbm
            have hnt : (!true) = false := rfl
            by_cases hk : kd = 1
            · subst hk
              by_cases hb : best < ep
              · (go_upto_region 17 with (first
                  | (go_at_call 24; (with_reducible show Calls _ _ #[.slice ba bn bc, _, _] _ _); refine (aborted_fi ep maj HB.out HBL.out).mono ?_; rw [← HB2.out]; rintro e w6 ⟨rfl, hu6⟩
                     have HA := Lib.hid (HA.out.upd0 hu6)
                     have HB := Lib.hid (HB.out.upd0 hu6)
                     have HU := Lib.hid (HU.out.trans hu6)
                     clear hu6)
                  | (go_at_call 24; refine (aborted_fi ep maj HA.out HAL.out).mono ?_; rw [← HB1.out]; rintro e w6 ⟨rfl, hu6⟩
                     have HA := Lib.hid (HA.out.upd0 hu6)
                     have HB := Lib.hid (HB.out.upd0 hu6)
                     have HU := Lib.hid (HU.out.trans hu6)
                     clear hu6)))
                have hnn : (ofN ep).2 < nA := HNN.out
                go_wp2_with (first
                  | (go_at_call 37; refine (of_any ep _).mono ?_; rintro e _ ⟨rfl, rfl⟩)
                  | (go_at_call 34; refine (next_fi HA.out).mono ?_; rw [← HENA.out]; rintro e w7 ⟨rfl, hu7⟩
                     have HA7 := Lib.hid (HA.out.upd0 hu7)
                     have HB7 := Lib.hid (HB.out.upd0 hu7)
                     have HU7 := Lib.hid (HU.out.trans hu7)
                     clear hu7))
                go_roundw
                case rel => exact ⟨m + 1, by omega, by go_num, HA7.out, HB7.out, HU7.out⟩
                case measure => simp [intOf]; omega
              · (go_upto_region 17 with (first
                  | (go_at_call 24; (with_reducible show Calls _ _ #[.slice ba bn bc, _, _] _ _); refine (aborted_fi ep maj HB.out HBL.out).mono ?_; rw [← HB2.out]; rintro e w6 ⟨rfl, hu6⟩
                     have HA := Lib.hid (HA.out.upd0 hu6)
                     have HB := Lib.hid (HB.out.upd0 hu6)
                     have HU := Lib.hid (HU.out.trans hu6)
                     clear hu6)
                  | (go_at_call 24; refine (aborted_fi ep maj HA.out HAL.out).mono ?_; rw [← HB1.out]; rintro e w6 ⟨rfl, hu6⟩
                     have HA := Lib.hid (HA.out.upd0 hu6)
                     have HB := Lib.hid (HB.out.upd0 hu6)
                     have HU := Lib.hid (HU.out.trans hu6)
                     clear hu6)))
                have hnn : (ofN ep).2 < nA := HNN.out
                go_wp2_with (first
                  | (go_at_call 37; refine (of_any ep _).mono ?_; rintro e _ ⟨rfl, rfl⟩)
                  | (go_at_call 34; refine (next_fi HA.out).mono ?_; rw [← HENA.out]; rintro e w7 ⟨rfl, hu7⟩
                     have HA7 := Lib.hid (HA.out.upd0 hu7)
                     have HB7 := Lib.hid (HB.out.upd0 hu7)
                     have HU7 := Lib.hid (HU.out.trans hu7)
                     clear hu7))
                go_roundw
                case rel => exact ⟨m + 1, by omega, by go_num, HA7.out, HB7.out, HU7.out⟩
                case measure => simp [intOf]; omega
            · have hk' : (kd == 1) = false := by simpa using hk
              (go_upto_region 17 with (first
                | (go_at_call 24; (with_reducible show Calls _ _ #[.slice ba bn bc, _, _] _ _); refine (aborted_fi ep maj HB.out HBL.out).mono ?_; rw [← HB2.out]; rintro e w6 ⟨rfl, hu6⟩
                   have HA := Lib.hid (HA.out.upd0 hu6)
                   have HB := Lib.hid (HB.out.upd0 hu6)
                   have HU := Lib.hid (HU.out.trans hu6)
                   clear hu6)
                | (go_at_call 24; refine (aborted_fi ep maj HA.out HAL.out).mono ?_; rw [← HB1.out]; rintro e w6 ⟨rfl, hu6⟩
                   have HA := Lib.hid (HA.out.upd0 hu6)
                   have HB := Lib.hid (HB.out.upd0 hu6)
                   have HU := Lib.hid (HU.out.trans hu6)
                   clear hu6)))
              have hnn : (ofN ep).2 < nA := HNN.out
              go_wp2_with (first
                | (go_at_call 37; refine (of_any ep _).mono ?_; rintro e _ ⟨rfl, rfl⟩)
                | (go_at_call 34; refine (next_fi HA.out).mono ?_; rw [← HENA.out]; rintro e w7 ⟨rfl, hu7⟩
                   have HA7 := Lib.hid (HA.out.upd0 hu7)
                   have HB7 := Lib.hid (HB.out.upd0 hu7)
                   have HU7 := Lib.hid (HU.out.trans hu7)
                   clear hu7))
              go_roundw
              case rel => exact ⟨m + 1, by omega, by go_num, HA7.out, HB7.out, HU7.out⟩
              case measure => simp [intOf]; omega
          | false =>
            clear h12
            by_cases hk : kd = 1
            · subst hk
              have hb : ¬ best < ep := fun hb => by have := hbm rfl hb; cases this
              clear hbm
              (go_upto_region 17 with (first
                | (go_at_call 24; (with_reducible show Calls _ _ #[.slice ba bn bc, _, _] _ _); refine (aborted_fi ep maj HB.out HBL.out).mono ?_; rw [← HB2.out]; rintro e w6 ⟨rfl, hu6⟩
                   have HA := Lib.hid (HA.out.upd0 hu6)
                   have HB := Lib.hid (HB.out.upd0 hu6)
                   have HU := Lib.hid (HU.out.trans hu6)
                   clear hu6)
                | (go_at_call 24; refine (aborted_fi ep maj HA.out HAL.out).mono ?_; rw [← HB1.out]; rintro e w6 ⟨rfl, hu6⟩
                   have HA := Lib.hid (HA.out.upd0 hu6)
                   have HB := Lib.hid (HB.out.upd0 hu6)
                   have HU := Lib.hid (HU.out.trans hu6)
                   clear hu6)))
              have hnn : (ofN ep).2 < nA := HNN.out
              go_wp2_with (first
                | (go_at_call 37; refine (of_any ep _).mono ?_; rintro e _ ⟨rfl, rfl⟩)
                | (go_at_call 34; refine (next_fi HA.out).mono ?_; rw [← HENA.out]; rintro e w7 ⟨rfl, hu7⟩
                   have HA7 := Lib.hid (HA.out.upd0 hu7)
                   have HB7 := Lib.hid (HB.out.upd0 hu7)
                   have HU7 := Lib.hid (HU.out.trans hu7)
                   clear hu7))
              go_roundw
              case rel => exact ⟨m + 1, by omega, by go_num, HA7.out, HB7.out, HU7.out⟩
              case measure => simp [intOf]; omega
            · have hk' : (kd == 1) = false := by simpa using hk
              clear hbm
              (go_upto_region 17 with (first
                | (go_at_call 24; (with_reducible show Calls _ _ #[.slice ba bn bc, _, _] _ _); refine (aborted_fi ep maj HB.out HBL.out).mono ?_; rw [← HB2.out]; rintro e w6 ⟨rfl, hu6⟩
                   have HA := Lib.hid (HA.out.upd0 hu6)
                   have HB := Lib.hid (HB.out.upd0 hu6)
                   have HU := Lib.hid (HU.out.trans hu6)
                   clear hu6)
                | (go_at_call 24; refine (aborted_fi ep maj HA.out HAL.out).mono ?_; rw [← HB1.out]; rintro e w6 ⟨rfl, hu6⟩
                   have HA := Lib.hid (HA.out.upd0 hu6)
                   have HB := Lib.hid (HB.out.upd0 hu6)
                   have HU := Lib.hid (HU.out.trans hu6)
                   clear hu6)))
              have hnn : (ofN ep).2 < nA := HNN.out
              go_wp2_with (first
                | (go_at_call 37; refine (of_any ep _).mono ?_; rintro e _ ⟨rfl, rfl⟩)
                | (go_at_call 34; refine (next_fi HA.out).mono ?_; rw [← HENA.out]; rintro e w7 ⟨rfl, hu7⟩
                   have HA7 := Lib.hid (HA.out.upd0 hu7)
                   have HB7 := Lib.hid (HB.out.upd0 hu7)
                   have HU7 := Lib.hid (HU.out.trans hu7)
                   clear hu7))
              go_roundw
              case rel => exact ⟨m + 1, by omega, by go_num, HA7.out, HB7.out, HU7.out⟩
              case measure => simp [intOf]; omega
        · obtain rfl : an = m := by omega
          clear hlt hm
          have hnm : nA ≤ nB := HNM.out
          go_wp2_with (first
            | (go_at_call 34; (with_reducible show Calls _ _ #[.slice ba bn bc] _ _); refine (next_fi HB.out).mono ?_; rw [← HENB.out]; rintro e w7 ⟨rfl, hu7⟩
               have HA7 := Lib.hid (HA.out.upd0 hu7)
               have HU7 := Lib.hid (HU.out.trans hu7)
               clear hu7)
            | (go_at_call 34; refine (next_fi HA7.out).mono ?_; rw [← HENA.out]; rintro e w8 ⟨rfl, hu8⟩
               have HU8 := Lib.hid (HU7.out.trans hu8)
               clear hu8))
          go_ret
          exact ⟨rfl, HU8.out.toBelow⟩
  · have hz' : (best != 0) = true := by simp [hz]
    obtain ⟨hi1, hi2⟩ := HBI.out hz
    have HI1 := Lib.hid hi1
    have HI2 := Lib.hid hi2
    clear hz hi1 hi2
    go_upto_region 9 with (first
      | (refine wpList_alloc rfl 29 rfl zero_man fun w8 hb8 hu8 hs8 => ?_)
      | (refine wpList_storeA rfl 29 (.tmp 13) (.tmp 40) rfl rfl rfl hb8 info_man (encM_size HWF.out _) (encM_size FK.zero_wf _) (encM_one' HCI.out) fun w9 hb9 hu9 hs9 => ?_)
      | (go_at_call 26; refine (manifest_fi best HA6.out HAL.out HCL.out).mono ?_; rw [HI1.out]; rintro e w7 ⟨cv, rfl, hci, hwf, hu7⟩
         have HCI := Lib.hid hci
         have HWF := Lib.hid hwf
         have HA7 := Lib.hid (HA6.out.upd0 hu7)
         have HB7 := Lib.hid (HB6.out.upd0 hu7)
         have HU7 := Lib.hid (HU6.out.trans hu7)
         clear hci hwf hu7))
    clear hz'
    have hu9' : Upd [] w7 w9 := hu8.then hu9 (by simp)
    have HA9 := Lib.hid (HA7.out.upd0 hu9')
    have HB9 := Lib.hid (HB7.out.upd0 hu9')
    have HU9 := Lib.hid (HU7.out.trans hu9')
    obtain ⟨tb, htb⟩ : ∃ x, x = w7.heap.size := ⟨_, rfl⟩
    rw [← htb]
    clear htb hu9' hb8 hu8 hs8 hb9 hu9 hs9 HA6 HB6 HU6 HA7 HB7 HU7 HCI HWF
    go_upto_region 12 with (go_at_call 24; refine (aborted_fi best maj HA9.out HAL.out).mono ?_; rw [HI2.out]; rintro e w10 ⟨rfl, hu10⟩
                            have HA := Lib.hid (HA9.out.upd0 hu10)
                            have HB := Lib.hid (HB9.out.upd0 hu10)
                            have HU := Lib.hid (HU9.out.trans hu10)
                            clear hu10)
    clear HA9 HB9 HU9
    as_aux_lemma =>
      go_loopw [15] (fun i wx => ∃ (m : Nat), m ≤ an ∧ i = .int .i64 m ∧ FI wx (.slice aa an ac) A ∧ FI wx (.slice ba bn bc) B ∧ Upd [] w wx) (fun i _ => an - (intOf i).toNat)
      case atStart => exact ⟨0, Nat.zero_le _, rfl, HA.out, HB.out, HU.out⟩
      case round =>
        clear HA HB HU
        obtain ⟨m, hm, rfl, ha, hb, hu⟩ := hrel
        have HA := Lib.hid ha
        have HB := Lib.hid hb
        have HU := Lib.hid hu
        clear ha hb hu
        by_cases hlt : m < an
        · have hlx : m < A.length := by rw [← HAN.out]; exact hlt
          obtain ⟨g, off, cv1, rfl, hg, hcl, -, -⟩ := HA.out.get hlx
          have hmem := getD_mem hlx
          obtain ⟨f1, hf1⟩ : ∃ f1, f1 = A.getD m FK.zero := ⟨_, rfl⟩
          rw [← hf1] at hcl hmem
          obtain ⟨ep, hep⟩ : ∃ x, x = f1.epoch := ⟨_, rfl⟩
          obtain ⟨kd, hkd⟩ : ∃ x, x = f1.kind := ⟨_, rfl⟩
          have cc0 : wr.cell? ⟨g, off + m * 38, none⟩ = some (.int .i64 kd) := by rw [hkd]; exact hcl 0 _ rfl
          have cc1 : wr.cell? ⟨g, off + m * 38 + 1, none⟩ = some (.int .i64 ep) := by rw [hep]; exact hcl 1 _ rfl
          have hbm := HBM.out f1 hmem
          have hna := HNA.out f1 hmem
          rw [← hep] at hbm hna
          rw [← hkd] at hbm
          have hx0 : (0 : Int) ≤ (m : Int) := by omega
          have hx1 : (m : Int) < (an : Int) := by omega
          obtain ⟨b1, hb1⟩ : ∃ b, b = abortedL A ep maj := ⟨_, rfl⟩
          obtain ⟨b2, hb2⟩ : ∃ b, b = abortedL B ep maj := ⟨_, rfl⟩
          have h12 : b1 = true → b2 = true := by rw [hb1, hb2]; exact HAB.out ep
          rw [← hb1] at hbm
          have HB1 := Lib.hid hb1
          have HB2 := Lib.hid hb2
          have hnn : (ofN ep).2 < nA := hna
          have HNN := Lib.hid hnn
          clear hcl hmem hf1 hep hkd hna hb1 hb2 hnn
          go_upto_region 15 with fail
          cases b1 with
          | true =>
            obtain rfl : b2 = true := h12 rfl
            clear h12 hbm
            have hnt : (!true) = false := rfl
            by_cases hk : kd = 1
            · subst hk
              by_cases hb : best < ep
              · (go_upto_region 17 with (first
                  | (go_at_call 24; (with_reducible show Calls _ _ #[.slice ba bn bc, _, _] _ _); refine (aborted_fi ep maj HB.out HBL.out).mono ?_; rw [← HB2.out]; rintro e w6 ⟨rfl, hu6⟩
                     have HA := Lib.hid (HA.out.upd0 hu6)
                     have HB := Lib.hid (HB.out.upd0 hu6)
                     have HU := Lib.hid (HU.out.trans hu6)
                     clear hu6)
                  | (go_at_call 24; refine (aborted_fi ep maj HA.out HAL.out).mono ?_; rw [← HB1.out]; rintro e w6 ⟨rfl, hu6⟩
                     have HA := Lib.hid (HA.out.upd0 hu6)
                     have HB := Lib.hid (HB.out.upd0 hu6)
                     have HU := Lib.hid (HU.out.trans hu6)
                     clear hu6)))
                have hnn : (ofN ep).2 < nA := HNN.out
                go_wp2_with (first
                  | (go_at_call 37; refine (of_any ep _).mono ?_; rintro e _ ⟨rfl, rfl⟩)
                  | (go_at_call 34; refine (next_fi HA.out).mono ?_; rw [← HENA.out]; rintro e w7 ⟨rfl, hu7⟩
                     have HA7 := Lib.hid (HA.out.upd0 hu7)
                     have HB7 := Lib.hid (HB.out.upd0 hu7)
                     have HU7 := Lib.hid (HU.out.trans hu7)
                     clear hu7))
                go_roundw
                case rel => exact ⟨m + 1, by omega, by go_num, HA7.out, HB7.out, HU7.out⟩
                case measure => simp [intOf]; omega
              · (go_upto_region 17 with (first
                  | (go_at_call 24; (with_reducible show Calls _ _ #[.slice ba bn bc, _, _] _ _); refine (aborted_fi ep maj HB.out HBL.out).mono ?_; rw [← HB2.out]; rintro e w6 ⟨rfl, hu6⟩
                     have HA := Lib.hid (HA.out.upd0 hu6)
                     have HB := Lib.hid (HB.out.upd0 hu6)
                     have HU := Lib.hid (HU.out.trans hu6)
                     clear hu6)
                  | (go_at_call 24; refine (aborted_fi ep maj HA.out HAL.out).mono ?_; rw [← HB1.out]; rintro e w6 ⟨rfl, hu6⟩
                     have HA := Lib.hid (HA.out.upd0 hu6)
                     have HB := Lib.hid (HB.out.upd0 hu6)
                     have HU := Lib.hid (HU.out.trans hu6)
                     clear hu6)))
                have hnn : (ofN ep).2 < nA := HNN.out
                go_wp2_with (first
                  | (go_at_call 37; refine (of_any ep _).mono ?_; rintro e _ ⟨rfl, rfl⟩)
                  | (go_at_call 34; refine (next_fi HA.out).mono ?_; rw [← HENA.out]; rintro e w7 ⟨rfl, hu7⟩
                     have HA7 := Lib.hid (HA.out.upd0 hu7)
                     have HB7 := Lib.hid (HB.out.upd0 hu7)
                     have HU7 := Lib.hid (HU.out.trans hu7)
                     clear hu7))
                go_roundw
                case rel => exact ⟨m + 1, by omega, by go_num, HA7.out, HB7.out, HU7.out⟩
                case measure => simp [intOf]; omega
            · have hk' : (kd == 1) = false := by simpa using hk
              (go_upto_region 17 with (first
                | (go_at_call 24; (with_reducible show Calls _ _ #[.slice ba bn bc, _, _] _ _); refine (aborted_fi ep maj HB.out HBL.out).mono ?_; rw [← HB2.out]; rintro e w6 ⟨rfl, hu6⟩
                   have HA := Lib.hid (HA.out.upd0 hu6)
                   have HB := Lib.hid (HB.out.upd0 hu6)
                   have HU := Lib.hid (HU.out.trans hu6)
                   clear hu6)
                | (go_at_call 24; refine (aborted_fi ep maj HA.out HAL.out).mono ?_; rw [← HB1.out]; rintro e w6 ⟨rfl, hu6⟩
                   have HA := Lib.hid (HA.out.upd0 hu6)
                   have HB := Lib.hid (HB.out.upd0 hu6)
                   have HU := Lib.hid (HU.out.trans hu6)
                   clear hu6)))
              have hnn : (ofN ep).2 < nA := HNN.out
              go_wp2_with (first
                | (go_at_call 37; refine (of_any ep _).mono ?_; rintro e _ ⟨rfl, rfl⟩)
                | (go_at_call 34; refine (next_fi HA.out).mono ?_; rw [← HENA.out]; rintro e w7 ⟨rfl, hu7⟩
                   have HA7 := Lib.hid (HA.out.upd0 hu7)
                   have HB7 := Lib.hid (HB.out.upd0 hu7)
                   have HU7 := Lib.hid (HU.out.trans hu7)
                   clear hu7))
              go_roundw
              case rel => exact ⟨m + 1, by omega, by go_num, HA7.out, HB7.out, HU7.out⟩
              case measure => simp [intOf]; omega
          | false =>
            clear h12
            by_cases hk : kd = 1
            · subst hk
              have hb : ¬ best < ep := fun hb => by have := hbm rfl hb; cases this
              clear hbm
              (go_upto_region 17 with (first
                | (go_at_call 24; (with_reducible show Calls _ _ #[.slice ba bn bc, _, _] _ _); refine (aborted_fi ep maj HB.out HBL.out).mono ?_; rw [← HB2.out]; rintro e w6 ⟨rfl, hu6⟩
                   have HA := Lib.hid (HA.out.upd0 hu6)
                   have HB := Lib.hid (HB.out.upd0 hu6)
                   have HU := Lib.hid (HU.out.trans hu6)
                   clear hu6)
                | (go_at_call 24; refine (aborted_fi ep maj HA.out HAL.out).mono ?_; rw [← HB1.out]; rintro e w6 ⟨rfl, hu6⟩
                   have HA := Lib.hid (HA.out.upd0 hu6)
                   have HB := Lib.hid (HB.out.upd0 hu6)
                   have HU := Lib.hid (HU.out.trans hu6)
                   clear hu6)))
              have hnn : (ofN ep).2 < nA := HNN.out
              go_wp2_with (first
                | (go_at_call 37; refine (of_any ep _).mono ?_; rintro e _ ⟨rfl, rfl⟩)
                | (go_at_call 34; refine (next_fi HA.out).mono ?_; rw [← HENA.out]; rintro e w7 ⟨rfl, hu7⟩
                   have HA7 := Lib.hid (HA.out.upd0 hu7)
                   have HB7 := Lib.hid (HB.out.upd0 hu7)
                   have HU7 := Lib.hid (HU.out.trans hu7)
                   clear hu7))
              go_roundw
              case rel => exact ⟨m + 1, by omega, by go_num, HA7.out, HB7.out, HU7.out⟩
              case measure => simp [intOf]; omega
            · have hk' : (kd == 1) = false := by simpa using hk
              clear hbm
              (go_upto_region 17 with (first
                | (go_at_call 24; (with_reducible show Calls _ _ #[.slice ba bn bc, _, _] _ _); refine (aborted_fi ep maj HB.out HBL.out).mono ?_; rw [← HB2.out]; rintro e w6 ⟨rfl, hu6⟩
                   have HA := Lib.hid (HA.out.upd0 hu6)
                   have HB := Lib.hid (HB.out.upd0 hu6)
                   have HU := Lib.hid (HU.out.trans hu6)
                   clear hu6)
                | (go_at_call 24; refine (aborted_fi ep maj HA.out HAL.out).mono ?_; rw [← HB1.out]; rintro e w6 ⟨rfl, hu6⟩
                   have HA := Lib.hid (HA.out.upd0 hu6)
                   have HB := Lib.hid (HB.out.upd0 hu6)
                   have HU := Lib.hid (HU.out.trans hu6)
                   clear hu6)))
              have hnn : (ofN ep).2 < nA := HNN.out
              go_wp2_with (first
                | (go_at_call 37; refine (of_any ep _).mono ?_; rintro e _ ⟨rfl, rfl⟩)
                | (go_at_call 34; refine (next_fi HA.out).mono ?_; rw [← HENA.out]; rintro e w7 ⟨rfl, hu7⟩
                   have HA7 := Lib.hid (HA.out.upd0 hu7)
                   have HB7 := Lib.hid (HB.out.upd0 hu7)
                   have HU7 := Lib.hid (HU.out.trans hu7)
                   clear hu7))
              go_roundw
              case rel => exact ⟨m + 1, by omega, by go_num, HA7.out, HB7.out, HU7.out⟩
              case measure => simp [intOf]; omega
        · obtain rfl : an = m := by omega
          clear hlt hm
          have hnm : nA ≤ nB := HNM.out
          go_wp2_with (first
            | (go_at_call 34; (with_reducible show Calls _ _ #[.slice ba bn bc] _ _); refine (next_fi HB.out).mono ?_; rw [← HENB.out]; rintro e w7 ⟨rfl, hu7⟩
               have HA7 := Lib.hid (HA.out.upd0 hu7)
               have HU7 := Lib.hid (HU.out.trans hu7)
               clear hu7)
            | (go_at_call 34; refine (next_fi HA7.out).mono ?_; rw [← HENA.out]; rintro e w8 ⟨rfl, hu8⟩
               have HU8 := Lib.hid (HU7.out.trans hu8)
               clear hu8))
          go_ret
          exact ⟨rfl, HU8.out.toBelow⟩

end Go.Proofs.Ytbdmnmjdnfpfbaa
