/- The walk of LatticeMerges. -/
import Derived.Test.YtbdmnmjdnfpfbaaLatRE
import Derived.Test.YtbdmnmjdnfpfbaaLatS
import Derived.Test.YtbdmnmjdnfpfbaaLatT
namespace Go.Proofs.Ytbdmnmjdnfpfbaa
open Go.ChangeShapes Go.WideShapes Go.ChangeAt Go.RowKit

set_option maxRecDepth 100000 in
set_option maxHeartbeats 4000000 in
theorem LatticeMerges.walk (nodes : Int) (v1 : Value) (L1 : List FK) (v2 : Value) (L : List FK) (w : World) (_ : (Lit.int .i64 nodes).wf = true) (h1 : FI w v1 L1) (h2 : FI w v2 L) :
    Calls Try.prog 4 #[.int .i64 nodes, v1, v2] w fun e w' => e = .returned (.bool true) ∧ Below w.heap.size w w' := by
  obtain ⟨X, hX⟩ : ∃ X, X = grownL nodes L1 40 := ⟨_, rfl⟩
  have gx : Good nodes X := by rw [hX]; exact Good.grown _ _ _
  have lx : X.length ≤ 40 := by rw [hX]; exact grownL_len _ _ _
  have HEX := Lib.hid hX
  have HGM := Lib.hid (fun b => ok_less_1000 (Good.merge b gx))
  have HLX : Hid (X.length ≤ 900) := Lib.hid (by omega)
  have H1 := Lib.hid h1
  obtain ⟨a1, c1, rfl⟩ := h1.form
  obtain ⟨T, hT, htl⟩ := h2
  have HFT := Lib.hid hT
  have HTL := Lib.hid htl
  obtain ⟨a, cap, cvs0, rfl, hcap1, hcap2, -⟩ := hT
  obtain ⟨n, hn⟩ : ∃ n, n = L.length := ⟨_, rfl⟩
  have HN := Lib.hid hn
  have hnm : n ≤ maxLen := by omega
  unfold maxLen at hnm
  rw [← hn] at HFT ⊢
  clear hn htl hcap1 hcap2 hX gx lx h1
  go_enter Try.func4, Try.ntmps4
  go_upto_region 4 with (go_at_call 12; refine (awake_any _).mono ?_; rintro e w2 ⟨rfl, hu2⟩
                         have HU2 := Lib.hid hu2
                         clear hu2)
  go_upto_region 7 with (go_at_call 13; refine (grown_fi nodes 40 (H1.out.upd0 HU2.out)).mono ?_; rw [← HEX.out]; rintro e w3 ⟨xv, rfl, hx, hu3⟩
                         have HX := Lib.hid hx
                         obtain ⟨xa, xc, rfl⟩ := hx.form
                         have HU3 := Lib.hid (HU2.out.trans hu3)
                         clear hx hu3)
  clear HU2 H1
  go_loopw [9, 10] (fun ov i wx => ∃ (m : Nat) (cvs : List Value), m ≤ n ∧ m ≤ 40 ∧ i = .int .i64 m ∧ OL wx w3.heap.size ov ((L.take m).filter FK.few) cvs T ∧ Upd [] w3 wx) (fun _ i _ => n - (intOf i).toNat)
  case atStart => exact ⟨0, [], Nat.zero_le _, Nat.zero_le _, rfl, ⟨World.ownsRow_nil _ _ _ _, ChunksL.nil _ _, fun f hf => by simp at hf⟩, Upd.refl _ _⟩
  case round =>
    obtain ⟨m, cvs, hm, hmm, rfl, ho, hu⟩ := hrel
    have HO := Lib.hid ho
    have HU := Lib.hid hu
    obtain ⟨oa, oc, rfl⟩ := own_slice ho.own
    obtain ⟨k, hk⟩ : ∃ k, k = ((L.take m).filter FK.few).length := ⟨_, rfl⟩
    have hfl : k ≤ m := by rw [hk]; exact Nat.le_trans (List.length_filter_le _ _) (by rw [List.length_take]; omega)
    have HK := Lib.hid hk
    rw [← hk]
    clear ho hu hk
    have hol := HO.out
    rw [← HK.out] at hol
    have HOX := Lib.hid hol
    clear hol
    have HTL3 : Hid (∀ y ∈ T, y < w3.heap.size) := Lib.hid (fun y hy => Nat.lt_of_lt_of_le (HTL.out y hy) HU3.out.size)
    by_cases hend : m < n ∧ m < 40
    · obtain ⟨hlt, hlm⟩ := hend
      have hlx : m < L.length := by rw [← HN.out]; exact hlt
      obtain ⟨g, off, cv, rfl, hg, hgT, hcl, hch, hwf⟩ := HFT.out.get hlx
      have hfs := filter_snoc FK.few L m hlx FK.zero
      obtain ⟨f, hf⟩ : ∃ f, f = L.getD m FK.zero := ⟨_, rfl⟩
      rw [← hf] at hcl hch hwf hfs
      have hg3 := Nat.lt_of_lt_of_le hg (Nat.le_trans HU3.out.size HU.out.size)
      have HC := Lib.hid (hcl.upd (HU3.out.trans HU.out) hg (by simp))
      have HCH := Lib.hid (hch.upd0 (HU3.out.trans HU.out))
      have HWF := Lib.hid hwf
      have HFS := Lib.hid hfs
      have hx0 : (0 : Int) ≤ (m : Int) := by omega
      have hx1 : (m : Int) < (n : Int) := by omega
      have hx2 : (m : Int) < 40 := by omega
      have hz4 := HU.out.size
      obtain ⟨fw, hfw⟩ : ∃ x, x = f.few := ⟨_, rfl⟩
      rw [← hfw] at HFS
      have HFW := Lib.hid (few_any f cv wr ⟨T, HCH.out, fun y hy => Nat.lt_of_lt_of_le (HTL3.out y hy) hz4⟩)
      rw [← hfw] at HFW
      clear hcl hch hwf hfs hf hfw
      go_upto_region 10 with (first
        | ((with_reducible show wpList _ _ _ (⟨some 31, _, _, _, _, _⟩ :: _) _ _); refine wpList_run rfl (fact_load (.tmp 30) rfl rfl HC.out HWF.out) ?_)
        | (go_at_call 14; refine HFW.out.mono ?_; rintro e w4 ⟨rfl, hu4⟩
           have HU4 := Lib.hid (HU.out.trans hu4)
           have HC4 := Lib.hid (HC.out.upd hu4 hg3 (by simp))
           have HCH4 := Lib.hid (HCH.out.upd0 hu4)
           have HO4 := Lib.hid (HO.out.upd0 hu4)
           clear hu4))
      cases fw with
      | false =>
        have htk : (L.take (m + 1)).filter FK.few = (L.take m).filter FK.few := by rw [HFS.out]; simp
        have HTK := Lib.hid htk
        clear htk
        go_wp2_with fail
        go_roundw
        case rel => exact ⟨m + 1, cvs, by omega, by omega, by go_num, by rw [HTK.out, HK.out]; exact HO4.out, HU4.out⟩
        case measure => simp [intOf]; omega
      | true =>
        have htk : (L.take (m + 1)).filter FK.few = (L.take m).filter FK.few ++ [f] := by rw [HFS.out]; simp
        have HTK := Lib.hid htk
        have hown := HO4.out.own
        rw [← HK.out] at hown
        have HOWN := Lib.hid hown
        have hz5 := HU4.out.size
        clear htk hown
        go_wp2_with (first
          | ((with_reducible show wpList _ _ _ (⟨some 38, _, _, _, _, _⟩ :: _) _ _); refine wpList_run rfl (fact_load (.tmp 37) rfl rfl HC4.out HWF.out) ?_)
          | ((with_reducible show wpList _ _ _ (⟨some 39, _, _, _, _, _⟩ :: _) _ _)
             go_loud (refine wpList_push 39 40 23 31 (.tmp 34) (.tmp 38) (.agg (encF FK.zero (.slice none 0 0)).toArray) 38 96 Try.underlying23 info_factB rfl (by omega) (by omega) w3.heap.size (.slice oa k oc) k _ (.agg (encF f cv).toArray) rfl rfl rfl rfl rfl rfl (by simp) (by simp [Act.put]) rfl rfl HOWN.out (encF_size HWF.out _) (encF_one' HCH4.out) (by unfold maxLen; omega) (by omega) (by omega) ?_)
             intro g' cap' w5 ho5 hu5 hat5 hlt5 hb5
             have HO5 := Lib.hid ho5
             have HU5 := Lib.hid hu5
             clear ho5 hu5 hat5 hlt5 hb5))
        go_roundw
        case rel =>
          have hrowlt : ∀ y ∈ (Value.slice oa k oc).ownBlock.toList, w3.heap.size ≤ y := fun y hy => (HOWN.out.lt y (by simpa using hy)).1
          refine ⟨m + 1, cvs ++ [cv], by omega, by omega, by go_num, ?_, HU4.out.then HU5.out (fun y hy => .inr (hrowlt y hy))⟩
          rw [HTK.out]
          have hol := HO4.out
          rw [← HK.out] at hol
          exact hol.push HK.out HWF.out HCH4.out HTL3.out HO5.out HU5.out
        case measure => simp [intOf]; omega
    · have HFL : Hid (FI wr (.slice oa k oc) ((L.take m).filter FK.few)) := Lib.hid (by
        have h0 := HO.out
        rw [← HK.out] at h0
        refine ⟨_, h0.at, fun y hy => ?_⟩
        rcases List.mem_append.1 hy with h1 | h1
        · have h2 := HO.out.own
          rw [← HK.out] at h2
          exact (h2.lt y (by simpa using h1)).2
        · exact Nat.lt_of_lt_of_le (HTL3.out y h1) HU.out.size)
      have HX2 := Lib.hid (HX.out.upd0 HU.out)
      have HU6 := Lib.hid (HU3.out.trans HU.out)
      have hq : m = n ∨ ((40 : Int) < (n : Int) ∧ m = 40) := by
        by_cases h : m < n
        · right; exact ⟨by omega, by omega⟩
        · left; omega
      clear hend hm hmm
      rcases hq with rfl | ⟨q1, rfl⟩
      all_goals
        go_wp2_with (first
          | (go_at_call 15; refine (same11_yes HM1.out HM2.out (HGM.out _)).mono ?_; rintro e w8 ⟨rfl, hu8⟩
             have HU8 := Lib.hid (HU6.out.trans hu8)
             clear hu8)
          | (go_at_call 17; refine (rmerge_fi nodes HX2.out HFL.out HLX.out).mono ?_; rintro e w8 ⟨mv, rfl, hm8, hu8⟩
             have HM2 := Lib.hid hm8
             have HM1 := Lib.hid (HM1.out.upd0 hu8)
             have HU6 := Lib.hid (HU6.out.trans hu8)
             clear hm8 hu8)
          | (go_at_call 16; refine (merge_fi nodes HX2.out HFL.out (by have := HLX.out; omega)).mono ?_; rintro e w7 ⟨mv, rfl, hm7, hu7⟩
             have HM1 := Lib.hid hm7
             have HX2 := Lib.hid (HX2.out.upd0 hu7)
             have HFL := Lib.hid (HFL.out.upd0 hu7)
             have HU6 := Lib.hid (HU6.out.trans hu7)
             clear hm7 hu7))
        go_ret
        exact ⟨rfl, HU8.out.toBelow⟩

end Go.Proofs.Ytbdmnmjdnfpfbaa
