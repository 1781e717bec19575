/- The walks of the document's Best and Manifest. -/
import Derived.Test.YtbdmnmjdnfpfbaaLatRF
import Derived.Test.YtbdmnmjdnfpfbaaLatY
namespace Go.Proofs.Ytbdmnmjdnfpfbaa
open Go.ChangeShapes Go.WideShapes Go.ChangeAt Go.RowKit

set_option maxRecDepth 100000 in
set_option maxHeartbeats 2000000 in
theorem rbest_fi {w : World} {v : Value} {L : List FK} (maj : Int) (h : FI w v L) (hl : L.length ≤ 1000) :
    Calls Try.prog 33 #[v, .int .i64 maj] w fun e w' => e = .returned (.int .i64 (bestL L maj)) ∧ Upd [] w w' := by
  have HF := Lib.hid h
  obtain ⟨a, cap, rfl⟩ := h.form
  obtain ⟨n, hn⟩ : ∃ n, n = L.length := ⟨_, rfl⟩
  have HL : Hid (L.length ≤ 1000) := Lib.hid hl
  rw [← hn] at HF hl ⊢
  have HN := Lib.hid hn
  clear hn h
  go_enter Try.func33, Try.ntmps33
  go_upto_region 3 with fail
  go_loopw [5, 6] (fun b i wx => ∃ (m : Nat), m ≤ n ∧ i = .int .i64 m ∧ b = .int .i64 ((L.take m).foldl (bestStep L maj) 0) ∧ Upd [] w wx) (fun _ i _ => n - (intOf i).toNat)
  case atStart => exact ⟨0, Nat.zero_le _, rfl, rfl, Upd.refl _ _⟩
  case round =>
    obtain ⟨m, hm, rfl, rfl, hu⟩ := hrel
    have HU := Lib.hid hu
    by_cases hlt : m < n
    · have hlx : m < L.length := by rw [← HN.out]; exact hlt
      have HFX := Lib.hid (HF.out.upd0 hu)
      obtain ⟨g, off, cv, rfl, hg, hcl, -, -⟩ := HF.out.get hlx
      obtain ⟨f, hf⟩ : ∃ x, x = L.getD m FK.zero := ⟨_, rfl⟩
      rw [← hf] at hcl
      obtain ⟨bs, hbs⟩ : ∃ x, x = (L.take m).foldl (bestStep L maj) 0 := ⟨_, rfl⟩
      have htk : (L.take (m + 1)).foldl (bestStep L maj) 0 = bestStep L maj bs f := by rw [take_snoc L m hlx FK.zero, ← hf, List.foldl_append, ← hbs]; rfl
      rw [← hbs]
      obtain ⟨kd, hkd⟩ : ∃ x, x = f.kind := ⟨_, rfl⟩
      obtain ⟨ep, hep⟩ : ∃ x, x = f.epoch := ⟨_, rfl⟩
      have hst : bestStep L maj bs f = if kd = 1 ∧ bs < ep ∧ abortedL L ep maj = false then ep else bs := by unfold bestStep; rw [hkd, hep]
      rw [hst] at htk
      have hcl := hcl.upd hu hg (by simp)
      have hgx := Nat.lt_of_lt_of_le hg hu.size
      have c1 : wr.cell? ⟨g, off + m * 38 + 1, none⟩ = some (.int .i64 ep) := by rw [hep]; exact hcl 1 _ rfl
      have HCL := Lib.hid hcl
      have HKD := Lib.hid hkd
      have HEP := Lib.hid hep
      obtain ⟨gone, hgo⟩ : ∃ x, x = abortedL L ep maj := ⟨_, rfl⟩
      rw [← hgo] at htk
      have HGO := Lib.hid hgo
      have HTK := Lib.hid htk
      have hx0 : (0 : Int) ≤ (m : Int) := by omega
      have hx1 : (m : Int) < (n : Int) := by omega
      clear hcl hf hbs htk hst hkd hep hgo hu
      go_upto_region 6 with (go_at_call 31; refine (raborted_fi ep maj HFX.out HL.out).mono ?_; rw [← HGO.out]; rintro e w2 ⟨rfl, hu2⟩
                             have HU2 := Lib.hid (HU.out.trans hu2)
                             have hc2 := HCL.out.upd hu2 hgx (by simp)
                             have d0 : w2.cell? ⟨g, off + m * 38, none⟩ = some (.int .i64 kd) := by rw [HKD.out]; exact hc2 0 _ rfl
                             have d1 : w2.cell? ⟨g, off + m * 38 + 1, none⟩ = some (.int .i64 ep) := by rw [HEP.out]; exact hc2 1 _ rfl
                             clear hu2 hc2)
      clear c1
      by_cases h1 : kd = 1
      · cases gone with
        | true =>
          have HT : Hid ((L.take (m + 1)).foldl (bestStep L maj) 0 = bs) := Lib.hid (by rw [HTK.out]; simp)
          subst h1
          go_wp2_with fail
          go_roundw
          case rel => exact ⟨m + 1, by omega, by go_num, by rw [HT.out], HU2.out⟩
          case measure => simp [intOf]; omega
        | false =>
          by_cases h2 : bs < ep
          · have HT : Hid ((L.take (m + 1)).foldl (bestStep L maj) 0 = ep) := Lib.hid (by rw [HTK.out]; simp [h1, h2])
            subst h1
            go_wp2_with fail
            go_roundw
            case rel => exact ⟨m + 1, by omega, by go_num, by rw [HT.out], HU2.out⟩
            case measure => simp [intOf]; omega
          · have HT : Hid ((L.take (m + 1)).foldl (bestStep L maj) 0 = bs) := Lib.hid (by rw [HTK.out]; simp [h2])
            subst h1
            go_wp2_with fail
            go_roundw
            case rel => exact ⟨m + 1, by omega, by go_num, by rw [HT.out], HU2.out⟩
            case measure => simp [intOf]; omega
      · have HT : Hid ((L.take (m + 1)).foldl (bestStep L maj) 0 = bs) := Lib.hid (by rw [HTK.out]; simp [h1])
        have h1' : (kd == 1) = false := by simpa using h1
        go_wp2_with fail
        go_roundw
        case rel => exact ⟨m + 1, by omega, by go_num, by rw [HT.out], HU2.out⟩
        case measure => simp [intOf]; omega
    · obtain rfl : n = m := by omega
      have HE : Hid (bestL L maj = (L.take n).foldl (bestStep L maj) 0) := Lib.hid (by rw [HN.out, List.take_length]; rfl)
      clear hlt hm hu
      go_wp2_with fail
      go_ret
      exact ⟨by rw [HE.out]; rfl, HU.out⟩

set_option maxRecDepth 100000 in
set_option maxHeartbeats 2000000 in
theorem rmanifest_fi {w : World} {v : Value} {L : List FK} (epoch : Int) (h : FI w v L) :
    Calls Try.prog 27 #[v, .int .i64 epoch] w fun e w' => ∃ cv, e = .returned (.tuple #[.agg (encM (manL L epoch).1 cv).toArray, .bool (manL L epoch).2]) ∧ CI w' cv (manL L epoch).1.chunks ∧ (manL L epoch).1.WF ∧ Upd [] w w' := by
  have hnm := h.maxLen
  have HF := Lib.hid h
  obtain ⟨a, cap, rfl⟩ := h.form
  obtain ⟨n, hn⟩ : ∃ n, n = L.length := ⟨_, rfl⟩
  rw [← hn] at HF hnm ⊢
  have HN := Lib.hid hn
  obtain ⟨mn, hmn⟩ : ∃ m, m = manL L epoch := ⟨_, rfl⟩
  rw [← hmn]
  have HMN := Lib.hid hmn
  clear hn h hmn
  go_enter Try.func27, Try.ntmps27
  go_upto_region 2 with (refine wpList_alloc rfl 29 rfl zero_man fun w1 hb1 hu1 hs1 => ?_)
  obtain ⟨tb, htb⟩ : ∃ x, x = w.heap.size := ⟨_, rfl⟩
  rw [← htb] at hb1 ⊢
  have HB1 := Lib.hid hb1
  have HU1 := Lib.hid hu1
  have HTB := Lib.hid htb
  have HF1 := Lib.hid (HF.out.upd0 hu1)
  clear hb1 hu1 hs1 htb
  go_loopw [6] (fun i wx => ∃ (m : Nat), m ≤ n ∧ i = .int .i64 m ∧ allL (L.take m) 1 epoch = [] ∧ w1 = wx) (fun i _ => n - (intOf i).toNat)
  case atStart => exact ⟨0, Nat.zero_le _, rfl, rfl, rfl⟩
  case round =>
    obtain ⟨m, hm, rfl, hno, rfl⟩ := hrel
    have HNO := Lib.hid hno
    clear hno
    by_cases hlt : m < n
    · have hlx : m < L.length := by rw [← HN.out]; exact hlt
      obtain ⟨g, off, cv, rfl, hg, hcl, hch, hwf⟩ := HF.out.get hlx
      have hcl := hcl.upd HU1.out hg (by simp)
      have hfs := filter_snoc (fun f : FK => f.is 1 epoch) L m hlx FK.zero
      have hdr : allL L 1 epoch = allL (L.take m) 1 epoch ++ allL (L.drop m) 1 epoch := by unfold allL; rw [← List.filter_append, List.take_append_drop]
      rw [HNO.out, List.nil_append, List.drop_eq_getElem_cons hlx] at hdr
      have hge : L[m] = L.getD m FK.zero := by simp [List.getD_eq_getElem?_getD, hlx]
      rw [hge] at hdr
      obtain ⟨f, hf⟩ : ∃ x, x = L.getD m FK.zero := ⟨_, rfl⟩
      rw [← hf] at hcl hch hwf hfs hdr
      obtain ⟨kd, hkd⟩ : ∃ x, x = f.kind := ⟨_, rfl⟩
      obtain ⟨ep, hep⟩ : ∃ x, x = f.epoch := ⟨_, rfl⟩
      have c0 : w1.cell? ⟨g, off + m * 38, none⟩ = some (.int .i64 kd) := by rw [hkd]; exact hcl 0 _ rfl
      have c1 : w1.cell? ⟨g, off + m * 38 + 1, none⟩ = some (.int .i64 ep) := by rw [hep]; exact hcl 1 _ rfl
      have his : f.is 1 epoch = (decide (kd = 1) && decide (ep = epoch)) := by rw [is_iff, hkd, hep]
      have HCM := Lib.hid (hcl.man hwf)
      have HCH := Lib.hid hch
      have HWF := Lib.hid hwf
      have HIS := Lib.hid his
      have HFS := Lib.hid hfs
      have HDR := Lib.hid hdr
      have hx0 : (0 : Int) ≤ (m : Int) := by omega
      have hx1 : (m : Int) < (n : Int) := by omega
      clear hcl hch hwf hfs hdr hge hf hkd hep his
      by_cases h1 : kd = 1
      · by_cases h2 : ep = epoch
        · have HY : Hid (mn = (f, true)) := Lib.hid (by
            have e : f.is 1 epoch = true := by rw [HIS.out]; simp [h1, h2]
            rw [HMN.out]
            unfold manL
            rw [HDR.out]
            unfold allL
            rw [List.filter_cons, if_pos e])
          subst h1 h2
          go_wp2_with (first
            | ((with_reducible show wpList _ _ _ (⟨some 32, _, _, _, _, _⟩ :: _) _ _); refine wpList_run rfl (man_load (.tmp 31) rfl rfl HCM.out HWF.out) ?_)
            | (refine wpList_storeA rfl 29 (.tmp 4) (.tmp 32) rfl rfl rfl HB1.out info_man (encM_size HWF.out _) (encM_size FK.zero_wf (.slice none 0 0)) (encM_one' HCH.out) fun w5 hb5 hu5 hs5 => ?_))
          have hu6 : Upd [] w w5 := HU1.out.then hu5 (by have := HTB.out; simp [this])
          refine bodyPost_ret (results_man rfl rfl hb5 HWF.out) rfl ⟨cv, by rw [HY.out]; rfl, by rw [HY.out]; exact HCH.out.upd0 hu6, by rw [HY.out]; exact HWF.out, hu6⟩
        · have HN2 : Hid (allL (L.take (m + 1)) 1 epoch = []) := Lib.hid (by
            unfold allL
            rw [HFS.out, HIS.out]
            have h0 := HNO.out
            unfold allL at h0
            rw [h0]; simp [h2])
          subst h1
          have h2' : (ep == epoch) = false := by simpa using h2
          go_wp2_with fail
          go_roundw
          case rel => exact ⟨m + 1, by omega, by go_num, HN2.out, trivial⟩
          case measure => simp [intOf]; omega
      · have HN2 : Hid (allL (L.take (m + 1)) 1 epoch = []) := Lib.hid (by
          unfold allL
          rw [HFS.out, HIS.out]
          have h0 := HNO.out
          unfold allL at h0
          rw [h0]; simp [h1])
        have h1' : (kd == 1) = false := by simpa using h1
        go_wp2_with fail
        go_roundw
        case rel => exact ⟨m + 1, by omega, by go_num, HN2.out, trivial⟩
        case measure => simp [intOf]; omega
    · obtain rfl : n = m := by omega
      have HY : Hid (mn = (FK.zero, false)) := Lib.hid (by
        have h0 := HNO.out
        rw [HN.out, List.take_length] at h0
        rw [HMN.out]
        unfold manL
        rw [h0])
      clear hlt hm
      go_wp2_with (first
        | ((with_reducible show wpList _ _ _ (⟨some 33, _, _, _, _, _⟩ :: _) _ _); refine wpList_run rfl (exec_man0 rfl) ?_)
        | (refine wpList_storeA rfl 29 (.tmp 4) (.tmp 33) rfl rfl rfl HB1.out info_man (encM_size FK.zero_wf (.slice none 0 0)) (encM_size FK.zero_wf _) (encM_one' (CI.nil w1)) fun w5 hb5 hu5 hs5 => ?_))
      have hu6 : Upd [] w w5 := HU1.out.then hu5 (by have := HTB.out; simp [this])
      refine bodyPost_ret (results_man rfl rfl hb5 FK.zero_wf) rfl ⟨_, by rw [HY.out]; rfl, by rw [HY.out]; exact CI.nil _, by rw [HY.out]; exact FK.zero_wf, hu6⟩

end Go.Proofs.Ytbdmnmjdnfpfbaa
