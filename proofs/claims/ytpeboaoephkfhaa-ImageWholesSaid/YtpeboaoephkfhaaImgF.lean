/- The walk of Start. -/
import Derived.Test.YtpeboaoephkfhaaImgE
namespace Go.Proofs.Ytpeboaoephkfhaa
open Go.ChangeShapes Go.WideShapes Go.ChangeAt Go.RowKit

set_option maxRecDepth 100000 in
set_option maxHeartbeats 4000000 in
theorem bstart_any {w : World} {b : Nat} {S : List Nat} {d : DK} (h : DiskAt w b S d) (hby : d.Byt) (at_ : Int) (hat : -9223372036854775808 ≤ at_ ∧ at_ ≤ 9223372036854775807) :
    Calls Try.prog 17 #[.pointer (some ⟨b, 0, none⟩), .int .i64 at_] w fun e w' => e = .returned (.tuple #[.agg (encK (startF d at_).1).toArray, .int .i64 (startF d at_).2.1, .int .i64 (startF d at_).2.2]) ∧ Upd [] w w' := by
  have hwf := h.wf
  have HWF := Lib.hid hwf
  have HBY := Lib.hid hby
  have HD := Lib.hid h
  have HMANY := Lib.hid hwf.many
  obtain ⟨ar, har⟩ : ∃ x, x = areaB d.last.length at_ 2 := ⟨_, rfl⟩
  obtain ⟨R, hR⟩ : ∃ x, x = startF d at_ := ⟨_, rfl⟩
  rw [← hR]
  have HR := Lib.hid hR
  have HAR := Lib.hid har
  clear hwf hby h hR har
  go_enter Try.func17, Try.ntmps17
  go_upto_if 17 with (first
    | (refine wpList_alloc rfl 40 rfl zero_boot fun w1 hb1 hu1 hs1 => ?_)
    | (go_at_call 26; refine (areaD_any (HD.out.upd0 hu1) at_ 2 hat HMANY.out).mono ?_; rw [← HAR.out]; rintro e _ ⟨rfl, rfl⟩))
  obtain ⟨rb, hrb⟩ : ∃ x, x = w.heap.size := ⟨_, rfl⟩
  rw [← hrb] at hb1 hs1 ⊢
  have HB1 : Hid (Blk w1 rb (encK BK.zero).toArray 40) := Lib.hid hb1
  have HU1 := Lib.hid hu1
  have HRB := Lib.hid hrb
  have hz1 : w1.heap.size = rb + 1 := hs1
  have HZ1 := Lib.hid hz1
  clear hb1 hu1 hs1 hrb hz1
  cases ar with
  | false =>
    have HRE : Hid (R = (BK.zero, 0, 1)) := Lib.hid (by rw [HR.out]; unfold startF; rw [if_pos HAR.out.symm])
    go_wp2_with (first
      | ((with_reducible show wpList _ _ _ (⟨some 18, _, _, _, _, _⟩ :: _) _ _); refine wpList_run rfl (exec_boot0 rfl) ?_)
      | (refine wpList_storeA rfl 40 (.tmp 4) (.tmp 18) rfl rfl rfl HB1.out info_boot (encK_size zer32_len) (encK_size zer32_len) (encK_one _) fun w11 hb11 hu11 hs11 => ?_))
    refine bodyPost_ret (results_boot3 (b := BK.zero) rfl rfl hb11 zer32_len) rfl ⟨by rw [HRE.out]; rfl, HU1.out.then hu11 (fun q hq => .inr (by have h2 := HRB.out; simp at hq; omega))⟩
  | true =>
    simp only [Bool.not_true]
    go_upto_region 6 with (refine wpList_alloc rfl 40 rfl zero_boot fun w3 hb3 hu3 hs3 => ?_)
    rw [HZ1.out] at hb3 hs3
    try rw [HZ1.out]
    obtain ⟨bb, hbb⟩ : ∃ x, x = rb + 1 := ⟨_, rfl⟩
    rw [← hbb] at hb3 hs3 ⊢
    have HB3 : Hid (Blk w3 bb (encK BK.zero).toArray 40) := Lib.hid hb3
    have HR3 := Lib.hid (HB1.out.upd hu3 (by simp))
    have HU3 := Lib.hid (HU1.out.trans hu3)
    have hbr : bb ≠ rb := by omega
    have HBB := Lib.hid hbb
    have HS3 := Lib.hid hs3
    clear hb3 hu3 hs3 hbb
    have hat2 : 0 ≤ at_ ∧ at_ ≤ 4096 := by
      have h1 := HAR.out
      have h2 := HMANY.out
      unfold areaB at h1
      simp at h1
      omega
    have HCODE : Hid (∀ i : Nat, i < 2 → d.code (at_ + i) = if d.down = true then 60 else 0) := Lib.hid (fun i hi => area_code HAR.out.symm hi)
    have hbS : ∀ k ∈ S, k ≠ bb := fun k hk => by have h1 := HD.out.lt k hk; have h2 := HRB.out; have h3 := HBB.out; omega
    have HBS := Lib.hid hbS
    clear hbS
    go_loopw [8, 19] (fun c i wx => ∃ (m : Nat) (P : BK × Int), m ≤ 2 ∧ (m = 0 ∨ d.down = false) ∧ i = .int .i64 m ∧ P = bestB d at_ m ∧ c = .int .i64 P.2 ∧ Blk wx bb (encK P.1).toArray 40 ∧ Upd [bb] w3 wx) (fun _ i _ => 2 - (intOf i).toNat)
    case atStart => exact ⟨0, (BK.zero, 0), Nat.zero_le _, .inl rfl, rfl, rfl, rfl, HB3.out, Upd.refl _ _⟩
    case round =>
      obtain ⟨m, P, hm, hup, rfl, hP, rfl, hbk, hu⟩ := hrel
      have HUP := Lib.hid hup
      clear hup
      have HP := Lib.hid hP
      have HBK := Lib.hid hbk
      have HU := Lib.hid hu
      have HPW : Hid (P.1.whole.length = 32) := Lib.hid (by rw [hP]; exact bestB_len HWF.out at_ m)
      have HRX := Lib.hid (HR3.out.upd hu (by simp; exact fun e => hbr e.symm))
      have HUX : Hid (Upd [] w wr) := Lib.hid (HU3.out.then hu (fun k hk => .inr (by have h2 := HRB.out; have h3 := HBB.out; simp at hk; omega)))
      have HDX := Lib.hid ((HD.out.upd0 HU3.out).upd hu (fun k hk => by simp; exact HBS.out k hk))
      have hbl := hbk.lt
      clear hP hbk hu
      obtain ⟨pb, pn⟩ := P
      simp only []
      by_cases hlt : m < 2
      · obtain ⟨n, hn⟩ : ∃ n, n = at_ + (m : Int) := ⟨_, rfl⟩
        have hwn : IntKind.i64.wrap (at_ + (m : Int)) = n := by rw [IntWalk.i64_in _ (by omega)]; exact hn.symm
        have hcn : d.code n = if d.down = true then 60 else 0 := by rw [hn]; exact HCODE.out m hlt
        have HN := Lib.hid hn
        clear hn
        by_cases hdn : d.down = true
        · rw [if_pos hdn] at hcn
          have HCN := Lib.hid hcn
          have HRE : Hid (R = (BK.zero, 0, 60)) := Lib.hid (by rw [HR.out]; unfold startF; rw [if_neg (by rw [← HAR.out]; simp), if_pos hdn])
          clear hcn hdn
          go_wp2_with (first
            | (go_at_call 21; refine (read_any b S d n wr HDX.out).mono ?_; rw [HCN.out]; rintro e w5 ⟨rfl, -, hu5⟩)
            | (refine wpList_alloc rfl 32 rfl zero_arr fun w6 hb6 hu6 hs6 => ?_)
            | (refine wpList_store rfl (.tmp 10) (.tmp 28) rfl rfl rfl hb6 DK.zeros_len (DK.rd_len HWF.out _) fun w7 hb7 hu7 hs7 => ?_)
            | ((with_reducible show wpList _ _ _ (⟨some 32, _, _, _, _, _⟩ :: _) _ _); refine wpList_run rfl (exec_boot0 rfl) ?_)
            | (refine wpList_storeA rfl 40 (.tmp 4) (.tmp 32) rfl rfl rfl (((HRX.out.upd hu5 (by simp)).upd hu6 (by simp)).upd hu7 (by have h1 := HRX.out.lt; have h2 := hu5.size; simp; omega)) info_boot (encK_size zer32_len) (encK_size zer32_len) (encK_one _) fun w11 hb11 hu11 hs11 => ?_))
          have hz := HUX.out.size
          have hz5 := hu5.size
          refine bodyPost_ret (results_boot3 (b := BK.zero) rfl rfl hb11 zer32_len) rfl ⟨by rw [HRE.out]; rfl, (((HUX.out.trans hu5).trans hu6).then hu7 (fun q hq => .inr (by simp at hq; omega))).then hu11 (fun q hq => .inr (by have h2 := HRB.out; simp at hq; omega))⟩
        · rw [if_neg hdn] at hcn
          have HDN : Hid (d.down = false) := Lib.hid (by simpa using hdn)
          have HCN := Lib.hid hcn
          obtain ⟨r, hr⟩ : ∃ r, r = readB (d.rd n) := ⟨_, rfl⟩
          have hrl : r.1.whole.length = 32 := by rw [hr]; exact readB_len (DK.rd_len HWF.out _)
          have hbs : bestB d at_ (m + 1) = better (pb, pn) r := by rw [bestB, ← HP.out, ← HN.out, ← hr]
          have HRD := Lib.hid hr
          have HRL := Lib.hid hrl
          have HBE := Lib.hid hbs
          have i0 : (m : Int) < 2 := by omega
          obtain ⟨rk, rn⟩ := r
          clear hcn hdn hr hrl hbs
          go_upto_region 12 with (first
            | (go_at_call 21; refine (read_any b S d n wr HDX.out).mono ?_; rw [HCN.out]; rintro e w5 ⟨rfl, -, hu5⟩)
            | (refine wpList_alloc rfl 32 rfl zero_arr fun w6 hb6 hu6 hs6 => ?_)
            | (refine wpList_store rfl (.tmp 10) (.tmp 28) rfl rfl rfl hb6 DK.zeros_len (DK.rd_len HWF.out _) fun w7 hb7 hu7 hs7 => ?_)
            | ((with_reducible show wpList _ _ _ (⟨some 35, _, _, _, _, _⟩ :: _) _ _); refine wpList_run rfl (arr_load (.tmp 10) rfl rfl hb7 (DK.rd_len HWF.out _)) ?_)
            | (go_at_call 27; refine (read_any' (DK.rd_len HWF.out n) (HBY.out.rd n)).mono ?_; rw [← HRD.out]; rintro e w8 ⟨rfl, hu8⟩)
            | (refine wpList_alloc rfl 40 rfl zero_boot fun w9 hb9 hu9 hs9 => ?_)
            | (refine wpList_storeA rfl 40 (.tmp 12) (.tmp 37) rfl rfl rfl hb9 info_boot (encK_size HRL.out) (encK_size zer32_len) (encK_one _) fun w10 hb10 hu10 hs10 => ?_))
          have hz5 := hu5.size
          have hz8 : w7.heap.size ≤ w8.heap.size := hu8.size
          have hz7 : wr.heap.size ≤ w7.heap.size := Nat.le_trans (Nat.le_trans hz5 hu6.size) hu7.size
          have hut : Upd [] wr w10 := ((((hu5.trans hu6).then hu7 (fun q hq => .inr (by simp at hq; omega))).trans hu8).trans hu9).then hu10 (fun q hq => .inr (by simp at hq; omega))
          have HB10 := Lib.hid hb10
          have HK10 := Lib.hid (HBK.out.upd hut (by simp))
          have HUT := Lib.hid (HU.out.trans (hut.mono (by simp)))
          clear hu5 hb6 hu6 hs6 hb7 hu7 hs7 hu8 hb9 hu9 hs9 hb10 hu10 hs10 hut hz5 hz8 hz7
          by_cases hgt : pn < rn
          · have HBE2 : Hid (((rk, rn) : BK × Int) = bestB d at_ (m + 1)) := Lib.hid (by rw [HBE.out]; unfold better; rw [if_pos hgt])
            go_wp2_with (first
              | ((with_reducible show wpList _ _ _ (⟨some 42, _, _, _, _, _⟩ :: _) _ _); refine wpList_run rfl (boot_load (.tmp 12) rfl rfl HB10.out HRL.out) ?_)
              | (refine wpList_storeA rfl 40 (.tmp 7) (.tmp 42) rfl rfl rfl HK10.out info_boot (encK_size HRL.out) (encK_size HPW.out) (encK_one _) fun w11 hb11 hu11 hs11 => ?_))
            go_roundw
            case rel => exact ⟨m + 1, (rk, rn), by omega, .inr HDN.out, by go_num, HBE2.out, rfl, hb11, HUT.out.trans hu11⟩
            case measure => simp [intOf]; omega
          · have HBE2 : Hid (((pb, pn) : BK × Int) = bestB d at_ (m + 1)) := Lib.hid (by rw [HBE.out]; unfold better; rw [if_neg hgt])
            go_wp2_with fail
            go_roundw
            case rel => exact ⟨m + 1, (pb, pn), by omega, .inr HDN.out, by go_num, HBE2.out, rfl, HK10.out, HUT.out⟩
            case measure => simp [intOf]; omega
      · obtain rfl : m = 2 := by omega
        clear hlt hm
        have hdn : d.down = false := by
          rcases HUP.out with h0 | h0
          · cases h0
          · exact h0
        have hst : R = if pn = 0 then (BK.zero, 0, 81) else (pb, pn, 0) := by
          rw [HR.out]
          unfold startF
          rw [if_neg (by rw [← HAR.out]; simp), if_neg (by rw [hdn]; simp), ← HP.out]
        clear hdn
        by_cases h0 : pn = 0
        · rw [if_pos h0] at hst
          have HRE := Lib.hid hst
          clear hst
          subst h0
          go_wp2_with (first
            | ((with_reducible show wpList _ _ _ (⟨some 47, _, _, _, _, _⟩ :: _) _ _); refine wpList_run rfl (exec_boot0 rfl) ?_)
            | (refine wpList_storeA rfl 40 (.tmp 4) (.tmp 47) rfl rfl rfl HRX.out info_boot (encK_size zer32_len) (encK_size zer32_len) (encK_one _) fun w11 hb11 hu11 hs11 => ?_))
          refine bodyPost_ret (results_boot3 (b := BK.zero) rfl rfl hb11 zer32_len) rfl ⟨by rw [HRE.out]; rfl, HUX.out.then hu11 (fun q hq => .inr (by have h2 := HRB.out; simp at hq; omega))⟩
        · rw [if_neg h0] at hst
          have HRE := Lib.hid hst
          have h0' : (pn == 0) = false := by simpa using h0
          clear hst
          go_wp2_with (first
            | ((with_reducible show wpList _ _ _ (⟨some 48, _, _, _, _, _⟩ :: _) _ _); refine wpList_run rfl (boot_load (.tmp 7) rfl rfl HBK.out HPW.out) ?_)
            | (refine wpList_storeA rfl 40 (.tmp 4) (.tmp 48) rfl rfl rfl HRX.out info_boot (encK_size HPW.out) (encK_size zer32_len) (encK_one _) fun w11 hb11 hu11 hs11 => ?_))
          refine bodyPost_ret (results_boot3 (b := pb) rfl rfl hb11 HPW.out) rfl ⟨by rw [HRE.out]; rfl, HUX.out.then hu11 (fun q hq => .inr (by have h2 := HRB.out; simp at hq; omega))⟩

end Go.Proofs.Ytpeboaoephkfhaa
