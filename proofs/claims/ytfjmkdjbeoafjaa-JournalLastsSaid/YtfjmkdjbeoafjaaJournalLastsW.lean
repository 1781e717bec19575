/- The walk of JournalLasts. -/
import Derived.Test.YtfjmkdjbeoafjaaJrnU
import Derived.Test.YtfjmkdjbeoafjaaOpenC
namespace Go.Proofs.Ytfjmkdjbeoafjaa
open Go.ChangeShapes Go.WideShapes Go.ChangeAt Go.RowKit

theorem zero_callJ : (Try.prog.info? 34).map (·.zero) = some (some (.agg #[.int .i64 0, .slice none 0 0, .int .i64 0, .slice none 0 0])) := by kernel_rfl
theorem info_callJ : (Try.prog.info? 34).map (·.size) = some 4 := by kernel_rfl

set_option maxRecDepth 100000 in
set_option maxHeartbeats 20000000 in
theorem JournalLasts.walk (v0 : Value) (l : List CallJ) (w : World) (hl : CallsJ w v0 l) :
    Calls Try.prog 4 #[v0] w fun e w' => e = .returned (.bool true) ∧ Below w.heap.size w w' := by
  obtain ⟨la, lc, rfl, hlm, hlb⟩ := hl
  have HLB := Lib.hid hlb
  clear hlb
  unfold maxLen at hlm
  go_enter Try.func4, Try.ntmps4
  go_wp2_with fail
  refine (awake_any _).mono ?_
  rintro e w1 ⟨rfl, hu1⟩
  go_wp2_with fail
  refine (new_law 60 w (by omega) (by omega) hu1).mono ?_
  rintro e w2 ⟨p, S, rfl, hd, hu2, hS⟩
  have HD := Lib.hid hd
  clear hd hu1 hu2 hS
  have HLS : Hid (LS (DK.new (60 : Int).toNat) 3 50 (List.replicate 50 DK.zeros) 1 [] 0 [] []) := Lib.hid (LS.new (by decide))
  go_wp2_with fail
  refine (jopen_law HD.out 3 50 (by omega) (by omega) (by decide) rfl (DK.Byt.new _)).mono ?_
  rintro e w3 ⟨j, J, rfl, hb, -, -⟩
  have hop : (DK.new (60 : Int).toNat).openJ (3 : Int).toNat (50 : Int).toNat = kOf 3 50 1 [] 0 [] [] := by
    have h1 : (DK.new (60 : Int).toNat).area 3 50 = List.replicate 50 DK.zeros := by have h2 := HLS.out.now; rw [h2]; exact over_nil _ _
    unfold DK.openJ
    rw [show (3 : Int).toNat = 3 from rfl, show (50 : Int).toNat = 50 from rfl, h1, HLS.out.alive, HLS.out.got]
    rfl
  rw [hop] at hb
  have HI3 : Hid (LInv w w3 p S (DK.new (60 : Int).toNat) j J (List.replicate 50 DK.zeros) 1 [] 0 [] []) := Lib.hid ⟨hb, HLS.out, DK.Byt.new _⟩
  clear hb hop HD HLS
  go_wp2_with fail
  go_loopw [6, 8, 9] (fun jv fv iv wx => ∃ (m : Nat) (j : Nat) (S J : List Nat) (d : DK) (O : List Blok) (L : Int) (r0 : List (List Int)) (u0 : Nat) (F U : List (List Int)), m ≤ 40 ∧ m ≤ l.length ∧ iv = .int .i64 m ∧ jv = .pointer (some ⟨j, 0, none⟩) ∧ fv = .int .i64 ((r0 ++ F).length : Nat) ∧ LInv w wx p S d j J O L r0 u0 F U ∧ L ≤ m + 1) (fun _ _ i _ => 40 - (intOf i).toNat)
  case atStart => exact ⟨0, j, S, J, _, _, _, _, _, _, _, by omega, Nat.zero_le _, rfl, rfl, rfl, HI3.out, by omega⟩
  case round =>
    obtain ⟨m, j5, S5, J5, d, O, L, r0, u0, F, U, hm40, hml, rfl, rfl, rfl, hi5, hLm⟩ := hrel
    obtain ⟨fo, hfo⟩ : ∃ fo : Nat, fo = (r0 ++ F).length := ⟨_, rfl⟩
    rw [← hfo]
    have HFO := Lib.hid hfo
    have HI5 := Lib.hid hi5
    have HLM := Lib.hid hLm
    clear hi5 HI3 hfo hLm
    by_cases hend : m < 40 ∧ m < l.length
    · obtain ⟨h40, hlt⟩ := hend
      obtain ⟨g, off, rfl, hgl, hcl⟩ := HLB.out (by intro e; rw [e] at hlt; simp at hlt)
      obtain ⟨c, hc⟩ : ∃ c, l[m]? = some c := ⟨_, List.getElem?_eq_getElem hlt⟩
      obtain ⟨hcc, hbat, hbu, hfat⟩ := hcl m c hc
      have hcc5 := hcc.upd HI5.out.jd.disk.upd hgl (by simp)
      obtain ⟨kd, bv, b, cn, fv, fs⟩ := c
      simp only at hbat hbu hfat
      obtain ⟨ba, bc, rfl⟩ := hbat.form
      obtain ⟨fa, fc, rfl, -, -⟩ := id hfat
      obtain ⟨n1, hn1⟩ : ∃ n1, n1 = b.length := ⟨_, rfl⟩
      rw [← hn1] at hbat hcc5
      have HBA := Lib.hid hbat
      have HBU := Lib.hid hbu
      have HFA := Lib.hid hfat
      have HN1 := Lib.hid hn1
      have HCC : Hid (CellsJ wr g (off + m * 4) [.int .i64 kd, .slice ba n1 bc, .int .i64 cn, .slice fa fs.length fc]) := Lib.hid hcc5
      have h40' : (m : Int) < 40 := by omega
      have hlt' : (m : Int) < (l.length : Int) := by omega
      clear hcl hc hcc hcc5 hbat hbu hfat hn1
      go_upto_region 12 with fail
      go_upto_region 13 with (first
        | ((with_reducible show wpList _ _ _ (⟨some 48, _, _, _, _, _⟩ :: _) _ _); refine wpList_run rfl (exec_loadJ 34 (.tmp 47) rfl rfl HCC.out ⟨_, Try.underlying34⟩ info_callJ rfl) ?_)
        | ((with_reducible show wpList _ _ _ (⟨_, .alloc 34, _, _, _, _⟩ :: _) _ _); refine wpList_alloc rfl 34 rfl zero_callJ fun w6 hb6 hu6 hs6 => ?_)
        | ((with_reducible show wpList _ _ _ (⟨_, .store 34 (.tmp 10) (.tmp 48), _, _, _, _⟩ :: _) _ _); refine wpList_storeJ rfl 34 (.tmp 10) (.tmp 48) rfl rfl rfl hb6 info_callJ rfl rfl (by intro v hv; simp at hv; rcases hv with rfl | rfl | rfl | rfl <;> rfl) fun w7 hb7 hu7 hs7 => ?_))
      obtain ⟨B, hB⟩ : ∃ B, B = wr.heap.size := ⟨_, rfl⟩
      rw [← hB] at hb7 hu7 ⊢
      have hu67 : Upd [] wr w7 := hu6.then hu7 (by intro k hk; right; simp at hk; omega)
      have hv7 : Var w7 (S5 ++ J5) B _ _ := ⟨hb7, fun hm => by have := HI5.out.jd.all_lt _ hm; omega⟩
      have c0 : w7.cell? ⟨B, 0, none⟩ = some (.int .i64 kd) := hb7.cell (o := 0) rfl
      have c1 : w7.cell? ⟨B, 1, none⟩ = some (.slice ba n1 bc) := hb7.cell (o := 1) rfl
      have c3 : w7.cell? ⟨B, 3, none⟩ = some (.slice fa fs.length fc) := hb7.cell (o := 3) rfl
      have HV7 := Lib.hid hv7
      have HI7 := Lib.hid (HI5.out.quiet hu67)
      clear hb6 hu6 hs6 hb7 hu7 hs7 hu67 hv7 hB HI5 HCC
      have key : decide ((300 : Int) < (n1 : Int)) = true ∨ (decide ((300 : Int) < (n1 : Int)) = false ∧ (kd = 1 ∨ kd = 2 ∨ kd = 4 ∨ ((kd == 1) = false ∧ (kd == 2) = false ∧ (kd == 4) = false ∧ (kd != 4) = true))) := by
        simp only [decide_eq_true_eq, decide_eq_false_iff_not, beq_eq_false_iff_ne, ne_eq, bne_iff_ne]; omega
      rcases key with q1 | ⟨q1, rfl | rfl | rfl | ⟨q2, q3, q4, q5⟩⟩
      · go_wp2_with fail
        go_roundw
        case rel => exact ⟨m + 1, j5, S5, J5, d, O, L, r0, u0, F, U, by omega, by omega, by go_num, rfl, by rw [HFO.out], HI7.out, by have := HLM.out; omega⟩
        case measure => simp [intOf]; omega
      · go_upto_region 16 with (go_at_call 13; refine (linv_app HI7.out _ b HBA.out HBU.out).mono ?_; rintro e w8 ⟨cd, S8, J8, d8, U8, rfl, hi8, hk8⟩
                                have hv8 := HV7.out.keep hk8
                                have HI8 := Lib.hid hi8
                                have HV8 := Lib.hid hv8
                                clear hi8 hk8 hv8 HI7 HV7)
        have c0 : w8.cell? ⟨B, 0, none⟩ = some (.int .i64 1) := HV8.out.1.cell (o := 0) rfl
        go_wp2_with fail
        go_roundw
        case rel => exact ⟨m + 1, j5, S8, J8, d8, O, L, r0, u0, F, U8, by omega, by omega, by go_num, rfl, by rw [HFO.out], HI8.out, by have := HLM.out; omega⟩
        case measure => simp [intOf]; omega
      · go_upto_region 17 with (go_at_call 14; refine (linv_force HI7.out).mono ?_; rintro e w8 ⟨S8, d8, rfl, hi8, hk8⟩
                                have hv8 := HV7.out.keep hk8
                                have HI8 := Lib.hid hi8
                                have HV8 := Lib.hid hv8
                                clear hi8 hk8 hv8 HI7 HV7)
        obtain ⟨n9, hn9⟩ : ∃ n9, n9 = (r0 ++ (F ++ U) ++ []).length := ⟨_, rfl⟩
        have HN9 := Lib.hid hn9
        have HREC := fun w (h : LInv w w8 p S8 d8 j5 J5 O L r0 u0 (F ++ U) []) => linv_records h
        rw [← hn9] at HREC
        have HREC := Lib.hid HREC
        clear hn9
        go_upto_region 18 with (go_at_call 15; refine (HREC.out _ HI8.out).mono ?_; rintro e w9 ⟨a9, cap9, T9, rfl, -, hle9, -, -, hi9, hu9⟩
                                have hv9 := HV8.out.keep (Keep.quiet hu9)
                                have HI9 := Lib.hid hi9
                                have HV9 := Lib.hid hv9
                                clear hi9 hu9 hv9 HI8 HV8 HREC)
        have c0 : w9.cell? ⟨B, 0, none⟩ = some (.int .i64 2) := HV9.out.1.cell (o := 0) rfl
        go_wp2_with fail
        go_roundw
        case rel => exact ⟨m + 1, j5, S8, J5, d8, O, L, r0, u0, F ++ U, [], by omega, by omega, by go_num, rfl, by rw [HN9.out, List.append_nil], HI9.out, by have := HLM.out; omega⟩
        case measure => simp [intOf]; omega
      · obtain ⟨n8, hn8⟩ : ∃ n8, n8 = (r0 ++ F ++ U).length := ⟨_, rfl⟩
        have HN8 := Lib.hid hn8
        have HREC := fun w' (h : LInv w w' p S5 d j5 J5 O L r0 u0 F U) => linv_records h
        rw [← hn8] at HREC
        have HREC := Lib.hid HREC
        clear hn8
        go_upto_region 20 with (go_at_call 15; refine (HREC.out _ HI7.out).mono ?_; rintro e w8 ⟨a8, cap8, T8, rfl, hc8, hle8, hl8, hT8, hi8, hu8⟩
                                have hv8 := HV7.out.keep (Keep.quiet hu8)
                                have hTS : ∀ k ∈ T8, k ∉ S5 := fun k hk hm => by
                                  have h1 := (hT8 k hk).1
                                  have h2 := HI7.out.jd.disk.disk.lt k hm
                                  omega
                                have HI8 := Lib.hid hi8
                                have HV8 := Lib.hid hv8
                                have HL8 := Lib.hid hl8
                                have HTS := Lib.hid hTS
                                clear hi8 hu8 hv8 hl8 hT8 hTS HI7 HV7 HREC)
        go_upto_region 21 with (go_at_call 16; refine (linv_life HI8.out).mono ?_; rintro e w9 ⟨rfl, rfl⟩)
        have c3 : w8.cell? ⟨B, 3, none⟩ = some (.slice fa fs.length fc) := HV8.out.1.cell (o := 3) rfl
        go_upto_region 22 with (go_at_call 17; refine (lcrash_law HI8.out.jd _ fs HFA.out).mono ?_; rintro e w10 ⟨rfl, S10, hj10, hu10, hs10⟩
                                have hl10 := HL8.out.upd hu10 HTS.out
                                have HL10 := Lib.hid hl10
                                have HTS10 : Hid (∀ k ∈ T8, k ∉ S10) := Lib.hid fun k hk hm => HTS.out k hk (hs10 k hm)
                                have HJ10 := Lib.hid hj10
                                clear hl10 hj10 hu10 hs10 HL8 HTS HV8 c3)
        go_upto_region 23 with (go_at_call 18; refine (lstart_law HJ10.out).mono ?_; rintro e w11 ⟨rfl, hj11, hu11⟩
                                have HL11 := Lib.hid (HL10.out.upd hu11 HTS10.out)
                                have HJ11 := Lib.hid hj11
                                clear hj11 hu11 HL10 HTS10 HJ10)
        go_upto_region 26 with (go_at_call 12; refine (linv_open HI8.out.ls HI8.out.jd.disk.disk.wf HI8.out.byt (by have := HLM.out; omega) fs HJ11.out).mono ?_; rintro e w12 ⟨j2, J2, O2, L2, r2, u2, rfl, hi12, hu12, hlo, hhi, hr1, hr2, hr3⟩
                                have HL12 := Lib.hid (HL11.out.upd0 hu12)
                                have HI12 := Lib.hid hi12
                                have HLO := Lib.hid hlo
                                have HHI := Lib.hid hhi
                                have HR1 := Lib.hid hr1
                                have HR2 := Lib.hid hr2
                                have HR3 := Lib.hid hr3
                                clear hi12 hu12 hlo hhi hr1 hr2 hr3 HJ11 HL11)
        obtain ⟨n2, hn2⟩ : ∃ n2, n2 = (r2 ++ [] ++ []).length := ⟨_, rfl⟩
        have HN2 := Lib.hid hn2
        have HREC := fun w' (h : LInv w w' p S10 ((d.crash fs).start) j2 J2 O2 L2 r2 u2 [] []) => linv_records h
        rw [← hn2] at HREC
        have HREC := Lib.hid HREC
        have q6 : decide (n2 < fo) = false := by have h1 := HR1.out; have h2 := HFO.out; simp only [decide_eq_false_iff_not]; rw [hn2, h2, List.append_nil, List.append_nil]; omega
        have q7 : decide (n8 < n2) = false := by have h1 := HR2.out; have h2 := HN8.out; simp only [decide_eq_false_iff_not]; rw [hn2, h2, List.append_nil, List.append_nil]; omega
        have q8 : decide (L2 < L) = false := by have h1 := HLO.out; simp only [decide_eq_false_iff_not]; omega
        have q9 : decide (L < 1) = false := by have h1 := HI8.out.ls.lives.1; simp only [decide_eq_false_iff_not]; omega
        clear hn2
        go_upto_region 27 with (go_at_call 15; refine (HREC.out _ HI12.out).mono ?_; rintro e w13 ⟨a13, cap13, T13, rfl, hc13, hle13, hl13, -, hi13, hu13⟩
                                have HL13 := Lib.hid hl13
                                have HA13 := Lib.hid (HL12.out.upd0 hu13)
                                have HI13 := Lib.hid hi13
                                clear hl13 hu13 hi13 HL12 HI12 HREC)
        go_upto_region 29 with (go_at_call 16; refine (linv_life HI13.out).mono ?_; rintro e w14 ⟨rfl, rfl⟩)
        have hn82 : n2 ≤ n8 := by have h1 := HR2.out; have h2 := HN8.out; have h3 := HN2.out; rw [List.append_nil, List.append_nil] at h3; omega
        have hcap8 : n2 ≤ cap8 := by omega
        have HN82 := Lib.hid hn82
        have htk : (r0 ++ F ++ U).take n2 = r2 ++ [] ++ [] := by
          have h1 := HR3.out
          have h3 := HN2.out
          rw [List.append_nil, List.append_nil] at h3 ⊢
          rw [h3]; exact h1.symm
        have HTK := Lib.hid htk
        clear htk hn82 q6 q7 q8 q9
        go_upto_region 30 with (first
          | ((with_reducible show wpList _ _ _ (⟨some 122, _, _, _, _, _⟩ :: _) _ _); refine wpList_sliceH rfl 37 (.tmp 119) (.tmp 121) rfl (by kernel_rfl) (by kernel_rfl) rfl rfl hcap8 fun b' hb' => ?_)
          | (go_at_call 19
             have hlb := HA13.out.begin hb' (m := n2) (by rw [← HN8.out]; exact HN82.out)
             rw [HTK.out] at hlb
             refine (bsame_any _ _ _ _ _ _ HL13.out hlb).mono ?_; rintro e w15 ⟨rfl, hu15⟩
             have HI15 := Lib.hid (HI13.out.quiet hu15)
             clear hu15 HI13 HL13 HA13))
        go_wp2_with fail
        go_roundw
        case rel => exact ⟨m + 1, j2, S10, J2, _, O2, L2, r2, u2, [], [], by omega, by omega, by go_num, rfl, by rw [HN2.out, List.append_nil], HI15.out, by have h1 := HLM.out; have h2 := HHI.out; omega⟩
        case measure => simp [intOf]; omega
      · go_wp2_with fail
        go_roundw
        case rel => exact ⟨m + 1, j5, S5, J5, d, O, L, r0, u0, F, U, by omega, by omega, by go_num, rfl, by rw [HFO.out], HI7.out, by have := HLM.out; omega⟩
        case measure => simp [intOf]; omega
    · have key : decide (m < l.length) = false ∨ (decide (m < l.length) = true ∧ m = 40) := by
        simp only [decide_eq_true_eq, decide_eq_false_iff_not]; omega
      clear hend hm40 hml
      rcases key with q1 | ⟨q1, rfl⟩
      · go_wp2_with fail
        go_ret
        exact ⟨rfl, HI5.out.jd.disk.upd.toBelow⟩
      · rw [show (((40 : Nat)) : Int) = 40 from rfl]
        have q1' : decide ((40 : Int) < (l.length : Int)) = true := by simp only [decide_eq_true_eq] at q1 ⊢; omega
        go_wp2_with fail
        go_ret
        exact ⟨rfl, HI5.out.jd.disk.upd.toBelow⟩

end Go.Proofs.Ytfjmkdjbeoafjaa
