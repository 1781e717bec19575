/- The walk of ImageCrash. -/
import Derived.Test.YtpeboaoephkfhaaImageBothW
import Derived.Test.YtpeboaoephkfhaaImgP
import Derived.StillTailTactics
import Derived.Deep.CutBlock
import Derived.Deep.DeepCutAuto
namespace Go.Proofs.Ytpeboaoephkfhaa
open Go.ChangeShapes Go.WideShapes Go.ChangeAt Go.RowKit

theorem boot_loadC {a : Act} {o : Oper} {w : World} {g off : Nat} {b : BK} (x : Operand) (ho : o.op = .load 40 x) (hx : a.eval x = .pointer (some ⟨g, off, none⟩)) (hc : CellsAt w g off (encK b)) (hl : b.whole.length = 32) :
    (execOp a.eval o).run Try.prog w = .ok (.value (.agg (encK b).toArray)) w :=
  exec_loadC (P := Try.prog) 40 x ho hx hc (.inr ⟨_, Try.underlying40⟩) info_boot (encK_len hl)

theorem CellsAt.upd {w w' : World} {S : List Nat} {g off : Nat} {cs : List Value} (h : CellsAt w g off cs) (hu : Upd S w w') (hg : g < w.heap.size) (hS : g ∉ S) : CellsAt w' g off cs := fun j v hj => by
  rw [World.cell?_of_block (a := ⟨g, off + j, none⟩) (hu.block g hg hS)]
  exact h j v hj

/-- One of the boots that came in. -/
theorem BootsAt.get {w : World} {a : Option Addr} {n cap : Nat} {L : List BK} (h : BootsAt w (.slice a n cap) L) {i : Nat} (hi : i < L.length) :
    ∃ g off, a = some ⟨g, off, none⟩ ∧ n = L.length ∧ g < w.heap.size ∧ CellsAt w g (off + i * 35) (encK (L.getD i BK.zero)) ∧ (L.getD i BK.zero).WF ∧ (L.getD i BK.zero).Rng := by
  obtain ⟨a', cap', e, hc, hm, hw, h2⟩ := h
  cases e
  obtain ⟨g, off, rfl, hg, hcl⟩ := h2 (by intro e; rw [e] at hi; simp at hi)
  have hmem : L.getD i BK.zero ∈ L := by rw [List.getD_eq_getElem?_getD, List.getElem?_eq_getElem hi]; exact List.getElem_mem hi
  exact ⟨g, off, rfl, rfl, hg, hcl i hi, hw _ hmem⟩

set_option maxRecDepth 100000 in
set_option maxHeartbeats 4000000 in
theorem ImageCrash.walk (lv : Value) (L : List BK) (vb : Value) (b : BK) (fate : Int) (w : World) (hL : BootsAt w lv L) (hb : vb = .agg (encK b).toArray) (hbw : b.WF) (hbr : b.Rng) (hf : (Lit.int .i64 fate).wf = true) :
    Calls Try.prog 9 #[lv, vb, .int .i64 fate] w fun e w' => e = .returned (.bool true) ∧ Below w.heap.size w w' := by
  subst hb
  have hL' := hL
  obtain ⟨la, lc, rfl, -, hlm, -, -⟩ := hL'
  obtain ⟨ln, hln⟩ : ∃ n, n = L.length := ⟨_, rfl⟩
  have hlm2 : ln ≤ maxLen := by obtain ⟨a', c', e, hc, hm, -⟩ := hL; cases e; omega
  unfold maxLen at hlm2
  rw [← hln] at hL ⊢
  have HL := Lib.hid hL
  have HLN := Lib.hid hln
  have HBW := Lib.hid hbw
  have HBR := Lib.hid hbr
  obtain ⟨w1, hw1⟩ : ∃ w1, w1 = w.alloc (.cells (encK b).toArray 40) := ⟨_, rfl⟩
  have hb1 : Blk w1 w.heap.size (encK b).toArray 40 := by rw [hw1]; exact Blk.new _ _ _
  have hu1 : Upd [] w w1 := by rw [hw1]; exact (Upd.refl _ _).alloc _
  obtain ⟨B0, hB0⟩ : ∃ x, x = w.heap.size := ⟨_, rfl⟩
  rw [← hB0] at hb1
  have HB1 := Lib.hid hb1
  have HU1 := Lib.hid hu1
  have HW1 := Lib.hid hw1
  have HB0 := Lib.hid hB0
  clear hw1 hb1 hu1 hB0 hbw hbr hf hL hlm hln
  go_enter Try.func9, Try.ntmps9
  go_upto_region 1 with fail
  rw [← HW1.out, ← HB0.out]
  go_upto_region 4 with (go_at_call 10; refine (awake_any _).mono ?_; rintro e w2 ⟨rfl, hu2⟩)
  have HB2 := Lib.hid (HB1.out.upd hu2 (by simp))
  have HU2 := Lib.hid (HU1.out.trans hu2)
  clear hu2
  go_upto_region 7 with (go_at_call 12; refine (new_law 2 w (by omega) (by omega) HU2.out).mono ?_; rintro e w3 ⟨p, S3, rfl, hd3, hu3, hS3⟩)
  have HD3 : Hid (DInv w w3 p S3 (D2 DK.zeros DK.zeros)) := Lib.hid hd3
  have HB3 : Hid (Var w3 S3 B0 (encK b).toArray 40) := Lib.hid ⟨HB2.out.upd hu3 (by simp), fun hm => by have := hS3 _ hm; have := HB2.out.lt; omega⟩
  clear hd3 hu3 hS3 HB2 HU2 HB1 HU1
  go_upto_block 0 with (first
    | ((with_reducible show wpList _ _ _ (⟨some 39, _, _, _, _, _⟩ :: _) _ _); refine wpList_run rfl (exec_boot0 rfl) ?_)
    | (refine wpList_alloc rfl 40 rfl zero_boot fun w4 hb4 hu4 hs4 => ?_
       refine wpList_storeA rfl 40 (.tmp 10) (.tmp 39) rfl rfl rfl hb4 info_boot (encK_size zer32_len) (encK_size zer32_len) (encK_one _) fun w5 hb5 hu5 hs5 => ?_
       simp only [Act.put, List.setIfInBounds_toArray, List.set_cons_zero, List.set_cons_succ]))
  obtain ⟨W0, hW0⟩ : ∃ x, x = w3.heap.size := ⟨_, rfl⟩
  have hu35 : Upd [] w3 w5 := hu4.then hu5 (fun q hq => .inr (by simp at hq; omega))
  have hv5 := HD3.out.var hb5
  have hbw0 : B0 < W0 := by rw [hW0]; exact HB3.out.1.lt
  have hw0 : w.heap.size ≤ W0 := by rw [hW0]; exact HD3.out.upd.size
  rw [← hW0] at hv5 ⊢
  have HV5 := Lib.hid hv5
  have HD5 := Lib.hid (HD3.out.quiet hu35)
  have HB5 := Lib.hid (HB3.out.keep (Keep.quiet hu35))
  clear hb4 hu4 hs4 hb5 hu5 hs5 hu35 hv5 hW0 HB3 HD3
  go_cut [11] (fun nv wx => ∃ (n : Nat) (was : BK) (d : DK) (S : List Nat), nv = .int .i64 n ∧ n ≤ 10 ∧ DInv w wx p S d ∧ Told d n was ∧ Var wx S W0 (encK was).toArray 40 ∧ Var wx S B0 (encK b).toArray 40)
  case first =>
    go_wp2_with fail
    go_loopw [11, 12] (fun nv iv wx => ∃ (n i : Nat) (was : BK) (d : DK) (S : List Nat), nv = .int .i64 n ∧ iv = .int .i64 i ∧ n ≤ i ∧ i ≤ 10 ∧ DInv w wx p S d ∧ Told d n was ∧ Var wx S W0 (encK was).toArray 40 ∧ Var wx S B0 (encK b).toArray 40) (fun _ iv _ => 10 - (intOf iv).toNat)
    case atStart => exact ⟨0, 0, BK.zero, _, S3, rfl, rfl, Nat.le_refl _, by omega, HD5.out, ⟨BK.zero, _, _, rfl, St.zero⟩, HV5.out, HB5.out⟩
    case round =>
      obtain ⟨n, i, was, d, S, rfl, rfl, hni, hi10, hd, ht, hv, hbv⟩ := hrel
      have HD := Lib.hid hd
      have HT := Lib.hid ht
      have HV := Lib.hid hv
      have HBV := Lib.hid hbv
      have HBY := Lib.hid ht.byt
      clear hd ht hv hbv HV5 HD5 HB5
      by_cases hg : i < ln ∧ i < 10
      · obtain ⟨g1, g2⟩ := hg
        have k1 : (i : Int) < (ln : Int) := by omega
        have k2 : (i : Int) < 10 := by omega
        have k0 : (0 : Int) ≤ (i : Int) := by omega
        obtain ⟨g, off, rfl, -, hgl, hcl, hlw, hlr⟩ := HL.out.get (i := i) (by rw [← HLN.out]; exact g1)
        obtain ⟨li, hli⟩ : ∃ li, li = L.getD i BK.zero := ⟨_, rfl⟩
        rw [← hli] at hcl hlw hlr
        have HCL := Lib.hid (hcl.upd HD.out.upd hgl (by simp))
        have HCL0 := Lib.hid hcl
        have HLW := Lib.hid hlw
        have HLR := Lib.hid hlr
        have HGL : Hid (g < w.heap.size) := Lib.hid hgl
        clear hcl hlw hlr hli hgl
        rcases HT.out.point (by omega) HLW.out HLR.out.area with hp | ⟨d', hp, ht'⟩
        · have HP := Lib.hid hp
          clear hp
          go_wp2_with (first
            | ((with_reducible show wpList _ _ _ (⟨some 54, _, _, _, _, _⟩ :: _) _ _); refine wpList_run rfl (boot_loadC (.tmp 53) rfl rfl HCL.out HLW.out.whole) ?_)
            | (go_at_call 18; refine (point_law HD.out HBY.out 0 (by omega) li HLW.out HLR.out.area).mono ?_; rw [HP.out]; rintro e w6 ⟨rfl, S6, hd6, -, hk6⟩))
          exact ⟨⟨n, i + 1, was, d, S6, rfl, by go_num, by omega, by omega, hd6, HT.out, HV.out.keep hk6, HBV.out.keep hk6⟩, by simp [intOf]; omega⟩
        · have HP := Lib.hid hp
          have hst := ht'.start (by omega)
          rw [if_neg (by omega)] at hst
          have HST : Hid (startF d' 0 = (li, ((n + 1 : Nat) : Int), 0)) := Lib.hid hst
          have HT' := Lib.hid ht'
          have HBY' := Lib.hid ht'.byt
          have m1 : IntKind.i64.wrap ((n : Int) + 1) = ((n + 1 : Nat) : Int) := by rw [IntWalk.i64_in _ (by omega)]; omega
          have HEQ : Hid (eqK li li = true) := Lib.hid (eqK_refl li)
          clear hp hst ht'
          obtain ⟨n1, hn1⟩ : ∃ n1, n1 = n + 1 := ⟨_, rfl⟩
          rw [← hn1] at HST HT' m1
          go_upto_region 15 with (first
            | ((with_reducible show wpList _ _ _ (⟨some 54, _, _, _, _, _⟩ :: _) _ _); refine wpList_run rfl (boot_loadC (.tmp 53) rfl rfl HCL.out HLW.out.whole) ?_)
            | (go_at_call 18; refine (point_law HD.out HBY.out 0 (by omega) li HLW.out HLR.out.area).mono ?_; rw [HP.out]; rintro e w6 ⟨rfl, S6, hd6, -, hk6⟩)
            | (go_at_call 17; refine (bstart_law hd6 HBY'.out 0 (by omega)).mono ?_; rw [HST.out]; rintro e w7 ⟨rfl, hd7, hu7⟩)
            | (refine wpList_alloc rfl 40 rfl zero_boot fun w8 hb8 hu8 hs8 => ?_
               refine wpList_storeA rfl 40 (.tmp 14) (.tmp 61) rfl rfl rfl hb8 info_boot (encK_size HLW.out.whole) (encK_size zer32_len) (encK_one _) fun w9 hb9 hu9 hs9 => ?_
               simp only [Act.put, List.setIfInBounds_toArray, List.set_cons_zero, List.set_cons_succ]))
          obtain ⟨V0, hV0⟩ : ∃ x, x = w7.heap.size := ⟨_, rfl⟩
          have hu79 : Upd [] w7 w9 := hu8.then hu9 (fun q hq => .inr (by simp at hq; omega))
          have hX9 := hd7.var hb9
          have HVK : Hid (W0 < V0) := Lib.hid (by rw [hV0]; have h1 := (HV.out.keep (hk6.trans (Keep.quiet hu7))).1.lt; exact h1)
          have hk9 : Keep wr S w9 S6 := hk6.trans (Keep.quiet (hu7.trans hu79))
          rw [← hV0] at hX9 ⊢
          have HX9 := Lib.hid hX9
          have HD9 := Lib.hid (hd7.quiet hu79)
          have HV9 := Lib.hid (HV.out.keep hk9)
          have HBV9 := Lib.hid (HBV.out.keep hk9)
          have HC9 := Lib.hid (HCL0.out.upd HD9.out.upd.drew HGL.out (by simp))
          have hwv : V0 ≠ W0 := by have h1 := HV9.out.1.lt; have h2 := HVK.out; omega
          clear hd6 hk6 hd7 hu7 hb8 hu8 hs8 hb9 hu9 hs9 hu79 hX9 hk9 hV0 HD HV HBV
          refine wp_region_still_lit mixed (by kernel_rfl) ?_
          still_step
          still_step
          still_step
          refine still_runW rfl (boot_load (.tmp 14) rfl rfl HX9.out.1.drew HLW.out.whole) ?_
          still_step
          still_step
          still_step
          refine still_runW rfl (boot_loadC (.tmp 70) rfl rfl HC9.out HLW.out.whole) ?_
          refine still_runW rfl (exec_neq_boot (k := li) (l := li) (.tmp 67) (.tmp 71) rfl rfl rfl HLW.out.whole HLW.out.whole) ?_
          rw [HEQ.out]
          iterate 7 still_step
          refine wpStill_nil ?_
          change (Exit.then _ _ Exit.normal _ w9.drew)
          have hq : Upd [] w9 w9.drew := (Upd.refl _ _).drew
          obtain ⟨w10, hw10⟩ : ∃ x, x = w9.drew := ⟨_, rfl⟩
          rw [← hw10] at hq ⊢
          have HX10 := Lib.hid (HX9.out.keep (Keep.quiet hq))
          have HD10 := Lib.hid (HD9.out.quiet hq)
          have HV10 := Lib.hid (HV9.out.keep (Keep.quiet hq))
          have HBV10 := Lib.hid (HBV9.out.keep (Keep.quiet hq))
          clear hq hw10 HX9 HD9 HV9 HBV9
          go_upto_region 18 with (first
            | ((with_reducible show wpList _ _ _ (⟨some 80, _, _, _, _, _⟩ :: _) _ _)
               refine wpList_run rfl (boot_load (.tmp 14) rfl rfl HX10.out.1 HLW.out.whole) ?_
               refine wpList_storeA rfl 40 (.tmp 10) (.tmp 80) rfl rfl rfl HV10.out.1 info_boot (encK_size HLW.out.whole) (encK_size HT.out.wf) (encK_one _) fun w11 hb11 hu11 hs11 => ?_
               simp only [Act.put, List.setIfInBounds_toArray, List.set_cons_zero, List.set_cons_succ]))
          have hd11 := HD10.out.beside (T := [W0]) hu11 (fun k hk hm => by simp at hm; subst hm; exact HV10.out.2 hk) (fun k hk => by simp at hk; omega)
          have hbv11 := HBV10.out.upd hu11 (by simp; omega)
          have HD11 := Lib.hid hd11
          have HBV11 := Lib.hid hbv11
          have HV11 := Lib.hid (show Var w11 S6 W0 (encK li).toArray 40 from ⟨hb11, HV10.out.2⟩)
          clear hb11 hu11 hs11 hd11 hbv11 HX10 HD10 HV10 HBV10
          go_wp2_with fail
          exact ⟨⟨n1, i + 1, li, d', S6, by rw [hn1]; simp, by go_num, by omega, by omega, HD11.out, HT'.out, HV11.out, HBV11.out⟩, by simp [intOf]; omega⟩
      · have hex : (¬ (i : Int) < (ln : Int)) ∨ ((i : Int) < (ln : Int) ∧ i = 10) := by omega
        rcases hex with k1 | ⟨k1, rfl⟩
        all_goals
          go_wp2_with fail
          go_meet
          exact ⟨n, was, d, S, rfl, by omega, HD.out, HT.out, HV.out, HBV.out⟩
  case rest =>
    obtain ⟨n, was, d, S, rfl, hn10, hd, ht, hv, hbv⟩ := hcut
    have HD := Lib.hid hd
    have HT := Lib.hid ht
    have HV := Lib.hid hv
    have HBV := Lib.hid hbv
    clear hd ht hv hbv HV5 HD5 HB5
    by_cases h0 : n = 0
    · subst h0
      go_wp2_with fail
      go_ret
      exact ⟨rfl, HD.out.upd.toBelow⟩
    · skip
      have k0 : ((n : Int) == (0 : Int)) = false := by simpa using h0
      have k0' : ¬ (n : Int) = 0 := by omega
      obtain ⟨prev, x, y, rfl, hs⟩ := HT.out
      have HST := Lib.hid hs
      have HXL := Lib.hid hs.len.1
      have HYL := Lib.hid hs.len.2
      have hpt := hs.point (by omega) HBW.out HBR.out.area
      have HPT := Lib.hid hpt
      clear hs hpt HT
      go_upto_region 22 with (first
        | (go_at_call 21; refine (read_law HD.out 0).mono ?_; rw [D2.rd0, D2.code x y 0 (.inl rfl)]; rintro e w20 ⟨rfl, hd20, hk20⟩)
        | ((with_reducible show wpList _ _ _ (⟨some 17, _, _, _, _, _⟩ :: _) _ _); refine wpList_alloc rfl 32 rfl zero_arr fun w20a hb20a hu20a hs20a => ?_; refine wpList_store rfl (.tmp 17) (.tmp 87) rfl rfl rfl hb20a DK.zeros_len HXL.out fun w20b hb20b hu20b hs20b => ?_; simp only [Act.put, List.setIfInBounds_toArray, List.set_cons_zero, List.set_cons_succ]))
      obtain ⟨X1, hX1⟩ : ∃ x, x = w20.heap.size := ⟨_, rfl⟩
      have hu20 : Upd [] w20 w20b := hu20a.then hu20b (fun q hq => .inr (by simp at hq; omega))
      have hx20 := hd20.var hb20b
      rw [← hX1] at hx20 ⊢
      have HX20 := Lib.hid hx20
      have HD20 := Lib.hid (hd20.quiet hu20)
      have HV20 := Lib.hid (HV.out.keep (hk20.trans (Keep.quiet hu20)))
      have HB20 := Lib.hid (HBV.out.keep (hk20.trans (Keep.quiet hu20)))
      clear hd20 hk20 hb20a hu20a hs20a hb20b hu20b hs20b hX1 hu20 hx20 HD HV HBV
      go_upto_region 23 with (first
        | (go_at_call 21; refine (read_law HD20.out 1).mono ?_; rw [D2.rd1, D2.code x y 1 (.inr rfl)]; rintro e w21 ⟨rfl, hd21, hk21⟩)
        | ((with_reducible show wpList _ _ _ (⟨some 19, _, _, _, _, _⟩ :: _) _ _); refine wpList_alloc rfl 32 rfl zero_arr fun w21a hb21a hu21a hs21a => ?_; refine wpList_store rfl (.tmp 19) (.tmp 92) rfl rfl rfl hb21a DK.zeros_len HYL.out fun w21b hb21b hu21b hs21b => ?_; simp only [Act.put, List.setIfInBounds_toArray, List.set_cons_zero, List.set_cons_succ]))
      obtain ⟨Y1, hY1⟩ : ∃ x, x = w21.heap.size := ⟨_, rfl⟩
      have hu21 : Upd [] w21 w21b := hu21a.then hu21b (fun q hq => .inr (by simp at hq; omega))
      have hy21 := hd21.var hb21b
      rw [← hY1] at hy21 ⊢
      have HY21 := Lib.hid hy21
      have HD21 := Lib.hid (hd21.quiet hu21)
      have HX21 := Lib.hid (HX20.out.keep (hk21.trans (Keep.quiet hu21)))
      have HV21 := Lib.hid (HV20.out.keep (hk21.trans (Keep.quiet hu21)))
      have HB21 := Lib.hid (HB20.out.keep (hk21.trans (Keep.quiet hu21)))
      have HBY21 := Lib.hid (D2.byt HST.out)
      clear hd21 hk21 hb21a hu21a hs21a hb21b hu21b hs21b hY1 hu21 hy21 HD20 HV20 HB20 HX20
      rcases HPT.out with ⟨-, hp⟩ | ⟨-, z, hz, hp, hst⟩
      · have HP := Lib.hid hp
        clear hp
        go_wp2_with (first
          | ((with_reducible show wpList _ _ _ (⟨some 95, _, _, _, _, _⟩ :: _) _ _); refine wpList_run rfl (boot_load (.tmp 4) rfl rfl HB21.out.1 HBW.out.whole) ?_)
          | (go_at_call 18; refine (point_law HD21.out HBY21.out 0 (by omega) b HBW.out HBR.out.area).mono ?_; rw [HP.out]; rintro e w22 ⟨rfl, S22, hd22, -, -⟩))
        go_ret
        exact ⟨rfl, hd22.upd.toBelow⟩
      · have huv : ∃ u v, pointF (D2 x y) 0 b = (D2 u v, 0) ∧ (D2 u v).Byt ∧ u.length = 64 ∧ v.length = 64 ∧ ((n % 2 = 0 ∧ u = z ∧ v = y) ∨ (n % 2 = 1 ∧ u = x ∧ v = z)) := by
          by_cases hp2 : n % 2 = 0
          · rw [if_pos hp2] at hp hst
            exact ⟨_, _, hp, D2.byt hst, hz.len, HYL.out, .inl ⟨hp2, rfl, rfl⟩⟩
          · rw [if_neg hp2] at hp hst
            exact ⟨_, _, hp, D2.byt hst, HXL.out, hz.len, .inr ⟨by omega, rfl, rfl⟩⟩
        obtain ⟨u, v, hp, hby, hul, hvl, huv⟩ := huv
        have HP := Lib.hid hp
        have HBY22 := Lib.hid hby
        have HUL := Lib.hid hul
        have HVL := Lib.hid hvl
        have HUV := Lib.hid huv
        have HZ := Lib.hid hz
        clear hp hst hby hul hvl huv hz
        go_upto_region 25 with (first
          | ((with_reducible show wpList _ _ _ (⟨some 95, _, _, _, _, _⟩ :: _) _ _); refine wpList_run rfl (boot_load (.tmp 4) rfl rfl HB21.out.1 HBW.out.whole) ?_)
          | (go_at_call 18; refine (point_law HD21.out HBY21.out 0 (by omega) b HBW.out HBR.out.area).mono ?_; rw [HP.out]; rintro e w22 ⟨rfl, S22, hd22, -, hk22⟩))
        have HD22 := Lib.hid hd22
        have HX22 := Lib.hid (HX21.out.keep hk22)
        have HY22 := Lib.hid (HY21.out.keep hk22)
        have HV22 := Lib.hid (HV21.out.keep hk22)
        have HB22 := Lib.hid (HB21.out.keep hk22)
        clear hd22 hk22 HD21 HX21 HY21 HV21 HB21
        go_upto_region 26 with (first
          | (go_at_call 21; refine (read_law HD22.out 0).mono ?_; rw [D2.rd0, D2.code u v 0 (.inl rfl)]; rintro e w23 ⟨rfl, hd23, hk23⟩)
          | ((with_reducible show wpList _ _ _ (⟨some 21, _, _, _, _, _⟩ :: _) _ _); refine wpList_alloc rfl 32 rfl zero_arr fun w23a hb23a hu23a hs23a => ?_; refine wpList_store rfl (.tmp 21) (.tmp 101) rfl rfl rfl hb23a DK.zeros_len HUL.out fun w23b hb23b hu23b hs23b => ?_; simp only [Act.put, List.setIfInBounds_toArray, List.set_cons_zero, List.set_cons_succ]))
        obtain ⟨U1, hU1⟩ : ∃ x, x = w23.heap.size := ⟨_, rfl⟩
        have hu23 : Upd [] w23 w23b := hu23a.then hu23b (fun q hq => .inr (by simp at hq; omega))
        have hx23 := hd23.var hb23b
        rw [← hU1] at hx23 ⊢
        have HU23 := Lib.hid hx23
        have HD23 := Lib.hid (hd23.quiet hu23)
        have HX23 := Lib.hid (HX22.out.keep (hk23.trans (Keep.quiet hu23)))
        have HY23 := Lib.hid (HY22.out.keep (hk23.trans (Keep.quiet hu23)))
        have HV23 := Lib.hid (HV22.out.keep (hk23.trans (Keep.quiet hu23)))
        have HB23 := Lib.hid (HB22.out.keep (hk23.trans (Keep.quiet hu23)))
        clear hd23 hk23 hb23a hu23a hs23a hb23b hu23b hs23b hU1 hu23 hx23 HD22 HX22 HY22 HV22 HB22
        go_upto_region 27 with (first
          | (go_at_call 21; refine (read_law HD23.out 1).mono ?_; rw [D2.rd1, D2.code u v 1 (.inr rfl)]; rintro e w24 ⟨rfl, hd24, hk24⟩)
          | ((with_reducible show wpList _ _ _ (⟨some 23, _, _, _, _, _⟩ :: _) _ _); refine wpList_alloc rfl 32 rfl zero_arr fun w24a hb24a hu24a hs24a => ?_; refine wpList_store rfl (.tmp 23) (.tmp 106) rfl rfl rfl hb24a DK.zeros_len HVL.out fun w24b hb24b hu24b hs24b => ?_; simp only [Act.put, List.setIfInBounds_toArray, List.set_cons_zero, List.set_cons_succ]))
        obtain ⟨V1, hV1⟩ : ∃ x, x = w24.heap.size := ⟨_, rfl⟩
        have hu24 : Upd [] w24 w24b := hu24a.then hu24b (fun q hq => .inr (by simp at hq; omega))
        have hx24 := hd24.var hb24b
        rw [← hV1] at hx24 ⊢
        have HV24 := Lib.hid hx24.1
        have HUP24 := Lib.hid (hd24.quiet hu24).upd
        have HX24 := Lib.hid (HX23.out.keep (hk24.trans (Keep.quiet hu24))).1
        have HY24 := Lib.hid (HY23.out.keep (hk24.trans (Keep.quiet hu24))).1
        have HU24 := Lib.hid (HU23.out.keep (hk24.trans (Keep.quiet hu24))).1
        have HW24 := Lib.hid (HV23.out.keep (hk24.trans (Keep.quiet hu24))).1
        have HB24 := Lib.hid (HB23.out.keep (hk24.trans (Keep.quiet hu24))).1
        clear hd24 hk24 hb24a hu24a hs24a hb24b hu24b hs24b hV1 hu24 hx24 HD23 HX23 HY23 HV23 HB23 HU23
        go_upto_region 28 with (go_at_call 12; refine (new_law 2 w (by omega) (by omega) HUP24.out).mono ?_; rintro e w25 ⟨p2, S25, rfl, hd25, hu25, hS25⟩)
        have hout : ∀ q, q < w24b.heap.size → q ∉ S25 := fun q hq hm => by have := hS25 _ hm; omega
        have HD25 : Hid (DInv w w25 p2 S25 (D2 DK.zeros DK.zeros)) := Lib.hid hd25
        have HX25 : Hid (Var w25 S25 X1 (U8 x) 32) := Lib.hid ⟨HX24.out.upd hu25 (by simp), hout _ HX24.out.lt⟩
        have HY25 : Hid (Var w25 S25 Y1 (U8 y) 32) := Lib.hid ⟨HY24.out.upd hu25 (by simp), hout _ HY24.out.lt⟩
        have HU25 : Hid (Var w25 S25 U1 (U8 u) 32) := Lib.hid ⟨HU24.out.upd hu25 (by simp), hout _ HU24.out.lt⟩
        have HV25 : Hid (Var w25 S25 V1 (U8 v) 32) := Lib.hid ⟨HV24.out.upd hu25 (by simp), hout _ HV24.out.lt⟩
        have HW25 : Hid (Var w25 S25 W0 (encK was).toArray 40) := Lib.hid ⟨HW24.out.upd hu25 (by simp), hout _ HW24.out.lt⟩
        have HB25 : Hid (Var w25 S25 B0 (encK b).toArray 40) := Lib.hid ⟨HB24.out.upd hu25 (by simp), hout _ HB24.out.lt⟩
        clear hd25 hu25 hS25 hout HX24 HY24 HU24 HV24 HW24 HB24 HUP24
        go_upto_region 29 with (first
          | ((with_reducible show wpList _ _ _ (⟨some 113, _, _, _, _, _⟩ :: _) _ _); refine wpList_run rfl (arr_load (.tmp 17) rfl rfl HX25.out.1 HXL.out) ?_; simp only [Act.put, List.setIfInBounds_toArray, List.set_cons_zero, List.set_cons_succ])
          | (go_at_call 13; refine (write_law HD25.out 0 x HXL.out).mono ?_; rintro e w26 ⟨rfl, S26, hd26, hk26⟩))
        have HD26 := Lib.hid hd26
        have HX26 := Lib.hid (HX25.out.keep hk26)
        have HY26 := Lib.hid (HY25.out.keep hk26)
        have HU26 := Lib.hid (HU25.out.keep hk26)
        have HV26 := Lib.hid (HV25.out.keep hk26)
        have HW26 := Lib.hid (HW25.out.keep hk26)
        have HB26 := Lib.hid (HB25.out.keep hk26)
        clear hd26 hk26 HD25 HX25 HY25 HU25 HV25 HW25 HB25
        go_upto_region 30 with (first
          | ((with_reducible show wpList _ _ _ (⟨some 116, _, _, _, _, _⟩ :: _) _ _); refine wpList_run rfl (arr_load (.tmp 19) rfl rfl HY26.out.1 HYL.out) ?_; simp only [Act.put, List.setIfInBounds_toArray, List.set_cons_zero, List.set_cons_succ])
          | (go_at_call 13; refine (write_law HD26.out 1 y HYL.out).mono ?_; rintro e w27 ⟨rfl, S27, hd27, hk27⟩))
        have HD27 := Lib.hid hd27
        have HX27 := Lib.hid (HX26.out.keep hk27)
        have HY27 := Lib.hid (HY26.out.keep hk27)
        have HU27 := Lib.hid (HU26.out.keep hk27)
        have HV27 := Lib.hid (HV26.out.keep hk27)
        have HW27 := Lib.hid (HW26.out.keep hk27)
        have HB27 := Lib.hid (HB26.out.keep hk27)
        clear hd27 hk27 HD26 HX26 HY26 HU26 HV26 HW26 HB26
        go_upto_region 31 with (go_at_call 22; refine (flush_law HD27.out).mono ?_; rintro e w28 ⟨rfl, S28, hd28, hk28⟩)
        rw [D2.fill DK.zeros_len DK.zeros_len HXL.out HYL.out] at hd28
        have HD28 := Lib.hid hd28
        have HX28 := Lib.hid (HX27.out.keep hk28)
        have HY28 := Lib.hid (HY27.out.keep hk28)
        have HU28 := Lib.hid (HU27.out.keep hk28)
        have HV28 := Lib.hid (HV27.out.keep hk28)
        have HW28 := Lib.hid (HW27.out.keep hk28)
        have HB28 := Lib.hid (HB27.out.keep hk28)
        have HBY28 := Lib.hid (D2.byt HST.out)
        have HXX : Hid ((x == x) = true) := Lib.hid (by simp)
        have HYY : Hid ((y == y) = true) := Lib.hid (by simp)
        clear hd28 hk28 HD27 HX27 HY27 HU27 HV27 HW27 HB27
        have HWL := Lib.hid HST.out.wf
        have HTORN := Lib.hid (HST.out.torn (by omega) (by omega) HZ.out (DK.kOf_le fate))
        have HIS := Lib.hid (show St n was prev x y from HST.out)
        rcases HUV.out with ⟨hp2, rfl, rfl⟩ | ⟨hp2, rfl, rfl⟩
        · have HNE : Hid ((u == x) = false) := Lib.hid (by have h1 := HST.out; unfold St at h1; rw [if_neg (by omega)] at h1; exact HZ.out.ne h1.2 (by omega) (by omega) (by omega))
          have HZL : Hid (u.length = 64) := Lib.hid HZ.out.len
          have HZU : Hid (U8L u) := Lib.hid HZ.out.u8
          go_upto_region 33 with (first
            | ((with_reducible show wpList _ _ _ (⟨some 120, _, _, _, _, _⟩ :: _) _ _); refine wpList_run rfl (arr_load (.tmp 21) rfl rfl HU28.out.1 HUL.out) ?_; simp only [Act.put, List.setIfInBounds_toArray, List.set_cons_zero, List.set_cons_succ])
            | ((with_reducible show wpList _ _ _ (⟨some 121, _, _, _, _, _⟩ :: _) _ _); refine wpList_run rfl (arr_load (.tmp 17) rfl rfl HX28.out.1 HXL.out) ?_; simp only [Act.put, List.setIfInBounds_toArray, List.set_cons_zero, List.set_cons_succ])
            | ((with_reducible show wpList _ _ _ (⟨some 122, _, _, _, _, _⟩ :: _) _ _); refine wpList_run rfl (arr_neq (.tmp 120) (.tmp 121) rfl rfl rfl HUL.out HXL.out) ?_; rw [HNE.out]; simp only [Act.put, List.setIfInBounds_toArray, List.set_cons_zero, List.set_cons_succ])
            | ((with_reducible show wpList _ _ _ (⟨some 124, _, _, _, _, _⟩ :: _) _ _); refine wpList_run rfl (arr_load (.tmp 21) rfl rfl HU28.out.1 HUL.out) ?_; simp only [Act.put, List.setIfInBounds_toArray, List.set_cons_zero, List.set_cons_succ])
            | (go_at_call 13; refine (write_law HD28.out 0 u HZL.out).mono ?_; rw [D2.code x v 0 (.inl rfl)]; rintro e w29 ⟨rfl, S29, hd29, hk29⟩))
          have HD29 := Lib.hid hd29
          have HX29 := Lib.hid (HX28.out.keep hk29)
          have HY29 := Lib.hid (HY28.out.keep hk29)
          have HU29 := Lib.hid (HU28.out.keep hk29)
          have HV29 := Lib.hid (HV28.out.keep hk29)
          have HW29 := Lib.hid (HW28.out.keep hk29)
          have HB29 := Lib.hid (HB28.out.keep hk29)
          clear hd29 hk29 HD28 HX28 HY28 HU28 HV28 HW28 HB28
          go_upto_region 35 with (first
            | ((with_reducible show wpList _ _ _ (⟨some 126, _, _, _, _, _⟩ :: _) _ _); refine wpList_run rfl (arr_load (.tmp 23) rfl rfl HV29.out.1 HVL.out) ?_; simp only [Act.put, List.setIfInBounds_toArray, List.set_cons_zero, List.set_cons_succ])
            | ((with_reducible show wpList _ _ _ (⟨some 127, _, _, _, _, _⟩ :: _) _ _); refine wpList_run rfl (arr_load (.tmp 19) rfl rfl HY29.out.1 HYL.out) ?_; simp only [Act.put, List.setIfInBounds_toArray, List.set_cons_zero, List.set_cons_succ])
            | ((with_reducible show wpList _ _ _ (⟨some 128, _, _, _, _, _⟩ :: _) _ _); refine wpList_run rfl (arr_neq (.tmp 126) (.tmp 127) rfl rfl rfl HVL.out HYL.out) ?_; rw [HYY.out]; simp only [Act.put, List.setIfInBounds_toArray, List.set_cons_zero, List.set_cons_succ]))
          clear HX29 HY29 HU29 HV29
          go_wp2_with fail
          obtain ⟨w30, hw30⟩ : ∃ w30, w30 = w29.alloc (.cells #[.int .i64 fate] 3) := ⟨_, rfl⟩
          have hb30 : Blk w30 w29.heap.size #[.int .i64 fate] 3 := by rw [hw30]; exact Blk.new _ _ _
          have hu30 : Upd [] w29 w30 := by rw [hw30]; exact (Upd.refl _ _).alloc _
          rw [← hw30]
          have hnS : w29.heap.size ∉ S29 := fun hm => by have := HD29.out.disk.lt _ hm; omega
          have HW30 := Lib.hid (HW29.out.keep (Keep.quiet hu30))
          have HB30 := Lib.hid (HB29.out.keep (Keep.quiet hu30))
          refine (crash_law (HD29.out.quiet hu30) _ [fate] (ints_one hb30) (by intro g off n cap _ e; cases e; exact hnS)).mono ?_
          rintro e w31 ⟨rfl, S31, hd31, hk31⟩
          have HD31 := Lib.hid hd31
          have HW31 := Lib.hid (HW30.out.keep hk31)
          have HB31 := Lib.hid (HB30.out.keep hk31)
          clear hw30 hb30 hu30 hnS hd31 hk31 HD29 HW29 HB29 HW30 HB30
          go_wp2_with fail
          refine (start_law HD31.out).mono ?_
          rintro e w32 ⟨rfl, hd32, hk32⟩
          rw [D2.crash0] at hd32
          have HD32 := Lib.hid hd32
          have HW32 := Lib.hid (HW31.out.keep hk32)
          have HB32 := Lib.hid (HB31.out.keep hk32)
          obtain ⟨s, hs⟩ : ∃ s, s = startF (D2 (DK.lay (DK.kOf fate) u x) v) 0 := ⟨_, rfl⟩
          have htn := HTORN.out s (by rw [if_pos (by omega), hs])
          have hby : (D2 (DK.lay (DK.kOf fate) u x) v).Byt := ⟨fun q hq => by simp [D2] at hq; rcases hq with rfl | rfl; exact lay_u8 HZU.out HST.out.u8.1; exact HST.out.u8.2, fun p hp => by simp [D2] at hp⟩
          have HBY32 := Lib.hid hby
          have HS := Lib.hid hs
          obtain ⟨sb, sn, se⟩ := s
          simp only at htn
          obtain ⟨rfl, hsn⟩ := htn
          have hsl : sb.whole.length = 32 := by rcases hsn with ⟨e, -⟩ | ⟨e, -⟩; rw [e]; exact HWL.out; rw [e]; exact HBW.out.whole
          have HSL := Lib.hid hsl
          clear hd32 hk32 hs hby hsl HD31 HW31 HB31
          go_upto_region 38 with (first
            | (go_at_call 17; refine (bstart_law HD32.out HBY32.out 0 (by omega)).mono ?_; rw [← HS.out]; rintro e w33 ⟨rfl, hd33, hu33⟩)
            | ((with_reducible show wpList _ _ _ (⟨some 27, _, _, _, _, _⟩ :: _) _ _); refine wpList_alloc rfl 40 rfl zero_boot fun w34 hb34 hu34 hs34 => ?_; refine wpList_storeA rfl 40 (.tmp 27) (.tmp 141) rfl rfl rfl hb34 info_boot (encK_size HSL.out) (encK_size zer32_len) (encK_one _) fun w35 hb35 hu35 hs35 => ?_; simp only [Act.put, List.setIfInBounds_toArray, List.set_cons_zero, List.set_cons_succ]))
          have hu335 : Upd [] w33 w35 := hu34.then hu35 (fun q hq => .inr (by simp at hq; omega))
          have HU35 := Lib.hid (hd33.quiet hu335).upd
          have HR35 := Lib.hid hb35
          have HW35 := Lib.hid (HW32.out.keep (Keep.quiet (hu33.trans hu335))).1
          have HB35 := Lib.hid (HB32.out.keep (Keep.quiet (hu33.trans hu335))).1
          clear hd33 hu33 hb34 hu34 hs34 hb35 hu35 hs35 hu335 HD32 HW32 HB32 HS
          have m5 : IntKind.i64.wrap ((n : Int) + 1) = (n : Int) + 1 := IntWalk.i64_in _ (by omega)
          rcases hsn with ⟨e1, rfl⟩ | ⟨e1, rfl⟩
          · have HE1 : Hid (eqK sb was = true) := Lib.hid (by rw [e1]; exact eqK_refl _)
            clear e1
            go_wp2_with (first
              | ((with_reducible show wpList _ _ _ (⟨some 147, _, _, _, _, _⟩ :: _) _ _); refine wpList_runW rfl (boot_load (.tmp 27) rfl rfl HR35.out HSL.out) ?_)
              | ((with_reducible show wpList _ _ _ (⟨some 148, _, _, _, _, _⟩ :: _) _ _); refine wpList_runW rfl (boot_load (.tmp 10) rfl rfl HW35.out HWL.out) ?_)
              | ((with_reducible show wpList _ _ _ (⟨some 149, _, _, _, _, _⟩ :: _) _ _); refine wpList_runW rfl (exec_eq_boot (k := sb) (l := was) (.tmp 147) (.tmp 148) rfl rfl rfl HSL.out HWL.out) ?_; rw [HE1.out]))
            go_ret
            exact ⟨rfl, HU35.out.toBelow⟩
          · have HE2 : Hid (eqK sb b = true) := Lib.hid (by rw [e1]; exact eqK_refl _)
            obtain ⟨q1, hq1⟩ : ∃ q1, eqK sb was = q1 := ⟨_, rfl⟩
            have HE1 := Lib.hid hq1
            have kn : ((n : Int) + 1 == (n : Int)) = false := by simp; omega
            clear e1 hq1
            cases q1
            all_goals
              go_wp2_with (first
                | ((with_reducible show wpList _ _ _ (⟨some 147, _, _, _, _, _⟩ :: _) _ _); refine wpList_runW rfl (boot_load (.tmp 27) rfl rfl HR35.out HSL.out) ?_)
                | ((with_reducible show wpList _ _ _ (⟨some 148, _, _, _, _, _⟩ :: _) _ _); refine wpList_runW rfl (boot_load (.tmp 10) rfl rfl HW35.out HWL.out) ?_)
                | ((with_reducible show wpList _ _ _ (⟨some 149, _, _, _, _, _⟩ :: _) _ _); refine wpList_runW rfl (exec_eq_boot (k := sb) (l := was) (.tmp 147) (.tmp 148) rfl rfl rfl HSL.out HWL.out) ?_; rw [HE1.out])
                | ((with_reducible show wpList _ _ _ (⟨some 156, _, _, _, _, _⟩ :: _) _ _); refine wpList_runW rfl (boot_load (.tmp 27) rfl rfl HR35.out HSL.out) ?_)
                | ((with_reducible show wpList _ _ _ (⟨some 157, _, _, _, _, _⟩ :: _) _ _); refine wpList_runW rfl (boot_load (.tmp 4) rfl rfl HB35.out HBW.out.whole) ?_)
                | ((with_reducible show wpList _ _ _ (⟨some 158, _, _, _, _, _⟩ :: _) _ _); refine wpList_runW rfl (exec_eq_boot (k := sb) (l := b) (.tmp 156) (.tmp 157) rfl rfl rfl HSL.out HBW.out.whole) ?_; rw [HE2.out]))
              go_ret
              exact ⟨rfl, HU35.out.toBelow⟩
        · have HNE : Hid ((v == y) = false) := Lib.hid (by have h1 := HST.out; unfold St at h1; rw [if_pos (by omega)] at h1; exact HZ.out.ne h1.2 (by omega) (by omega) (by omega))
          have HP2 := Lib.hid hp2
          clear hp2
          have HZL : Hid (v.length = 64) := Lib.hid HZ.out.len
          have HZU : Hid (U8L v) := Lib.hid HZ.out.u8
          go_upto_region 33 with (first
            | ((with_reducible show wpList _ _ _ (⟨some 120, _, _, _, _, _⟩ :: _) _ _); refine wpList_run rfl (arr_load (.tmp 21) rfl rfl HU28.out.1 HUL.out) ?_; simp only [Act.put, List.setIfInBounds_toArray, List.set_cons_zero, List.set_cons_succ])
            | ((with_reducible show wpList _ _ _ (⟨some 121, _, _, _, _, _⟩ :: _) _ _); refine wpList_run rfl (arr_load (.tmp 17) rfl rfl HX28.out.1 HXL.out) ?_; simp only [Act.put, List.setIfInBounds_toArray, List.set_cons_zero, List.set_cons_succ])
            | ((with_reducible show wpList _ _ _ (⟨some 122, _, _, _, _, _⟩ :: _) _ _); refine wpList_run rfl (arr_neq (.tmp 120) (.tmp 121) rfl rfl rfl HUL.out HXL.out) ?_; rw [HXX.out]; simp only [Act.put, List.setIfInBounds_toArray, List.set_cons_zero, List.set_cons_succ]))
          go_upto_region 34 with (first
            | ((with_reducible show wpList _ _ _ (⟨some 126, _, _, _, _, _⟩ :: _) _ _); refine wpList_run rfl (arr_load (.tmp 23) rfl rfl HV28.out.1 HVL.out) ?_; simp only [Act.put, List.setIfInBounds_toArray, List.set_cons_zero, List.set_cons_succ])
            | ((with_reducible show wpList _ _ _ (⟨some 127, _, _, _, _, _⟩ :: _) _ _); refine wpList_run rfl (arr_load (.tmp 19) rfl rfl HY28.out.1 HYL.out) ?_; simp only [Act.put, List.setIfInBounds_toArray, List.set_cons_zero, List.set_cons_succ])
            | ((with_reducible show wpList _ _ _ (⟨some 128, _, _, _, _, _⟩ :: _) _ _); refine wpList_run rfl (arr_neq (l := v) (m := y) (.tmp 126) (.tmp 127) rfl rfl rfl HVL.out HYL.out) ?_; rw [HNE.out]; simp only [Act.put, List.setIfInBounds_toArray, List.set_cons_zero, List.set_cons_succ]))
          go_upto_region 35 with (first
            | ((with_reducible show wpList _ _ _ (⟨some 130, _, _, _, _, _⟩ :: _) _ _); refine wpList_run rfl (arr_load (.tmp 23) rfl rfl HV28.out.1 HVL.out) ?_; simp only [Act.put, List.setIfInBounds_toArray, List.set_cons_zero, List.set_cons_succ])
            | (go_at_call 13; refine (write_law HD28.out 1 v HZL.out).mono ?_; rw [D2.code u y 1 (.inr rfl)]; rintro e w29 ⟨rfl, S29, hd29, hk29⟩))
          have HD29 := Lib.hid hd29
          have HX29 := Lib.hid (HX28.out.keep hk29)
          have HY29 := Lib.hid (HY28.out.keep hk29)
          have HU29 := Lib.hid (HU28.out.keep hk29)
          have HV29 := Lib.hid (HV28.out.keep hk29)
          have HW29 := Lib.hid (HW28.out.keep hk29)
          have HB29 := Lib.hid (HB28.out.keep hk29)
          clear hd29 hk29 HD28 HX28 HY28 HU28 HV28 HW28 HB28
          clear HX29 HY29 HU29 HV29
          go_wp2_with fail
          obtain ⟨w30, hw30⟩ : ∃ w30, w30 = w29.alloc (.cells #[.int .i64 fate] 3) := ⟨_, rfl⟩
          have hb30 : Blk w30 w29.heap.size #[.int .i64 fate] 3 := by rw [hw30]; exact Blk.new _ _ _
          have hu30 : Upd [] w29 w30 := by rw [hw30]; exact (Upd.refl _ _).alloc _
          rw [← hw30]
          have hnS : w29.heap.size ∉ S29 := fun hm => by have := HD29.out.disk.lt _ hm; omega
          have HW30 := Lib.hid (HW29.out.keep (Keep.quiet hu30))
          have HB30 := Lib.hid (HB29.out.keep (Keep.quiet hu30))
          refine (crash_law (HD29.out.quiet hu30) _ [fate] (ints_one hb30) (by intro g off n cap _ e; cases e; exact hnS)).mono ?_
          rintro e w31 ⟨rfl, S31, hd31, hk31⟩
          have HD31 := Lib.hid hd31
          have HW31 := Lib.hid (HW30.out.keep hk31)
          have HB31 := Lib.hid (HB30.out.keep hk31)
          clear hw30 hb30 hu30 hnS hd31 hk31 HD29 HW29 HB29 HW30 HB30
          go_wp2_with fail
          refine (start_law HD31.out).mono ?_
          rintro e w32 ⟨rfl, hd32, hk32⟩
          rw [D2.crash1] at hd32
          have HD32 := Lib.hid hd32
          have HW32 := Lib.hid (HW31.out.keep hk32)
          have HB32 := Lib.hid (HB31.out.keep hk32)
          obtain ⟨s, hs⟩ : ∃ s, s = startF (D2 u (DK.lay (DK.kOf fate) v y)) 0 := ⟨_, rfl⟩
          have htn := HTORN.out s (by rw [if_neg (by have := HP2.out; omega), hs])
          have hby : (D2 u (DK.lay (DK.kOf fate) v y)).Byt := ⟨fun q hq => by simp [D2] at hq; rcases hq with rfl | rfl; exact HST.out.u8.1; exact lay_u8 HZU.out HST.out.u8.2, fun p hp => by simp [D2] at hp⟩
          have HBY32 := Lib.hid hby
          have HS := Lib.hid hs
          obtain ⟨sb, sn, se⟩ := s
          simp only at htn
          obtain ⟨rfl, hsn⟩ := htn
          have hsl : sb.whole.length = 32 := by rcases hsn with ⟨e, -⟩ | ⟨e, -⟩; rw [e]; exact HWL.out; rw [e]; exact HBW.out.whole
          have HSL := Lib.hid hsl
          clear hd32 hk32 hs hby hsl HD31 HW31 HB31
          go_upto_region 38 with (first
            | (go_at_call 17; refine (bstart_law HD32.out HBY32.out 0 (by omega)).mono ?_; rw [← HS.out]; rintro e w33 ⟨rfl, hd33, hu33⟩)
            | ((with_reducible show wpList _ _ _ (⟨some 27, _, _, _, _, _⟩ :: _) _ _); refine wpList_alloc rfl 40 rfl zero_boot fun w34 hb34 hu34 hs34 => ?_; refine wpList_storeA rfl 40 (.tmp 27) (.tmp 141) rfl rfl rfl hb34 info_boot (encK_size HSL.out) (encK_size zer32_len) (encK_one _) fun w35 hb35 hu35 hs35 => ?_; simp only [Act.put, List.setIfInBounds_toArray, List.set_cons_zero, List.set_cons_succ]))
          have hu335 : Upd [] w33 w35 := hu34.then hu35 (fun q hq => .inr (by simp at hq; omega))
          have HU35 := Lib.hid (hd33.quiet hu335).upd
          have HR35 := Lib.hid hb35
          have HW35 := Lib.hid (HW32.out.keep (Keep.quiet (hu33.trans hu335))).1
          have HB35 := Lib.hid (HB32.out.keep (Keep.quiet (hu33.trans hu335))).1
          clear hd33 hu33 hb34 hu34 hs34 hb35 hu35 hs35 hu335 HD32 HW32 HB32 HS
          have m5 : IntKind.i64.wrap ((n : Int) + 1) = (n : Int) + 1 := IntWalk.i64_in _ (by omega)
          rcases hsn with ⟨e1, rfl⟩ | ⟨e1, rfl⟩
          · have HE1 : Hid (eqK sb was = true) := Lib.hid (by rw [e1]; exact eqK_refl _)
            clear e1
            go_wp2_with (first
              | ((with_reducible show wpList _ _ _ (⟨some 147, _, _, _, _, _⟩ :: _) _ _); refine wpList_runW rfl (boot_load (.tmp 27) rfl rfl HR35.out HSL.out) ?_)
              | ((with_reducible show wpList _ _ _ (⟨some 148, _, _, _, _, _⟩ :: _) _ _); refine wpList_runW rfl (boot_load (.tmp 10) rfl rfl HW35.out HWL.out) ?_)
              | ((with_reducible show wpList _ _ _ (⟨some 149, _, _, _, _, _⟩ :: _) _ _); refine wpList_runW rfl (exec_eq_boot (k := sb) (l := was) (.tmp 147) (.tmp 148) rfl rfl rfl HSL.out HWL.out) ?_; rw [HE1.out]))
            go_ret
            exact ⟨rfl, HU35.out.toBelow⟩
          · have HE2 : Hid (eqK sb b = true) := Lib.hid (by rw [e1]; exact eqK_refl _)
            obtain ⟨q1, hq1⟩ : ∃ q1, eqK sb was = q1 := ⟨_, rfl⟩
            have HE1 := Lib.hid hq1
            have kn : ((n : Int) + 1 == (n : Int)) = false := by simp; omega
            clear e1 hq1
            cases q1
            all_goals
              go_wp2_with (first
                | ((with_reducible show wpList _ _ _ (⟨some 147, _, _, _, _, _⟩ :: _) _ _); refine wpList_runW rfl (boot_load (.tmp 27) rfl rfl HR35.out HSL.out) ?_)
                | ((with_reducible show wpList _ _ _ (⟨some 148, _, _, _, _, _⟩ :: _) _ _); refine wpList_runW rfl (boot_load (.tmp 10) rfl rfl HW35.out HWL.out) ?_)
                | ((with_reducible show wpList _ _ _ (⟨some 149, _, _, _, _, _⟩ :: _) _ _); refine wpList_runW rfl (exec_eq_boot (k := sb) (l := was) (.tmp 147) (.tmp 148) rfl rfl rfl HSL.out HWL.out) ?_; rw [HE1.out])
                | ((with_reducible show wpList _ _ _ (⟨some 156, _, _, _, _, _⟩ :: _) _ _); refine wpList_runW rfl (boot_load (.tmp 27) rfl rfl HR35.out HSL.out) ?_)
                | ((with_reducible show wpList _ _ _ (⟨some 157, _, _, _, _, _⟩ :: _) _ _); refine wpList_runW rfl (boot_load (.tmp 4) rfl rfl HB35.out HBW.out.whole) ?_)
                | ((with_reducible show wpList _ _ _ (⟨some 158, _, _, _, _, _⟩ :: _) _ _); refine wpList_runW rfl (exec_eq_boot (k := sb) (l := b) (.tmp 156) (.tmp 157) rfl rfl rfl HSL.out HBW.out.whole) ?_; rw [HE2.out]))
              go_ret
              exact ⟨rfl, HU35.out.toBelow⟩
end Go.Proofs.Ytpeboaoephkfhaa
