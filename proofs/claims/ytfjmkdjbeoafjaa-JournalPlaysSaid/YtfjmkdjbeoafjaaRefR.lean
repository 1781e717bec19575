/- The document's journal: the walk of its Open. -/
import Derived.Test.YtfjmkdjbeoafjaaRefQ
namespace Go.Proofs.Ytfjmkdjbeoafjaa
open Go.ChangeShapes Go.WideShapes Go.ChangeAt Go.RowKit

theorem goodB_max {b : Blok} {lst : Int} {wb : Bool} (h0 : 0 ≤ lst) (h : lst = 0 → wb = false) : goodB b (max lst 1) wb = goodB b lst wb := by
  unfold goodB
  by_cases h1 : lst = 0
  · rw [h h1, h1]; rfl
  · have e : max lst 1 = lst := by omega
    simp only [e]

theorem goodB_pos {b : Blok} {lst : Int} {wb : Bool} (h : goodB b lst wb = true) : 1 ≤ life8 b := by
  unfold goodB at h
  simp only [Bool.and_eq_true, decide_eq_true_eq] at h
  omega

theorem ropen_close {w9 w10 : World} {jb p f k ud q : Nat} {bs : List Blok} {d : DK} {jv : Value} {us2 : List Value} {U2 : List Nat} {recs : List (List Int)} {rc : List Int} {lst : Int} (hl2 : LL w10 w9.heap.size jv us2 U2 recs)
    (hj : Blk w10 jb #[.pointer (some ⟨p, 0, none⟩), .int .i64 f, .int .i64 k, .int .i64 (openLife bs), .int .i64 ud, jv] 57) (hjl : jb < w9.heap.size) (hbs : bs = d.area f k) (hfin : parse bs 0 [] 0 [] 0 = (recs, ud))
    (hpi : PInv bs q rc lst recs ud) (hq : q ≤ k) (hm : f + k ≤ 4096) (hu8 : ∀ b ∈ bs, U8L b) : RJAt w10 jb (jb :: (jv.ownBlock.toList ++ U2)) p (d.openJ f k) := by
  subst hbs
  have hlb := openLife_bound (d.area f k) hu8 1 (by omega) (by omega)
  have e1 : (d.openJ f k).recs = recs := by unfold DK.openJ; rw [hfin]
  have e2 : (d.openJ f k).used = ud := by unfold DK.openJ; rw [hfin]
  have hnu := hpi.nu
  have hwf : (d.openJ f k).WF := ⟨by rw [e2]; show ud ≤ k; omega, hm, hlb.1, hlb.2, by rw [e1, e2]; exact hpi.nr, fun r hr => by rw [e1] at hr; have := hpi.small r hr; omega, fun r hr => by rw [e1] at hr; exact hpi.bytes r hr⟩
  refine ⟨jv, us2, U2, rfl, fun hm => by have := (hl2.new jb hm).1; omega, fun g hg => ⟨fun e => by have := (hl2.own.lt g hg).1; omega, hl2.sep g hg⟩, fun g hg => (hl2.new g hg).2, hwf, ?_, ?_, ?_⟩
  · rw [e2]; exact hj
  · rw [e1]; exact own_zero hl2.own
  · rw [e1]; exact hl2.recs

set_option maxRecDepth 100000 in
set_option maxHeartbeats 4000000 in
theorem ropen_yes (q : Nat) (R : List Nat) (d : DK) (f n : Nat) (w : World) (h : RefAt w q R d) (hf : f + n ≤ d.last.length) (hd : d.down = false) (hby : d.Byt) :
    Calls Try.prog 22 #[.pointer (some ⟨q, 0, none⟩), .int .i64 f, .int .i64 n] w fun e w' => ∃ j J, e = .returned (.tuple #[.pointer (some ⟨j, 0, none⟩), .int .i64 0]) ∧ RJAt w' j J q (d.openJ f n) ∧ (∀ x ∈ J, w.heap.size ≤ x) ∧ Upd [] w w' := by
  obtain ⟨lg, lc, ng, nc, ov, rfl, hn, hw, h1, -, h3, -⟩ := h
  have hm := hw.many
  have c1 := h1.cell (o := 1) rfl
  have c3 := h1.cell (o := 3) rfl
  rw [hd] at c3
  have A1 : ∀ i : Nat, i < n → ((d.area f n).getD i []).length = 64 ∧ U8L ((d.area f n).getD i []) := by
    intro i hi
    rw [area_get d f n i hi]
    exact ⟨DK.rd_len hw _, hby.rd _⟩
  have R1 : ∀ (wx : World), RowAt wx (.slice (some ⟨ng, 0, none⟩) d.now.length nc) d.now → ∀ i, i < n → CellsAt wx ng ((f + i) * 64) (((d.area f n).getD i []).map (Value.int .u8)) := by
    intro wx hx i hi
    have hC := row_cells hx (DK.now_64 hw) (n := f + i) (by rw [DK.now_len]; omega)
    rw [DK.now_get d (by omega)] at hC
    have hc : d.code ((f + i : Nat) : Int) = 0 := by unfold DK.code; rw [hd]; simp; omega
    have hrd : d.rd ((f + i : Nat) : Int) = d.get ((f + i : Nat) : Int) := by unfold DK.rd; rw [if_pos hc]
    rw [area_get d f n i hi, hrd]
    exact hC
  rw [DK.now_len] at c1 h1 h3 R1
  obtain ⟨m, hmm⟩ : ∃ m, m = d.last.length := ⟨_, rfl⟩
  rw [← hmm] at hf hm c1 h1 h3 R1
  have HA := Lib.hid A1
  obtain ⟨bs, hbs⟩ : ∃ bs, bs = d.area f n := ⟨_, rfl⟩
  have hbl : bs.length = n := by rw [hbs, area_len]
  rw [← hbs] at HA R1
  have hq0 := h1.lt
  have hn0 := (h3.lt ng rfl).2
  have HBL := Lib.hid hbl
  have HBS := Lib.hid hbs
  have HR1 := Lib.hid R1
  have H1 := Lib.hid h1
  have H3 := Lib.hid h3
  have q1 : decide ((f : Int) < 0) = false := by simp
  have q2 : decide ((n : Int) < 0) = false := by simp
  have q3 : decide ((m : Int) < (f : Int)) = false := by simp; omega
  have q4 : decide ((m : Int) - (f : Int) < (n : Int)) = false := by simp; omega
  have q5 : decide (m < f) = false := by simp; omega
  clear hmm A1 R1 hd hby hbl hbs hn hw h1 h3
  go_enter Try.func22, Try.ntmps22
  go_upto_region 6 with fail
  obtain ⟨w1, hw1⟩ : ∃ w1, w1 = w.alloc (.cells #[.pointer (some ⟨q, 0, none⟩), .int .i64 f, .int .i64 n, .int .i64 1, .int .i64 0, .slice none 0 0] 57) := ⟨_, rfl⟩
  have hj1 : Blk w1 w.heap.size #[.pointer (some ⟨q, 0, none⟩), .int .i64 f, .int .i64 n, .int .i64 1, .int .i64 0, .slice none 0 0] 57 := by rw [hw1]; exact Blk.new _ _ _
  have hu1 : Upd [] w w1 := by rw [hw1]; exact (Upd.refl _ _).alloc _
  rw [← hw1]
  obtain ⟨jb, hjb⟩ : ∃ jb, jb = w.heap.size := ⟨_, rfl⟩
  have hjl : w.heap.size ≤ jb := by omega
  rw [← hjb] at hj1
  rw [← hjb]
  have hqj : q ≠ jb := by omega
  have hnj : ng ≠ jb := by omega
  have hrf : ∀ wx, Upd [jb] w1 wx → wx.cell? ⟨q, 1, none⟩ = some (.slice (some ⟨ng, 0, none⟩) m nc) ∧ ∀ i, i < n → CellsAt wx ng ((f + i) * 64) ((bs.getD i []).map (Value.int .u8)) := fun wx hu =>
    ⟨((H1.out.upd hu1 (by simp)).upd hu (by simpa using hqj)).cell (o := 1) rfl, HR1.out wx ((H3.out.upd hu1 (by simp)).upd hu (fun g hg => by simp [Value.ownBlock] at hg; subst hg; simpa using hnj))⟩
  have HRF := Lib.hid hrf
  have HJ1 := Lib.hid hj1
  have HU1 := Lib.hid hu1
  have hjlt := hj1.lt
  clear hw1 hjb hj1 hu1 hrf c1 c3
  go_wp2_with fail
  go_loopw [9, 10] (fun i _ wx => ∃ (k : Nat), k ≤ n ∧ i = .int .i64 k ∧ Upd [jb] w1 wx ∧
    Blk wx jb #[.pointer (some ⟨q, 0, none⟩), .int .i64 f, .int .i64 n, .int .i64 ((bs.take k).foldl lifeStep 1), .int .i64 0, .slice none 0 0] 57) (fun i _ _ => n - (intOf i).toNat)
  case atStart => exact ⟨0, Nat.zero_le _, rfl, Upd.refl _ _, HJ1.out⟩
  case round =>
    obtain ⟨k, hk, rfl, hu, hj⟩ := hrel
    have HU := Lib.hid hu
    have HJ := Lib.hid hj
    have hsz := hu.size
    clear hu hj
    by_cases hlt : k < n
    · have hx0 : (0 : Int) ≤ (f : Int) + (k : Int) := by omega
      have hx1 : (f : Int) + (k : Int) < (m : Int) := by omega
      have hx2 : (k : Int) < (n : Int) := by omega
      have hbl64 := (HA.out k hlt).1
      have htk : bs.take (k + 1) = bs.take k ++ [bs.getD k []] := by rw [List.take_succ_eq_append_getElem (by rw [HBL.out]; exact hlt), List.getD_eq_getElem?_getD, List.getElem?_eq_getElem (by rw [HBL.out]; exact hlt)]; rfl
      obtain ⟨c1, hcell⟩ := HRF.out wr HU.out
      have hcb := hcell k hlt
      have hA := HA.out k hlt
      obtain ⟨b, hb⟩ : ∃ b, b = bs.getD k [] := ⟨_, rfl⟩
      rw [← hb] at hA hbl64 htk hcb
      have HBU := Lib.hid hA.2
      have HB64 := Lib.hid hbl64
      have HCB := Lib.hid hcb
      have hlb := (openLife_bound (bs.take k) (fun x hx => by
        obtain ⟨i, hi, rfl⟩ := List.getElem_of_mem (List.mem_of_mem_take hx)
        have := (HA.out i (by rw [← HBL.out]; exact hi)).2
        rw [List.getD_eq_getElem?_getD, List.getElem?_eq_getElem hi] at this
        exact this) 1 (by omega) (by omega))
      have l1 := life8_bound b HBU.out
      have l2 := life8_bound (b.drop 56) (HBU.out.drop 56)
      obtain ⟨lk, hlk⟩ : ∃ lk, lk = (bs.take k).foldl lifeStep 1 := ⟨_, rfl⟩
      obtain ⟨la, hla⟩ : ∃ la, la = life8 b := ⟨_, rfl⟩
      obtain ⟨lz, hlz⟩ : ∃ lz, lz = life8 (b.drop 56) := ⟨_, rfl⟩
      have hstep : (bs.take (k + 1)).foldl lifeStep 1 = max (max lk (la + 1)) (lz + 1) := by rw [htk, List.foldl_append, hlk, hla, hlz]; rfl
      have hj' := HJ.out
      rw [← hlk] at hj' hlb
      rw [← hla] at l1
      rw [← hlz] at l2
      obtain ⟨l10, l11⟩ := l1
      obtain ⟨l20, l21⟩ := l2
      obtain ⟨lb0, lb1⟩ := hlb
      obtain ⟨mx, hmx⟩ : ∃ mx, mx = max (max lk (la + 1)) (lz + 1) := ⟨_, rfl⟩
      rw [← hmx] at hstep
      have HMX := Lib.hid hmx
      have HSTEP := Lib.hid hstep
      have CL1 : ∀ w, Calls Try.prog 43 #[.agg (U8 b), .int .i64 0] w fun e w' => e = .returned (.int .i64 la) ∧ Upd [] w w' := fun w => by
        have := rlife_any b 0 w (by omega) hbl64 HBU.out
        rw [List.drop_zero, ← hla] at this; exact this
      have CL2 : ∀ w, Calls Try.prog 43 #[.agg (U8 b), .int .i64 56] w fun e w' => e = .returned (.int .i64 lz) ∧ Upd [] w w' := fun w => by
        have := rlife_any b 56 w (by omega) hbl64 HBU.out
        rw [← hlz] at this; exact this
      have HC1 := Lib.hid CL1
      have HC2 := Lib.hid CL2
      clear hmx CL1 CL2
      have HJk := Lib.hid hj'
      clear hA hb htk hstep hlk hla hlz hj' HJ hcell hcb hbl64
      go_upto_region 10 with (first
        | ((with_reducible show wpList _ _ _ (⟨some 69, _, _, _, _, _⟩ :: _) _ _); refine wpList_run rfl (arr_loadC (.tmp 68) rfl rfl HCB.out HB64.out) ?_)
        | (refine wpList_alloc rfl 54 rfl zero_arr fun w4 hb4 hu4 hs4 => ?_)
        | (refine wpList_store rfl (.tmp 10) (.tmp 69) rfl rfl rfl hb4 DK.zeros_len HB64.out fun w5 hb5 hu5 hs5 => ?_))
      obtain ⟨tb, htb⟩ : ∃ x, x = wr.heap.size := ⟨_, rfl⟩
      rw [← htb] at hb5 ⊢
      have htj : tb ≠ jb := by omega
      have hu15 : Upd [jb] w1 w5 := HU.out.then (hu4.then hu5 (by simp [htb])) (by simp)
      have hj5 := ((HJk.out.upd hu4 (by simp)).upd hu5 (by simp; omega)).drew
      have HU5 := Lib.hid hu15.drew
      clear hb4 hu4 hs4 hu5 hs5 hu15 htb
      simp only [Act.put, List.setIfInBounds_toArray, List.set_cons_zero, List.set_cons_succ]
      refine held_start (fun w' => Blk w' tb (U8 b) 54) 15 mixed rfl hb5 (fun hHeld => ?_)
      clear hb5
      refine held_take 0 70 (.pointer (some ⟨jb, 0, none⟩)) rfl (by kernel_rfl) (by kernel_rfl) (by kernel_rfl) rfl (fun _ _ _ h => h) rfl hHeld (fun w hS => by rfl) ?_
      simp only [List.setIfInBounds_toArray, List.set_cons_zero, List.set_cons_succ]
      refine held_take 1 71 (.pointer (some ⟨jb, 0, none⟩)) rfl (by kernel_rfl) (by kernel_rfl) (by kernel_rfl) rfl (fun _ _ _ h => h) rfl hHeld (fun w hS => by rfl) ?_
      simp only [List.setIfInBounds_toArray, List.set_cons_zero, List.set_cons_succ]
      refine held_take 2 72 (.pointer (some ⟨jb, 0, none⟩)) rfl (by kernel_rfl) (by kernel_rfl) (by kernel_rfl) rfl (fun _ _ _ h => h) rfl hHeld (fun w hS => by go_simp) ?_
      simp only [List.setIfInBounds_toArray, List.set_cons_zero, List.set_cons_succ]
      refine held_take 3 73 (.pointer (some ⟨jb, 3, none⟩)) rfl (by kernel_rfl) (by kernel_rfl) (by kernel_rfl) rfl (fun _ _ _ h => h) rfl hHeld (fun w hS => by go_simp) ?_
      simp only [List.setIfInBounds_toArray, List.set_cons_zero, List.set_cons_succ]
      refine held_take 5 75 (.agg (U8 b)) rfl (by kernel_rfl) (by kernel_rfl) (by kernel_rfl) rfl (fun _ _ _ h => h) rfl hHeld (fun w hS => by exact arr_load (.tmp 10) rfl rfl hS HB64.out) ?_
      simp only [List.setIfInBounds_toArray, List.set_cons_zero, List.set_cons_succ]
      refine held_take 8 78 (.agg (U8 b)) rfl (by kernel_rfl) (by kernel_rfl) (by kernel_rfl) rfl (fun _ _ _ h => h) rfl hHeld (fun w hS => by exact arr_load (.tmp 10) rfl rfl hS HB64.out) ?_
      simp only [List.setIfInBounds_toArray, List.set_cons_zero, List.set_cons_succ]
      refine wpAnyH_ready (rs := [4, 6]) (by kernel_rfl) (by simp) (held_cons 4 74 rfl rfl rfl (fun K hK => ?_) (held_cons 6 76 rfl rfl rfl (fun K hK => ?_) AllReadyH.nil))
      · have c4 := hj5.cell (o := 3) rfl
        go_simp
        have hk := hK.out (.int .i64 lk) _ hHeld
        simp only [Act.put, List.setIfInBounds_toArray, List.set_cons_zero, List.set_cons_succ] at hk
        refine hk (fun hHeld => ?_)
        clear hK hk K c4
        refine held_next 6 76 rfl (by kernel_rfl) rfl rfl (fun K hK => ?_)
        go_simp
        refine (HC1.out _).mono ?_
        rintro e w6 ⟨rfl, hux⟩
        have HU6 := Lib.hid (HU5.out.trans (hux.mono (by simp)))
        have hjw6 := hj5.upd hux (by simp)
        have hk := hK.out (.int .i64 la) w6 (hHeld.upd hux (by simp))
        simp only [Act.put, List.setIfInBounds_toArray, List.set_cons_zero, List.set_cons_succ] at hk
        refine hk (fun hHeld => ?_)
        clear hux hK hk K
        refine held_take 7 77 (.int .i64 (la + 1)) rfl (by kernel_rfl) (by kernel_rfl) (by kernel_rfl) rfl (fun _ _ _ h => h) rfl hHeld (fun w hS => by have s1 : IntKind.i64.wrap (la + 1) = la + 1 := IntWalk.i64_in _ (by omega); go_simp) ?_
        simp only [List.setIfInBounds_toArray, List.set_cons_zero, List.set_cons_succ]
        refine held_next 9 79 rfl (by kernel_rfl) rfl rfl (fun K hK => ?_)
        go_simp
        refine (HC2.out _).mono ?_
        rintro e w7 ⟨rfl, hux⟩
        have HU7 := Lib.hid (HU6.out.trans (hux.mono (by simp)))
        have hjw7 := hjw6.upd hux (by simp)
        have hk := hK.out (.int .i64 lz) w7 (hHeld.upd hux (by simp))
        simp only [Act.put, List.setIfInBounds_toArray, List.set_cons_zero, List.set_cons_succ] at hk
        refine hk (fun hHeld => ?_)
        clear hux hK hk K
        refine held_take 10 80 (.int .i64 (lz + 1)) rfl (by kernel_rfl) (by kernel_rfl) (by kernel_rfl) rfl (fun _ _ _ h => h) rfl hHeld (fun w hS => by have s1 : IntKind.i64.wrap (lz + 1) = lz + 1 := IntWalk.i64_in _ (by omega); go_simp) ?_
        simp only [List.setIfInBounds_toArray, List.set_cons_zero, List.set_cons_succ]
        refine held_take 11 81 (.int .i64 mx) rfl (by kernel_rfl) (by kernel_rfl) (by kernel_rfl) rfl (fun _ _ _ h => h) rfl hHeld (fun w hS => by exact exec_max3 (.tmp 74) (.tmp 77) (.tmp 80) rfl rfl rfl rfl HMX.out.symm) ?_
        simp only [List.setIfInBounds_toArray, List.set_cons_zero, List.set_cons_succ]
        refine held_take 12 82 (.pointer (some ⟨jb, 0, none⟩)) rfl (by kernel_rfl) (by kernel_rfl) (by kernel_rfl) rfl (fun _ _ _ h => h) rfl hHeld (fun w hS => by go_simp) ?_
        simp only [List.setIfInBounds_toArray, List.set_cons_zero, List.set_cons_succ]
        refine held_take 13 83 (.pointer (some ⟨jb, 3, none⟩)) rfl (by kernel_rfl) (by kernel_rfl) (by kernel_rfl) rfl (fun _ _ _ h => h) rfl hHeld (fun w hS => by go_simp) ?_
        simp only [List.setIfInBounds_toArray, List.set_cons_zero, List.set_cons_succ]
        have hc3 := hjw7.cell (o := 3) rfl
        have hf3 := hjw7.free 3
        have hj8 := hjw7.set 3 (.int .i64 mx)
        have HJ8 := Lib.hid hj8
        have HU8 := Lib.hid (HU7.out.setCell (p := ⟨jb, 3, none⟩) (.inl (by simp)) (.int .i64 mx))
        refine held_store 14 rfl (by kernel_rfl) rfl rfl (fun K hK => ?_)
        go_simp
        refine hK.out _ (hHeld.set_other htj _) (fun hHeld => ?_)
        clear hK K hc3 hf3 hjw7 hjw6 hj5 hHeld hj8
        refine held_done (by kernel_rfl) ?_
        go_wp2_with fail
        go_roundw
        case rel => exact ⟨k + 1, by omega, by go_num, HU8.out, by rw [HSTEP.out]; exact HJ8.out⟩
        case measure => simp [intOf]; omega
      · go_simp
        refine (HC1.out _).mono ?_
        rintro e w6 ⟨rfl, hux⟩
        have HU6 := Lib.hid (HU5.out.trans (hux.mono (by simp)))
        have hjw6 := hj5.upd hux (by simp)
        have hk := hK.out (.int .i64 la) w6 (hHeld.upd hux (by simp))
        simp only [Act.put, List.setIfInBounds_toArray, List.set_cons_zero, List.set_cons_succ] at hk
        refine hk (fun hHeld => ?_)
        clear hux hK hk K
        refine held_take 7 77 (.int .i64 (la + 1)) rfl (by kernel_rfl) (by kernel_rfl) (by kernel_rfl) rfl (fun _ _ _ h => h) rfl hHeld (fun w hS => by have s1 : IntKind.i64.wrap (la + 1) = la + 1 := IntWalk.i64_in _ (by omega); go_simp) ?_
        simp only [List.setIfInBounds_toArray, List.set_cons_zero, List.set_cons_succ]
        refine wpAnyH_ready (rs := [4, 9]) (by kernel_rfl) (by simp) (held_cons 4 74 rfl rfl rfl (fun K hK => ?_) (held_cons 9 79 rfl rfl rfl (fun K hK => ?_) AllReadyH.nil))
        · have c4 := hjw6.cell (o := 3) rfl
          go_simp
          have hk := hK.out (.int .i64 lk) _ hHeld
          simp only [Act.put, List.setIfInBounds_toArray, List.set_cons_zero, List.set_cons_succ] at hk
          refine hk (fun hHeld => ?_)
          clear hK hk K c4
          refine held_next 9 79 rfl (by kernel_rfl) rfl rfl (fun K hK => ?_)
          go_simp
          refine (HC2.out _).mono ?_
          rintro e w7 ⟨rfl, hux⟩
          have HU7 := Lib.hid (HU6.out.trans (hux.mono (by simp)))
          have hjw7 := hjw6.upd hux (by simp)
          have hk := hK.out (.int .i64 lz) w7 (hHeld.upd hux (by simp))
          simp only [Act.put, List.setIfInBounds_toArray, List.set_cons_zero, List.set_cons_succ] at hk
          refine hk (fun hHeld => ?_)
          clear hux hK hk K
          refine held_take 10 80 (.int .i64 (lz + 1)) rfl (by kernel_rfl) (by kernel_rfl) (by kernel_rfl) rfl (fun _ _ _ h => h) rfl hHeld (fun w hS => by have s1 : IntKind.i64.wrap (lz + 1) = lz + 1 := IntWalk.i64_in _ (by omega); go_simp) ?_
          simp only [List.setIfInBounds_toArray, List.set_cons_zero, List.set_cons_succ]
          refine held_take 11 81 (.int .i64 mx) rfl (by kernel_rfl) (by kernel_rfl) (by kernel_rfl) rfl (fun _ _ _ h => h) rfl hHeld (fun w hS => by exact exec_max3 (.tmp 74) (.tmp 77) (.tmp 80) rfl rfl rfl rfl HMX.out.symm) ?_
          simp only [List.setIfInBounds_toArray, List.set_cons_zero, List.set_cons_succ]
          refine held_take 12 82 (.pointer (some ⟨jb, 0, none⟩)) rfl (by kernel_rfl) (by kernel_rfl) (by kernel_rfl) rfl (fun _ _ _ h => h) rfl hHeld (fun w hS => by go_simp) ?_
          simp only [List.setIfInBounds_toArray, List.set_cons_zero, List.set_cons_succ]
          refine held_take 13 83 (.pointer (some ⟨jb, 3, none⟩)) rfl (by kernel_rfl) (by kernel_rfl) (by kernel_rfl) rfl (fun _ _ _ h => h) rfl hHeld (fun w hS => by go_simp) ?_
          simp only [List.setIfInBounds_toArray, List.set_cons_zero, List.set_cons_succ]
          have hc3 := hjw7.cell (o := 3) rfl
          have hf3 := hjw7.free 3
          have hj8 := hjw7.set 3 (.int .i64 mx)
          have HJ8 := Lib.hid hj8
          have HU8 := Lib.hid (HU7.out.setCell (p := ⟨jb, 3, none⟩) (.inl (by simp)) (.int .i64 mx))
          refine held_store 14 rfl (by kernel_rfl) rfl rfl (fun K hK => ?_)
          go_simp
          refine hK.out _ (hHeld.set_other htj _) (fun hHeld => ?_)
          clear hK K hc3 hf3 hjw7 hjw6 hj5 hHeld hj8
          refine held_done (by kernel_rfl) ?_
          go_wp2_with fail
          go_roundw
          case rel => exact ⟨k + 1, by omega, by go_num, HU8.out, by rw [HSTEP.out]; exact HJ8.out⟩
          case measure => simp [intOf]; omega
        · go_simp
          refine (HC2.out _).mono ?_
          rintro e w7 ⟨rfl, hux⟩
          have HU7 := Lib.hid (HU6.out.trans (hux.mono (by simp)))
          have hjw7 := hjw6.upd hux (by simp)
          have hk := hK.out (.int .i64 lz) w7 (hHeld.upd hux (by simp))
          simp only [Act.put, List.setIfInBounds_toArray, List.set_cons_zero, List.set_cons_succ] at hk
          refine hk (fun hHeld => ?_)
          clear hux hK hk K
          refine held_take 10 80 (.int .i64 (lz + 1)) rfl (by kernel_rfl) (by kernel_rfl) (by kernel_rfl) rfl (fun _ _ _ h => h) rfl hHeld (fun w hS => by have s1 : IntKind.i64.wrap (lz + 1) = lz + 1 := IntWalk.i64_in _ (by omega); go_simp) ?_
          simp only [List.setIfInBounds_toArray, List.set_cons_zero, List.set_cons_succ]
          refine held_next 4 74 rfl (by kernel_rfl) rfl rfl (fun K hK => ?_)
          have c4 := hjw7.cell (o := 3) rfl
          go_simp
          have hk := hK.out (.int .i64 lk) _ hHeld
          simp only [Act.put, List.setIfInBounds_toArray, List.set_cons_zero, List.set_cons_succ] at hk
          refine hk (fun hHeld => ?_)
          clear hK hk K c4
          refine held_take 11 81 (.int .i64 mx) rfl (by kernel_rfl) (by kernel_rfl) (by kernel_rfl) rfl (fun _ _ _ h => h) rfl hHeld (fun w hS => by exact exec_max3 (.tmp 74) (.tmp 77) (.tmp 80) rfl rfl rfl rfl HMX.out.symm) ?_
          simp only [List.setIfInBounds_toArray, List.set_cons_zero, List.set_cons_succ]
          refine held_take 12 82 (.pointer (some ⟨jb, 0, none⟩)) rfl (by kernel_rfl) (by kernel_rfl) (by kernel_rfl) rfl (fun _ _ _ h => h) rfl hHeld (fun w hS => by go_simp) ?_
          simp only [List.setIfInBounds_toArray, List.set_cons_zero, List.set_cons_succ]
          refine held_take 13 83 (.pointer (some ⟨jb, 3, none⟩)) rfl (by kernel_rfl) (by kernel_rfl) (by kernel_rfl) rfl (fun _ _ _ h => h) rfl hHeld (fun w hS => by go_simp) ?_
          simp only [List.setIfInBounds_toArray, List.set_cons_zero, List.set_cons_succ]
          have hc3 := hjw7.cell (o := 3) rfl
          have hf3 := hjw7.free 3
          have hj8 := hjw7.set 3 (.int .i64 mx)
          have HJ8 := Lib.hid hj8
          have HU8 := Lib.hid (HU7.out.setCell (p := ⟨jb, 3, none⟩) (.inl (by simp)) (.int .i64 mx))
          refine held_store 14 rfl (by kernel_rfl) rfl rfl (fun K hK => ?_)
          go_simp
          refine hK.out _ (hHeld.set_other htj _) (fun hHeld => ?_)
          clear hK K hc3 hf3 hjw7 hjw6 hj5 hHeld hj8
          refine held_done (by kernel_rfl) ?_
          go_wp2_with fail
          go_roundw
          case rel => exact ⟨k + 1, by omega, by go_num, HU8.out, by rw [HSTEP.out]; exact HJ8.out⟩
          case measure => simp [intOf]; omega

    · obtain rfl : k = n := by omega
      obtain ⟨w9, rfl⟩ : ∃ w9, w9 = wr := ⟨_, rfl⟩
      have htk : bs.take k = bs := List.take_of_length_le (by rw [HBL.out]; exact Nat.le_refl _)
      have hjj := HJ.out
      rw [htk] at hjj
      have HJ := Lib.hid hjj
      have HU8 : Hid (∀ b ∈ bs, U8L b) := Lib.hid (fun b hb => by
        obtain ⟨i, hi, rfl⟩ := List.getElem_of_mem hb
        have := (HA.out i (by rw [← HBL.out]; exact hi)).2
        rw [List.getD_eq_getElem?_getD, List.getElem?_eq_getElem hi] at this
        exact this)
      have HJX : Hid (∀ (wx : World) (jv : Value) (us : List Value) (U : List Nat) (L : List (List Int)), LL wx w9.heap.size jv us U L → ∀ x ∈ jb :: (jv.ownBlock.toList ++ U), w.heap.size ≤ x) := Lib.hid (fun wx jv us U L h x hx => by
        have hz := HU1.out.size
        simp only [List.mem_cons, List.mem_append, Option.mem_toList] at hx
        rcases hx with rfl | hx | hx
        · exact hjl
        · have := (h.own.lt x hx).1; omega
        · have := (h.new x hx).1; omega)
      clear htk hjj hlt
      go_wp2_with fail
      go_loopw [11, 12, 13, 14, 15, 16] (fun rv lv i _ _ _ wx => ∃ (z : Nat) (rc : List Int) (lst : Int) (recs : List (List Int)) (ud : Nat) (jv : Value) (us2 : List Value) (U2 : List Nat), z ≤ k ∧ i = .int .i64 z ∧ lv = .int .i64 (max lst 1) ∧ 0 ≤ lst ∧ (lst = 0 → rc = []) ∧
        wx.ownsRow w9.heap.size 5 1 rv rc.length (rc.map (Value.int .u8)) ∧ LL wx w9.heap.size jv us2 U2 recs ∧ (∀ g, rv.ownBlock = some g → g ∉ U2 ∧ jv.ownBlock ≠ some g) ∧ Upd [jb] w9 wx ∧
        Blk wx jb #[.pointer (some ⟨q, 0, none⟩), .int .i64 f, .int .i64 k, .int .i64 (openLife bs), .int .i64 ud, jv] 57 ∧ PInv bs z rc lst recs ud) (fun _ _ i _ _ _ _ => k - (intOf i).toNat)
      case atStart => exact ⟨0, [], 0, [], 0, .slice none 0 0, [], [], Nat.zero_le _, rfl, rfl, by omega, fun _ => rfl, World.ownsRow_nil _ _ _ _, LL.nil _ _, by simp [Value.ownBlock], Upd.refl _ _, HJ.out, PInv.start bs⟩
      case round =>
        obtain ⟨z, rc, lst, recs, ud, jv, us2, U2, hz, rfl, rfl, hl0, hl1, hro, hl2, hse, hu2, hj2, hpi⟩ := hrel
        have HRO := Lib.hid hro
        have HL2 := Lib.hid hl2
        have HSE := Lib.hid hse
        have HU2 := Lib.hid hu2
        have HJ2 := Lib.hid hj2
        have HPI := Lib.hid hpi
        obtain ⟨ra, rcap, rfl⟩ := own_slice hro
        have hrcl := hpi.nc
        obtain ⟨ln, hln⟩ : ∃ ln, ln = rc.length := ⟨_, rfl⟩
        rw [← hln] at hro hrcl ⊢
        have HLN := Lib.hid hln
        have HL1 := Lib.hid hl1
        clear hro hl2 hse hu2 hj2 hpi HJ hln hl1
        by_cases hlt : z < k
        · have hbl := HBL.out
          have hlx : z < bs.length := by omega
          obtain ⟨c1, hcell⟩ := HRF.out wr (HU.out.trans HU2.out)
          have hcb := hcell z hlt
          have hbA := HA.out z hlt
          have hpm := PInv.more HPI.out hlx hbA.2 hbA.1
          have hpl := PInv.last HPI.out hlx hbA.2 hbA.1
          have hps := PInv.stop HPI.out hlx
          have hgc := fun hg => goodB_cnt (least := lst) (x := decide (0 < rc.length)) hbA.2 hg
          have hpc := fun hg => pieceB_len (least := lst) (x := decide (0 < rc.length)) hbA.2 hbA.1 hg
          obtain ⟨b, hb⟩ : ∃ b, b = bs.getD z [] := ⟨_, rfl⟩
          rw [← hb] at hcb hbA hpm hpl hps hgc hpc
          obtain ⟨hb64, hbu⟩ := hbA
          obtain ⟨wb, hwb⟩ : ∃ wb, wb = decide (0 < rc.length) := ⟨_, rfl⟩
          rw [← hwb] at hpm hpl hps hgc hpc
          have hgm : goodB b (max lst 1) wb = goodB b lst wb := goodB_max hl0 (fun e => by rw [hwb, HL1.out e]; rfl)
          have hgp := fun hg => goodB_pos (b := b) (lst := lst) (wb := wb) hg
          have hw1 : decide (0 < ln) = wb := by rw [hwb, HLN.out]
          have hw2 : decide ((0 : Int) < (ln : Int)) = wb := by rw [← hw1]; simp
          obtain ⟨ls, hls⟩ : ∃ ls, ls = max lst 1 := ⟨_, rfl⟩
          have hls1 : 1 ≤ ls := by omega
          rw [← hls] at hgm ⊢
          have hx0 : (0 : Int) ≤ (f : Int) + (z : Int) := by omega
          have hx1 : (f : Int) + (z : Int) < (m : Int) := by omega
          have hx2 : (z : Int) < (k : Int) := by omega
          have HCB := Lib.hid hcb
          have HB64 := Lib.hid hb64
          have HPM := Lib.hid hpm
          have HPL := Lib.hid hpl
          have HPS := Lib.hid hps
          have HGC := Lib.hid hgc
          have HPC := Lib.hid hpc
          have HGP := Lib.hid hgp
          have HBU := Lib.hid hbu
          have HGM := Lib.hid hgm
          have hz2 := HU2.out.size
          clear hcell hcb hb hpm hpl hps hgc hpc hgp hbu hwb hls hgm hb64 hl0
          cases hgd : goodB b lst wb with
          | false =>
            have HPN := Lib.hid (fun w => rpiece_no b ls wb w HB64.out HBU.out hls1 (by rw [HGM.out]; exact hgd))
            have HF := Lib.hid hgd
            clear hgd
            go_wp2_with (first
              | ((with_reducible show wpList _ _ _ (⟨some 98, _, _, _, _, _⟩ :: _) _ _); refine wpList_run rfl (arr_loadC (.tmp 97) rfl rfl HCB.out HB64.out) ?_)
              | (go_at_call 44; refine (HPN.out _).mono ?_; rintro e w10 ⟨rfl, hu10⟩; have HU10 := Lib.hid hu10; clear hu10))
            go_ret2
            have hu90 : Upd [jb] w9 w10 := HU2.out.trans (HU10.out.mono (by simp))
            exact ⟨jb, _, rfl, ropen_close (HL2.out.upd0 HU10.out) (HJ2.out.upd HU10.out (by simp)) (Nat.lt_of_lt_of_le hjlt hsz) HBS.out (HPS.out HF.out) HPI.out hz (by omega) HU8.out, HJX.out _ _ _ _ _ HL2.out, HU1.out.then ((HU.out.trans hu90)) (fun x hx => .inr (by simp at hx; omega))⟩
          | true =>
            have HF := Lib.hid hgd
            obtain ⟨hc0, hc1, -, hc10⟩ := HGC.out hgd
            have hplen := HPC.out hgd
            have hpm := HPM.out hgd
            have hpl := HPL.out hgd
            have hgp := HGP.out hgd
            obtain ⟨m9, hm9⟩ := Int.eq_ofNat_of_zero_le (Int.le_of_lt hc0)
            rw [hm9, Int.toNat_natCast] at hplen
            rw [hm9] at hc0 hc1
            have HPY0 := fun w => rpiece_yes b ls wb w HB64.out HBU.out hls1 (by rw [HGM.out]; exact hgd)
            obtain ⟨b10, hb10⟩ : ∃ x, x = b.getD 10 0 := ⟨_, rfl⟩
            rw [← hb10] at hc10 hpm hpl HPY0
            have hm0 : 0 < m9 := by omega
            have hm44 : m9 ≤ 44 := by omega
            obtain ⟨pc, hpc⟩ : ∃ pc, pc = pieceB b := ⟨_, rfl⟩
            rw [← hpc] at hplen hpm hpl HPY0
            obtain ⟨lf, hlf⟩ : ∃ lf, lf = life8 b := ⟨_, rfl⟩
            rw [← hlf] at hpm hpl hgp
            have CL1 : ∀ w, Calls Try.prog 43 #[.agg (U8 b), .int .i64 0] w fun e w' => e = .returned (.int .i64 lf) ∧ Upd [] w w' := fun w => by
              have := rlife_any b 0 w (by omega) HB64.out HBU.out
              rw [List.drop_zero, ← hlf] at this; exact this
            have HPY := Lib.hid HPY0
            have HC1 := Lib.hid CL1
            have HPLEN := Lib.hid hplen
            have HPM2 := Lib.hid hpm
            have HPL2 := Lib.hid hpl
            have HGP2 := Lib.hid hgp
            obtain ⟨i0, hi, hz0, hz1, hz2'⟩ := info_parts info_u8'
            have hown := HRO.out
            rw [← HLN.out] at hown
            have HOWN := Lib.hid hown
            have hx9 : (0 : Int) < (m9 : Int) := by omega
            have hx44 : (m9 : Int) ≤ 44 := by omega
            have key : (b10 == 1) = true ∨ (b10 == 1) = false := by cases b10 == 1 <;> simp
            have HC10 := Lib.hid hc10
            clear hgd hplen hpm hpl hm9 hb10 hpc hlf CL1 hown hc10 HPY0 hgp HGC HPC HPM HPL HPS HGP HGM
            go_upto_region 17 with (first
              | ((with_reducible show wpList _ _ _ (⟨some 98, _, _, _, _, _⟩ :: _) _ _); refine wpList_run rfl (arr_loadC (.tmp 97) rfl rfl HCB.out HB64.out) ?_)
              | (go_at_call 44; refine (HPY.out _).mono ?_; rintro e w10 ⟨v, rfl, hvb, hvo, hu10⟩
                 have HVO := Lib.hid hvo
                 have HU10 := Lib.hid hu10
                 obtain ⟨va, vc, hve, hv1, hv2, hv3⟩ := hvb
                 obtain ⟨pg, po, rfl, hpg, hv3⟩ := hv3 (by intro e; have := HPLEN.out; rw [e] at this; simp at this; omega)
                 rw [HPLEN.out] at hve
                 subst hve
                 have hvb' : BytesAt w10 (.slice (some ⟨pg, po, none⟩) m9 vc) pc := ⟨_, _, by rw [HPLEN.out], hv1, hv2, fun _ => ⟨pg, po, rfl, hpg, hv3⟩⟩
                 have HVB := Lib.hid hvb'
                 have hpgw := (hvo pg rfl).1
                 clear hvo hu10 hv1 hv2 hv3 hvb'))
            have hu910 : Upd [jb] w1 w10 := (HU.out.trans HU2.out).trans (HU10.out.mono (by simp))
            obtain ⟨c1', hcell'⟩ := HRF.out w10 hu910
            have HCB2 := Lib.hid (HCB.out.upd HU10.out (by have := HU1.out.size; have := HU.out.size; omega) (by simp))
            clear hcell' hu910 c1
            go_upto_region 20 with (first
              | ((with_reducible show wpList _ _ _ (⟨some 118, _, _, _, _, _⟩ :: _) _ _); refine wpList_run rfl (arr_loadC (.tmp 117) rfl rfl HCB2.out HB64.out) ?_)
              | (go_at_call 43; refine (HC1.out _).mono ?_; rintro e w11 ⟨rfl, hu11⟩; have HU11 := Lib.hid hu11; clear hu11))
            have HU1011 := Lib.hid (HU10.out.trans HU11.out)
            have HNEWS := Lib.hid ((HVB.out.upd0 HU11.out).news)
            go_upto_region 21 with (at_builtin; go_loud (refine wpList_append_lies _ rfl (.tmp 120) (.tmp 121) 31 rfl w9.heap.size 5 i0 (.int .u8 0) 1 1 Try.underlying31 hi hz0 hz1 hz2' rfl (by decide) (.slice ra ln rcap) ln _ rfl (own_upd HOWN.out HU1011.out (by simp)) ⟨pg, po, none⟩ m9 _ (pc.map (Value.int .u8)) rfl (by simpa using HPLEN.out) HNEWS.out (fun u hu => by obtain ⟨x, _, rfl⟩ := List.mem_map.1 hu; rfl) hm0 (by unfold maxLen; omega) (by omega) (by have := HU1011.out.size; omega) _ rfl ?_); intro g' cap' w12 ho12 hg12 hat12 hlt12)
            have hrv : ∀ x, (Value.slice ra ln rcap).ownBlock = some x → w9.heap.size ≤ x ∧ x < wr.heap.size := fun x hx => HOWN.out.lt x hx
            have hse' := HSE.out
            rw [← HLN.out] at hse'
            have hu12 : Upd (Value.slice ra ln rcap).ownBlock.toList w11 w12 := (Upd.refl _ _).grown hg12 (fun k hk => .inl (by simp [hk]))
            have hz10 := HU1011.out.size
            have hl12 := (HL2.out.upd0 HU1011.out).upd hu12 (fun x hx hm => (hse' x (by simpa using hm)).2 hx) (fun x hx hm => (hse' x (by simpa using hm)).1 hx)
            have hj12 := (HJ2.out.upd HU1011.out (by simp)).upd hu12 (fun hm => by have := (hrv _ (by simpa using hm)).1; omega)
            have hu912 : Upd [jb] w9 w12 := (HU2.out.trans (HU1011.out.mono (by simp))).then hu12 (fun x hx => .inr (hrv x (by simpa using hx)).1)
            have hse12 : g' ∉ U2 ∧ jv.ownBlock ≠ some g' := by
              rcases hat12 with hat | hat
              · exact hse' g' hat
              · exact ⟨fun hm => by have := (HL2.out.new g' hm).2; omega, fun e => by have := (HL2.out.own.lt g' e).2; omega⟩
            have hrow : (rc ++ pc).length = ln + m9 := by rw [List.length_append, HPLEN.out, HLN.out]
            have ho12' : w12.ownsRow w9.heap.size 5 1 (.slice (some ⟨g', 0, none⟩) (ln + m9) cap') (rc ++ pc).length ((rc ++ pc).map (Value.int .u8)) := by rw [hrow, List.map_append]; exact ho12
            have HL12 := Lib.hid hl12
            have HJ12 := Lib.hid hj12
            have HU12 := Lib.hid hu912
            have HSE12 := Lib.hid hse12
            have HO12 := Lib.hid ho12'
            have HROW := Lib.hid hrow
            have HQL := Lib.hid (show z + 1 ≤ k by omega)
            clear hrv hse' hu12 hl12 hj12 hu912 hse12 ho12 ho12' hg12 hat12 hlt12 hrow HRO HOWN HL2 HJ2 HU2 HSE HNEWS HC1 HU1011 HU10 HU11 HVB HVO HPY HCB HCB2 c1'
            rcases key with q10 | q10
            · have hb1 : b10 = 1 := by simpa using q10
              have HPI2 := Lib.hid (HPL2.out hb1)
              clear hb1 HPM2 HPL2
              obtain ⟨ja, jc, rfl⟩ := own_slice HL12.out.own
              have hrl := HPI.out.nr
              have hru := HPI.out.nu
              obtain ⟨rl, hrlx⟩ : ∃ rl, rl = recs.length := ⟨_, rfl⟩
              have hown := HL12.out.own
              have hj12 := HJ12.out
              have hl12 := HL12.out
              have hs12 := HSE12.out
              rw [← hrlx] at hrl hown hj12 hl12 hs12
              have c5 := hj12.cell (o := 5) rfl
              have HOWN := Lib.hid hown
              have HJ12 := Lib.hid hj12
              have HL12 := Lib.hid hl12
              have HSE12 := Lib.hid hs12
              have HRL := Lib.hid hrlx
              have hx4 : rl ≤ 4096 := by omega
              have hz9 := HU12.out.size
              clear hown hj12 hl12 hs12 hrlx
              go_wp2_with ((with_reducible show wpList _ _ _ (⟨some 130, _, _, _, _, _⟩ :: _) _ _)
                           go_loud (refine wpList_push 130 131 37 31 (.tmp 128) (.tmp 129) (.slice none 0 0) 1 24 Try.underlying37 info_row rfl (by omega) (by omega) w9.heap.size (.slice ja rl jc) rl us2 (.slice (some ⟨g', 0, none⟩) (ln + m9) cap') rfl rfl rfl rfl rfl rfl (by simp) (by simp) rfl rfl HOWN.out rfl (one_slice _ _ _) (by unfold maxLen; omega) (by omega) (by omega) ?_)
                           intro g2 cap2 w13 ho13 hu13 hat13 hlt13 hb13
                           have hj13 := HJ12.out.upd hu13 (fun hm => by have := (HOWN.out.lt _ (by simpa using hm)).1; omega)
                           have c4 := hj13.cell (o := 4) rfl
                           have c5' := hj13.cell (o := 5) rfl
                           have f4 := hj13.free 4
                           have f5 := hj13.free 5
                           have HJ13 := Lib.hid hj13
                           have HO13 := Lib.hid ho13
                           have HU13 := Lib.hid hu13
                           have HAT13 := Lib.hid hat13
                           clear ho13 hu13 hat13 hlt13 hb13 hj13)
              have hjlt9 : jb < w9.heap.size := Nat.lt_of_lt_of_le hjlt hsz
              have hl13 := LL.push HL12.out (BytesAt.of_own HO12.out rfl) (fun x hx => by simp [Value.ownBlock] at hx; subst hx; exact ⟨(HO12.out.lt g' rfl).1, (HO12.out.lt g' rfl).2, HSE12.out.2⟩) (by rw [← HRL.out]; exact HO13.out) rfl HU13.out HAT13.out
              have hu1314 : Upd [jb] w13 ((w13.setCell ⟨jb, 5, none⟩ (.slice (some ⟨g2, 0, none⟩) (rl + 1) cap2)).setCell ⟨jb, 4, none⟩ (.int .i64 ((z : Int) + 1))) := ((Upd.refl _ _).setCell (.inl (by simp)) _).setCell (.inl (by simp)) _
              have hl14 := hl13.upd hu1314 (fun x hx hm => by have := (hl13.own.lt x hx).1; simp at hm; omega) (fun x hx hm => by have := (hl13.new x hx).1; simp at hm; omega)
              have hu914 := (HU12.out.then HU13.out (fun x hx => .inr (HOWN.out.lt x (by simpa using hx)).1)).trans hu1314
              have hj14 := (HJ13.out.set 5 (.slice (some ⟨g2, 0, none⟩) (rl + 1) cap2)).set 4 (.int .i64 ((z : Int) + 1))
              have hq1 : Value.int .i64 ((z : Int) + 1) = .int .i64 ((z + 1 : Nat) : Int) := by go_num
              have hj14' : Blk ((w13.setCell ⟨jb, 5, none⟩ (.slice (some ⟨g2, 0, none⟩) (rl + 1) cap2)).setCell ⟨jb, 4, none⟩ (.int .i64 ((z : Int) + 1))) jb #[.pointer (some ⟨q, 0, none⟩), .int .i64 f, .int .i64 k, .int .i64 (openLife bs), .int .i64 ((z + 1 : Nat) : Int), .slice (some ⟨g2, 0, none⟩) (rl + 1) cap2] 57 := by
                rw [← hq1]; exact hj14
              go_roundw
              case rel => exact ⟨z + 1, [], lf, recs ++ [rc ++ pc], z + 1, _, _, _, HQL.out, by go_num, by rw [show max lf 1 = lf by have := HGP2.out; omega], by have := HGP2.out; omega, fun _ => rfl, World.ownsRow_nil _ _ _ _, hl14, by simp [Value.ownBlock], hu914, hj14', HPI2.out⟩
              case measure => simp [intOf]; omega
            · have hb1 : b10 ≠ 1 := by simpa using q10
              have HPI2 := Lib.hid (HPM2.out hb1)
              clear hb1
              go_wp2_with fail
              go_roundw
              case rel => exact ⟨z + 1, rc ++ pc, lf, recs, ud, jv, us2, U2, HQL.out, by go_num, by rw [show max lf 1 = lf by have := HGP2.out; omega], by have := HGP2.out; omega, fun e => by have := HGP2.out; omega, HO12.out, HL12.out, fun x hx => by simp [Value.ownBlock] at hx; subst hx; exact HSE12.out, HU12.out, HJ12.out, HPI2.out⟩
              case measure => simp [intOf]; omega
        · obtain rfl : z = k := by omega
          go_wp2_with fail
          go_ret2
          exact ⟨jb, _, rfl, ropen_close HL2.out HJ2.out (Nat.lt_of_lt_of_le hjlt hsz) HBS.out (PInv.done HPI.out (by rw [HBL.out]; exact Nat.le_refl _)) HPI.out hz (by omega) HU8.out, HJX.out _ _ _ _ _ HL2.out, HU1.out.then ((HU.out.trans HU2.out)) (fun x hx => .inr (by simp at hx; omega))⟩

end Go.Proofs.Ytfjmkdjbeoafjaa
