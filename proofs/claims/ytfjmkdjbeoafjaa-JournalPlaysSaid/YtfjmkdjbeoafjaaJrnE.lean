/- The walk of Open. -/
import Derived.Test.YtfjmkdjbeoafjaaJrnD
import Derived.IntWalk
namespace Go.Proofs.Ytfjmkdjbeoafjaa
open Go.ChangeShapes Go.WideShapes Go.ChangeAt Go.RowKit

theorem own_zero {w : World} {base : Nat} {e : TypeId} {size n : Nat} {v : Value} {xs : List Value} (h : w.ownsRow base e size v n xs) : w.ownsRow 0 e size v n xs := by
  refine ⟨h.1, ?_⟩
  rcases h.2 with h2 | ⟨g, cap, cur, rfl, hg, r⟩
  · exact .inl h2
  · exact .inr ⟨g, cap, cur, rfl, Nat.zero_le _, r⟩

theorem open_close {w9 w10 : World} {jb p f k ud q : Nat} {bs : List Blok} {d : DK} {jv : Value} {us2 : List Value} {U2 : List Nat} {recs : List (List Int)} {rc : List Int} {lst : Int} (hl2 : LL w10 w9.heap.size jv us2 U2 recs)
    (hj : Blk w10 jb #[.pointer (some ⟨p, 0, none⟩), .int .i64 f, .int .i64 k, .int .i64 (openLife bs), .int .i64 ud, jv] 68) (hjl : jb < w9.heap.size) (hbs : bs = d.area f k) (hfin : parse bs 0 [] 0 [] 0 = (recs, ud))
    (hpi : PInv bs q rc lst recs ud) (hq : q ≤ k) (hm : f + k ≤ 4096) (hu8 : ∀ b ∈ bs, U8L b) : JAt w10 jb (jb :: (jv.ownBlock.toList ++ U2)) p (d.openJ f k) := by
  subst hbs
  have hlb := openLife_bound (d.area f k) hu8 1 (by omega) (by omega)
  have e1 : (d.openJ f k).recs = recs := by unfold DK.openJ; rw [hfin]
  have e2 : (d.openJ f k).used = ud := by unfold DK.openJ; rw [hfin]
  have hnu := hpi.nu
  have hwf : (d.openJ f k).WF := ⟨by rw [e2]; show ud ≤ k; omega, hm, hlb.1, hlb.2, by rw [e1, e2]; exact hpi.nr, fun r hr => by rw [e1] at hr; have := hpi.small r hr; omega, fun r hr => by rw [e1] at hr; exact hpi.bytes r hr⟩
  refine ⟨jv, us2, U2, rfl, fun hm => by have := (hl2.new jb hm).1; omega, fun g hg => ⟨fun e => by have := (hl2.own.lt g hg).1; omega, hl2.sep g hg⟩, fun g hg => (hl2.new g hg).2, hwf, ?_, ?_, ?_⟩
  · rw [e2]; exact hj
  · rw [e1]; exact own_zero hl2.own
  · rw [e1]; exact hl2.recs

set_option maxRecDepth 100000 in
set_option maxHeartbeats 4000000 in
theorem open_yes (p : Nat) (S : List Nat) (d : DK) (f n : Nat) (w : World) (h : DiskAt w p S d) (hf : f + n ≤ d.last.length) (hd : d.down = false) (hby : d.Byt) :
    Calls Try.prog 12 #[.pointer (some ⟨p, 0, none⟩), .int .i64 f, .int .i64 n] w fun e w' => ∃ j J, e = .returned (.tuple #[.pointer (some ⟨j, 0, none⟩), .int .i64 0]) ∧ JAt w' j J p (d.openJ f n) ∧ (∀ x ∈ J, w.heap.size ≤ x) ∧ Upd [] w w' := by
  have hm := h.wf.many
  have H := Lib.hid h
  obtain ⟨m, hmm⟩ : ∃ m, m = d.last.length := ⟨_, rfl⟩
  have C := fun w (h : DiskAt w p S d) => blocks_any p S d w h
  have D := fun w (h : DiskAt w p S d) => down_any p S d w h
  have R : ∀ i : Nat, i < n → ∀ w, DiskAt w p S d → Calls Try.prog 34 #[.pointer (some ⟨p, 0, none⟩), .int .i64 (((f + i : Nat) : Int))] w fun e w' => e = .returned (.tuple #[.agg (U8 ((d.area f n).getD i [])), .int .i64 0]) ∧ Upd [] w w' := by
    intro i hi w h
    have hc : d.code ((f + i : Nat) : Int) = 0 := by unfold DK.code; rw [hd]; simp; omega
    have := read_any p S d ((f + i : Nat) : Int) w h
    rw [hc] at this
    rw [area_get d f n i hi]
    exact this.mono fun _ _ ⟨he, _, hu⟩ => ⟨he, hu⟩
  have A1 : ∀ i : Nat, i < n → ((d.area f n).getD i []).length = 64 ∧ U8L ((d.area f n).getD i []) := by
    intro i hi
    rw [area_get d f n i hi]
    exact ⟨DK.rd_len h.wf _, hby.rd _⟩
  rw [hd] at D
  rw [← hmm] at hf hm C
  have HC := Lib.hid C
  have HD := Lib.hid D
  have HR := Lib.hid R
  have HA := Lib.hid A1
  have q1 : decide ((f : Int) < 0) = false := by simp
  have q2 : decide ((n : Int) < 0) = false := by simp
  have q3 : decide ((m : Int) < (f : Int)) = false := by simp; omega
  have q4 : decide ((m : Int) - (f : Int) < (n : Int)) = false := by simp; omega
  obtain ⟨bs, hbs⟩ : ∃ bs, bs = d.area f n := ⟨_, rfl⟩
  have hbl : bs.length = n := by rw [hbs, area_len]
  rw [← hbs] at HR HA
  have HBL := Lib.hid hbl
  have HBS := Lib.hid hbs
  clear h hmm C D R A1 hd hby hbl hbs
  go_enter Try.func12, Try.ntmps12
  go_wp2
  go_step3
  go_wp2_with (first
    | (go_at_call 32; refine (HC.out _ H.out).mono ?_; rintro e w1 ⟨rfl, rfl⟩)
    | (go_at_call 33; refine (HD.out _ H.out).mono ?_; rintro e w1 ⟨rfl, rfl⟩))
  obtain ⟨w1, hw1⟩ : ∃ w1, w1 = w.alloc (.cells #[.pointer (some ⟨p, 0, none⟩), .int .i64 f, .int .i64 n, .int .i64 1, .int .i64 0, .slice none 0 0] 68) := ⟨_, rfl⟩
  have hj1 : Blk w1 w.heap.size #[.pointer (some ⟨p, 0, none⟩), .int .i64 f, .int .i64 n, .int .i64 1, .int .i64 0, .slice none 0 0] 68 := by rw [hw1]; exact Blk.new _ _ _
  have hu1 : Upd [] w w1 := by rw [hw1]; exact (Upd.refl _ _).alloc _
  rw [← hw1]
  obtain ⟨jb, hjb⟩ : ∃ jb, jb = w.heap.size := ⟨_, rfl⟩
  have hjl : w.heap.size ≤ jb := by omega
  rw [← hjb] at hj1
  have HJB := Lib.hid hjb
  have HJ1 := Lib.hid hj1
  have HU1 := Lib.hid hu1
  clear hw1 hjb hj1 hu1
  rw [← HJB.out]
  have hdj : DiskAt w1 p S d := H.out.upd0 HU1.out
  have hjS : ∀ x ∈ S, x ∉ [jb] := fun x hx hm => by have := H.out.lt x hx; simp at hm; omega
  have hjlt := HJ1.out.lt
  have HDJ := Lib.hid hdj
  have HJS := Lib.hid hjS
  clear hdj hjS
  go_loopw [9, 51] (fun av i wx => ∃ (k : Nat) (us : List Value) (U : List Nat), k ≤ n ∧ i = .int .i64 k ∧ LL wx w1.heap.size av us U (bs.take k) ∧ Upd [jb] w1 wx ∧
    Blk wx jb #[.pointer (some ⟨p, 0, none⟩), .int .i64 f, .int .i64 n, .int .i64 ((bs.take k).foldl lifeStep 1), .int .i64 0, .slice none 0 0] 68) (fun _ i _ => n - (intOf i).toNat)
  case atStart => exact ⟨0, [], [], Nat.zero_le _, rfl, LL.nil _ _, Upd.refl _ _, HJ1.out⟩
  case round =>
    obtain ⟨k, us, U, hk, rfl, hll, hu, hj⟩ := hrel
    obtain ⟨oa, oc, rfl⟩ := own_slice hll.own
    have hln : ((bs.take k).length) = k := by rw [List.length_take, HBL.out]; omega
    rw [hln] at hll ⊢
    have hlo := hll.own
    rw [hln] at hlo
    have HLO := Lib.hid hlo
    have HLL := Lib.hid hll
    have HU := Lib.hid hu
    have HJ := Lib.hid hj
    have hsz := hu.size
    clear hll hu hj hln hlo
    by_cases hlt : k < n
    · have hx0 : (0 : Int) ≤ (k : Int) := by omega
      have hx1 : (k : Int) < (n : Int) := by omega
      have hbl64 := (HA.out k hlt).1
      have htk : bs.take (k + 1) = bs.take k ++ [bs.getD k []] := by rw [List.take_succ_eq_append_getElem (by rw [HBL.out]; exact hlt), List.getD_eq_getElem?_getD, List.getElem?_eq_getElem (by rw [HBL.out]; exact hlt)]; rfl
      obtain ⟨b, hb⟩ : ∃ b, b = bs.getD k [] := ⟨_, rfl⟩
      have hR := HR.out k hlt
      have hA := HA.out k hlt
      rw [← hb] at hR hA hbl64 htk
      have HTK := Lib.hid htk
      have HRk := Lib.hid hR
      have HBU := Lib.hid hA.2
      have hlb := (openLife_bound (bs.take k) (fun x hx => by
        obtain ⟨i, hi, rfl⟩ := List.getElem_of_mem (List.mem_of_mem_take hx)
        have := (HA.out i (by rw [← HBL.out]; exact hi)).2
        rw [List.getD_eq_getElem?_getD, List.getElem?_eq_getElem hi] at this
        exact this) 1 (by omega) (by omega))
      have l1 := life8_bound b HBU.out
      have l2 := life8_bound (b.drop 56) (HBU.out.drop 56)
      obtain ⟨lk, hlk⟩ : ∃ lk, lk = (bs.take k).foldl lifeStep 1 := ⟨_, rfl⟩
      obtain ⟨la, hla⟩ : ∃ la, la = life8 b := ⟨_, rfl⟩
      obtain ⟨lz, hlz⟩ : ∃ lz, lz = life8 (b.drop 56) := ⟨_, rfl⟩
      have hstep : (bs.take (k + 1)).foldl lifeStep 1 = max (max lk (la + 1)) (lz + 1) := by rw [htk, List.foldl_append, hlk, hla, hlz]; rfl
      have hj' := HJ.out
      rw [← hlk] at hj' hlb
      rw [← hla] at l1
      rw [← hlz] at l2
      obtain ⟨l10, l11⟩ := l1
      obtain ⟨l20, l21⟩ := l2
      obtain ⟨lb0, lb1⟩ := hlb
      obtain ⟨mx, hmx⟩ : ∃ mx, mx = max (max lk (la + 1)) (lz + 1) := ⟨_, rfl⟩
      rw [← hmx] at hstep
      have HMX := Lib.hid hmx
      have HSTEP := Lib.hid hstep
      clear hmx
      have HLA := Lib.hid hla
      have HLZ := Lib.hid hlz
      have HJk := Lib.hid hj'
      clear hR hA hb htk hstep hlk hla hlz hj' HJ
      go_upto_region 13 with (first
        | (go_at_call 34; refine (HRk.out _ (HDJ.out.upd HU.out HJS.out)).mono ?_; rintro e w3 ⟨rfl, hu3⟩; have HU3 := Lib.hid hu3; clear hu3)
        | (refine wpList_alloc rfl 54 rfl zero_arr fun w4 hb4 hu4 hs4 => ?_)
        | (refine wpList_store rfl (.tmp 11) (.tmp 60) rfl rfl rfl hb4 DK.zeros_len hbl64 fun w5 hb5 hu5 hs5 => ?_))
      have hu35 := hu4.then hu5 (by simp)
      have HZ3 := Lib.hid HU3.out.size
      have hba : BytesAt w5 (.slice (some ⟨w3.heap.size, 0, none⟩) 64 64) b := by
        have := BytesAt.of_blk hb5 (off := 0) 64 64 (by omega) (by omega) (by unfold maxLen; omega)
        rwa [List.drop_zero, List.take_of_length_le (by omega)] at this
      have hz5 : wr.heap.size ≤ w5.heap.size := Nat.le_trans HU3.out.size hu35.size
      have HU5 := Lib.hid (HU3.out.trans hu35)
      have HB5 := Lib.hid hb5
      have HBA := Lib.hid hba
      clear hb4 hu4 hs4 hb5 hu5 hs5 hu35 hba HU3
      go_upto_region 14 with (first
        | (go_at_call 35; refine (bclone_any _ b _ HBA.out (by omega)).mono ?_; rintro e w6 ⟨cv, rfl, hcb, hcn, hu6⟩
           obtain ⟨ca, cc, rfl⟩ := hcb.form
           rw [hbl64] at hcb hcn
           have HCB := Lib.hid hcb
           have HCN := Lib.hid hcn
           have HU6 := Lib.hid hu6
           have hz6 := hu6.size
           clear hcb hcn hu6)
        | ((with_reducible show wpList _ _ _ (⟨some 68, _, _, _, _, _⟩ :: _) _ _)
           go_loud (refine wpList_push 68 69 37 31 (.tmp 65) (.tmp 67) (.slice none 0 0) 1 24 Try.underlying37 info_row rfl (by omega) (by omega) w1.heap.size (.slice oa k oc) k us (.slice ca 64 cc) rfl rfl rfl rfl rfl rfl (by simp) (by simp) rfl rfl (own_upd HLO.out (HU5.out.trans HU6.out) (by simp)) rfl (one_slice _ _ _) (by unfold maxLen; omega) (by omega) (by omega) ?_)
           intro g' cap' w7 ho7 hu7 hat7 hlt7 hb7))
      have hln : (bs.take k).length = k := by rw [List.length_take, HBL.out]; omega
      have hovlt : ∀ x, (Value.slice oa k oc).ownBlock = some x → w1.heap.size ≤ x ∧ x < wr.heap.size := fun x hx => HLO.out.lt x hx
      have h3z := HZ3.out
      have h3lt := HB5.out.lt
      have hl7 : LL w7 w1.heap.size (.slice (some ⟨g', 0, none⟩) (k + 1) cap') (us ++ [.slice ca 64 cc]) ((Value.slice ca 64 cc).ownBlock.toList ++ U) (bs.take (k + 1)) := by
        rw [HTK.out]
        exact LL.push (HLL.out.upd0 (HU5.out.trans HU6.out)) HCB.out (fun x hx => ⟨by have := (HCN.out x hx).1; omega, (HCN.out x hx).2, fun e => by have := (hovlt x e).2; have := (HCN.out x hx).1; omega⟩) (by rw [hln]; exact ho7) rfl hu7 hat7
      have hu57 : Upd (Value.slice oa k oc).ownBlock.toList w5 w7 := (HU6.out.mono (by simp)).trans hu7
      have hj7 := (HJk.out.upd HU5.out (by simp)).upd hu57 (fun hm => by have := (hovlt jb (by simpa using hm)).1; omega)
      have hb7' := HBA.out.upd hu57 (fun g off len cap _ e hm => by cases e; have := (hovlt _ (by simpa using hm)).2; omega)
      have hb56 : BytesAt w7 (.slice (some ⟨w3.heap.size, 56, none⟩) 8 8) (b.drop 56) := by
        have := BytesAt.of_blk (HB5.out.upd hu57 (fun hm => by have := (hovlt _ (by simpa using hm)).2; omega)) (off := 56) 8 8 (by omega) (by omega) (by unfold maxLen; omega)
        rwa [List.take_of_length_le (by simp; omega)] at this
      have hu17 : Upd [jb] w1 w7 := ((HU.out.trans (HU5.out.mono (by simp))).then hu57 (fun x hx => .inr (hovlt x (by simpa using hx)).1))
      have c3 := hj7.cell (o := 3) rfl
      have f3 := hj7.free 3
      have HL7 := Lib.hid hl7
      have HJ7 := Lib.hid hj7
      have HB7 := Lib.hid hb7'
      have HB56 := Lib.hid hb56
      have HU17 := Lib.hid hu17
      have h56 : 8 ≤ (b.drop 56).length := by simp; omega
      have CL1 : ∀ w, BytesAt w (.slice (some ⟨w3.heap.size, 0, none⟩) 64 64) b → Calls Try.prog 36 #[.slice (some ⟨w3.heap.size, 0, none⟩) 64 64] w fun e w' => e = .returned (.int .i64 la) ∧ w' = w := fun w hb => by
        rw [HLA.out]; exact life_same _ b w hb (by omega) HBU.out
      have CL2 : ∀ w, BytesAt w (.slice (some ⟨w3.heap.size, 56, none⟩) 8 8) (b.drop 56) → Calls Try.prog 36 #[.slice (some ⟨w3.heap.size, 56, none⟩) 8 8] w fun e w' => e = .returned (.int .i64 lz) ∧ w' = w := fun w hb => by
        rw [HLZ.out]; exact life_same _ _ w hb h56 (HBU.out.drop 56)
      have HC1 := Lib.hid CL1
      have HC2 := Lib.hid CL2
      clear hl7 hu57 hj7 hb7' hb56 hu17 hln hovlt h3z h3lt ho7 hu7 hat7 hlt7 hb7 CL1 CL2 HBA HB5 HLL HLO HCB HCN HU HU5 HU6 h56
      have s1 : IntKind.i64.wrap (la + 1) = la + 1 := IntWalk.i64_in _ (by omega)
      have s2 : IntKind.i64.wrap (lz + 1) = lz + 1 := IntWalk.i64_in _ (by omega)
      refine wp_region_still_tail 14 mixed (by kernel_rfl) ?_
      simp only [List.take_succ_cons, List.take_zero, List.drop_succ_cons, List.drop_zero]
      still_step
      still_step
      still_step
      still_step
      still_step
      still_step
      still_call (HC1.out _ (HB7.out.upd0 ((Upd.refl _ _).drew)))
      still_step
      still_step
      still_call (HC2.out _ (HB56.out.upd0 ((Upd.refl _ _).drew)))
      still_step
      refine still_run rfl (exec_max3 (.tmp 74) (.tmp 77) (.tmp 80) rfl rfl rfl rfl HMX.out.symm) ?_
      still_step
      still_step
      refine wpStill_nil ?_
      change wpList _ _ _ _ _ w7.drew
      clear s1 s2
      have hu8 : Upd [jb] w1 ((w7.setCell ⟨jb, 3, none⟩ (.int .i64 mx)).drew) := ((HU17.out).setCell (.inl (by simp)) _).drew
      have hl8 : LL ((w7.setCell ⟨jb, 3, none⟩ (.int .i64 mx)).drew) w1.heap.size (.slice (some ⟨g', 0, none⟩) (k + 1) cap') (us ++ [.slice ca 64 cc]) ((Value.slice ca 64 cc).ownBlock.toList ++ U) (bs.take (k + 1)) :=
        HL7.out.upd (((Upd.refl [jb] _).setCell (.inl (by simp)) _).drew) (fun x hx hm => by have := (HL7.out.own.lt x hx).1; simp at hm; omega) (fun x hx hm => by have := (HL7.out.new x hx).1; simp at hm; omega)
      have hj8 := ((HJ7.out).set 3 (.int .i64 mx)).drew
      obtain ⟨w8, hw8⟩ : ∃ w8, w8 = (w7.setCell ⟨jb, 3, none⟩ (.int .i64 mx)).drew := ⟨_, rfl⟩
      rw [← hw8] at hu8 hl8 hj8
      have HU8 := Lib.hid hu8
      have HL8 := Lib.hid hl8
      have HJ8 := Lib.hid hj8
      have HW8 := Lib.hid hw8
      clear hu8 hl8 hj8 hw8 HU17 HL7 HJ7 HB7 HB56 HC1 HC2
      go_wp2_with fail
      rw [← HW8.out]
      go_roundw
      case rel => exact ⟨k + 1, _, _, by omega, by go_num, HL8.out, HU8.out, by rw [HSTEP.out]; exact HJ8.out⟩
      case measure => simp [intOf]; omega
    · obtain rfl : k = n := by omega
      obtain ⟨w9, rfl⟩ : ∃ w9, w9 = wr := ⟨_, rfl⟩
      have htk : bs.take k = bs := List.take_of_length_le (by rw [HBL.out]; exact Nat.le_refl _)
      have hll := HLL.out
      have hjj := HJ.out
      rw [htk] at hll hjj
      have HLL := Lib.hid hll
      have HJ := Lib.hid hjj
      have HDW := Lib.hid (HDJ.out.upd HU.out HJS.out)
      have HU8 : Hid (∀ b ∈ bs, U8L b) := Lib.hid (fun b hb => by
        obtain ⟨i, hi, rfl⟩ := List.getElem_of_mem hb
        have := (HA.out i (by rw [← HBL.out]; exact hi)).2
        rw [List.getD_eq_getElem?_getD, List.getElem?_eq_getElem hi] at this
        exact this)
      have HJX : Hid (∀ (wx : World) (jv : Value) (us : List Value) (U : List Nat) (L : List (List Int)), LL wx w9.heap.size jv us U L → ∀ x ∈ jb :: (jv.ownBlock.toList ++ U), w.heap.size ≤ x) := Lib.hid (fun wx jv us U L h x hx => by
        have hz := HU1.out.size
        simp only [List.mem_cons, List.mem_append, Option.mem_toList] at hx
        rcases hx with rfl | hx | hx
        · exact hjl
        · have := (h.own.lt x hx).1; omega
        · have := (h.new x hx).1; omega)
      have HUX := HU1
      clear htk hll hjj hlt HDJ
      go_wp2_with fail
      go_step3
      go_wp2_with fail
      go_loopw [13, 14, 87] (fun rv lv i wx => ∃ (q : Nat) (rc : List Int) (lst : Int) (recs : List (List Int)) (ud : Nat) (jv : Value) (us2 : List Value) (U2 : List Nat), q ≤ k ∧ i = .int .i64 q ∧ lv = .int .i64 lst ∧
        wx.ownsRow w9.heap.size 5 1 rv rc.length (rc.map (Value.int .u8)) ∧ LL wx w9.heap.size jv us2 U2 recs ∧ (∀ g, rv.ownBlock = some g → g ∉ U2 ∧ jv.ownBlock ≠ some g) ∧ Upd [jb] w9 wx ∧
        Blk wx jb #[.pointer (some ⟨p, 0, none⟩), .int .i64 f, .int .i64 k, .int .i64 (openLife bs), .int .i64 ud, jv] 68 ∧ PInv bs q rc lst recs ud) (fun _ _ i _ => k - (intOf i).toNat)
      case atStart => exact ⟨0, [], 0, [], 0, .slice none 0 0, [], [], Nat.zero_le _, rfl, rfl, World.ownsRow_nil _ _ _ _, LL.nil _ _, by simp [Value.ownBlock], Upd.refl _ _, HJ.out, PInv.start bs⟩
      case round =>
        obtain ⟨q, rc, lst, recs, ud, jv, us2, U2, hq, rfl, rfl, hro, hl2, hse, hu2, hj2, hpi⟩ := hrel
        have HRO := Lib.hid hro
        have HL2 := Lib.hid hl2
        have HSE := Lib.hid hse
        have HU2 := Lib.hid hu2
        have HJ2 := Lib.hid hj2
        have HPI := Lib.hid hpi
        obtain ⟨ra, rcap, rfl⟩ := own_slice hro
        have hrcl := hpi.nc
        obtain ⟨ln, hln⟩ : ∃ ln, ln = rc.length := ⟨_, rfl⟩
        rw [← hln] at hro hrcl ⊢
        have HLN := Lib.hid hln
        clear hro hl2 hse hu2 hj2 hpi HJ HDW hln
        by_cases hlt : q < k
        · have hbl := HBL.out
          have hall : LL wr w1.heap.size (.slice oa k oc) us U bs := HLL.out.upd HU2.out (fun x hx hm => by have := (HLL.out.own.lt x hx).1; simp at hm; omega) (fun x hx hm => by have := (HLL.out.new x hx).1; simp at hm; omega)
          have hall9 : ∀ x ∈ U, x < w9.heap.size := fun x hx => (HLL.out.new x hx).2
          have hlx : q < bs.length := by omega
          obtain ⟨ag, rfl, -, hag0, hag1, hcq, hbq⟩ := hall.elem hlx
          have hbA := HA.out q hlt
          have hpb := (HLL.out.recs.2 q hlx).2
          have hpm := PInv.more HPI.out hlx hbA.2 hbA.1
          have hpl := PInv.last HPI.out hlx hbA.2 hbA.1
          have hps := PInv.stop HPI.out hlx
          have hgc := fun hg => goodB_cnt (least := lst) (x := decide (0 < rc.length)) hbA.2 hg
          have hpc := fun hg => pieceB_len (least := lst) (x := decide (0 < rc.length)) hbA.2 hbA.1 hg
          obtain ⟨b, hb⟩ : ∃ b, b = bs.getD q [] := ⟨_, rfl⟩
          obtain ⟨bv, hbv⟩ : ∃ bv, bv = us.getD q undef := ⟨_, rfl⟩
          rw [← hb] at hbq hbA hpm hpl hps hgc hpc
          rw [← hbv] at hcq hbq hpb
          obtain ⟨hb64, hbu⟩ := hbA
          obtain ⟨ba, bc, hbf, hbc1, hbc2, hbcell⟩ := hbq
          obtain ⟨bg, bo, rfl, hbg, hbcell⟩ := hbcell (by intro e; rw [e] at hb64; simp at hb64)
          rw [hb64] at hbf hbc1 hbcell
          subst hbf
          have hbq : BytesAt wr (.slice (some ⟨bg, bo, none⟩) 64 bc) b := ⟨_, _, by rw [hb64], by omega, hbc2, fun _ => ⟨bg, bo, rfl, hbg, by rw [hb64]; exact hbcell⟩⟩
          have hbgU : bg < w9.heap.size := hall9 bg (hpb bg rfl)
          obtain ⟨wb, hwb⟩ : ∃ wb, wb = decide (0 < rc.length) := ⟨_, rfl⟩
          rw [← hwb] at hpm hpl hps hgc hpc
          have hw1 : decide (0 < ln) = wb := by rw [hwb, HLN.out]
          have hw2 : decide ((0 : Int) < (ln : Int)) = wb := by rw [← hw1]; simp
          have hx0 : (0 : Int) ≤ (q : Int) := by omega
          have hx1 : (q : Int) < (k : Int) := by omega
          have HG : ∀ w, BytesAt w (.slice (some ⟨bg, bo, none⟩) 64 bc) b → Calls Try.prog 37 #[.slice (some ⟨bg, bo, none⟩) 64 bc, .int .i64 lst, .bool wb] w fun e w' => e = .returned (.bool (goodB b lst wb)) ∧ Upd [] w w' := fun w hb => good_any _ b lst wb w hb hb64 hbu
          have HBQ := Lib.hid hbq
          have HGG := Lib.hid HG
          have HPM := Lib.hid hpm
          have HPL := Lib.hid hpl
          have HPS := Lib.hid hps
          have HGC := Lib.hid hgc
          have HPC := Lib.hid hpc
          have HBU := Lib.hid hbu
          have HBCELL := Lib.hid hbcell
          have hz2 := HU2.out.size
          unfold maxLen at hbc2
          clear hall hall9 hb hbv hpm hpl hps hgc hpc hbu hbcell hwb HG hpb hbq
          cases hgd : goodB b lst wb with
          | false =>
            have HF := Lib.hid hgd
            clear hgd
            go_wp2_with (go_at_call 37; refine (HGG.out _ HBQ.out).mono ?_; rw [HF.out]; rintro e w10 ⟨rfl, hu10⟩; have HU10 := Lib.hid hu10; clear hu10)
            rw [Exit.noGoto_ret]
            go_ret2
            have hu90 : Upd [jb] w9 w10 := HU2.out.trans (HU10.out.mono (by simp))
            exact ⟨jb, _, rfl, open_close (HL2.out.upd0 HU10.out) (HJ2.out.upd HU10.out (by simp)) (Nat.lt_of_lt_of_le hjlt hsz) HBS.out (HPS.out HF.out) HPI.out hq (by omega) HU8.out, HJX.out _ _ _ _ _ HL2.out, HUX.out.then ((HU.out.trans hu90)) (fun x hx => .inr (by simp at hx; omega))⟩
          | true =>
            have HF := Lib.hid hgd
            obtain ⟨hc0, hc1, -, hc10⟩ := HGC.out hgd
            have hplen := HPC.out hgd
            have hpm := HPM.out hgd
            have hpl := HPL.out hgd
            have hpdef : pieceB b = (b.drop 12).take (b.getD 9 0).toNat := rfl
            obtain ⟨m9, hm9⟩ := Int.eq_ofNat_of_zero_le (Int.le_of_lt hc0)
            rw [hm9, Int.toNat_natCast] at hplen hpdef
            rw [hm9] at hc0 hc1
            have d9 := HBCELL.out 9 (by omega)
            have d10 := HBCELL.out 10 (by omega)
            rw [hm9] at d9
            obtain ⟨b10, hb10⟩ : ∃ x, x = b.getD 10 0 := ⟨_, rfl⟩
            rw [← hb10] at d10 hc10 hpm hpl
            have hm0 : 0 < m9 := by omega
            have hm44 : m9 ≤ 44 := by omega
            obtain ⟨pc, hpc⟩ : ∃ pc, pc = pieceB b := ⟨_, rfl⟩
            rw [← hpc] at hplen hpdef hpm hpl
            have hnews : ∀ w, BytesAt w (.slice (some ⟨bg, bo, none⟩) 64 bc) b → ∀ j u, (pc.map (Value.int .u8))[j]? = some u → w.cell? ((⟨bg, bo + 12, none⟩ : Addr).add j) = some u := by
              intro w hb j u hj
              have hjl : j < m9 := by have := (List.getElem?_eq_some_iff.1 hj).1; simpa [hplen] using this
              have hadd : (⟨bg, bo + 12, none⟩ : Addr).add j = ⟨bg, bo + 12 + j, none⟩ := by unfold Addr.add; split <;> simp_all
              obtain ⟨a', c', e', -, -, hb'⟩ := hb
              obtain ⟨g', o', rfl, -, hcell⟩ := hb' (by intro e; rw [e] at hb64; simp at hb64)
              rw [hb64] at e'
              cases e'
              rw [hadd, Nat.add_assoc, hcell (12 + j) (by omega), ← hj, hpdef]
              simp [List.getD_eq_getElem?_getD, List.getElem?_take, hjl, List.getElem?_drop, List.getElem?_eq_getElem (show 12 + j < b.length by omega)]
            obtain ⟨lf, hlf⟩ : ∃ lf, lf = life8 b := ⟨_, rfl⟩
            rw [← hlf] at hpm hpl
            have CL1 : ∀ w, BytesAt w (.slice (some ⟨bg, bo, none⟩) 64 bc) b → Calls Try.prog 36 #[.slice (some ⟨bg, bo, none⟩) 64 bc] w fun e w' => e = .returned (.int .i64 lf) ∧ w = w' := fun w hb => by
              rw [hlf]; exact life_any _ b w hb (by omega) HBU.out
            have HC1 := Lib.hid CL1
            have HNEWS := Lib.hid hnews
            have HPLEN := Lib.hid hplen
            have HPM2 := Lib.hid hpm
            have HPL2 := Lib.hid hpl
            obtain ⟨i0, hi, hz0, hz1, hz2'⟩ := info_parts info_u8'
            have hown := HRO.out
            rw [← HLN.out] at hown
            have HOWN := Lib.hid hown
            have hx9 : (0 : Int) < (m9 : Int) := by omega
            have hx44 : (m9 : Int) ≤ 44 := by omega
            have hxb : (64 : Int) ≤ (bc : Int) := by omega
            have key : (b10 == 1) = true ∨ (b10 == 1) = false := by cases b10 == 1 <;> simp
            have HC10 := Lib.hid hc10
            have HM9 := Lib.hid hm9
            clear hgd hplen hpm hpl hpdef hm9 hb10 hpc hnews hlf CL1 hown hc10 HGC HPC HPM HPL HPS
            have hzB : w9.heap.size ≤ wr.heap.size := hz2
            go_upto_region 21 with fail
            go_upto_region 22 with (go_at_call 37; refine (HGG.out _ HBQ.out).mono ?_; rw [HF.out]; rintro e w10 ⟨rfl, hu10⟩; have HU10 := Lib.hid hu10; clear hu10)
            have e9 := (World.cell?_of_block (a := ⟨bg, bo + 9, none⟩) (HU10.out.block bg (Nat.lt_of_lt_of_le hbgU hzB) (by simp))).trans d9
            have e10 := (World.cell?_of_block (a := ⟨bg, bo + 10, none⟩) (HU10.out.block bg (Nat.lt_of_lt_of_le hbgU hzB) (by simp))).trans d10
            clear d9 d10
            go_upto_region 23 with (go_at_call 36; refine (HC1.out _ (HBQ.out.upd0 HU10.out)).mono ?_; rintro e w11 ⟨rfl, rfl⟩)
            go_upto_region 24 with (first
              | ((with_reducible show wpList _ _ _ (⟨some 108, _, _, _, _, _⟩ :: _) _ _); go_loud (refine wpList_run rfl (exec_slice_lh (l := 12) (h := 12 + m9) (m := m9) 31 (.tmp 102) (.const (.int .i64 12)) (.tmp 107) rfl Try.underlying31 (by kernel_rfl) rfl rfl rfl (by omega) (by omega) (by omega) (by omega) (by omega)) ?_))
              | (at_builtin; go_loud (refine wpList_append_lies _ rfl (.tmp 101) (.tmp 108) 31 rfl w9.heap.size 5 i0 (.int .u8 0) 1 1 Try.underlying31 hi hz0 hz1 hz2' rfl (by decide) (.slice ra ln rcap) ln _ rfl (own_upd HOWN.out HU10.out (by simp)) ⟨bg, bo + 12, none⟩ m9 _ (pc.map (Value.int .u8)) rfl (by simpa using HPLEN.out) (HNEWS.out _ (HBQ.out.upd0 HU10.out)) (fun u hu => by obtain ⟨x, _, rfl⟩ := List.mem_map.1 hu; rfl) hm0 (by unfold maxLen; omega) (by omega) (by have := HU10.out.size; omega) _ rfl ?_); intro g' cap' w12 ho12 hg12 hat12 hlt12))
            have hrv : ∀ x, (Value.slice ra ln rcap).ownBlock = some x → w9.heap.size ≤ x ∧ x < wr.heap.size := fun x hx => HOWN.out.lt x hx
            have hse' := HSE.out
            rw [← HLN.out] at hse'
            have hu12 : Upd (Value.slice ra ln rcap).ownBlock.toList w10 w12 := (Upd.refl _ _).grown hg12 (fun k hk => .inl (by simp [hk]))
            have hz10 := HU10.out.size
            have e10' := (World.cell?_of_block (a := ⟨bg, bo + 10, none⟩) (hu12.block bg (by omega) (fun hm => by have := (hrv _ (by simpa using hm)).1; omega))).trans e10
            have hl12 := (HL2.out.upd0 HU10.out).upd hu12 (fun x hx hm => (hse' x (by simpa using hm)).2 hx) (fun x hx hm => (hse' x (by simpa using hm)).1 hx)
            have hj12 := (HJ2.out.upd HU10.out (by simp)).upd hu12 (fun hm => by have := (hrv _ (by simpa using hm)).1; omega)
            have hu912 : Upd [jb] w9 w12 := (HU2.out.trans (HU10.out.mono (by simp))).then hu12 (fun x hx => .inr (hrv x (by simpa using hx)).1)
            have hse12 : g' ∉ U2 ∧ jv.ownBlock ≠ some g' := by
              rcases hat12 with hat | hat
              · exact hse' g' hat
              · exact ⟨fun hm => by have := (HL2.out.new g' hm).2; omega, fun e => by have := (HL2.out.own.lt g' e).2; omega⟩
            have hrow : (rc ++ pc).length = ln + m9 := by rw [List.length_append, HPLEN.out, HLN.out]
            have ho12' : w12.ownsRow w9.heap.size 5 1 (.slice (some ⟨g', 0, none⟩) (ln + m9) cap') (rc ++ pc).length ((rc ++ pc).map (Value.int .u8)) := by rw [hrow, List.map_append]; exact ho12
            have HL12 := Lib.hid hl12
            have HJ12 := Lib.hid hj12
            have HU12 := Lib.hid hu912
            have HSE12 := Lib.hid hse12
            have HO12 := Lib.hid ho12'
            have HROW := Lib.hid hrow
            have HQL := Lib.hid (show q + 1 ≤ k by omega)
            clear hrv hse' hu12 e9 e10 hl12 hj12 hu912 hse12 ho12 ho12' hg12 hat12 hlt12 hrow HRO HOWN HL2 HJ2 HU2 HSE HBQ HGG HNEWS HC1
            rcases key with q10 | q10
            · have hb1 : b10 = 1 := by simpa using q10
              have HPI2 := Lib.hid (HPL2.out hb1)
              clear hb1 HPM2 HPL2
              obtain ⟨ja, jc, rfl⟩ := own_slice HL12.out.own
              have hrl := HPI.out.nr
              have hru := HPI.out.nu
              obtain ⟨rl, hrlx⟩ : ∃ rl, rl = recs.length := ⟨_, rfl⟩
              have hown := HL12.out.own
              have hj12 := HJ12.out
              have hl12 := HL12.out
              have hs12 := HSE12.out
              rw [← hrlx] at hrl hown hj12 hl12 hs12
              have c5 := hj12.cell (o := 5) rfl
              have HOWN := Lib.hid hown
              have HJ12 := Lib.hid hj12
              have HL12 := Lib.hid hl12
              have HSE12 := Lib.hid hs12
              have HRL := Lib.hid hrlx
              have hx4 : rl ≤ 4096 := by omega
              have hz9 := HU12.out.size
              clear hown hj12 hl12 hs12 hrlx
              go_wp2_with ((with_reducible show wpList _ _ _ (⟨some 121, _, _, _, _, _⟩ :: _) _ _)
                           go_loud (refine wpList_push 121 122 37 31 (.tmp 119) (.tmp 120) (.slice none 0 0) 1 24 Try.underlying37 info_row rfl (by omega) (by omega) w9.heap.size (.slice ja rl jc) rl us2 (.slice (some ⟨g', 0, none⟩) (ln + m9) cap') rfl rfl rfl rfl rfl rfl (by simp) (by simp) rfl rfl HOWN.out rfl (one_slice _ _ _) (by unfold maxLen; omega) (by omega) (by omega) ?_)
                           intro g2 cap2 w13 ho13 hu13 hat13 hlt13 hb13
                           have hj13 := HJ12.out.upd hu13 (fun hm => by have := (HOWN.out.lt _ (by simpa using hm)).1; omega)
                           have c4 := hj13.cell (o := 4) rfl
                           have c5' := hj13.cell (o := 5) rfl
                           have f4 := hj13.free 4
                           have f5 := hj13.free 5
                           have HJ13 := Lib.hid hj13
                           have HO13 := Lib.hid ho13
                           have HU13 := Lib.hid hu13
                           have HAT13 := Lib.hid hat13
                           clear ho13 hu13 hat13 hlt13 hb13 hj13)
              have hjlt9 : jb < w9.heap.size := Nat.lt_of_lt_of_le hjlt hsz
              have hl13 := LL.push HL12.out (BytesAt.of_own HO12.out rfl) (fun x hx => by simp [Value.ownBlock] at hx; subst hx; exact ⟨(HO12.out.lt g' rfl).1, (HO12.out.lt g' rfl).2, HSE12.out.2⟩) (by rw [← HRL.out]; exact HO13.out) rfl HU13.out HAT13.out
              have hu1314 : Upd [jb] w13 ((w13.setCell ⟨jb, 5, none⟩ (.slice (some ⟨g2, 0, none⟩) (rl + 1) cap2)).setCell ⟨jb, 4, none⟩ (.int .i64 ((q : Int) + 1))) := ((Upd.refl _ _).setCell (.inl (by simp)) _).setCell (.inl (by simp)) _
              have hl14 := hl13.upd hu1314 (fun x hx hm => by have := (hl13.own.lt x hx).1; simp at hm; omega) (fun x hx hm => by have := (hl13.new x hx).1; simp at hm; omega)
              have hu914 := (HU12.out.then HU13.out (fun x hx => .inr (HOWN.out.lt x (by simpa using hx)).1)).trans hu1314
              have hj14 := (HJ13.out.set 5 (.slice (some ⟨g2, 0, none⟩) (rl + 1) cap2)).set 4 (.int .i64 ((q : Int) + 1))
              have hq1 : Value.int .i64 ((q : Int) + 1) = .int .i64 ((q + 1 : Nat) : Int) := by go_num
              have hj14' : Blk ((w13.setCell ⟨jb, 5, none⟩ (.slice (some ⟨g2, 0, none⟩) (rl + 1) cap2)).setCell ⟨jb, 4, none⟩ (.int .i64 ((q : Int) + 1))) jb #[.pointer (some ⟨p, 0, none⟩), .int .i64 f, .int .i64 k, .int .i64 (openLife bs), .int .i64 ((q + 1 : Nat) : Int), .slice (some ⟨g2, 0, none⟩) (rl + 1) cap2] 68 := by
                rw [← hq1]; exact hj14
              go_roundw
              case rel => exact ⟨q + 1, [], lf, recs ++ [rc ++ pc], q + 1, _, _, _, HQL.out, by go_num, rfl, World.ownsRow_nil _ _ _ _, hl14, by simp [Value.ownBlock], hu914, hj14', HPI2.out⟩
              case measure => simp [intOf]; omega
            · have hb1 : b10 ≠ 1 := by simpa using q10
              have HPI2 := Lib.hid (HPM2.out hb1)
              clear hb1
              go_wp2_with fail
              go_roundw
              case rel => exact ⟨q + 1, rc ++ pc, lf, recs, ud, jv, us2, U2, HQL.out, by go_num, rfl, HO12.out, HL12.out, fun x hx => by simp [Value.ownBlock] at hx; subst hx; exact HSE12.out, HU12.out, HJ12.out, HPI2.out⟩
              case measure => simp [intOf]; omega
        · obtain rfl : q = k := by omega
          go_wp2_with fail
          rw [Exit.noGoto_ret]
          go_ret2
          exact ⟨jb, _, rfl, open_close HL2.out HJ2.out (Nat.lt_of_lt_of_le hjlt hsz) HBS.out (PInv.done HPI.out (by rw [HBL.out]; exact Nat.le_refl _)) HPI.out hq (by omega) HU8.out, HJX.out _ _ _ _ _ HL2.out, HUX.out.then ((HU.out.trans HU2.out)) (fun x hx => .inr (by simp at hx; omega))⟩

end Go.Proofs.Ytfjmkdjbeoafjaa
