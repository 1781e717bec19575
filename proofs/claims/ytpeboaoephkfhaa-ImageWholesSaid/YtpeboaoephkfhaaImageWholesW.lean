/- The walk of ImageWholes. -/
import Derived.Test.YtpeboaoephkfhaaImgK
import Derived.Test.YtpeboaoephkfhaaImgL
import Derived.Test.YtpeboaoephkfhaaImgQ
import Derived.Test.YtpeboaoephkfhaaOpenY
import Derived.Test.YtpeboaoephkfhaaOpenK
import Derived.StillTailTactics
import Derived.Deep.CutBlock
import Derived.Deep.DeepCutAuto
namespace Go.Proofs.Ytpeboaoephkfhaa
open Go.ChangeShapes Go.WideShapes Go.ChangeAt Go.RowKit

theorem lit_u8w {n : Int} (h : (Lit.int .u8 n).wf = true) : 0 ≤ n ∧ n ≤ 255 := by
  have e1 : IntKind.u8.min = 0 := by decide
  have e2 : IntKind.u8.max = 255 := by decide
  simp [Lit.wf, e1, e2] at h
  omega

/-- The disk is not touched by what lies beside it. -/
theorem DInv.beside' {w0 w w' : World} {b : Nat} {S T : List Nat} {d : DK} (h : DInv w0 w b S d) (hu : Upd T w w') (hT : ∀ k ∈ S, k ∉ T) (h0 : ∀ k ∈ T, w0.heap.size ≤ k) : DInv w0 w' b S d :=
  ⟨h.disk.upd hu hT, h.upd.then hu (fun k hk => .inr (h0 k hk)), h.base⟩

/-- A slice of one byte, built. -/
theorem wp_oneByte {o : Oper} {a : Act} {w : World} {K : Act → World → Prop} {Q : Exit → Act → World → Prop} (x : Operand) (ho : o.op = .buildSlice 26 1 #[(0, x)]) {y : Int} (hx : a.eval x = .int .u8 y)
    (h : K (a.put o.dst (.slice (some ⟨w.heap.size, 0, none⟩) 1 1)) (w.alloc (.cells #[.int .u8 y] 5))) : o.wp Try.prog a w K Q := by
  have hi : (Try.prog.info? 5).map (fun i => (i.zero, i.size)) = some (some (.int .u8 0), 1) := by kernel_rfl
  cases hie : Try.prog.info? 5 with
  | none => simp [hie] at hi
  | some ie =>
    simp only [hie, Option.map_some, Option.some.injEq, Prod.mk.injEq] at hi
    obtain ⟨hz, hisz⟩ := hi
    refine wp_buildSlice 26 5 1 _ ho (([Value.int .u8 y].flatMap fun v => v.cells.toList).toArray) ie (.int .u8 0) Try.underlying26 hie hz (by rw [hisz]; omega) (by rw [hisz]; omega) ?_ ?_
    · rw [hisz]
      have := Go.Great.fill_whole (by decide : 0 < 1) [Value.int .u8 y] ((Array.range (1 * 1)).map ((Value.int .u8 0).cells[· % (Value.int .u8 0).cells.size]!)) (by simp [Value.cells]) (by simp)
      simpa [hx] using this
    · have e1 : ([Value.int .u8 y].flatMap fun v => v.cells.toList).toArray = #[.int .u8 y] := by simp [Value.cells]
      rw [e1]; exact h

/-- An empty slice literal: a row of its own without cells. -/
theorem exec_build_empty {P : Program} {o : Oper} {a : Act} {w : World} (t e : TypeId) {k : Nat} (ho : o.op = .buildSlice t 0 #[]) (hu : P.underlying t = some (.slice e)) (hi : (P.info? e).map (·.size) = some k) :
    (execOp a.eval o).run P w = .ok (.value (.slice (some ⟨w.heap.size, 0, none⟩) 0 0)) (w.alloc (.cells #[] e)) := by
  cases hq : P.info? e with
  | none => simp [hq] at hi
  | some i =>
    have hr : (Instr.buildSlice t 0 #[]).run P w = .ok (.slice (some ⟨w.heap.size, 0, none⟩) 0 0) (w.alloc (.cells #[] e)) := by
      simp [Instr.buildSlice, run_underlying hu, sizeOf, typeInfo, hq, newRow, Instr.fill]
      rw [show Array.range 0 = #[] from by simp [Array.range], Array.map_empty]
    unfold execOp
    simp [ho, hr]

/-- A byte of an owned row is set. -/
theorem own_byte {w : World} {base n : Nat} {v : Value} {l : List Int} (h : w.ownsRow base 5 1 v n (l.map (Value.int .u8))) (hl : l.length = n) {t : Nat} (ht : t < n) :
    ∃ g cap, v = .slice (some ⟨g, 0, none⟩) n cap ∧ base ≤ g ∧ (∃ c : Array Value, Blk w g c 5 ∧ c[t]? = some (.int .u8 (l.getD t 0))) ∧ ∀ y, (w.setCell ⟨g, t, none⟩ (.int .u8 y)).ownsRow base 5 1 v n ((l.set t y).map (Value.int .u8)) := by
  rcases h.2 with ⟨-, hn⟩ | ⟨g, cap, cur, rfl, hb, hg, hnc, hcm, hcs, htk⟩
  · omega
  · rw [Nat.mul_one] at htk hcs
    have hb2 : Blk w g cur 5 := hg
    refine ⟨g, cap, rfl, hb, ⟨cur, hb2, ?_⟩, fun y => ⟨by rw [List.length_map, List.length_set, hl, Nat.mul_one], .inr ⟨g, cap, cur.setIfInBounds t (.int .u8 y), rfl, hb, hb2.set t (.int .u8 y), hnc, hcm, by rw [Array.size_setIfInBounds, hcs, Nat.mul_one], ?_⟩⟩⟩
    · have h1 : (cur.toList.take n)[t]? = some (.int .u8 (l.getD t 0)) := by
        rw [htk, List.getElem?_map, List.getD_eq_getElem?_getD, List.getElem?_eq_getElem (by omega)]; rfl
      rw [List.getElem?_take, if_pos ht] at h1
      simpa using h1
    · rw [Nat.mul_one, Array.toList_setIfInBounds, List.take_set, htk, List.map_set]

set_option maxRecDepth 100000 in
set_option maxHeartbeats 4000000 in
theorem ImageWholes.walk (bv : Value) (b : List Int) (cut ar at_ : Int) (w : World) (hb : BytesAt w bv b) (hbu : U8L b) (hcut : (Lit.int .i64 cut).wf = true) (har : (Lit.int .u8 ar).wf = true) (hat : (Lit.int .i64 at_).wf = true) :
    Calls Try.prog 7 #[bv, .int .i64 cut, .int .u8 ar, .int .i64 at_] w fun e w' => e = .returned (.bool true) ∧ Below w.heap.size w w' := by
  have r1 := lit_i64 hcut
  have r2 := lit_u8w har
  have r3 := lit_i64 hat
  obtain ⟨AR, rfl⟩ : ∃ F : Nat, ar = F := ⟨ar.toNat, by omega⟩
  obtain ⟨ba, bc, rfl⟩ := hb.form
  have hbm := hb
  obtain ⟨ba', bc', e, hbc, hbm, -⟩ := hbm
  cases e
  unfold maxLen at hbm
  obtain ⟨bl, hbl⟩ : ∃ n, n = b.length := ⟨_, rfl⟩
  have hblm : bl ≤ 2 ^ 63 - 1 := by omega
  have hblc : bl ≤ bc := by omega
  rw [← hbl] at hb ⊢
  have HB := Lib.hid hb
  have HBU := Lib.hid hbu
  have HBL := Lib.hid hbl
  have HBLC := Lib.hid hblc
  clear hb hbu hbl hcut har hat hbc hblc
  go_enter Try.func7, Try.ntmps7
  go_upto_region 4 with (go_at_call 10; refine (awake_any _).mono ?_; rintro e w1 ⟨rfl, hu1⟩)
  by_cases h0 : bl = 0
  · have k1 : ((bl : Int) == (0 : Int)) = true := by simpa using h0
    have k2 : (bl : Int) = 0 := by omega
    go_wp2_with fail
    go_ret
    exact ⟨rfl, hu1.toBelow⟩
  by_cases h600 : 600 < bl
  · have k1 : ((bl : Int) == (0 : Int)) = false := by simpa using h0
    have k2 : ¬ (bl : Int) = 0 := by omega
    have k3 : (600 : Int) < (bl : Int) := by omega
    go_wp2_with fail
    go_ret
    exact ⟨rfl, hu1.toBelow⟩
  have k1 : ((bl : Int) == (0 : Int)) = false := by simpa using h0
  have k2 : ¬ (bl : Int) = 0 := by omega
  have k3 : ¬ (600 : Int) < (bl : Int) := by omega
  go_upto_region 7 with (go_at_call 12; refine (new_law 22 w (by omega) (by omega) hu1).mono ?_; rintro e w2 ⟨p, S2, rfl, hd2, -, -⟩)
  have HD2 : Hid (DInv w w2 p S2 (DK.new 22)) := Lib.hid hd2
  clear hd2 hu1
  go_upto_if 43 with fail
  go_cut [1] (fun cv wx => (∃ C : Nat, cv = .int .i64 C ∧ C ≤ 9223372036854775807) ∧ wx = w2)
  case first =>
    by_cases hc : cut < 0
    · have m1 : IntKind.i64.wrap (cut + 1) = cut + 1 := IntWalk.i64_in _ (by omega)
      have m2 : IntKind.i64.wrap (-(cut + 1)) = -(cut + 1) := IntWalk.i64_in _ (by omega)
      go_wp2_with fail
      go_meet
      exact ⟨⟨(-(cut + 1)).toNat, by congr 1; omega, by omega⟩, rfl⟩
    · go_wp2_with fail
      go_meet
      exact ⟨⟨cut.toNat, by congr 1; omega, by omega⟩, rfl⟩
  case rest =>
    obtain ⟨⟨C, rfl, hC⟩, rfl⟩ := hcut
    go_upto_if 48 with fail
    go_cut [3] (fun cv wx => (∃ T : Nat, cv = .int .i64 T ∧ T ≤ 9223372036854775807) ∧ wx = wc)
    case first =>
      by_cases hc : at_ < 0
      · have m1 : IntKind.i64.wrap (at_ + 1) = at_ + 1 := IntWalk.i64_in _ (by omega)
        have m2 : IntKind.i64.wrap (-(at_ + 1)) = -(at_ + 1) := IntWalk.i64_in _ (by omega)
        go_wp2_with fail
        go_meet
        exact ⟨⟨(-(at_ + 1)).toNat, by congr 1; omega, by omega⟩, rfl⟩
      · go_wp2_with fail
        go_meet
        exact ⟨⟨at_.toNat, by congr 1; omega, by omega⟩, rfl⟩
    case rest =>
      obtain ⟨⟨T, rfl, hT⟩, rfl⟩ := hcut
      obtain ⟨k, hk⟩ : ∃ k, k = C % (bl + 1) := ⟨_, rfl⟩
      have hkb : k ≤ bl := by have := Nat.mod_lt C (show 0 < bl + 1 by omega); omega
      have q1 : (C : Int) % ((bl : Int) + 1) = (k : Int) := by rw [hk]; simp
      obtain ⟨ff, hff⟩ : ∃ ff, ff = 2 + 10 * (AR % 2) := ⟨_, rfl⟩
      have hffl : 2 ≤ ff ∧ ff + 10 ≤ 22 := by omega
      have m3 : IntKind.i64.wrap ((bl : Int) + 1) = (bl : Int) + 1 := IntWalk.i64_in _ (by omega)
      have m4 : IntKind.i64.wrap (AR : Int) = (AR : Int) := IntWalk.i64_in _ (by omega)
      have m5 : IntKind.i64.wrap (10 * ((AR : Int) % 2)) = 10 * ((AR : Int) % 2) := IntWalk.i64_in _ (by omega)
      have m6 : IntKind.i64.wrap (2 + 10 * ((AR : Int) % 2)) = (ff : Int) := by rw [IntWalk.i64_in _ (by omega)]; omega
      have z1 : (0 : Int) ≤ (C : Int) := by omega
      have z2 : (0 : Int) < (bl : Int) + 1 := by omega
      have z3 : (0 : Int) ≤ (AR : Int) := by omega
      have z4 : ¬ ((bl : Int) + 1 = 0) := by omega
      clear hk hff
      go_upto_region 15 with fail
      rw [q1]
      clear q1 m3 m5 m6 z1 z2 z4
      obtain ⟨K, hK⟩ : ∃ K : BK, K = ⟨(AR : Int) % 2, 5, (bl : Int), sumF b⟩ := ⟨_, rfl⟩
      have hKw : K.WF := by rw [hK]; exact ⟨sumF_len _, sumF_u8 _⟩
      have hKo : K.Ok := by
        rw [hK]
        have hm : BK.may ⟨(AR : Int) % 2, 5, (bl : Int), sumF b⟩ = true := by
          unfold BK.may
          simp only [Bool.and_eq_true, decide_eq_true_eq]
          have ha : (AR : Int) % 2 = 0 ∨ (AR : Int) % 2 = 1 := by omega
          have hx : bits .andNot .i64 ((AR : Int) % 2) 1 = 0 := (i64_andNot1 _ (by omega)).2 ha
          exact ⟨⟨⟨⟨hx, by omega⟩, by omega⟩, by omega⟩, by omega⟩
        exact ⟨hm, by show (AR : Int) % 2 = 0 ∨ (AR : Int) % 2 = 1; omega, by show (0 : Int) ≤ 5; omega, by show (5 : Int) ≤ _; omega, by show (0 : Int) < (bl : Int); omega, by show (bl : Int) ≤ 65536; omega⟩
      have HK := Lib.hid hK
      have HKW := Lib.hid hKw
      have HKO := Lib.hid hKo
      have HKA : Hid (K.area = (AR : Int) % 2 ∧ K.epoch = 5 ∧ K.size = (bl : Int) ∧ K.whole = sumF b) := Lib.hid (by rw [hK]; exact ⟨rfl, rfl, rfl, rfl⟩)
      clear hK hKw hKo
      go_wp2_with fail
      obtain ⟨w5, hw5⟩ : ∃ x, x = wc.alloc (.cells #[.slice ba bl bc] 26) := ⟨_, rfl⟩
      have hb5 : Blk w5 wc.heap.size #[.slice ba bl bc] 26 := by rw [hw5]; exact Blk.new _ _ _
      have hu5 : Upd [] wc w5 := by rw [hw5]; exact (Upd.refl _ _).alloc _
      rw [← hw5]
      have HD5 := Lib.hid (HD2.out.quiet hu5)
      refine (sum_any (hb5.cell (o := 0) rfl) (HB.out.upd0 HD5.out.upd) HBU.out (by rw [← HBL.out]; omega) hb5.lt).mono ?_
      rintro e w6 ⟨rfl, hu6⟩
      have HD6 := Lib.hid (HD5.out.quiet hu6)
      obtain ⟨d1, d2, p1, p2, him, hr0, hr1⟩ := put_two hffl.1 hffl.2 (b := b) (k := k) (by rw [← HBL.out]; omega) (by rw [← HBL.out]; exact hkb)
      obtain ⟨d3, p3, him3, hr03, hr13⟩ := him.point hffl.1 hffl.2 (by rw [← HBL.out]; omega) hr0 hr1 HKW.out HKO.out
      have HP1 := Lib.hid p1
      have HP2 := Lib.hid p2
      have HP3 := Lib.hid p3
      have HIM3 := Lib.hid him3
      have HR0 := Lib.hid hr03
      have HR1 := Lib.hid hr13
      clear hw5 hb5 hu5 hu6 p1 p2 p3 him him3 hr0 hr1 hr03 hr13 HD2 HD5
      go_upto_region 16 with (first
        | ((with_reducible show wpList _ _ _ (⟨some 70, _, _, _, _, _⟩ :: _) _ _); refine wpList_run rfl (exec_boot (b := K) rfl (by rw [HKA.out.1]; rfl) (by rw [HKA.out.2.1]; rfl) (by rw [HKA.out.2.2.1]; rfl) (by rw [HKA.out.2.2.2]; rfl) HKW.out.whole) ?_)
        | ((with_reducible show wpList _ _ _ (⟨some 14, _, _, _, _, _⟩ :: _) _ _); refine wpList_alloc rfl 40 rfl zero_boot fun w7 hb7 hu7 hs7 => ?_; refine wpList_storeA rfl 40 (.tmp 14) (.tmp 70) rfl rfl rfl hb7 info_boot (encK_size HKW.out.whole) (encK_size zer32_len) (encK_one _) fun w8 hb8 hu8 hs8 => ?_; simp only [Act.put, List.setIfInBounds_toArray, List.set_cons_zero, List.set_cons_succ]))
      obtain ⟨K0, hK0⟩ : ∃ x, x = w6.heap.size := ⟨_, rfl⟩
      have hu68 : Upd [] w6 w8 := hu7.then hu8 (fun q hq => .inr (by simp at hq; omega))
      have hv8 := HD6.out.var hb8
      rw [← hK0] at hv8 ⊢
      have HV8 := Lib.hid hv8
      have HD8 := Lib.hid (HD6.out.quiet hu68)
      clear hb7 hu7 hs7 hb8 hu8 hs8 hv8 hK0 hu68 HD6
      have hsd := HB.out.slicedL (i := k) (by rw [← HBL.out]; exact hkb)
      have hst := HB.out.slicedH (i := k) (by rw [← HBL.out]; exact hkb)
      obtain ⟨sv, hsv⟩ : ∃ sv, sliced ba k bl bc 1 = sv := ⟨_, rfl⟩
      obtain ⟨tv, htv⟩ : ∃ tv, sliced ba 0 k bc 1 = tv := ⟨_, rfl⟩
      rw [hsv] at hsd
      rw [htv] at hst
      have HSD := Lib.hid hsd
      have HST := Lib.hid hst
      have HSV := Lib.hid hsv
      have HTV := Lib.hid htv
      clear hsd hst hsv htv
      have HBY0 : Hid (DK.new 22).Byt := Lib.hid (DK.Byt.new _)
      go_upto_region 17 with (first
        | ((with_reducible show wpList _ _ _ (⟨some 76, _, _, _, _, _⟩ :: _) _ _); refine wpList_run rfl (exec_sliceL0 (l := k) 26 (.tmp 74) (.tmp 75) rfl Try.underlying26 (by kernel_rfl : _ = some 1) rfl rfl hkb HSV.out) ?_; simp only [Act.put, List.setIfInBounds_toArray, List.set_cons_zero, List.set_cons_succ])
        | (go_at_call 15; refine (put_law HD8.out HBY0.out ff 10 k (HSD.out.upd0 HD8.out.upd) (HBU.out.drop k) (HSD.out.out HD8.out.base) (by rw [List.length_drop, ← HBL.out]; omega) (by omega) (by omega)).mono ?_; rw [HP1.out]; rintro e w9 ⟨rfl, S9, hd9, hy9, hk9⟩))
      have HD9 : Hid (DInv w w9 p S9 d1) := Lib.hid hd9
      have HY9 : Hid d1.Byt := Lib.hid hy9
      have HV9 := Lib.hid (HV8.out.keep hk9)
      clear hd9 hy9 hk9 HD8 HV8
      go_upto_region 18 with (first
        | ((with_reducible show wpList _ _ _ (⟨some 82, _, _, _, _, _⟩ :: _) _ _); refine wpList_run rfl (exec_sliceH0 (h := k) 26 (.tmp 80) (.tmp 81) rfl Try.underlying26 (by kernel_rfl : _ = some 1) rfl rfl (by have := HBLC.out; omega)) ?_; rw [HTV.out]; simp only [Act.put, List.setIfInBounds_toArray, List.set_cons_zero, List.set_cons_succ])
        | (go_at_call 15; refine (put_law HD9.out HY9.out ff 10 0 (HST.out.upd0 HD9.out.upd) (HBU.out.take k) (HST.out.out HD9.out.base) (by rw [List.length_take, ← HBL.out]; omega) (by omega) (by omega)).mono ?_; rw [HP2.out]; rintro e w10 ⟨rfl, S10, hd10, hy10, hk10⟩))
      have HD10 : Hid (DInv w w10 p S10 d2) := Lib.hid hd10
      have HY10 : Hid d2.Byt := Lib.hid hy10
      have HV10 := Lib.hid (HV9.out.keep hk10)
      clear hd10 hy10 hk10 HD9 HV9
      have hka : -9223372036854775808 ≤ K.area ∧ K.area ≤ 9223372036854775807 := by rw [HKA.out.1]; omega
      have hks : -9223372036854775808 ≤ K.size ∧ K.size ≤ 9223372036854775807 := by rw [HKA.out.2.2.1]; omega
      have hwh := HIM3.out.whole hffl.2 (by rw [← HBL.out]; omega) K (by rw [HKA.out.2.2.1, HBL.out])
      rw [HKA.out.2.2.2, if_pos (by simp)] at hwh
      have HWH := Lib.hid hwh
      have HKS := Lib.hid hks
      have HKAR := Lib.hid hka
      clear hka hks hwh
      go_upto_region 19 with (first
        | ((with_reducible show wpList _ _ _ (⟨some 85, _, _, _, _, _⟩ :: _) _ _); refine wpList_run rfl (boot_load (.tmp 14) rfl rfl HV10.out.1 HKW.out.whole) ?_; simp only [Act.put, List.setIfInBounds_toArray, List.set_cons_zero, List.set_cons_succ])
        | (go_at_call 18; refine (point_law HD10.out HY10.out 0 (by omega) K HKW.out HKAR.out).mono ?_; rw [HP3.out]; rintro e w11 ⟨rfl, S11, hd11, hy11, hk11⟩))
      have HD11 : Hid (DInv w w11 p S11 d3) := Lib.hid hd11
      have HY11 : Hid d3.Byt := Lib.hid hy11
      have HV11 := Lib.hid (HV10.out.keep hk11)
      clear hd11 hy11 hk11 HD10 HV10
      go_upto_region 20 with (first
        | ((with_reducible show wpList _ _ _ (⟨some 89, _, _, _, _, _⟩ :: _) _ _); refine wpList_run rfl (boot_load (.tmp 14) rfl rfl HV11.out.1 HKW.out.whole) ?_; simp only [Act.put, List.setIfInBounds_toArray, List.set_cons_zero, List.set_cons_succ])
        | (go_at_call 19; refine (whole_law HD11.out HY11.out (by rw [HIM3.out.len]; omega) ff 10 (by omega) K HKW.out HKS.out).mono ?_; rw [HWH.out]; rintro e w12 ⟨rfl, hd12, hu12⟩))
      have HD12 := Lib.hid hd12
      have HV12 := Lib.hid (HV11.out.keep (Keep.quiet hu12))
      clear hd12 hu12 HD11 HV11
      obtain ⟨t, ht⟩ : ∃ t, t = T % bl := ⟨_, rfl⟩
      have htl : t < bl := by rw [ht]; exact Nat.mod_lt _ (by omega)
      have q3 : (T : Int).tmod (bl : Int) = (t : Int) := by rw [Int.tmod_eq_emod_of_nonneg (by omega), ht]; simp
      have t0 : (0 : Int) ≤ (T : Int) := by omega
      have t1 : (0 : Int) < (bl : Int) := by omega
      have t2 : (0 : Int) ≤ (t : Int) := by omega
      have t3 : (t : Int) < (bl : Int) := by omega
      obtain ⟨bg, bo, rfl, -, hbgl, hbc⟩ := HB.out.at (by rw [← HBL.out]; omega)
      obtain ⟨xv, hxv⟩ : ∃ xv, xv = b.getD t 0 := ⟨_, rfl⟩
      obtain ⟨yv, hyv⟩ : ∃ yv, bits .xor .u8 xv 1 = yv := ⟨_, rfl⟩
      have cb : w12.cell? ⟨bg, bo + t, none⟩ = some (.int .u8 xv) := by
        rw [World.cell?_of_block (a := ⟨bg, bo + t, none⟩) (HD12.out.upd.block bg hbgl (by simp)), hxv]
        exact hbc t (by rw [← HBL.out]; exact htl)
      have HXV := Lib.hid hxv
      have HYV := Lib.hid hyv
      have HBG : Hid (bg < w.heap.size) := Lib.hid hbgl
      have HBC := Lib.hid hbc
      clear ht hxv hbc
      have HCB : Hid (∀ w', Upd S11 w12 w' → w'.cell? ⟨bg, bo + t, none⟩ = some (.int .u8 xv)) := Lib.hid (fun w' hu => by
        have hbb : bg ∉ S11 := fun hm => by have h1 := HD12.out.base _ hm; have h2 := HBG.out; omega
        have hlt : bg < w12.heap.size := by have h1 := HD12.out.upd.size; have h2 := HBG.out; omega
        rw [World.cell?_of_block (a := ⟨bg, bo + t, none⟩) (hu.block bg hlt hbb)]; exact cb)
      clear cb
      obtain ⟨d4, p4, him4, hr04, hr14⟩ := HIM3.out.other hffl.1 hffl.2 (by rw [← HBL.out]; omega) (t := t) (by rw [← HBL.out]; exact htl) yv
      have hst4 := him4.start HKW.out HKO.out (hr04.trans HR0.out) (hr14.trans HR1.out)
      have hwh4 := him4.whole hffl.2 (by rw [List.length_set, ← HBL.out]; omega) K (by rw [HKA.out.2.2.1, List.length_set, HBL.out])
      have HP4 := Lib.hid p4
      have HL4 := Lib.hid him4.len
      have HST4 := Lib.hid hst4
      obtain ⟨cl, hcl⟩ : ∃ cl, cl = b.set t yv := ⟨_, rfl⟩
      rw [← hcl] at hwh4
      have HWH4 := Lib.hid hwh4
      have hclu : U8L cl := by rw [hcl, ← HYV.out]; exact set_u8 HBU.out t (xor8_rng _ _)
      have hcll : cl.length = bl := by rw [hcl, List.length_set]; exact HBL.out.symm
      have HCL := Lib.hid hcl
      have HCLU := Lib.hid hclu
      have HCLL := Lib.hid hcll
      clear p4 him4 hr04 hr14 hst4 hwh4 hclu hcll hcl
      refine held_start (fun w' => Upd S11 w12 w') 17 mixed rfl ((Upd.refl _ _).drew) (fun hHeld => ?_)
      obtain ⟨w13, hw13⟩ : ∃ x, x = w12.drew := ⟨_, rfl⟩
      have hq13 : Upd [] w12 w13 := by rw [hw13]; exact (Upd.refl _ _).drew
      rw [← hw13] at hHeld ⊢
      have HD13 := Lib.hid (HD12.out.quiet hq13)
      have HV13 := Lib.hid (HV12.out.keep (Keep.quiet hq13))
      clear hq13 hw13
      refine held_take 0 91 (.pointer (some ⟨p, 0, none⟩)) rfl (by kernel_rfl) (by kernel_rfl) (by kernel_rfl) rfl (fun _ _ _ h => h) rfl hHeld (fun w hS => by rfl) ?_
      simp only [List.setIfInBounds_toArray, List.set_cons_zero, List.set_cons_succ]
      refine held_take 1 92 (.int .i64 (ff : Int)) rfl (by kernel_rfl) (by kernel_rfl) (by kernel_rfl) rfl (fun _ _ _ h => h) rfl hHeld (fun w hS => by rfl) ?_
      simp only [List.setIfInBounds_toArray, List.set_cons_zero, List.set_cons_succ]
      refine held_take 2 93 (.int .i64 (T : Int)) rfl (by kernel_rfl) (by kernel_rfl) (by kernel_rfl) rfl (fun _ _ _ h => h) rfl hHeld (fun w hS => by rfl) ?_
      simp only [List.setIfInBounds_toArray, List.set_cons_zero, List.set_cons_succ]
      refine held_take 3 94 (.slice (some ⟨bg, bo, none⟩) bl bc) rfl (by kernel_rfl) (by kernel_rfl) (by kernel_rfl) rfl (fun _ _ _ h => h) rfl hHeld (fun w hS => by rfl) ?_
      simp only [List.setIfInBounds_toArray, List.set_cons_zero, List.set_cons_succ]
      refine held_take 4 95 (.int .i64 (bl : Int)) rfl (by kernel_rfl) (by kernel_rfl) (by kernel_rfl) rfl (fun _ _ _ h => h) rfl hHeld (fun w hS => by go_simp) ?_
      simp only [List.setIfInBounds_toArray, List.set_cons_zero, List.set_cons_succ]
      refine held_take 5 96 (.int .i64 (t : Int)) rfl (by kernel_rfl) (by kernel_rfl) (by kernel_rfl) rfl (fun _ _ _ h => h) rfl hHeld (fun w hS => by go_simp) ?_
      simp only [List.setIfInBounds_toArray, List.set_cons_zero, List.set_cons_succ]
      refine held_take 6 97 (.slice (some ⟨bg, bo, none⟩) bl bc) rfl (by kernel_rfl) (by kernel_rfl) (by kernel_rfl) rfl (fun _ _ _ h => h) rfl hHeld (fun w hS => by rfl) ?_
      simp only [List.setIfInBounds_toArray, List.set_cons_zero, List.set_cons_succ]
      refine held_take 7 98 (.int .i64 (T : Int)) rfl (by kernel_rfl) (by kernel_rfl) (by kernel_rfl) rfl (fun _ _ _ h => h) rfl hHeld (fun w hS => by rfl) ?_
      simp only [List.setIfInBounds_toArray, List.set_cons_zero, List.set_cons_succ]
      refine held_take 8 99 (.slice (some ⟨bg, bo, none⟩) bl bc) rfl (by kernel_rfl) (by kernel_rfl) (by kernel_rfl) rfl (fun _ _ _ h => h) rfl hHeld (fun w hS => by rfl) ?_
      simp only [List.setIfInBounds_toArray, List.set_cons_zero, List.set_cons_succ]
      refine held_take 9 100 (.int .i64 (bl : Int)) rfl (by kernel_rfl) (by kernel_rfl) (by kernel_rfl) rfl (fun _ _ _ h => h) rfl hHeld (fun w hS => by go_simp) ?_
      simp only [List.setIfInBounds_toArray, List.set_cons_zero, List.set_cons_succ]
      refine held_take 10 101 (.int .i64 (t : Int)) rfl (by kernel_rfl) (by kernel_rfl) (by kernel_rfl) rfl (fun _ _ _ h => h) rfl hHeld (fun w hS => by go_simp) ?_
      simp only [List.setIfInBounds_toArray, List.set_cons_zero, List.set_cons_succ]
      refine held_take 11 102 (.pointer (some ⟨bg, bo + t, none⟩)) rfl (by kernel_rfl) (by kernel_rfl) (by kernel_rfl) rfl (fun _ _ _ h => h) rfl hHeld (fun w hS => by go_simp) ?_
      simp only [List.setIfInBounds_toArray, List.set_cons_zero, List.set_cons_succ]
      refine held_take 12 103 (.int .u8 xv) rfl (by kernel_rfl) (by kernel_rfl) (by kernel_rfl) rfl (fun _ _ _ h => h) rfl hHeld (fun w hS => by have c := HCB.out w hS; go_simp) ?_
      simp only [List.setIfInBounds_toArray, List.set_cons_zero, List.set_cons_succ]
      refine held_take 13 104 (.int .u8 yv) rfl (by kernel_rfl) (by kernel_rfl) (by kernel_rfl) rfl (fun _ _ _ h => h) rfl hHeld (fun w hS => by go_simp) ?_
      simp only [List.setIfInBounds_toArray, List.set_cons_zero, List.set_cons_succ]
      refine held_next 14 105 rfl (by kernel_rfl) rfl rfl (fun K' hK' => ?_)
      refine wp_oneByte (.tmp 104) rfl rfl ?_
      obtain ⟨w14, hw14⟩ : ∃ x, x = w13.alloc (.cells #[.int .u8 yv] 5) := ⟨_, rfl⟩
      have hb14 : Blk w14 w13.heap.size (U8 [yv]) 5 := by rw [hw14]; exact Blk.new _ _ _
      have hu14 : Upd [] w13 w14 := by rw [hw14]; exact (Upd.refl _ _).alloc _
      obtain ⟨yb, hyb⟩ : ∃ x, x = w13.heap.size := ⟨_, rfl⟩
      rw [← hyb] at hb14
      rw [← hw14, ← hyb]
      have hv14 : BytesAt w14 (.slice (some ⟨yb, 0, none⟩) 1 1) [yv] := BytesAt.of_blk (off := 0) hb14 1 1 (by simp) (by omega) (by unfold maxLen; omega)
      have ho14 : BytesOut (.slice (some ⟨yb, 0, none⟩) 1 1) [yv] S11 := fun g off len cap _ e hm => by cases e; have := HD13.out.disk.lt _ hm; omega
      have HD14 := Lib.hid (HD13.out.quiet hu14)
      have HV14 := Lib.hid (HV13.out.keep (Keep.quiet hu14))
      have HBV14 := Lib.hid hv14
      have HBO14 := Lib.hid ho14
      have hH14 : Upd S11 w12 w14 := hHeld.trans (hu14.mono (by simp))
      have hk := hK'.out (.slice (some ⟨yb, 0, none⟩) 1 1) w14 hH14
      simp only [Act.put, List.setIfInBounds_toArray, List.set_cons_zero, List.set_cons_succ] at hk
      clear hw14 hb14 hu14 hyb hv14 ho14 hH14 hHeld
      refine hk (fun hHeld => ?_)
      clear hK' hk K'
      refine held_next 15 106 rfl (by kernel_rfl) rfl rfl (fun K' hK' => ?_)
      go_simp
      refine (put_any HD14.out.disk HY11.out ff 10 t HBV14.out (by intro x hx; simp at hx; subst hx; rw [← HYV.out]; exact xor8_rng _ _) HBO14.out (by simp) (by omega) (by omega)).mono ?_
      rw [HP4.out]
      rintro e w15 ⟨rfl, S15, hd15, hy15, hu15, hs15⟩
      have hk := hK'.out (.int .i64 0) w15 (hHeld.trans hu15)
      simp only [Act.put, List.setIfInBounds_toArray, List.set_cons_zero, List.set_cons_succ] at hk
      refine hk (fun hHeld => ?_)
      clear hK' hk K'
      refine held_take 16 19 (.int .i64 0) rfl (by kernel_rfl) (by kernel_rfl) (by kernel_rfl) rfl (fun _ _ _ h => h) rfl hHeld (fun w hS => by rfl) ?_
      simp only [List.setIfInBounds_toArray, List.set_cons_zero, List.set_cons_succ]
      refine held_done (by kernel_rfl) ?_
      have hk15 : Keep w14 S11 w15 S15 := Keep.of hu15 hs15
      have HD15 : Hid (DInv w w15 p S15 d4) := Lib.hid (HD14.out.step hd15 hu15 hs15)
      have HY15 : Hid d4.Byt := Lib.hid hy15
      have HV15 := Lib.hid (HV14.out.keep hk15)
      clear hd15 hy15 hk15 hu15 hs15 hHeld HD13 HV13 HD14 HV14 HBV14 HBO14 HD12 HV12
      go_upto_region 22 with (first
        | (go_at_call 17; refine (bstart_law HD15.out HY15.out 0 (by omega)).mono ?_; rw [HST4.out]; rintro e w16 ⟨rfl, hd16, hu16⟩)
        | ((with_reducible show wpList _ _ _ (⟨some 20, _, _, _, _, _⟩ :: _) _ _); refine wpList_alloc rfl 40 rfl zero_boot fun w17 hb17 hu17 hs17 => ?_; refine wpList_storeA rfl 40 (.tmp 20) (.tmp 110) rfl rfl rfl hb17 info_boot (encK_size HKW.out.whole) (encK_size zer32_len) (encK_one _) fun w18 hb18 hu18 hs18 => ?_; simp only [Act.put, List.setIfInBounds_toArray, List.set_cons_zero, List.set_cons_succ]))
      obtain ⟨X0, hX0⟩ : ∃ x, x = w16.heap.size := ⟨_, rfl⟩
      have hu168 : Upd [] w16 w18 := hu17.then hu18 (fun q hq => .inr (by simp at hq; omega))
      have hx18 := hd16.var hb18
      rw [← hX0] at hx18 ⊢
      have HX18 := Lib.hid hx18
      have HD18 := Lib.hid (hd16.quiet hu168)
      have HV18 := Lib.hid (HV15.out.keep (Keep.quiet (hu16.trans hu168)))
      clear hd16 hu16 hb17 hu17 hs17 hb18 hu18 hs18 hx18 hX0 hu168 HD15 HV15
      have hB18 := HB.out.upd0 HD18.out.upd
      have HB18 := Lib.hid hB18
      have hbs := HD18.out.upd.size
      clear hB18
      go_upto_region 23 with (first
        | ((with_reducible show wpList _ _ _ (⟨some 113, _, _, _, _, _⟩ :: _) _ _)
           refine wpList_run rfl (exec_build_empty 26 5 rfl (by kernel_rfl) (by kernel_rfl : _ = some 1)) ?_
           obtain ⟨w19, hw19⟩ : ∃ x, x = w18.alloc (.cells #[] 5) := ⟨_, rfl⟩
           have hown : w19.ownsRow w18.heap.size 5 1 (.slice (some ⟨w18.heap.size, 0, none⟩) 0 0) 0 [] := by rw [hw19]; exact World.ownsRow_made w18 #[] 0 (Nat.le_refl _) (by unfold maxLen; omega) rfl
           have hu19 : Upd [] w18 w19 := by rw [hw19]; exact (Upd.refl _ _).alloc _
           rw [← hw19]
           simp only [Act.put, List.setIfInBounds_toArray, List.set_cons_zero, List.set_cons_succ])
        | ((with_reducible show wpList _ _ _ (⟨some 115, _, _, _, _, _⟩ :: _) _ _)
           go_loud (refine wpList_appendB (l0 := []) (v0 := .slice (some ⟨w18.heap.size, 0, none⟩) 0 0) rfl (.tmp 113) (.tmp 114) rfl w18.heap.size rfl hown hu19.size rfl (HB18.out.upd0 hu19) (by rw [← HBL.out]; simp; omega) fun cv w20 ho20 hu20 => ?_)))
      obtain ⟨E0, hE0⟩ : ∃ x, x = w18.heap.size := ⟨_, rfl⟩
      have hx0 : X0 < E0 := by rw [hE0]; exact HX18.out.1.lt
      have hk0 : K0 < E0 := by rw [hE0]; exact HV18.out.1.lt
      rw [← hE0] at hown hu20 hbs ho20
      have hu20' : Upd [E0] w19 w20 := hu20
      have hd20 := (HD18.out.quiet hu19).beside' (T := [E0]) hu20' (fun q hq hm => by simp at hm; subst hm; have := HD18.out.disk.lt _ hq; omega) (fun q hq => by simp at hq; omega)
      have hx20 := (HX18.out.1.upd hu19 (by simp)).upd hu20' (by simp; omega)
      have hv20 := (HV18.out.1.upd hu19 (by simp)).upd hu20' (by simp; omega)
      have HD20 := Lib.hid hd20
      have HX20 := Lib.hid hx20
      have HV20 := Lib.hid hv20
      have HSL : Hid (∀ q ∈ S15, q < E0) := Lib.hid (fun q hq => by rw [hE0]; exact HD18.out.disk.lt _ hq)
      simp only [List.nil_append] at ho20
      rw [← HBL.out] at ho20
      obtain ⟨w21, hw21⟩ : ∃ x, x = w20.drew := ⟨_, rfl⟩
      have hu21 : Upd [] w20 w21 := by rw [hw21]; exact (Upd.refl _ _).drew
      have ho21 := own_upd ho20 hu21 (by simp)
      obtain ⟨cg, cc, rfl, hcg, ⟨cur, hcb, hct⟩, hset⟩ := own_byte ho21 HBL.out.symm htl
      have co : w21.cell? ⟨cg, t, none⟩ = some (.int .u8 xv) := by rw [HXV.out]; exact hcb.cell hct
      have co' : w20.cell? ⟨cg, t, none⟩ = some (.int .u8 xv) := by rw [← co, hw21]; rfl
      have fo := hcb.free t
      have HSET := Lib.hid hset
      have HW21 := Lib.hid hw21
      have HU21 := Lib.hid hu21
      clear hE0 hown hu19 hu20 hu20' hd20 hx20 hv20 ho20 hw21 hu21 ho21 hcb hct hset HD18 HX18 HV18 HB18
      refine wp_region_still_tail 14 mixed (by kernel_rfl) ?_
      simp only [List.take_succ_cons, List.take_zero, List.drop_succ_cons, List.drop_zero]
      iterate 5 still_step
      try rw [q3]
      iterate 5 still_step
      try rw [q3]
      iterate 4 still_step
      refine wpStill_nil ?_
      change wpList _ _ _ _ _ w20.drew
      rw [← HW21.out]
      clear co'
      go_upto_region 24 with fail
      obtain ⟨w22, hw22⟩ : ∃ x, x = w21.setCell ⟨cg, t, none⟩ (.int .u8 yv) := ⟨_, rfl⟩
      have hu22 : Upd [cg] w21 w22 := by rw [hw22]; exact (Upd.refl _ _).setCell (.inl (by simp)) _
      have ho22 := HSET.out yv
      rw [← hw22, ← HCL.out] at ho22
      rw [← hw22]
      have hcv := BytesAt.of_own ho22 HCLL.out
      have HCV := Lib.hid hcv
      have HD22 := Lib.hid ((HD20.out.quiet HU21.out).beside' (T := [cg]) hu22 (fun q hq hm => by simp at hm; subst hm; have := HSL.out _ hq; omega) (fun q hq => by simp at hq; omega))
      have HX22 := Lib.hid ((HX20.out.upd HU21.out (by simp)).upd hu22 (by simp; omega))
      have HV22 := Lib.hid ((HV20.out.upd HU21.out (by simp)).upd hu22 (by simp; omega))
      clear co fo hw22 hu22 ho22 hcv HSET HD20 HX20 HV20 HU21 HW21
      obtain ⟨sm, hsm⟩ : ∃ s, s = sumF cl := ⟨_, rfl⟩
      have HSM := Lib.hid hsm
      have HSMl : Hid (sm.length = 32) := Lib.hid (by rw [hsm]; exact sumF_len _)
      obtain ⟨bq, hbq⟩ : ∃ q, q = (sm == K.whole) := ⟨_, rfl⟩
      have HBQ := Lib.hid hbq
      clear hsm hbq
      refine held_start (fun w' => Upd [] w22 w') 7 mixed rfl ((Upd.refl _ _).drew) (fun hHeld => ?_)
      obtain ⟨w23, hw23⟩ : ∃ x, x = w22.drew := ⟨_, rfl⟩
      rw [← hw23] at hHeld ⊢
      refine held_take 0 130 (.slice (some ⟨cg, 0, none⟩) bl cc) rfl (by kernel_rfl) (by kernel_rfl) (by kernel_rfl) rfl (fun _ _ _ h => h) rfl hHeld (fun w hS => by rfl) ?_
      simp only [List.setIfInBounds_toArray, List.set_cons_zero, List.set_cons_succ]
      refine held_take 3 133 (.pointer (some ⟨K0, 3, none⟩)) rfl (by kernel_rfl) (by kernel_rfl) (by kernel_rfl) rfl (fun _ _ _ h => h) rfl hHeld (fun w hS => by go_simp) ?_
      simp only [List.setIfInBounds_toArray, List.set_cons_zero, List.set_cons_succ]
      refine held_take 4 134 (.agg (U8 K.whole)) rfl (by kernel_rfl) (by kernel_rfl) (by kernel_rfl) rfl (fun _ _ _ h => h) rfl hHeld (fun w hS => by exact boot_whole (.tmp 133) rfl rfl (HV22.out.upd hS (by simp)) HKW.out.whole) ?_
      simp only [List.setIfInBounds_toArray, List.set_cons_zero, List.set_cons_succ]
      refine held_next 1 131 rfl (by kernel_rfl) rfl rfl (fun K' hK' => ?_)
      refine wp_onePart (.tmp 130) rfl rfl ?_
      obtain ⟨pb, hpb⟩ : ∃ x, x = w23.heap.size := ⟨_, rfl⟩
      obtain ⟨w24, hw24⟩ : ∃ y, y = w23.alloc (.cells #[.slice (some ⟨cg, 0, none⟩) bl cc] 26) := ⟨_, rfl⟩
      have hb24 : Blk w24 pb #[.slice (some ⟨cg, 0, none⟩) bl cc] 26 := by rw [hw24, hpb]; exact Blk.new _ _ _
      have hu24 : Upd [] w23 w24 := by rw [hw24]; exact (Upd.refl _ _).alloc _
      rw [← hw24, ← hpb]
      have HB24 := Lib.hid hb24
      have HV24 := Lib.hid (HCV.out.upd0 (hHeld.trans hu24))
      have hk := hK'.out (.slice (some ⟨pb, 0, none⟩) 1 1) w24 (hHeld.trans hu24)
      simp only [Act.put, List.setIfInBounds_toArray, List.set_cons_zero, List.set_cons_succ] at hk
      clear hw23 hw24 hb24 hu24 hpb
      refine hk (fun hHeld => ?_)
      clear hK' hk K'
      refine held_next 2 132 rfl (by kernel_rfl) rfl rfl (fun K' hK' => ?_)
      go_simp
      refine (sum_any (HB24.out.cell (o := 0) rfl) HV24.out HCLU.out (by rw [HCLL.out]; omega) HB24.out.lt).mono ?_
      rw [← HSM.out]
      rintro e w25 ⟨rfl, hu25⟩
      have hk := hK'.out (.agg (U8 sm)) w25 (hHeld.trans hu25)
      simp only [Act.put, List.setIfInBounds_toArray, List.set_cons_zero, List.set_cons_succ] at hk
      refine hk (fun hHeld => ?_)
      clear hK' hk K' hu25
      refine held_take 5 135 (.bool bq) rfl (by kernel_rfl) (by kernel_rfl) (by kernel_rfl) rfl (fun _ _ _ h => h) rfl hHeld (fun w hS => by rw [HBQ.out]; exact arr_eq32 (.tmp 132) (.tmp 134) rfl rfl rfl HSMl.out HKW.out.whole) ?_
      simp only [List.setIfInBounds_toArray, List.set_cons_zero, List.set_cons_succ]
      refine held_take 6 24 (.bool bq) rfl (by kernel_rfl) (by kernel_rfl) (by kernel_rfl) rfl (fun _ _ _ h => h) rfl hHeld (fun w hS => by rfl) ?_
      simp only [List.setIfInBounds_toArray, List.set_cons_zero, List.set_cons_succ]
      refine held_done (by kernel_rfl) ?_
      have HD25 := Lib.hid (HD22.out.quiet hHeld)
      have HX25 := Lib.hid (HX22.out.upd hHeld (by simp))
      have HV25 := Lib.hid (HV22.out.upd hHeld (by simp))
      have HWH5 : Hid (wholeF d4 (ff : Int) 10 K = if bq = true then 0 else 80) := Lib.hid (by rw [HWH4.out, ← HSM.out, ← HBQ.out])
      have HEQ : Hid (eqK K K = true) := Lib.hid (eqK_refl K)
      clear hHeld HWH4 HB24 HV24
      obtain ⟨wr, hwr⟩ : ∃ wr : Int, wr = if bq = true then 0 else 80 := ⟨_, rfl⟩
      rw [← hwr] at HWH5
      cases bq
      all_goals
        simp at hwr
        subst hwr
        go_wp2_with (first
          | ((with_reducible show wpList _ _ _ (⟨some 157, _, _, _, _, _⟩ :: _) _ _); refine wpList_runW rfl (boot_load (.tmp 14) rfl rfl HV25.out HKW.out.whole) ?_; simp only [Act.put, List.setIfInBounds_toArray, List.set_cons_zero, List.set_cons_succ])
          | (go_at_call 19; refine (whole_law HD25.out HY15.out (by rw [HL4.out]; omega) ff 10 (by omega) K HKW.out HKS.out).mono ?_; rw [HWH5.out]; rintro e w26 ⟨rfl, hd26, hu26⟩; have HD26 := Lib.hid hd26; have HX26 := Lib.hid (HX25.out.upd hu26 (by simp)); have HV26 := Lib.hid (HV25.out.upd hu26 (by simp)); clear hd26 hu26)
          | ((with_reducible show wpList _ _ _ (⟨some 164, _, _, _, _, _⟩ :: _) _ _); refine wpList_runW rfl (boot_load (.tmp 20) rfl rfl HX26.out HKW.out.whole) ?_; simp only [Act.put, List.setIfInBounds_toArray, List.set_cons_zero, List.set_cons_succ])
          | ((with_reducible show wpList _ _ _ (⟨some 165, _, _, _, _, _⟩ :: _) _ _); refine wpList_runW rfl (boot_load (.tmp 14) rfl rfl HV26.out HKW.out.whole) ?_; simp only [Act.put, List.setIfInBounds_toArray, List.set_cons_zero, List.set_cons_succ])
          | ((with_reducible show wpList _ _ _ (⟨some 166, _, _, _, _, _⟩ :: _) _ _); refine wpList_runW rfl (exec_eq_boot (k := K) (l := K) (.tmp 164) (.tmp 165) rfl rfl rfl HKW.out.whole HKW.out.whole) ?_; rw [HEQ.out]; simp only [Act.put, List.setIfInBounds_toArray, List.set_cons_zero, List.set_cons_succ]))
        go_ret
        exact ⟨rfl, HD26.out.upd.toBelow⟩
end Go.Proofs.Ytpeboaoephkfhaa
