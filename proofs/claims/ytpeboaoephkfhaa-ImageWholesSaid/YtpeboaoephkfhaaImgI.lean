/- The walk of Point. -/
import Derived.Test.YtpeboaoephkfhaaImgH
import Derived.StillTailTactics
namespace Go.Proofs.Ytpeboaoephkfhaa
open Go.ChangeShapes Go.WideShapes Go.ChangeAt Go.RowKit

theorem i64_and1 (n : Int) : bits .and .i64 n 1 = n % 2 := by
  have h127 : (BitVec.ofInt 64 1).toNat = 2 ^ 1 - 1 := by decide
  have key : (BitVec.ofInt 64 n &&& BitVec.ofInt 64 1).toNat = (n % ((2 ^ 64 : Nat) : Int)).toNat % 2 ^ 1 := by
    rw [BitVec.toNat_and, BitVec.toNat_ofInt, h127, Nat.and_two_pow_sub_one_eq_mod]
  show IntKind.i64.wrap ((BitVec.ofInt 64 n &&& BitVec.ofInt 64 1).toNat : Nat) = n % 2
  rw [key, IntKind.wrap_i64]
  omega

theorem i64_andNot1 (n : Int) (h : -9223372036854775808 ≤ n ∧ n ≤ 9223372036854775807) : bits .andNot .i64 n 1 = 0 ↔ n = 0 ∨ n = 1 := by
  have key : (BitVec.ofInt 64 n &&& ~~~ BitVec.ofInt 64 1).toNat = (n % ((2 ^ 64 : Nat) : Int)).toNat - (n % ((2 ^ 64 : Nat) : Int)).toNat % 2 := by
    rw [BitVec.toNat_and, BitVec.toNat_ofInt]
    have e1 : (~~~ BitVec.ofInt 64 1).toNat = 2 ^ 64 - 1 - 1 := by decide
    rw [e1]
    obtain ⟨m, hm⟩ : ∃ m, m = (n % ((2 ^ 64 : Nat) : Int)).toNat := ⟨_, rfl⟩
    rw [← hm]
    have hlt : m < 2 ^ 64 := by omega
    have hb : ∀ x : BitVec 64, (x &&& 0xFFFFFFFFFFFFFFFE#64).toNat = x.toNat - x.toNat % 2 := by
      intro x
      have : x &&& 0xFFFFFFFFFFFFFFFE#64 = (x >>> 1) <<< 1 := by
        have hc : ∀ i : Fin 64, (0xFFFFFFFFFFFFFFFE#64).getLsbD i = decide (1 ≤ i.val) := by decide
        apply BitVec.eq_of_getLsbD_eq
        intro i hi
        rw [BitVec.getLsbD_and, hc ⟨i, hi⟩, BitVec.getLsbD_shiftLeft, BitVec.getLsbD_ushiftRight]
        by_cases h : i < 1
        · simp [h]
          try omega
        · have e : 1 + (i - 1) = i := by omega
          simp [h, hi, e]
          try omega
      rw [this, BitVec.toNat_shiftLeft, BitVec.toNat_ushiftRight, Nat.shiftLeft_eq, Nat.shiftRight_eq_div_pow]
      have := x.isLt
      omega
    have h2 := hb (BitVec.ofNat 64 m)
    rw [BitVec.toNat_and, BitVec.toNat_ofNat, Nat.mod_eq_of_lt hlt] at h2
    exact h2
  have e : bits .andNot .i64 n 1 = IntKind.i64.wrap ((BitVec.ofInt 64 n &&& ~~~ BitVec.ofInt 64 1).toNat : Nat) := rfl
  rw [e, key, IntKind.wrap_i64]
  omega

/-- The bytes of a boot block. -/
def bootB (b : BK) (n : Int) : List Int := splice (layN b.size (layN b.epoch ((layN n (layN n DK.zeros 0 8 8) 56 8 8).set 8 b.area) 9 8 8) 17 4 4) 21 b.whole

/-- What Point does. -/
def pointF (d : DK) (at_ : Int) (b : BK) : DK × Int :=
  if (startF d at_).2.2 = 1 ∨ b.may = false then (d, 1)
  else if (startF d at_).2.2 ≠ 0 ∧ (startF d at_).2.2 ≠ 81 then (d, (startF d at_).2.2)
  else if (startF d at_).2.1 = 1099511627776 then (d, 81)
  else ((d.write (at_ + 1 - ((startF d at_).2.1 + 1) % 2) (bootB b ((startF d at_).2.1 + 1))).flush, 0)

theorem layN_u8 (n : Int) {c : List Int} (hc : U8L c) (off k : Nat) : ∀ i, U8L (layN n c off k i)
  | 0 => hc
  | i + 1 => by
    intro x hx
    rw [layN] at hx
    rcases List.mem_or_eq_of_mem_set hx with h | h
    · exact layN_u8 n hc off k i x h
    · rw [h]; omega

theorem set_u8 {l : List Int} (h : U8L l) (i : Nat) {x : Int} (hx : 0 ≤ x ∧ x < 256) : U8L (l.set i x) := fun y hy => by
  rcases List.mem_or_eq_of_mem_set hy with h1 | h1
  · exact h y h1
  · rw [h1]; exact hx

theorem bootB_u8 {b : BK} (hb : U8L b.whole) (n : Int) (ha : 0 ≤ b.area ∧ b.area ≤ 1) : U8L (bootB b n) :=
  splice_u8 (layN_u8 _ (layN_u8 _ (set_u8 (layN_u8 _ (layN_u8 _ zeros_u8 _ _ _) _ _ _) 8 ⟨ha.1, by omega⟩) _ _ _) _ _ _) hb 21

theorem num_nonneg {l : List Int} (h : U8L l) : 0 ≤ num l := (num_bound l.length l rfl h).1

theorem readB_cnt {x : List Int} (hx : U8L x) : 0 ≤ (readB x).2 ∧ (readB x).2 ≤ 1099511627776 := by
  unfold readB
  split
  · exact ⟨by decide, by decide⟩
  · rename_i h
    have := num_nonneg (sl_u8 hx 0 8)
    exact ⟨this, by simp only; omega⟩

theorem bestB_cnt {d : DK} (hd : d.Byt) (at_ : Int) : ∀ m, 0 ≤ (bestB d at_ m).2 ∧ (bestB d at_ m).2 ≤ 1099511627776
  | 0 => ⟨Int.le_refl 0, by show (0 : Int) ≤ _; omega⟩
  | m + 1 => by
    unfold bestB better
    split
    · exact readB_cnt (hd.rd _)
    · exact bestB_cnt hd at_ m

theorem startF_len {d : DK} (hd : d.WF) (at_ : Int) : (startF d at_).1.whole.length = 32 := by
  unfold startF
  split
  · exact zer32_len
  · split
    · exact zer32_len
    · split
      · exact zer32_len
      · exact bestB_len hd at_ 2

theorem start_key {d : DK} (hd : d.Byt) (at_ : Int) : ((startF d at_).2.2 = 1) ∨ ((startF d at_).2.2 = 60 ∧ areaB d.last.length at_ 2 = true) ∨
    ((startF d at_).2.2 = 81 ∧ (startF d at_).2.1 = 0 ∧ areaB d.last.length at_ 2 = true ∧ d.down = false) ∨
    ((startF d at_).2.2 = 0 ∧ 0 ≤ (startF d at_).2.1 ∧ (startF d at_).2.1 ≤ 1099511627776 ∧ areaB d.last.length at_ 2 = true ∧ d.down = false) := by
  unfold startF
  split
  · exact .inl rfl
  · rename_i h1
    simp only [Bool.not_eq_false] at h1
    split
    · exact .inr (.inl ⟨rfl, h1⟩)
    · rename_i h2
      simp only [Bool.not_eq_true] at h2
      split
      · exact .inr (.inr (.inl ⟨rfl, rfl, h1, h2⟩))
      · exact .inr (.inr (.inr ⟨rfl, (bestB_cnt hd at_ 2).1, (bestB_cnt hd at_ 2).2, h1, h2⟩))

theorem may_key {b : BK} (hr : -9223372036854775808 ≤ b.area ∧ b.area ≤ 9223372036854775807) (h : b.may = true) : (b.area = 0 ∨ b.area = 1) ∧ 0 ≤ b.epoch ∧ b.epoch ≤ 1099511627776 ∧ 0 < b.size ∧ b.size ≤ 65536 := by
  unfold BK.may at h
  simp only [Bool.and_eq_true, decide_eq_true_eq] at h
  obtain ⟨⟨⟨⟨h1, h2⟩, h3⟩, h4⟩, h5⟩ := h
  exact ⟨(i64_andNot1 _ hr).1 h1, h2, h3, h4, h5⟩

theorem encK_get {b : BK} (i : Nat) (hi : i < b.whole.length) : (encK b).toArray[3 + i]? = some (.int .u8 (b.whole.getD i 0)) := by
  unfold encK
  rw [List.getElem?_toArray, List.getElem?_append_right (by simp), show 3 + i - [Value.int IntKind.i64 b.area, .int .i64 b.epoch, .int .i64 b.size].length = i from by simp]
  rw [List.getElem?_map, List.getD_eq_getElem?_getD, List.getElem?_eq_getElem hi]; rfl

theorem write_ok {d : DK} {n : Int} {x : Blok} (h : d.code n = 0) : d.write n x = d.put n x := if_pos h

theorem flush_fcode {d : DK} (h : d.down = false) : d.fcode = 0 := by unfold DK.fcode; rw [h]; rfl

set_option maxRecDepth 100000 in
set_option maxHeartbeats 4000000 in
theorem point_any {w : World} {b : Nat} {S : List Nat} {d : DK} (h : DiskAt w b S d) (hby : d.Byt) (at_ : Int) (hat : -9223372036854775808 ≤ at_ ∧ at_ ≤ 9223372036854775807) (k : BK) (hk : k.WF) (hkr : -9223372036854775808 ≤ k.area ∧ k.area ≤ 9223372036854775807) :
    Calls Try.prog 18 #[.pointer (some ⟨b, 0, none⟩), .int .i64 at_, .agg (encK k).toArray] w fun e w' => e = .returned (.int .i64 (pointF d at_ k).2) ∧ ∃ S', DiskAt w' b S' (pointF d at_ k).1 ∧ (pointF d at_ k).1.Byt ∧ Upd S w w' ∧ Sub w S S' := by
  have HWF := Lib.hid h.wf
  have HBY := Lib.hid hby
  have HD := Lib.hid h
  have HMANY := Lib.hid h.wf.many
  have HKW := Lib.hid hk.whole
  have HKB := Lib.hid hk.bytes
  have hsl := startF_len h.wf at_
  have hkey := start_key hby at_
  obtain ⟨s, hs⟩ : ∃ s, s = startF d at_ := ⟨_, rfl⟩
  obtain ⟨R, hR⟩ : ∃ y, y = pointF d at_ k := ⟨_, rfl⟩
  rw [← hR]
  unfold pointF at hR
  rw [← hs] at hR hsl hkey
  obtain ⟨sb, cn, er⟩ := s
  have HR := Lib.hid hR
  have HSF := Lib.hid hs
  have HSL : Hid (sb.whole.length = 32) := Lib.hid hsl
  obtain ⟨w1, hw1⟩ : ∃ w1, w1 = w.alloc (.cells (encK k).toArray 40) := ⟨_, rfl⟩
  have hb : Blk w1 w.heap.size (encK k).toArray 40 := by rw [hw1]; exact Blk.new _ _ _
  have hu : Upd [] w w1 := by rw [hw1]; exact (Upd.refl _ _).alloc _
  have hs1 : w1.heap.size = w.heap.size + 1 := by rw [hw1]; simp
  obtain ⟨kb, hkb⟩ : ∃ n, n = w.heap.size := ⟨_, rfl⟩
  rw [← hkb] at hb hs1
  have HB1 := Lib.hid hb
  have HU1 := Lib.hid hu
  have HS1 := Lib.hid hs1
  have HW1 := Lib.hid hw1
  have HKB1 := Lib.hid hkb
  clear hw1 hb hu hs1 hkb hk hs hR h hby hsl
  simp only at hkey
  go_enter Try.func18, Try.ntmps18
  go_upto_region 2 with (first
    | (go_at_call 17; rw [← HKB1.out, ← HW1.out]; refine (bstart_any (HD.out.upd0 HU1.out) HBY.out at_ hat).mono ?_; rw [← HSF.out]; rintro e w2 ⟨rfl, hu2⟩)
    | (refine wpList_alloc rfl 40 rfl zero_boot fun w3 hb3 hu3 hs3 => ?_
       refine wpList_storeA rfl 40 (.tmp 7) (.tmp 16) rfl rfl rfl hb3 info_boot (encK_size HSL.out) (encK_size zer32_len) (encK_one _) fun w4 hb4 hu4 hs4 => ?_
       simp only [Act.put, List.setIfInBounds_toArray, List.set_cons_zero, List.set_cons_succ]))
  have hz2 := hu2.size
  have hk1 := HB1.out.lt
  have hu14 : Upd [] w1 w4 := (hu2.trans hu3).then hu4 (fun q hq => .inr (by simp at hq; omega))
  have hb4k := HB1.out.upd hu14 (by simp)
  have hz4 : kb < w4.heap.size := hb4k.lt
  have HU4 := Lib.hid (HU1.out.trans hu14)
  have HB4 := Lib.hid hb4k
  have HD4 := Lib.hid (HD.out.upd0 (HU1.out.trans hu14))
  have hout : kb ∉ S := fun hm => by have h1 := HD.out.lt _ hm; have h2 := HKB1.out; omega
  have HZ4 := Lib.hid hz4
  have hmk := may_key hkr
  obtain ⟨my, hmy⟩ : ∃ m, m = k.may := ⟨_, rfl⟩
  rw [← hmy] at hmk
  have HMY := Lib.hid hmy
  have HMK := Lib.hid hmk
  have HKEY := Lib.hid hkey
  clear hb3 hu3 hs3 hb4 hu4 hs4 hu2 hz2 hk1 hu14 hb4k hz4 hmk hmy hkey hkr
  by_cases he1 : er = 1
  · have HRE : Hid (R = (d, 1)) := Lib.hid (by rw [HR.out, if_pos (.inl he1)])
    subst he1
    go_wp2_with fail
    go_ret
    exact ⟨by rw [HRE.out]; rfl, S, by rw [HRE.out]; exact HD4.out, by rw [HRE.out]; exact HBY.out, HU4.out.mono (by simp), Sub.refl _ _⟩
  have k1 : (er == (1 : Int)) = false := by simpa using he1
  cases my with
  | false =>
    have HRE : Hid (R = (d, 1)) := Lib.hid (by rw [HR.out, if_pos (.inr HMY.out.symm)])
    go_wp2_with (first
      | ((with_reducible show wpList _ _ _ (⟨some 23, _, _, _, _, _⟩ :: _) _ _); refine wpList_runW rfl (boot_load (.tmp 5) rfl rfl HB4.out HKW.out) ?_)
      | (go_at_call 28; refine (may_any k _).mono ?_; rw [← HMY.out]; rintro e w5 ⟨rfl, hu5⟩))
    go_ret
    exact ⟨by rw [HRE.out]; rfl, S, by rw [HRE.out]; exact HD4.out.upd0 hu5, by rw [HRE.out]; exact HBY.out, (HU4.out.trans hu5).mono (by simp), Sub.refl _ _⟩
  | true =>
    go_upto_region 4 with (first
      | ((with_reducible show wpList _ _ _ (⟨some 23, _, _, _, _, _⟩ :: _) _ _); refine wpList_runW rfl (boot_load (.tmp 5) rfl rfl HB4.out HKW.out) ?_)
      | (go_at_call 28; refine (may_any k _).mono ?_; rw [← HMY.out]; rintro e w5 ⟨rfl, hu5⟩))
    have HU5 := Lib.hid (HU4.out.trans hu5)
    have HB5 := Lib.hid (HB4.out.upd hu5 (by simp))
    have HD5 := Lib.hid (HD4.out.upd0 hu5)
    have hz5 : kb < w5.heap.size := HB5.out.lt
    have HZ5 := Lib.hid hz5
    clear hu5 hz5
    have hmf : ¬ (er = 1 ∨ k.may = false) := by rw [← HMY.out]; simp [he1]
    by_cases he60 : er = 60
    · have HRE : Hid (R = (d, 60)) := Lib.hid (by rw [HR.out, if_neg hmf, if_pos ⟨by omega, by omega⟩, he60])
      subst he60
      clear hmf
      go_wp2_with fail
      go_ret
      exact ⟨by rw [HRE.out]; rfl, S, by rw [HRE.out]; exact HD5.out, by rw [HRE.out]; exact HBY.out, HU5.out.mono (by simp), Sub.refl _ _⟩
    · have hgood : (er = 81 ∨ er = 0) ∧ 0 ≤ cn ∧ cn ≤ 1099511627776 ∧ areaB d.last.length at_ 2 = true ∧ d.down = false := by
        rcases HKEY.out with h1 | ⟨h1, -⟩ | ⟨h1, h2, h3, h4⟩ | ⟨h1, h2, h3, h4, h5⟩
        · exact absurd h1 he1
        · exact absurd h1 he60
        · exact ⟨.inl h1, by omega, by omega, h3, h4⟩
        · exact ⟨.inr h1, h2, h3, h4, h5⟩
      obtain ⟨h8, c0, c1, har, hdn⟩ := hgood
      have hR := HR.out
      rw [if_neg hmf, if_neg (by omega)] at hR
      have HR2 := Lib.hid hR
      have HDN := Lib.hid hdn
      have hat2 : 0 ≤ at_ ∧ at_ + 2 ≤ d.last.length ∧ at_ ≤ 4096 := by
        have h2 := HMANY.out
        unfold areaB at har
        simp at har
        omega
      clear hR HR hmf hdn har hat
      by_cases hcn : cn = 1099511627776
      · have HRE : Hid (R = (d, 81)) := Lib.hid (by rw [HR2.out, if_pos hcn])
        subst hcn
        rcases h8 with rfl | rfl
        all_goals
          go_wp2_with fail
          go_ret
          exact ⟨by rw [HRE.out]; rfl, S, by rw [HRE.out]; exact HD5.out, by rw [HRE.out]; exact HBY.out, HU5.out.mono (by simp), Sub.refl _ _⟩
      · have hR := HR2.out
        rw [if_neg hcn] at hR
        obtain ⟨n, hn⟩ : ∃ n, n = cn + 1 := ⟨_, rfl⟩
        rw [← hn] at hR
        obtain ⟨p, hp⟩ : ∃ p, p = n % 2 := ⟨_, rfl⟩
        rw [← hp] at hR
        obtain ⟨q, hq⟩ : ∃ q, q = at_ + 1 - p := ⟨_, rfl⟩
        rw [← hq] at hR
        have HRE := Lib.hid hR
        obtain ⟨kk0, kk1, kk2, kk3, kk4⟩ := HMK.out (by simp)
        have a0 : 0 ≤ k.area ∧ k.area ≤ 1 := by omega
        have p0 : 0 ≤ p ∧ p ≤ 1 := by omega
        have m1 : IntKind.i64.wrap (cn + 1) = n := by rw [IntWalk.i64_in _ (by omega), hn]
        have m2 : IntKind.u64.wrap n = n := IntWalk.u64_in _ (by omega)
        have m3 : bits .and .i64 n 1 = p := by rw [i64_and1, hp]
        have m4 : IntKind.i64.wrap (at_ + 1) = at_ + 1 := IntWalk.i64_in _ (by omega)
        have m5 : IntKind.i64.wrap (at_ + 1 - p) = q := by rw [IntWalk.i64_in _ (by omega), hq]
        have m6 : IntKind.u8.wrap k.area = k.area := IntWalk.u8_in _ (by omega)
        have m7 : IntKind.u64.wrap k.epoch = k.epoch := IntWalk.u64_in _ (by omega)
        have m8 : IntKind.u64.wrap k.size = k.size := IntWalk.u64_in _ (by omega)
        have hcode : d.code q = 0 := by
          unfold DK.code
          rw [HDN.out, if_neg (by simp), if_neg (by omega)]
        have HCODE := Lib.hid hcode
        have HN := Lib.hid hn
        have HP := Lib.hid hp
        have HQ := Lib.hid hq
        clear hR HR2 kk0 kk1 kk2 kk3 kk4 hcode hn hp hq
        rcases h8 with rfl | rfl
        all_goals
          go_upto_region 10 with (refine wpList_alloc rfl 32 rfl zero_arr fun w6 hb6 hu6 hs6 => ?_)
          simp only [Act.put, List.setIfInBounds_toArray, List.set_cons_zero, List.set_cons_succ]
          obtain ⟨xb, hxb⟩ : ∃ x, x = w5.heap.size := ⟨_, rfl⟩
          rw [← hxb] at hb6 hs6 ⊢
          have hkx : kb < xb := by rw [hxb]; exact HZ5.out
          have hxw : w.heap.size ≤ xb := by rw [hxb]; exact HU5.out.size
          have hU6 := HU5.out.trans hu6
          have HB6 := Lib.hid hb6
          have HU6 := Lib.hid hU6
          have HS6 := Lib.hid hs6
          have HXB := Lib.hid hxb
          have HK6 := Lib.hid (HB5.out.upd hu6 (by simp))
          have HZL := Lib.hid DK.zeros_len
          clear hb6 hu6 hs6 hxb hU6
          go_upto_region 11 with (go_at_call 29; refine (lay_any (off := 0) (k := 8) n HB6.out (by rw [HZL.out]; omega) (by omega)).mono ?_; rintro e w7 ⟨rfl, hb7, hu7⟩)
          have HL7 : Hid ((layN n DK.zeros 0 8 8).length = 64) := Lib.hid (by rw [layN_len]; exact HZL.out)
          go_upto_region 12 with (go_at_call 29; refine (lay_any (off := 56) (k := 8) n hb7 (by rw [HL7.out]; omega) (by omega)).mono ?_; rintro e w8 ⟨rfl, hb8, hu8⟩)
          have HL8 : Hid ((layN n (layN n DK.zeros 0 8 8) 56 8 8).length = 64) := Lib.hid (by rw [layN_len]; exact HL7.out)
          have hU8 : Upd [] w w8 := (HU6.out.then hu7 (fun q hq => .inr (by simp at hq; omega))).then hu8 (fun q hq => .inr (by simp at hq; omega))
          obtain ⟨x2, hx2⟩ : ∃ x, x = layN n (layN n DK.zeros 0 8 8) 56 8 8 := ⟨_, rfl⟩
          rw [← hx2] at hb8
          have HX2 := Lib.hid hx2
          have HXL2 : Hid (x2.length = 64) := Lib.hid (by rw [hx2]; exact HL8.out)
          have HB8 := Lib.hid hb8
          have HU8 := Lib.hid hU8
          have HK8 := Lib.hid ((HK6.out.upd hu7 (by simp; omega)).upd hu8 (by simp; omega))
          clear hb7 hu7 hb8 hu8 hU8 hx2
          have c8 : w8.cell? ⟨kb, 0, none⟩ = some (.int .i64 k.area) := HK8.out.cell (o := 0) rfl
          have d8 : w8.cell? ⟨xb, 8, none⟩ = some (.int .u8 (x2.getD 8 0)) := HB8.out.cell (o := 8) (U8_get _ _ (by rw [HXL2.out]; omega))
          have f8 := HB8.out.free 8
          go_upto_region 13 with fail
          have hu9 : Upd [] w (w8.setCell ⟨xb, 8, none⟩ (.int .u8 k.area)) := HU8.out.setCell (.inr hxw) _
          have hb9 := HB8.out.set 8 (.int .u8 k.area)
          have e9 : (U8 x2).setIfInBounds 8 (.int .u8 k.area) = U8 (x2.set 8 k.area) := by
            unfold U8; rw [List.setIfInBounds_toArray, ← List.map_set]
          rw [e9] at hb9
          have hk9 := HK8.out.set_other (p := ⟨xb, 8, none⟩) (by simp; omega) (.int .u8 k.area)
          obtain ⟨w9, hw9⟩ : ∃ x, x = w8.setCell ⟨xb, 8, none⟩ (.int .u8 k.area) := ⟨_, rfl⟩
          rw [← hw9] at hu9 hb9 hk9 ⊢
          obtain ⟨x3, hx3⟩ : ∃ x, x = x2.set 8 k.area := ⟨_, rfl⟩
          rw [← hx3] at hb9
          have HX3 := Lib.hid hx3
          have HXL3 : Hid (x3.length = 64) := Lib.hid (by rw [hx3, List.length_set]; exact HXL2.out)
          have HB9 := Lib.hid hb9
          have HU9 := Lib.hid hu9
          have HK9 := Lib.hid hk9
          clear hu9 hb9 hk9 hw9 e9 hx3 c8 d8 f8
          have c9 : w9.cell? ⟨kb, 1, none⟩ = some (.int .i64 k.epoch) := HK9.out.cell (o := 1) rfl
          refine wp_region_still_tail 4 mixed (by kernel_rfl) ?_
          simp only [List.take_succ_cons, List.take_zero, List.drop_succ_cons, List.drop_zero]
          iterate 4 still_step
          refine wpStill_nil ?_
          change wpList _ _ _ _ _ w9.drew
          go_upto_region 14 with (go_at_call 29; refine (lay_any (off := 9) (k := 8) k.epoch HB9.out.drew (by rw [HXL3.out]; omega) (by omega)).mono ?_; rintro e w10 ⟨rfl, hb10, hu10⟩)
          have hu910 : Upd [] w w10 := (HU9.out.drew).then hu10 (fun q hq => .inr (by simp at hq; omega))
          obtain ⟨x4, hx4⟩ : ∃ x, x = layN k.epoch x3 9 8 8 := ⟨_, rfl⟩
          rw [← hx4] at hb10
          have HX4 := Lib.hid hx4
          have HXL4 : Hid (x4.length = 64) := Lib.hid (by rw [hx4, layN_len]; exact HXL3.out)
          have HB10 := Lib.hid hb10
          have HU10 := Lib.hid hu910
          have HK10 := Lib.hid (HK9.out.drew.upd hu10 (by simp; omega))
          clear hb10 hu10 hu910 hx4 c9
          have c10 : w10.cell? ⟨kb, 2, none⟩ = some (.int .i64 k.size) := HK10.out.cell (o := 2) rfl
          refine wp_region_still_tail 4 mixed (by kernel_rfl) ?_
          simp only [List.take_succ_cons, List.take_zero, List.drop_succ_cons, List.drop_zero]
          iterate 4 still_step
          refine wpStill_nil ?_
          change wpList _ _ _ _ _ w10.drew
          go_upto_region 15 with (go_at_call 29; refine (lay_any (off := 17) (k := 4) k.size HB10.out.drew (by rw [HXL4.out]; omega) (by omega)).mono ?_; rintro e w11 ⟨rfl, hb11, hu11⟩)
          have hu011 : Upd [] w w11 := (HU10.out.drew).then hu11 (fun q hq => .inr (by simp at hq; omega))
          obtain ⟨x5, hx5⟩ : ∃ x, x = layN k.size x4 17 4 4 := ⟨_, rfl⟩
          rw [← hx5] at hb11
          have HX5 := Lib.hid hx5
          have HXL5 : Hid (x5.length = 64) := Lib.hid (by rw [hx5, layN_len]; exact HXL4.out)
          have HB11 := Lib.hid hb11
          have HU11 := Lib.hid hu011
          have HK11 := Lib.hid (HK10.out.drew.upd hu11 (by simp; omega))
          clear hb11 hu11 hu011 hx5 c10
          refine wp_region_still_tail 3 mixed (by kernel_rfl) ?_
          simp only [List.take_succ_cons, List.take_zero, List.drop_succ_cons, List.drop_zero]
          iterate 3 still_step
          refine wpStill_nil ?_
          change wpList _ _ _ _ _ w11.drew
          have HYC : Hid (∀ i, i < 32 → w11.drew.cell? ⟨kb, 3 + i, none⟩ = some (.int .u8 (k.whole.getD i 0))) := Lib.hid (fun i hi => HK11.out.drew.cell (encK_get i (by rw [HKW.out]; exact hi)))
          have hU12 := HU11.out.drew
          have HU12 := Lib.hid hU12
          have HB12 := Lib.hid HB11.out.drew
          obtain ⟨w12, hw12⟩ : ∃ x, x = w11.drew := ⟨_, rfl⟩
          rw [← hw12] at HU12 HB12 HYC ⊢
          clear hU12 hw12 HU11 HB11 HK11
          go_upto_region 16 with (refine wpList_copyB rfl (.tmp 62) (.tmp 64) rfl (mn := 32) (l := k.whole) (off := 21) (n := 32) rfl rfl HB12.out (by rw [HXL5.out]; omega) HYC.out HKW.out rfl fun w13 hb13 hu13 hs13 => ?_)
          have htk : k.whole.take 32 = k.whole := List.take_of_length_le (by rw [HKW.out]; omega)
          rw [htk] at hb13
          have hbb : splice x5 21 k.whole = bootB k n := by rw [HX5.out, HX4.out, HX3.out, HX2.out]; rfl
          rw [hbb] at hb13
          have hbl : (bootB k n).length = 64 := by rw [← hbb, splice_len (by rw [HXL5.out, HKW.out]; omega)]; exact HXL5.out
          obtain ⟨z, hz⟩ : ∃ z, z = bootB k n := ⟨_, rfl⟩
          rw [← hz] at hb13 hbl
          have HZ := Lib.hid hz
          have HZL := Lib.hid hbl
          have HB13 := Lib.hid hb13
          have hu13' : Upd [] w w13 := HU12.out.then hu13 (fun q hq => .inr (by simp at hq; omega))
          have HU13 := Lib.hid hu13'
          clear hz hbl hb13 hu13 hs13 hu13' hbb htk
          go_upto_region 17 with (first
            | (refine wpList_run rfl (arr_load (.tmp 10) rfl rfl HB13.out HZL.out) ?_)
            | (go_at_call 13; refine (write_any b S d q z w13 (HD.out.upd0 HU13.out) HZL.out).mono ?_; rw [HCODE.out]; rintro e w14 ⟨rfl, S9, hd9, hu9, hs9⟩))
          have HD9 := Lib.hid hd9
          have HU9' := Lib.hid hu9
          have HS9 := Lib.hid hs9
          have HFC : Hid ((d.write q z).fcode = 0) := Lib.hid (flush_fcode (by rw [write_down]; exact HDN.out))
          clear hd9 hu9 hs9
          go_wp2_with (go_at_call 22; refine (flush_any b S9 (d.write q z) w14 HD9.out).mono ?_; rw [HFC.out]; rintro e w15 ⟨rfl, S10, hd10, hu10, hs10⟩)
          go_ret
          have hw : Upd S w w14 := (HU13.out.mono (by simp)).trans HU9'.out
          refine ⟨by rw [HRE.out]; rfl, S10, by rw [HRE.out, ← HZ.out]; exact hd10, by rw [HRE.out, ← HZ.out]; exact (HBY.out.write q (by rw [HZ.out]; exact bootB_u8 HKB.out n a0)).flush, hw.then hu10 (fun x hx => ?_), fun x hx => ?_⟩
          · rcases HS9.out x hx with h1 | h1
            · exact .inl h1
            · exact .inr (Nat.le_trans HU13.out.size h1)
          · rcases HS9.out x (hs10 x hx) with h1 | h1
            · exact .inl h1
            · exact .inr (Nat.le_trans HU13.out.size h1)
end Go.Proofs.Ytpeboaoephkfhaa
