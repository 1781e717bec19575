/- The walk of DiskDown. -/
import Derived.Test.YtmdioojaaneacaaDiskL
import Derived.Deep.DeepCutAuto
import Derived.Deep.CutBlock
namespace Go.Proofs.Ytmdioojaaneacaa
open Go.ChangeShapes Go.WideShapes Go.ChangeAt Go.RowKit

def there (n : Int) : Bool := decide (0 ≤ n ∧ n < 20)

/-- The disk behind the calls of DiskDown. -/
def downD (n : Int) (a : Blok) (fs : List Int) : DK := ((DK.new (20 : Int).toNat).write n a).crash fs

/-- How many bytes of the block last. -/
def downK (n : Int) (fs : List Int) : Nat := if there n = true then DK.kOf (DK.fate fs 0) else 0

theorem new20_down : (DK.new (20 : Int).toNat).down = false := rfl

theorem write_down (d : DK) (n : Int) (x : Blok) : (d.write n x).down = d.down := by unfold DK.write; split <;> rfl

theorem downD_down (n : Int) (a : Blok) (fs : List Int) : (downD n a fs).down = true := by
  unfold downD DK.crash
  rw [write_down, new20_down]; rfl

theorem downD_code (n k : Int) (a : Blok) (fs : List Int) : (downD n a fs).code k = 60 := by
  unfold DK.code; rw [downD_down]; rfl

theorem downD_fresh (n : Int) (a : Blok) (fs : List Int) : (downD n a fs).fresh = [] := by
  unfold downD DK.crash
  rw [write_down, new20_down]; rfl

theorem downD_again (n : Int) (a : Blok) (fs gs : List Int) : (downD n a fs).crash gs = downD n a fs := by
  conv => lhs; unfold DK.crash
  rw [downD_down]; rfl

theorem downD_write (n k : Int) (a x : Blok) (fs : List Int) : (downD n a fs).write k x = downD n a fs := by
  unfold DK.write; rw [downD_code]; rfl

theorem downD_flush (n : Int) (a : Blok) (fs : List Int) : (downD n a fs).flush = downD n a fs := by
  unfold DK.flush; rw [downD_down]; rfl

theorem downD_last (n : Int) (a : Blok) (fs : List Int) : (downD n a fs).last = if there n = true then (List.replicate 20 DK.zeros).set n.toNat (DK.lay (DK.kOf (DK.fate fs 0)) a DK.zeros) else List.replicate 20 DK.zeros := by
  unfold downD DK.crash
  rw [write_down, new20_down]
  simp only [Bool.false_eq_true, if_false]
  unfold DK.settle there
  simp only
  unfold DK.write
  rw [code_new20]
  by_cases h : 0 ≤ n ∧ n < 20
  · rw [if_pos h, if_pos rfl, if_pos (by simpa using h)]
    unfold DK.put DK.new
    simp only [mset, DK.settleL]
    rw [List.getD_eq_getElem?_getD, List.getElem?_replicate, if_pos (by omega)]; rfl
  · rw [if_neg h, if_neg (by omega), if_neg (by simpa using h)]; rfl

theorem downD_rd (n : Int) (a : Blok) (fs : List Int) : (downD n a fs).start.rd n = DK.lay (downK n fs) a DK.zeros ∧ (downD n a fs).start.code n = if there n = true then 0 else 61 := by
  have hl : (downD n a fs).last.length = 20 := by rw [downD_last]; split <;> simp
  have hc : (downD n a fs).start.code n = if there n = true then 0 else 61 := by
    unfold DK.code DK.start there
    simp only [hl, decide_eq_true_eq, Bool.false_eq_true, if_false]
    split <;> split <;> omega
  refine ⟨?_, hc⟩
  unfold DK.rd
  rw [hc]
  unfold downK
  by_cases h : there n = true
  · rw [if_pos h, if_pos rfl, if_pos h]
    have h2 : 0 ≤ n ∧ n < 20 := by simpa [there] using h
    unfold DK.get DK.start
    simp only [downD_fresh, mget, List.find?_nil, Option.map_none, Option.getD_none]
    rw [downD_last, if_pos h, List.getD_eq_getElem?_getD, List.getElem?_set]
    rw [if_pos rfl, if_pos (by simp; omega)]; rfl
  · rw [if_neg h, if_neg (by omega), if_neg h]; rfl

/-- Why the first loop ends where it ends. -/
theorem downK_end (n : Int) (fs : List Int) : (downK n fs = 64) ∨ (downK n fs < 64 ∧ fs = []) ∨ (downK n fs < 64 ∧ fs ≠ [] ∧ fs.getD 0 0 ≤ downK n fs) ∨ (downK n fs < 64 ∧ fs ≠ [] ∧ (downK n fs : Int) < fs.getD 0 0 ∧ there n = false) := by
  have h64 : DK.kOf (DK.fate fs 0) ≤ 64 := DK.kOf_le _
  unfold downK
  by_cases hf : fs = []
  · subst hf
    right; left
    refine ⟨?_, rfl⟩
    unfold DK.fate DK.kOf
    split <;> decide
  · have hpos : 0 < fs.length := List.length_pos_iff.2 hf
    have e : DK.fate fs 0 = fs.getD 0 0 := by unfold DK.fate; rw [if_pos hpos]
    rw [e] at h64 ⊢
    unfold DK.kOf at h64 ⊢
    by_cases ht : there n = true
    · rw [if_pos ht]
      by_cases h2 : 64 ≤ fs.getD 0 0
      · left; omega
      · right; right; left; exact ⟨by omega, hf, by omega⟩
    · rw [if_neg ht]
      have ht' : there n = false := by simpa using ht
      by_cases h2 : fs.getD 0 0 ≤ 0
      · right; right; left; exact ⟨by omega, hf, by omega⟩
      · right; right; right; exact ⟨by omega, hf, by omega, ht'⟩

theorem downK_in {n : Int} {fs : List Int} {k : Nat} (h : k < downK n fs) : k < 64 ∧ fs ≠ [] ∧ (k : Int) < fs.getD 0 0 ∧ there n = true := by
  unfold downK at h
  split at h
  · rename_i ht
    have h64 : DK.kOf (DK.fate fs 0) ≤ 64 := DK.kOf_le _
    by_cases hf : fs = []
    · subst hf
      have e0 : DK.kOf (DK.fate [] 0) = 0 := by decide
      omega
    · have hpos : 0 < fs.length := List.length_pos_iff.2 hf
      have e : DK.fate fs 0 = fs.getD 0 0 := by unfold DK.fate; rw [if_pos hpos]
      rw [e] at h h64
      refine ⟨by omega, hf, ?_, ht⟩
      unfold DK.kOf at h
      omega
  · omega

theorem lay_get {K : Nat} {a : Blok} (hK : K ≤ 64) (ha : a.length = 64) (i : Nat) (hi : i < 64) : (DK.lay K a DK.zeros).getD i 0 = if i < K then a.getD i 0 else 0 := by
  unfold DK.lay
  rw [List.getD_eq_getElem?_getD]
  split
  · rename_i h
    rw [List.getElem?_append_left (by simp; omega), List.getElem?_take, if_pos h, List.getD_eq_getElem?_getD]
  · rename_i h
    rw [List.getElem?_append_right (by simp; omega), List.getElem?_drop]
    unfold DK.zeros
    rw [List.getElem?_replicate, if_pos (by simp; omega)]; rfl

set_option maxRecDepth 100000 in
set_option maxHeartbeats 20000000 in
theorem DiskDown.walk (n : Int) (a : Blok) (v2 : Value) (fs : List Int) (v3 : Value) (gs : List Int) (w : World) (_ : (Lit.int .i64 n).wf = true) (ha : a.length = 64) (_ : ∀ z ∈ a, 0 ≤ z ∧ z ≤ 255) (hf : IntsAt w v2 fs) (hg : IntsAt w v3 gs) :
    Calls Try.prog 9 #[.int .i64 n, .agg (U8 a), v2, v3] w fun e w' => e = .returned (.bool true) ∧ Below w.heap.size w w' := by
  obtain ⟨wb, hwb⟩ : ∃ wb, wb = w.alloc (.cells (U8 a) 23) := ⟨_, rfl⟩
  have hA : Blk wb w.heap.size (U8 a) 23 := by rw [hwb]; exact Blk.new _ _ _
  have hU : Upd [] w wb := by rw [hwb]; exact (Upd.refl _ _).alloc _
  have HW := Lib.hid hwb
  have HA := Lib.hid hA
  have HU := Lib.hid hU
  have HF := Lib.hid hf
  have HG := Lib.hid hg
  clear hwb hA hU
  obtain ⟨fa, fc, rfl, hfm, hfb⟩ := hf
  obtain ⟨ga, gc, rfl, hgm, hgb⟩ := hg
  clear hgb
  go_enter Try.func9, Try.ntmps9
  go_wp2_with fail
  rw [← HW.out]
  refine (awake_any _).mono ?_
  rintro e w1 ⟨rfl, hu1⟩
  go_wp2_with fail
  refine (new_law 20 w (by omega) (by omega) (HU.out.trans hu1)).mono ?_
  rintro e w2 ⟨p, S, rfl, hd, hu2, hS⟩
  have hu12 := (HU.out.trans hu1).trans hu2
  have vA : Var w2 S w.heap.size (U8 a) 23 := ⟨(HA.out.upd hu1 (by simp)).upd hu2 (by simp), fun h => by have := hS _ h; have := (HA.out.upd hu1 (by simp)).lt; omega⟩
  have HD := Lib.hid hd
  have VA := Lib.hid vA
  clear hd vA hu1 hu2 hS hu12
  go_wp2_with ((with_reducible show wpList _ _ _ (⟨_, .load 23 (.tmp 5), _, _, _, _⟩ :: _) _ _); refine wpList_loadW (.tmp 5) rfl rfl rfl VA.out.1 ha ?_)
  refine (write_law HD.out n a ha).mono ?_
  rintro e w3 ⟨rfl, S, hd, hk⟩
  have HD := Lib.hid hd
  have VA := Lib.hid (VA.out.keep hk)
  clear hd hk
  go_wp2_with fail
  refine (crash_law HD.out _ fs (HF.out.upd0 HD.out.upd) (HF.out.out HD.out.base)).mono ?_
  rintro e w4 ⟨rfl, S, hd, hk⟩
  have HD : Hid (DInv w w4 p S (downD n a fs)) := hd
  have VA := Lib.hid (VA.out.keep hk)
  clear hd hk
  go_wp2_with fail
  refine (read_law HD.out n).mono ?_
  rw [show (downD n a fs).rd n = DK.zeros from by unfold DK.rd; rw [downD_code]; rfl, downD_code]
  rintro e w5 ⟨rfl, hd, hk⟩
  have HD := Lib.hid hd
  have VA := Lib.hid (VA.out.keep hk)
  clear hd hk
  have ez : (DK.zeros == DK.zeros) = true := by decide
  go_wp2_with (first
    | ((with_reducible show wpList _ _ _ (⟨_, .alloc 23, _, _, _, _⟩ :: _) _ _); refine wpList_alloc rfl 23 rfl zero_arr fun w6 hb6 hu6 hs6 => ?_)
    | ((with_reducible show wpList _ _ _ (⟨_, .store 23 (.tmp 12) (.tmp 39), _, _, _, _⟩ :: _) _ _); refine wpList_store rfl (.tmp 12) (.tmp 39) rfl rfl rfl hb6 DK.zeros_len DK.zeros_len fun w7 hb7 hu7 hs7 => ?_
       have hu := hu6.then hu7 (by simp)
       have HD7 := Lib.hid (HD.out.quiet hu)
       have VA7 := Lib.hid (VA.out.keep (Keep.quiet hu))
       have VX7 := Lib.hid (HD.out.var hb7)
       clear hb6 hu6 hs6 hb7 hu7 hs7 hu HD VA)
    | ((with_reducible show wpList _ _ _ (⟨_, .load 23 (.tmp 5), _, _, _, _⟩ :: _) _ _); refine wpList_loadW (.tmp 5) rfl rfl rfl VA7.out.1 ha ?_))
  refine (write_law HD7.out n a ha).mono ?_
  rw [downD_code, downD_write]
  rintro e w8 ⟨rfl, S, hd, hk⟩
  have HD := Lib.hid hd
  have VA := Lib.hid (VA7.out.keep hk)
  have VX := Lib.hid (VX7.out.keep hk)
  clear hd hk HD7 VA7 VX7
  go_wp2_with (first
    | ((with_reducible show wpList _ _ _ (⟨_, .load 23 (.tmp 12), _, _, _, _⟩ :: _) _ _); refine wpList_loadW (.tmp 12) rfl rfl rfl VX.out.1 DK.zeros_len ?_)
    | ((with_reducible show wpList _ _ _ (⟨_, .build 23 #[], _, _, _, _⟩ :: _) _ _); refine wpList_zeroW rfl rfl ?_)
    | ((with_reducible show wpList _ _ _ (⟨_, .binOp .eql 23 (.tmp 51) (.tmp 52) _, _, _, _, _⟩ :: _) _ _); refine wpList_eqW (.tmp 51) (.tmp 52) rfl rfl rfl rfl DK.zeros_len DK.zeros_len ez ?_))
  refine (flush_law HD.out).mono ?_
  rw [downD_flush, show (downD n a fs).fcode = 60 from by unfold DK.fcode; rw [downD_down]; rfl]
  rintro e w9 ⟨rfl, S, hd, hk⟩
  have HD := Lib.hid hd
  have VA := Lib.hid (VA.out.keep hk)
  clear hd hk VX
  go_wp2_with fail
  refine (down_any p S _ _ HD.out.disk).mono ?_
  rw [downD_down]
  rintro e w10 ⟨rfl, rfl⟩
  go_wp2_with fail
  refine (dirty_law HD.out).mono ?_
  rw [downD_fresh]
  rintro e w11 ⟨da, dc, rfl, -, hd, hk⟩
  have HD := Lib.hid hd
  have VA := Lib.hid (VA.out.keep hk)
  clear hd hk
  go_wp2_with fail
  refine (crash_law HD.out _ gs (HG.out.upd0 HD.out.upd) (HG.out.out HD.out.base)).mono ?_
  rw [downD_again]
  rintro e w12 ⟨rfl, S, hd, hk⟩
  have HD := Lib.hid hd
  have VA := Lib.hid (VA.out.keep hk)
  clear hd hk
  go_wp2_with fail
  refine (start_law HD.out).mono ?_
  rintro e w13 ⟨rfl, hd, hk⟩
  have HD := Lib.hid hd
  have VA := Lib.hid (VA.out.keep hk)
  clear hd hk
  go_wp2_with fail
  refine (read_law HD.out n).mono ?_
  obtain ⟨hr1, hr2⟩ := downD_rd n a fs
  rw [hr1, hr2]
  rintro e w14 ⟨rfl, hd, hk⟩
  have HD := Lib.hid hd
  have VA := Lib.hid (VA.out.keep hk)
  clear hd hk hr1 hr2
  have hKlen : downK n fs ≤ 64 := by unfold downK; split; exact DK.kOf_le _; omega
  have hY : (DK.lay (downK n fs) a DK.zeros).length = 64 := DK.lay_len hKlen ha DK.zeros_len
  obtain ⟨cy, hcy⟩ : ∃ cy : Int, cy = if there n = true then 0 else 61 := ⟨_, rfl⟩
  rw [← hcy]
  have HCY := Lib.hid hcy
  clear hcy
  go_upto_region 14 with (first
    | (refine wpList_alloc rfl 23 rfl zero_arr fun w15 hb15 hu15 hs15 => ?_)
    | (refine wpList_store rfl (.tmp 15) (.tmp 79) rfl rfl rfl hb15 DK.zeros_len hY fun w16 hb16 hu16 hs16 => ?_
       have hu := hu15.then hu16 (by simp)
       have HD16 := Lib.hid (HD.out.quiet hu)
       have VA16 := Lib.hid (VA.out.keep (Keep.quiet hu))
       have VY16 := Lib.hid (HD.out.var hb16)
       clear hb15 hu15 hs15 hb16 hu16 hs16 hu HD VA))
  have hlA : w.heap.size < w16.heap.size := VA16.out.1.lt
  have hlY : w14.heap.size < w16.heap.size := VY16.out.1.lt
  go_cut [17] (fun s wx => s = .bool (there n) ∧ w16 = wx)
  case first =>
    have key : (decide (0 ≤ n) = false ∧ there n = false) ∨ (decide (0 ≤ n) = true ∧ decide (n < 20) = false ∧ there n = false) ∨ (decide (0 ≤ n) = true ∧ decide (n < 20) = true ∧ there n = true) := by
      unfold there; simp only [decide_eq_true_eq, decide_eq_false_iff_not]; omega
    rcases key with ⟨q1, q2⟩ | ⟨q1, q2, q3⟩ | ⟨q1, q2, q3⟩
    · go_wp2
      go_meet
      exact ⟨by rw [q2], rfl⟩
    · go_wp2
      go_meet
      exact ⟨by rw [q3], rfl⟩
    · go_wp2
      go_meet
      exact ⟨by rw [q3], rfl⟩
  case rest =>
    obtain ⟨rfl, rfl⟩ := hcut
    go_upto_block 0 with fail
    go_cut [18] (fun s wx => s = .int .i64 (downK n fs) ∧ Upd [] w16 wx)
    case first =>
      go_wp2_with fail
      go_loopw [18] (fun i wx => ∃ k : Nat, k ≤ downK n fs ∧ i = .int .i64 k ∧ Upd [] w16 wx) (fun i _ => downK n fs - (intOf i).toNat)
      case atStart => exact ⟨0, Nat.zero_le _, rfl, Upd.refl _ _⟩
      case round =>
        obtain ⟨k, hk, rfl, hu⟩ := hrel
        have HU17 := Lib.hid hu
        by_cases hkK : k < downK n fs
        · obtain ⟨r1, r2, r3, r4⟩ := downK_in hkK
          obtain ⟨g, off, rfl, hgl, hcf⟩ := hfb r2
          have hpos : 0 < fs.length := List.length_pos_iff.2 r2
          obtain ⟨x, hx⟩ : ∃ x, x = fs.getD 0 0 := ⟨_, rfl⟩
          have cf := (World.cell?_of_block (w := w) (w' := wr) (a := ⟨g, off + 0, none⟩) ((HD16.out.upd.then hu (by simp)).block g hgl (by simp))).trans (hcf 0 hpos)
          rw [Nat.add_zero, ← hx] at cf
          rw [← hx] at r3
          obtain ⟨y, hy⟩ : ∃ y, y = a.getD k 0 := ⟨_, rfl⟩
          have ca := (VA16.out.1.upd hu (by simp)).cell (U8_get a k (by omega))
          have cY := (VY16.out.1.upd hu (by simp)).cell (U8_get _ k (by omega))
          rw [lay_get hKlen ha k r1, if_pos hkK, ← hy] at cY
          rw [← hy] at ca
          have hne : (y != y) = false := by simp
          have r1' : (k : Int) < 64 := by omega
          have hpos' : (0 : Int) < (fs.length : Int) := by omega
          clear hx hy hu hcf r2 r1
          go_wp2
          go_quiet (fail)
          go_wp2
          go_roundw
          case rel => exact ⟨k + 1, by omega, by go_num, HU17.out.drewN _⟩
          case measure => simp [intOf]; omega
        · obtain rfl : k = downK n fs := by omega
          clear hu
          rcases downK_end n fs with r | ⟨r, r2⟩ | ⟨r, r2, r3⟩ | ⟨r, r2, r3, r4⟩
          · rw [r]
            go_wp2
            go_meet
            exact ⟨by rw [r], HU17.out⟩
          · have r' : (downK n fs : Int) < 64 := by omega
            subst r2
            clear r
            go_wp2
            go_meet
            exact ⟨rfl, HU17.out⟩
          · obtain ⟨g, off, rfl, hgl, hcf⟩ := hfb r2
            have hpos : 0 < fs.length := List.length_pos_iff.2 r2
            obtain ⟨x, hx⟩ : ∃ x, x = fs.getD 0 0 := ⟨_, rfl⟩
            have cf := (World.cell?_of_block (w := w) (w' := wr) (a := ⟨g, off + 0, none⟩) ((HD16.out.upd.then HU17.out (by simp)).block g hgl (by simp))).trans (hcf 0 hpos)
            rw [Nat.add_zero, ← hx] at cf
            rw [← hx] at r3
            have r' : (downK n fs : Int) < 64 := by omega
            have hpos' : (0 : Int) < (fs.length : Int) := by omega
            obtain ⟨K, hK⟩ : ∃ K, K = downK n fs := ⟨_, rfl⟩
            rw [← hK] at r' r3 ⊢
            have HK := Lib.hid hK
            clear hx hcf r2 r hK
            go_wp2
            go_meet
            exact ⟨by rw [HK.out], HU17.out⟩
          · obtain ⟨g, off, rfl, hgl, hcf⟩ := hfb r2
            have hpos : 0 < fs.length := List.length_pos_iff.2 r2
            obtain ⟨x, hx⟩ : ∃ x, x = fs.getD 0 0 := ⟨_, rfl⟩
            have cf := (World.cell?_of_block (w := w) (w' := wr) (a := ⟨g, off + 0, none⟩) ((HD16.out.upd.then HU17.out (by simp)).block g hgl (by simp))).trans (hcf 0 hpos)
            rw [Nat.add_zero, ← hx] at cf
            rw [← hx] at r3
            have r' : (downK n fs : Int) < 64 := by omega
            have hpos' : (0 : Int) < (fs.length : Int) := by omega
            obtain ⟨K, hK⟩ : ∃ K, K = downK n fs := ⟨_, rfl⟩
            rw [← hK] at r' r3 ⊢
            have HK := Lib.hid hK
            clear hx hcf r2 r hK
            go_wp2
            go_meet
            exact ⟨by rw [HK.out], HU17.out⟩
    case rest =>
      obtain ⟨rfl, hu17⟩ := hcut
      have HU17 := Lib.hid hu17
      clear hu17
      go_wp2_with fail
      go_loopw [18] (fun i wx => ∃ k : Nat, downK n fs ≤ k ∧ k ≤ 64 ∧ i = .int .i64 k ∧ Upd [] w16 wx) (fun i _ => 64 - (intOf i).toNat)
      case atStart => exact ⟨_, Nat.le_refl _, hKlen, rfl, HU17.out⟩
      case round =>
        obtain ⟨k, hkK, hk, rfl, hu⟩ := hrel
        by_cases hk64 : k < 64
        · have cY := (VY16.out.1.upd hu (by simp)).cell (U8_get _ k (by omega))
          rw [lay_get hKlen ha k hk64, if_neg (by omega)] at cY
          have HU18 := Lib.hid hu
          have hk' : (k : Int) < 64 := by omega
          clear hu
          go_wp2
          go_roundw
          case rel => exact ⟨k + 1, by omega, by omega, by go_num, HU18.out⟩
          case measure => simp [intOf]; omega
        · obtain rfl : k = 64 := by omega
          have HU18 := Lib.hid hu
          have hDn := HD16.out.disk.upd0 hu
          have HDn := Lib.hid hDn
          have key : (there n = true ∧ cy = 0) ∨ (there n = false ∧ cy = 61) := by
            rw [HCY.out]; by_cases h : there n = true
            · left; rw [h]; exact ⟨rfl, rfl⟩
            · right; rw [if_neg h]; exact ⟨by simpa using h, rfl⟩
          clear hu hDn
          rw [show (((64 : Nat)) : Int) = 64 from rfl]
          rcases key with ⟨t1, t2⟩ | ⟨t1, t2⟩
          · subst t2
            rw [t1]
            go_wp2_with (go_at_call 22; refine (down_any p S _ _ HDn.out).mono ?_; rw [show (downD n a fs).start.down = false from rfl]; rintro e w19 ⟨rfl, rfl⟩)
            go_ret
            exact ⟨rfl, (HD16.out.upd.then HU18.out (by simp)).toBelow⟩
          · subst t2
            rw [t1]
            go_wp2_with (go_at_call 22; refine (down_any p S _ _ HDn.out).mono ?_; rw [show (downD n a fs).start.down = false from rfl]; rintro e w19 ⟨rfl, rfl⟩)
            go_ret
            exact ⟨rfl, (HD16.out.upd.then HU18.out (by simp)).toBelow⟩

end Go.Proofs.Ytmdioojaaneacaa
