/- The walk of DiskPlays. -/
import Derived.Test.YtmdioojaaneacaaDid
namespace Go.Proofs.Ytmdioojaaneacaa
open Go.ChangeShapes Go.WideShapes Go.ChangeAt Go.RowKit

theorem info_call : (Try.prog.info? 36).map (·.size) = some 67 := by kernel_rfl

/-- The cells of the document's disk that a call reads. -/
theorem RefAt.own {w : World} {b : Nat} {R : List Nat} {d : DK} (h : RefAt w b R d) : ∃ (lv ov : Value) (ng nc : Nat), Blk w b #[lv, .slice (some ⟨ng, 0, none⟩) d.last.length nc, ov, .bool d.down] 50 ∧ b ∈ R ∧ ng ∈ R := by
  obtain ⟨lg, lc, ng, nc, ov, rfl, hn, hw, h1, h2, h3, h4⟩ := h
  exact ⟨_, ov, ng, nc, by rw [DK.now_len] at h1; exact h1, by simp, by simp⟩

theorem RefAt.dirtyAt {w : World} {b : Nat} {R : List Nat} {d : DK} {lv nv ov dn : Value} {T : TypeId} (h : RefAt w b R d) (hb : Blk w b #[lv, nv, ov, dn] T) : IntsAt w ov d.dirty := by
  obtain ⟨lg, lc, ng, nc, ov', rfl, hn, hw, h1, h2, h3, h4⟩ := h
  unfold Blk at h1 hb
  rw [hb] at h1
  simp only [Option.some.injEq, Obj.cells.injEq, Array.mk.injEq, List.cons.injEq] at h1
  obtain ⟨⟨-, -, rfl, -⟩, -⟩ := h1
  exact IntsAt.of_own h4 (by simp [DK.dirty])

theorem RefAt.nowAt {w : World} {b ng nc : Nat} {R : List Nat} {d : DK} {lv ov dn : Value} {T : TypeId} (h : RefAt w b R d) (hb : Blk w b #[lv, .slice (some ⟨ng, 0, none⟩) d.last.length nc, ov, dn] T) : RowAt w (.slice (some ⟨ng, 0, none⟩) d.now.length nc) d.now := by
  obtain ⟨lg, lc, ng', nc', ov', rfl, hn, hw, h1, h2, h3, h4⟩ := h
  unfold Blk at h1 hb
  rw [hb] at h1
  simp only [Option.some.injEq, Obj.cells.injEq, Array.mk.injEq, List.cons.injEq, Value.slice.injEq, Addr.mk.injEq] at h1
  obtain ⟨⟨-, ⟨⟨rfl, -⟩, -, rfl⟩, -⟩, -⟩ := h1
  exact h3

theorem eqB_self (l : List Int) : eqB l l = true := by unfold eqB; exact decide_eq_true rfl

set_option maxRecDepth 100000 in
set_option maxHeartbeats 4000000 in
theorem DiskPlays.walk (n0 : Int) (v1 : Value) (l : List CallK) (w : World) (_ : (Lit.int .i64 n0).wf = true) (hl : CallsAt w v1 l) :
    Calls Try.prog 7 #[.int .i64 n0, v1] w fun e w' => e = .returned (.bool true) ∧ Below w.heap.size w w' := by
  obtain ⟨la, lc, rfl, hlm, hlb⟩ := hl
  have HLB := Lib.hid hlb
  clear hlb
  have key : (decide (40 < n0) = true ∧ decide (n0 ≤ 4096) = true) ∨ ((n0 < 0 ∨ 4096 < n0) ∧ (decide (40 < n0) = false ∨ (decide (40 < n0) = true ∧ decide (n0 ≤ 4096) = false))) ∨ (0 ≤ n0 ∧ n0 ≤ 40 ∧ decide (40 < n0) = false) := by
    simp only [decide_eq_true_eq, decide_eq_false_iff_not]; omega
  rcases key with ⟨g1, g2⟩ | ⟨g1, g2⟩ | ⟨h0, h40, g1⟩
  · go_enter Try.func7, Try.ntmps7
    go_wp2_with (go_at_call 10; refine (awake_any _).mono ?_; rintro e w1 ⟨rfl, hu1⟩)
    go_ret
    exact ⟨rfl, hu1.toBelow⟩
  · rcases g2 with g2 | ⟨g2, g3⟩
    all_goals
      go_enter Try.func7, Try.ntmps7
      go_wp2_with (first
        | (go_at_call 10; refine (awake_any _).mono ?_; rintro e w1 ⟨rfl, hu1⟩)
        | (go_at_call 11; refine (new_no n0 _ g1).mono ?_; rintro e w2 ⟨rfl, rfl⟩)
        | (go_at_call 20; refine (rnew_no n0 _ g1).mono ?_; rintro e w2 ⟨rfl, rfl⟩))
      go_ret
      exact ⟨rfl, hu1.toBelow⟩
  · obtain ⟨n, rfl⟩ := Int.eq_ofNat_of_zero_le h0
    go_enter Try.func7, Try.ntmps7
    go_upto_block 0 with (first
      | (go_at_call 10; refine (awake_any _).mono ?_; rintro e w1 ⟨rfl, hu1⟩; have HU1 := Lib.hid hu1; clear hu1)
      | (go_at_call 11; refine (new_law (n : Int) w (by omega) (by omega) HU1.out).mono ?_; rintro e w2 ⟨p, S, rfl, hd, hu2, hS⟩; have HD := Lib.hid hd; clear hd hu2 hS)
      | (go_at_call 20; refine (rnew_yes n _ (by omega)).mono ?_; rintro e w3 ⟨q, R, rfl, hr, hu3, hR⟩
         have HB : Hid (Both w w3 p S q R (DK.new n) (DK.new n)) := ⟨by have := HD.out.quiet hu3; rw [Int.toNat_natCast] at this; exact this, hr, fun k hk hkS => by have := hR k hk; have := HD.out.disk.lt k hkS; omega, fun k hk => Nat.le_trans HD.out.upd.size (hR k hk)⟩
         clear hr hu3 hR HD))
    have HB3 := HB
    clear HB
    go_cut [] (fun wx => ∃ (D : DK) (S R : List Nat), Both w wx p S q R D D)
    case first =>
      go_wp2_with fail
      go_loopw [10] (fun i wx => ∃ (k : Nat) (D : DK) (S R : List Nat), k ≤ 80 ∧ k ≤ l.length ∧ i = .int .i64 k ∧ Both w wx p S q R D D) (fun i _ => 80 - (intOf i).toNat)
      case atStart => exact ⟨0, _, S, R, by omega, Nat.zero_le _, rfl, HB3.out⟩
      case round =>
        obtain ⟨k, D, S5, R5, hk80, hkl, rfl, hd5⟩ := hrel
        have H5 := Lib.hid hd5
        clear hd5 HB3
        by_cases hend : k < 80 ∧ k < l.length
        · obtain ⟨h80, hlt⟩ := hend
          obtain ⟨g, off, rfl, hgl, hcl⟩ := HLB.out (by intro e; rw [e] at hlt; simp at hlt)
          obtain ⟨c, hc⟩ : ∃ c, l[k]? = some c := ⟨_, List.getElem?_eq_getElem hlt⟩
          obtain ⟨hcc, hcb, hcf⟩ := hcl k c hc
          have HC := Lib.hid (hcc.upd H5.out.disk.upd hgl (by simp))
          have HCL : Hid (c.cells.length = 67) := by have : c.cells.length = 67 := by simp [CallK.cells, hcb]
                                                     exact this
          have HCB := Lib.hid hcb
          have HCF := Lib.hid hcf
          have h80' : (k : Int) < 80 := by omega
          have hlt' : (k : Int) < (l.length : Int) := by omega
          clear hcl hc hcc hcb hcf
          go_upto_region 16 with (first
            | ((with_reducible show wpList _ _ _ (⟨some 62, _, _, _, _, _⟩ :: _) _ _); refine wpList_runW rfl (exec_loadC (P := Try.prog) 36 (.tmp 61) rfl rfl HC.out (.inr ⟨_, Try.underlying36⟩) info_call HCL.out) ?_)
            | (go_at_call 21; refine (did_any H5.out c HCB.out HCF.out).mono ?_; rintro e w6 ⟨rfl, S6, R6, hb6⟩; have H6 := Lib.hid hb6; clear hb6))
          obtain ⟨D6, hD6⟩ : ∃ D6, D6 = D.did c := ⟨_, rfl⟩
          rw [← hD6] at H6
          clear hD6 H5 HC HCL HCB HCF
          obtain ⟨lv, ov, ng, nc, hq6, hqR, hngR⟩ := H6.out.ref.own
          have hqS := H6.out.sep q hqR
          refine held_start (fun w' => Blk w' q #[lv, .slice (some ⟨ng, 0, none⟩) D6.last.length nc, ov, .bool D6.down] 50) 8 mixed rfl hq6 (fun hHeld => ?_)
          clear hq6
          refine held_take 0 64 (.pointer (some ⟨p, 0, none⟩)) rfl (by kernel_rfl) (by kernel_rfl) (by kernel_rfl) rfl (fun _ _ _ h => h) rfl hHeld (fun w hS => by rfl) ?_
          simp only [List.setIfInBounds_toArray, List.set_cons_zero, List.set_cons_succ]
          refine held_take 2 66 (.pointer (some ⟨q, 0, none⟩)) rfl (by kernel_rfl) (by kernel_rfl) (by kernel_rfl) rfl (fun _ _ _ h => h) rfl hHeld (fun w hS => by rfl) ?_
          simp only [List.setIfInBounds_toArray, List.set_cons_zero, List.set_cons_succ]
          refine held_take 3 67 (.pointer (some ⟨q, 0, none⟩)) rfl (by kernel_rfl) (by kernel_rfl) (by kernel_rfl) rfl (fun _ _ _ h => h) rfl hHeld (fun w hS => by go_simp) ?_
          simp only [List.setIfInBounds_toArray, List.set_cons_zero, List.set_cons_succ]
          refine held_take 4 68 (.pointer (some ⟨q, 2, none⟩)) rfl (by kernel_rfl) (by kernel_rfl) (by kernel_rfl) rfl (fun _ _ _ h => h) rfl hHeld (fun w hS => by go_simp) ?_
          simp only [List.setIfInBounds_toArray, List.set_cons_zero, List.set_cons_succ]
          refine held_take 5 69 ov rfl (by kernel_rfl) (by kernel_rfl) (by kernel_rfl) rfl (fun _ _ _ h => h) rfl hHeld (fun w hS => by have hn := hS.cell (o := 2) rfl; go_simp) ?_
          simp only [List.setIfInBounds_toArray, List.set_cons_zero, List.set_cons_succ]
          refine held_next 1 65 rfl (by kernel_rfl) rfl rfl (fun K hK => ?_)
          go_simp
          refine (dirty_law (H6.out.disk.quiet ((Upd.refl _ _).drew))).mono ?_
          rintro e w7 ⟨a7, c7, rfl, hi7, hd7, hk7⟩
          have H7 := Lib.hid ((H6.out.quiet ((Upd.refl _ _).drew)).left hd7 hk7)
          refine hK.out _ _ (Var.keep ⟨hHeld, hqS⟩ hk7).1 (fun hHeld => ?_)
          clear hd7 hk7 hK K
          simp only [List.setIfInBounds_toArray, List.set_cons_zero, List.set_cons_succ]
          refine held_next 6 70 rfl (by kernel_rfl) rfl rfl (fun K hK => ?_)
          go_simp
          refine (same_any _ ov D6.dirty D6.dirty _ hi7 (H7.out.ref.dirtyAt hHeld)).mono ?_
          rw [eqB_self]
          rintro e w8 ⟨rfl, hu8⟩
          have H8 := Lib.hid (H7.out.quiet hu8)
          refine hK.out _ _ (hHeld.upd hu8 (by simp)) (fun hHeld => ?_)
          clear hu8 hK K hi7 H7 H6
          simp only [List.setIfInBounds_toArray, List.set_cons_zero, List.set_cons_succ]
          refine held_take 7 12 (.bool true) rfl (by kernel_rfl) (by kernel_rfl) (by kernel_rfl) rfl (fun _ _ _ h => h) rfl hHeld (fun w hS => by rfl) ?_
          simp only [List.setIfInBounds_toArray, List.set_cons_zero, List.set_cons_succ]
          refine held_done (by kernel_rfl) ?_
          have k1 := hHeld.cell (o := 1) rfl
          have k3 := hHeld.cell (o := 3) rfl
          have hm4 := H8.out.disk.disk.wf.many
          go_upto_region 17 with fail
          go_quiet ((first
            | (go_at_call 22; exact quiet_eq (down_any p S6 D6 _ (H8.out.disk.disk.upd0 ((Upd.refl _ _).drewN _))))
            | (go_at_call 23; exact quiet_eq (blocks_any p S6 D6 _ (H8.out.disk.disk.upd0 ((Upd.refl _ _).drewN _))))))
          go_wp2_with fail
          go_roundw
          case rel => exact ⟨k + 1, _, _, _, by omega, by omega, by go_num, H8.out.quiet ((Upd.refl _ _).drewN _)⟩
          case measure => simp [intOf]; omega
        · have key : decide (k < l.length) = false ∨ (decide (k < l.length) = true ∧ k = 80) := by
            simp only [decide_eq_true_eq, decide_eq_false_iff_not]; omega
          clear hend hk80 hkl
          rcases key with q1 | ⟨q1, rfl⟩
          · go_wp2_with fail
            go_meet
            exact ⟨D, S5, R5, H5.out⟩
          · rw [show (((80 : Nat)) : Int) = 80 from rfl]
            have q1' : decide ((80 : Int) < (l.length : Int)) = true := by simp only [decide_eq_true_eq] at q1 ⊢; omega
            go_wp2_with fail
            go_meet
            exact ⟨D, S5, R5, H5.out⟩
    case rest =>
      obtain ⟨D, S5, R5, hd5⟩ := hcut
      have H5 := Lib.hid hd5
      clear hd5 HB3
      have key : (D.start).down = false := rfl
      go_wp2_with (first
        | (go_at_call 16; refine (start_law H5.out.disk).mono ?_; rintro e wA ⟨rfl, hdA, hkA⟩
           have HA := Lib.hid (H5.out.left hdA hkA)
           clear hdA hkA)
        | (go_at_call 24; refine (rstart_any q R5 D _ HA.out.ref).mono ?_; rintro e wB ⟨rfl, hrB, huB⟩
           have H6 := Lib.hid (HA.out.right hrB huB (Sub.refl _ _))
           clear hrB huB))
      obtain ⟨F, hF⟩ : ∃ F, F = D.start := ⟨_, rfl⟩
      rw [← hF] at H6 key
      have HK := Lib.hid key
      have hm4 := H6.out.disk.disk.wf.many
      clear hF H5 HA key
      go_loopw [13] (fun i wx => ∃ (m : Nat), m ≤ F.last.length ∧ i = .int .i64 m ∧ Both w wx p S5 q R5 F F) (fun i _ => F.last.length - (intOf i).toNat)
      case atStart => exact ⟨0, Nat.zero_le _, rfl, H6.out⟩
      case round =>
        obtain ⟨m, hm, rfl, hb7⟩ := hrel
        have H7 := Lib.hid hb7
        obtain ⟨lv, ov, ng, nc, hq7, hqR, hngR⟩ := hb7.ref.own
        have k1 := hq7.cell (o := 1) rfl
        have HQ := Lib.hid hq7
        clear hb7 H6 hq7
        by_cases hlt : m < F.last.length
        · have hr := DK.rd_len H7.out.disk.disk.wf (m : Int)
          have hc : F.code (m : Int) = 0 := by unfold DK.code; rw [HK.out]; simp; omega
          have hrd : F.now.getD m [] = F.rd (m : Int) := by rw [DK.now_get F hlt]; unfold DK.rd; rw [if_pos hc]
          have HC := Lib.hid hc
          have HRD := Lib.hid hrd
          have hx1 : (0 : Int) ≤ (m : Int) := by omega
          have hx2 : (m : Int) < (F.last.length : Int) := by omega
          clear hc hrd
          go_upto_region 25 with (first
            | (go_at_call 13; refine (read_law H7.out.disk (m : Int)).mono ?_; rw [HC.out]; rintro e wA ⟨rfl, hdA, hkA⟩
               have HA := Lib.hid (H7.out.left hdA hkA)
               have KQ := Lib.hid (Var.keep ⟨HQ.out, H7.out.sep q hqR⟩ hkA).1
               clear hdA hkA)
            | ((with_reducible show wpList _ _ _ (⟨_, .alloc 23, _, _, _, _⟩ :: _) _ _); refine wpList_alloc rfl 23 rfl zero_arr fun w2 hb2 hu2 hs2 => ?_)
            | ((with_reducible show wpList _ _ _ (⟨_, .store 23 (.tmp 14) (.tmp 113), _, _, _, _⟩ :: _) _ _); refine wpList_store rfl (.tmp 14) (.tmp 113) rfl rfl rfl hb2 DK.zeros_len hr fun w3 hb3 hu3 hs3 => ?_
               have hu := hu2.then hu3 (by simp)
               have H8 := Lib.hid (HA.out.quiet hu)
               have hq8 := KQ.out.upd hu (by simp)
               have c1 := hq8.cell (o := 1) rfl
               have HCC := Lib.hid (row_cells (H8.out.ref.nowAt hq8) (DK.now_64 H8.out.disk.disk.wf) (n := m) (by rw [DK.now_len]; exact hlt))
               have HB3 := Lib.hid hb3
               clear hu hb2 hu2 hs2 hb3 hu3 hs3 hq8 k1))
          refine wp_region_still_lit mixed (by kernel_rfl) ?_
          refine still_run rfl (arr_load (.tmp 14) rfl rfl HB3.out.drew hr) ?_
          still_step
          still_step
          still_step
          still_step
          still_step
          still_step
          refine still_run rfl (arr_loadC (.tmp 121) rfl rfl (fun j v hj => HCC.out j v hj) (by rw [HRD.out]; exact hr)) ?_
          rw [HRD.out]
          refine still_run rfl (arr_neq (.tmp 115) (.tmp 122) rfl rfl rfl hr hr) ?_
          rw [show (!(F.rd (m : Int) == F.rd (m : Int))) = false from by simp]
          still_step
          still_step
          still_step
          still_step
          refine wpStill_nil ?_
          have H9 := Lib.hid (H8.out.quiet ((Upd.refl _ _).drew))
          clear H8 HA KQ HB3 HCC c1
          go_wp2_with fail
          go_roundw
          case rel => exact ⟨m + 1, by omega, by go_num, H9.out⟩
          case measure => simp [intOf]; omega
        · obtain rfl : m = F.last.length := by omega
          clear hlt
          go_wp2_with fail
          go_ret
          exact ⟨rfl, H7.out.disk.upd.toBelow⟩

end Go.Proofs.Ytmdioojaaneacaa
