/- The walk of Append on a disk that is down. -/
import Derived.Test.YtfjmkdjbeoafjaaRefT
namespace Go.Proofs.Ytfjmkdjbeoafjaa
open Go.ChangeShapes Go.WideShapes Go.ChangeAt Go.RowKit

set_option maxRecDepth 100000 in
set_option maxHeartbeats 4000000 in
theorem append_down (v : Value) (b : List Int) (j : Nat) (J : List Nat) (p : Nat) (S : List Nat) (d : DK) (k : JK) (w : World) (hb : BytesAt w v b) (h0 : 0 < b.length) (h1 : b.length ≤ 2000) (hj : JAt w j J p k) (hd : DiskAt w p S d) (hn : needJ b ≤ k.blocks - k.used) (hdn : d.down = true) :
    Calls Try.prog 13 #[.pointer (some ⟨j, 0, none⟩), v] w fun e w' => e = .returned (.int .i64 60) ∧ Upd [] w w' := by
  have hb' := hb
  obtain ⟨a, cap, rfl, hnc, hcm, hcell⟩ := hb
  obtain ⟨g, off, rfl, hgl, hcell⟩ := hcell (by intro e; rw [e] at h0; simp at h0)
  have x1 := hj.wf.used
  have x2 := hj.wf.room
  have x3 := hj.wf.life0
  have x4 := hj.wf.life1
  have hjl := hj.lt
  have hdl := hd.lt
  have HJ := Lib.hid hj
  have HD := Lib.hid hd
  have HCODE : Hid (∀ n, d.code n = 60) := Lib.hid (fun n => by unfold DK.code; rw [if_pos hdn])
  have HCELL := Lib.hid hcell
  obtain ⟨nd, hnd⟩ : ∃ nd, nd = needJ b := ⟨_, rfl⟩
  rw [← hnd] at hn
  have hnd2 : nd = (b.length + 43) / 44 := hnd
  obtain ⟨n, hnx⟩ : ∃ n, n = b.length := ⟨_, rfl⟩
  rw [← hnx] at h0 h1 hnd2 hnc HCELL ⊢
  have hnd3 : 44 * nd ≤ n + 43 := by omega
  have hnd4 : n ≤ 44 * nd := by omega
  have HNX := Lib.hid hnx
  have HND := Lib.hid hnd
  have hj1 := (HJ.out.upd0 ((Upd.refl [] w).alloc (.cells #[.pointer (some ⟨j, 0, none⟩)] 28)))
  have q1 : ((n : Int) == 0) = false := by simp only [beq_eq_false_iff_ne, ne_eq]; omega
  have q2 : decide ((2000 : Int) < (n : Int)) = false := by simp only [decide_eq_false_iff_not]; omega
  have q3 : decide ((k.blocks : Int) - (k.used : Int) < ((n : Int) + 44 - 1) / 44) = false := by simp only [decide_eq_false_iff_not]; omega
  obtain ⟨w1, hw1⟩ : ∃ w1, w1 = w.alloc (.cells #[.pointer (some ⟨j, 0, none⟩)] 28) := ⟨_, rfl⟩
  have hbx : Blk w1 w.heap.size #[.pointer (some ⟨j, 0, none⟩)] 28 := by rw [hw1]; exact Blk.new _ _ _
  have hu1 : Upd [] w w1 := by rw [hw1]; exact (Upd.refl _ _).alloc _
  rw [← hw1] at hj1
  have HW1 := Lib.hid hw1
  have HU1 := Lib.hid hu1
  have HJ1 := Lib.hid hj1
  obtain ⟨bx, hbxe⟩ : ∃ bx, bx = w.heap.size := ⟨_, rfl⟩
  rw [← hbxe] at hbx
  have cbx := hbx.cell (o := 0) rfl
  have HBX := Lib.hid hbx
  have HBE := Lib.hid hbxe
  have hunfold := hj1
  obtain ⟨rv, rvs, T, rfl, j1, j2, j3, j4, j5, j6, j7⟩ := hunfold
  have c4 := j5.cell (o := 4) rfl
  have HJP : Hid (JP w1 j p k rv rvs T) := Lib.hid ⟨j1, j2, j3, j5, j6, j7⟩
  clear hnd2 hnd hnx hj1 hw1 hu1 hbx hbxe hb' hcell hj hd hdn j1 j2 j3 j4 j6 j7
  go_enter Try.func13, Try.ntmps13
  go_upto_region 1 with fail
  rw [← HW1.out, ← HBE.out]
  go_wp2_with (go_at_call 20; refine (jroom_any j _ p k _ HJ1.out).mono ?_; rintro e w2 ⟨rfl, hu2⟩
               have cbx := (World.cell?_of_block (a := ⟨bx, 0, none⟩) (hu2.block bx HBX.out.lt (by simp))).trans cbx
               have c4 := (World.cell?_of_block (a := ⟨j, 4, none⟩) (hu2.block j (j5.lt) (by simp))).trans c4
               have HU2 := Lib.hid hu2
               clear hu2)
  have hu02 : Upd [] w w2 := HU1.out.trans HU2.out
  have hjw : Hid (JAt w2 j (j :: (rv.ownBlock.toList ++ T)) p k) := Lib.hid (HJ1.out.upd0 HU2.out)
  have hdw : Hid (DiskAt w2 p S d) := Lib.hid (HD.out.upd0 hu02)
  have hbw : Hid (Blk w2 bx #[.pointer (some ⟨j, 0, none⟩)] 28) := Lib.hid (HBX.out.upd HU2.out (by simp))
  have hcw : Hid (∀ i, i < n → w2.cell? ⟨g, off + i, none⟩ = some (.int .u8 (b.getD i 0))) := Lib.hid (fun i hi => (World.cell?_of_block (a := ⟨g, off + i, none⟩) (hu02.block g hgl (by simp))).trans (HCELL.out i hi))
  have hgw : g < w2.heap.size := Nat.lt_of_lt_of_le hgl hu02.size
  have hjw2 : Hid (Blk w2 j #[.pointer (some ⟨p, 0, none⟩), .int .i64 k.from_, .int .i64 k.blocks, .int .i64 k.life, .int .i64 k.used, rv] 68) := Lib.hid (j5.upd HU2.out (by simp))
  have HU02 := Lib.hid hu02
  clear cbx c4 j5 hu02 q1 q2 q3
  go_loopw [6, 7] (fun u at_ wx => ∃ (i : Nat), i = 0 ∧ u = .int .i64 ((k.used + i : Nat) : Int) ∧ at_ = .int .i64 ((44 * i : Nat) : Int) ∧ Upd [] w2 wx) (fun _ _ _ => 1)
  case atStart => exact ⟨0, rfl, by go_num, by go_num, Upd.refl _ _⟩
  case round =>
    obtain ⟨i, hi0, rfl, rfl, hu5⟩ := hrel
    have hj5 := hjw2.out.upd hu5 (by simp)
    have hb5 := hbw.out.upd hu5 (by simp)
    have hc5 : ∀ i, i < n → wr.cell? ⟨g, off + i, none⟩ = some (.int .u8 (b.getD i 0)) := fun i hi => (World.cell?_of_block (a := ⟨g, off + i, none⟩) (hu5.block g hgw (by simp))).trans (hcw.out i hi)
    have HD5 := Lib.hid (hdw.out.upd0 hu5)
    have HU5 := Lib.hid hu5
    have HJ5 := Lib.hid hj5
    have HB5 := Lib.hid hb5
    have HC5 := Lib.hid hc5
    have cbx := hb5.cell (o := 0) rfl
    have hz5 := hu5.size
    have hnd5 : 0 < nd := by omega
    obtain ⟨uv, huv⟩ : ∃ uv, uv = k.used + i := ⟨_, rfl⟩
    obtain ⟨av, hav⟩ : ∃ av, av = 44 * i := ⟨_, rfl⟩
    rw [← huv, ← hav]
    have huv1 : uv = k.used + i := huv
    have hav1 : av = 44 * i := hav
    have HUV := Lib.hid huv
    have HAV := Lib.hid hav
    clear hu5 hj5 hb5 hc5 huv hav
    have hlt : i < nd := by omega
    · have hx0 : (0 : Int) ≤ (av : Int) := by omega
      have hx1 : (av : Int) < (n : Int) := by omega
      have hxn : av < n := by omega
      have hdl2 : (b.drop av).length = n - av := by rw [List.length_drop, ← HNX.out]
      have hcl : ∀ w : World, (∀ i, i < n → w.cell? ⟨g, off + i, none⟩ = some (Value.int .u8 (b.getD i 0))) → ∀ x, x < (b.drop av).length → w.cell? ⟨g, off + av + x, none⟩ = some (.int .u8 ((b.drop av).getD x 0)) := by
        intro w hc x hx
        rw [hdl2] at hx
        rw [Nat.add_assoc, hc (av + x) (by omega)]
        congr 2
        rw [List.getD_eq_getElem?_getD, List.getD_eq_getElem?_getD, List.getElem?_drop]
      have HCL := Lib.hid hcl
      have HDL2 := Lib.hid hdl2
      have huvb : k.from_ + uv ≤ 4096 := by omega
      clear hcl hdl2 huv1 hav1
      go_upto_region 12 with fail
      refine held_start (fun w' => Blk w' bx #[.pointer (some ⟨j, 0, none⟩)] 28 ∧ Blk w' j #[.pointer (some ⟨p, 0, none⟩), .int .i64 k.from_, .int .i64 k.blocks, .int .i64 k.life, .int .i64 k.used, rv] 68) 17 mixed rfl ⟨HB5.out, HJ5.out⟩ (fun hHeld => ?_)
      refine held_take 0 41 (.pointer (some ⟨j, 0, none⟩)) rfl (by kernel_rfl) (by kernel_rfl) (by kernel_rfl) rfl (fun _ _ _ h => h) rfl hHeld (fun w hS => by have c := hS.1.cell (o := 0) rfl; go_simp) ?_
      simp only [List.setIfInBounds_toArray, List.set_cons_zero, List.set_cons_succ]
      refine held_take 1 42 (.pointer (some ⟨j, 0, none⟩)) rfl (by kernel_rfl) (by kernel_rfl) (by kernel_rfl) rfl (fun _ _ _ h => h) rfl hHeld (fun w hS => by go_simp) ?_
      simp only [List.setIfInBounds_toArray, List.set_cons_zero, List.set_cons_succ]
      refine held_take 2 43 (.pointer (some ⟨j, 0, none⟩)) rfl (by kernel_rfl) (by kernel_rfl) (by kernel_rfl) rfl (fun _ _ _ h => h) rfl hHeld (fun w hS => by go_simp) ?_
      simp only [List.setIfInBounds_toArray, List.set_cons_zero, List.set_cons_succ]
      refine held_take 3 44 (.pointer (some ⟨p, 0, none⟩)) rfl (by kernel_rfl) (by kernel_rfl) (by kernel_rfl) rfl (fun _ _ _ h => h) rfl hHeld (fun w hS => by have c := hS.2.cell (o := 0) rfl; go_simp) ?_
      simp only [List.setIfInBounds_toArray, List.set_cons_zero, List.set_cons_succ]
      refine held_take 4 45 (.pointer (some ⟨j, 0, none⟩)) rfl (by kernel_rfl) (by kernel_rfl) (by kernel_rfl) rfl (fun _ _ _ h => h) rfl hHeld (fun w hS => by have c := hS.1.cell (o := 0) rfl; go_simp) ?_
      simp only [List.setIfInBounds_toArray, List.set_cons_zero, List.set_cons_succ]
      refine held_take 5 46 (.pointer (some ⟨j, 0, none⟩)) rfl (by kernel_rfl) (by kernel_rfl) (by kernel_rfl) rfl (fun _ _ _ h => h) rfl hHeld (fun w hS => by go_simp) ?_
      simp only [List.setIfInBounds_toArray, List.set_cons_zero, List.set_cons_succ]
      refine held_take 6 47 (.pointer (some ⟨j, 1, none⟩)) rfl (by kernel_rfl) (by kernel_rfl) (by kernel_rfl) rfl (fun _ _ _ h => h) rfl hHeld (fun w hS => by go_simp) ?_
      simp only [List.setIfInBounds_toArray, List.set_cons_zero, List.set_cons_succ]
      refine held_take 7 48 (.int .i64 k.from_) rfl (by kernel_rfl) (by kernel_rfl) (by kernel_rfl) rfl (fun _ _ _ h => h) rfl hHeld (fun w hS => by have c := hS.2.cell (o := 1) rfl; go_simp) ?_
      simp only [List.setIfInBounds_toArray, List.set_cons_zero, List.set_cons_succ]
      refine held_take 8 49 (.int .i64 (uv : Int)) rfl (by kernel_rfl) (by kernel_rfl) (by kernel_rfl) rfl (fun _ _ _ h => h) rfl hHeld (fun w hS => by rfl) ?_
      simp only [List.setIfInBounds_toArray, List.set_cons_zero, List.set_cons_succ]
      refine held_take 9 50 (.int .i64 ((k.from_ + uv : Nat) : Int)) rfl (by kernel_rfl) (by kernel_rfl) (by kernel_rfl) rfl (fun _ _ _ h => h) rfl hHeld (fun w hS => by have e : IntKind.i64.wrap ((k.from_ : Int) + (uv : Int)) = ((k.from_ + uv : Nat) : Int) := (by rw [IntWalk.i64_in _ (by omega)]; omega); go_simp) ?_
      simp only [List.setIfInBounds_toArray, List.set_cons_zero, List.set_cons_succ]
      refine held_take 10 51 (.func (.func 38) #[] #[.pointer (some ⟨bx, 0, none⟩)]) rfl (by kernel_rfl) (by kernel_rfl) (by kernel_rfl) rfl (fun _ _ _ h => h) rfl hHeld (fun w hS => by rfl) ?_
      simp only [List.setIfInBounds_toArray, List.set_cons_zero, List.set_cons_succ]
      refine held_take 11 52 (.slice (some ⟨g, off, none⟩) n cap) rfl (by kernel_rfl) (by kernel_rfl) (by kernel_rfl) rfl (fun _ _ _ h => h) rfl hHeld (fun w hS => by rfl) ?_
      simp only [List.setIfInBounds_toArray, List.set_cons_zero, List.set_cons_succ]
      refine held_take 12 53 (.int .i64 (av : Int)) rfl (by kernel_rfl) (by kernel_rfl) (by kernel_rfl) rfl (fun _ _ _ h => h) rfl hHeld (fun w hS => by rfl) ?_
      simp only [List.setIfInBounds_toArray, List.set_cons_zero, List.set_cons_succ]
      refine held_take 13 54 (.slice (some ⟨g, off + av, none⟩) (n - av) (cap - av)) rfl (by kernel_rfl) (by kernel_rfl) (by kernel_rfl) rfl (fun _ _ _ h => h) rfl hHeld (fun w hS => by exact exec_slice_l 31 (.tmp 52) (.tmp 53) rfl Try.underlying31 (by kernel_rfl) rfl rfl (by omega) (by omega)) ?_
      simp only [List.setIfInBounds_toArray, List.set_cons_zero, List.set_cons_succ]
      refine held_next 14 55 rfl (by kernel_rfl) rfl rfl (fun K hK => ?_)
      go_simp
      have hcw5 : ∀ i, i < n → wr.drew.cell? ⟨g, off + i, none⟩ = some (.int .u8 (b.getD i 0)) := HC5.out
      have hbl := blockf_any g (off + av) (cap - av) bx j (b.drop av) k.life wr.drew (HCL.out _ hcw5) (Nat.lt_of_lt_of_le hgw hz5) (by rw [HDL2.out]; omega) (by rw [HDL2.out]; omega) (hHeld.1.cell (o := 0) rfl) (hHeld.2.cell (o := 3) rfl) (by omega) x4
      rw [HDL2.out] at hbl
      refine hbl.mono ?_
      rintro e w6 ⟨rfl, hu6⟩
      have HD6 := Lib.hid (HD5.out.upd0 (((Upd.refl [] wr).drew).trans hu6))
      have HU6 := Lib.hid (HU5.out.trans ((((Upd.refl [] wr).drew).trans hu6).mono (by simp)))
      have hs6 := hu6.size
      refine hK.out _ _ ⟨hHeld.1.upd hu6 (by simp), hHeld.2.upd hu6 (by simp)⟩ (fun hHeld => ?_)
      clear hu6 hK K hbl hcw5
      simp only [List.setIfInBounds_toArray, List.set_cons_zero, List.set_cons_succ]
      refine held_next 15 56 rfl (by kernel_rfl) rfl rfl (fun K hK => ?_)
      go_simp
      refine (write_no p S d ((k.from_ + uv : Nat) : Int) (U8 (blockJ k.life (b.drop av))) w6 HD6.out (by rw [HCODE.out]; omega)).mono ?_
      rw [HCODE.out]
      rintro e w7 ⟨rfl, hu7⟩
      have HU7 := Lib.hid (HU6.out.trans hu7)
      refine hK.out _ _ ⟨hHeld.1.upd hu7 (by simp), hHeld.2.upd hu7 (by simp)⟩ (fun hHeld => ?_)
      clear hu7 hK K
      simp only [List.setIfInBounds_toArray, List.set_cons_zero, List.set_cons_succ]
      refine held_take 16 8 (.int .i64 60) rfl (by kernel_rfl) (by kernel_rfl) (by kernel_rfl) rfl (fun _ _ _ h => h) rfl hHeld (fun w hS => by rfl) ?_
      simp only [List.setIfInBounds_toArray, List.set_cons_zero, List.set_cons_succ]
      refine held_done (by kernel_rfl) ?_
      clear hHeld HD6 HU6 HD5 HU5 HJ5 HB5 HC5 cbx
      go_wp2_with fail
      go_ret
      exact ⟨rfl, HU02.out.trans HU7.out⟩

end Go.Proofs.Ytfjmkdjbeoafjaa
