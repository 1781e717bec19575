/- The walk of Append, where it goes. -/
import Derived.Test.YtfjmkdjbeoafjaaJrnG
namespace Go.Proofs.Ytfjmkdjbeoafjaa
open Go.ChangeShapes Go.WideShapes Go.ChangeAt Go.RowKit

/-- A journal's parts. -/
def JP (w : World) (j p : Nat) (k : JK) (rv : Value) (rvs : List Value) (T : List Nat) : Prop :=
  j ∉ T ∧ (∀ g, rv.ownBlock = some g → g ≠ j ∧ g ∉ T) ∧ (∀ g ∈ T, g < w.heap.size) ∧
    Blk w j #[.pointer (some ⟨p, 0, none⟩), .int .i64 k.from_, .int .i64 k.blocks, .int .i64 k.life, .int .i64 k.used, rv] 68 ∧
    w.ownsRow 0 31 1 rv k.recs.length rvs ∧ RecsAt w T rvs k.recs

theorem JP.upd {S : List Nat} {w w' : World} {j p : Nat} {k : JK} {rv : Value} {rvs : List Value} {T : List Nat} (h : JP w j p k rv rvs T) (hu : Upd S w w') (hS : ∀ x ∈ j :: (rv.ownBlock.toList ++ T), x ∉ S) : JP w' j p k rv rvs T := by
  obtain ⟨h1, h2, h3, h5, h6, h7⟩ := h
  exact ⟨h1, h2, fun g hg => Nat.lt_of_lt_of_le (h3 g hg) hu.size, h5.upd hu (hS _ (by simp)), own_upd h6 hu (fun g hg => hS _ (by simp [hg])), h7.upd hu (fun g hg => hS _ (by simp [hg]))⟩

theorem append_close {w6 w9 : World} {j p rl uv g2 cap2 lo : Nat} {k : JK} {rv cv : Value} {rvs : List Value} {T : List Nat} {b : List Int} (hp : JP w6 j p k rv rvs T) (hcb : BytesAt w6 cv b) (hcn : ∀ x, cv.ownBlock = some x → lo ≤ x ∧ x < w6.heap.size)
    (hlo : ∀ x ∈ j :: (rv.ownBlock.toList ++ T), x < lo) (hwf : (k.push b).WF) (ho9 : w9.ownsRow 0 31 1 (.slice (some ⟨g2, 0, none⟩) (rl + 1) cap2) (rl + 1) (rvs ++ [cv])) (hrl : rl = k.recs.length) (huv : uv = k.used + needJ b)
    (hu9 : Upd rv.ownBlock.toList w6 w9) (hat : rv.ownBlock = some g2 ∨ w6.heap.size < g2) :
    JAt ((w9.setCell ⟨j, 4, none⟩ (.int .i64 uv)).setCell ⟨j, 5, none⟩ (.slice (some ⟨g2, 0, none⟩) (rl + 1) cap2)) j (j :: ([g2] ++ (cv.ownBlock.toList ++ T))) p (k.push b) ∧
      Upd (j :: rv.ownBlock.toList) w6 ((w9.setCell ⟨j, 4, none⟩ (.int .i64 uv)).setCell ⟨j, 5, none⟩ (.slice (some ⟨g2, 0, none⟩) (rl + 1) cap2)) := by
  subst huv
  obtain ⟨h1, h2, h3, h5, h6, h7⟩ := hp
  have hst := rec_step (lo := 0) h7 hcb (fun x hx => ⟨Nat.zero_le _, (hcn x hx).2⟩) (fun x hx => ⟨(h2 x hx).2, fun e => by have h8 := (hcn x e).1; have h9 := hlo x (by simp [hx]); omega⟩) (fun x hx => ⟨Nat.zero_le _, h3 x hx⟩) hu9 hat
  have hjr : j ∉ rv.ownBlock.toList := fun hm => (h2 j (by simpa using hm)).1 rfl
  have hj9 := h5.upd hu9 hjr
  have hj11 := (hj9.set 4 (.int .i64 ((k.used + needJ b : Nat) : Int))).set 5 (.slice (some ⟨g2, 0, none⟩) (rl + 1) cap2)
  have hgj : g2 ≠ j := by
    rcases hat with h | h
    · exact (h2 g2 h).1
    · have := h5.lt; omega
  have hcj : j ∉ cv.ownBlock.toList ++ T := fun hm => by
    rcases List.mem_append.1 hm with hm | hm
    · have h8 := (hcn j (by simpa using hm)).1; have h9 := hlo j (by simp); omega
    · exact h1 hm
  have hu911 : Upd [j] w9 ((w9.setCell ⟨j, 4, none⟩ (.int .i64 ((k.used + needJ b : Nat) : Int))).setCell ⟨j, 5, none⟩ (.slice (some ⟨g2, 0, none⟩) (rl + 1) cap2)) := ((Upd.refl _ _).setCell (.inl (by simp)) _).setCell (.inl (by simp)) _
  refine ⟨⟨.slice (some ⟨g2, 0, none⟩) (rl + 1) cap2, rvs ++ [cv], cv.ownBlock.toList ++ T, rfl, hcj, fun g hg => ?_, fun g hg => Nat.lt_of_lt_of_le (hst.2.2 g hg).2 hu911.size, hwf, ?_, ?_, ?_⟩, (hu9.mono (fun x hx => .inl (by simp [hx]))).trans (hu911.mono (by simp))⟩
  · have : g = g2 := by simpa [Value.ownBlock] using hg.symm
    subst this; exact ⟨hgj, hst.2.1⟩
  · exact hj11
  · have e : (k.push b).recs.length = rl + 1 := by show (k.recs ++ [b]).length = rl + 1; rw [List.length_append, List.length_singleton, hrl]
    rw [e]
    exact own_upd ho9 hu911 (fun g hg => by have : g = g2 := by simpa [Value.ownBlock] using hg.symm
                                            subst this; simp; exact hgj)
  · exact hst.1.upd hu911 (fun x hx hm => hcj ((by simpa using hm : x = j) ▸ hx))

theorem append_out {w w2 wr w6 W : World} {p j g2 : Nat} {S S5 T : List Nat} {rv cv : Value} {dN : DK} (hu02 : Upd [] w w2) (hu5 : Upd S w2 wr) (hu6 : Upd [] wr w6) (hW : Upd (j :: rv.ownBlock.toList) w6 W) (hd : DiskAt wr p S5 dN) (hs5 : Sub w2 S S5)
    (hjl : ∀ x ∈ j :: (rv.ownBlock.toList ++ T), x < w.heap.size) (hsep : ∀ x ∈ j :: (rv.ownBlock.toList ++ T), x ∉ S) (hat : rv.ownBlock = some g2 ∨ w6.heap.size < g2) (hcn : ∀ x, cv.ownBlock = some x → wr.heap.size ≤ x ∧ x < w6.heap.size) :
    DiskAt W p S5 dN ∧ Upd (S ++ (j :: (rv.ownBlock.toList ++ T))) w W ∧ Sub w S S5 ∧ Sub w (j :: (rv.ownBlock.toList ++ T)) (j :: ([g2] ++ (cv.ownBlock.toList ++ T))) ∧ ∀ x ∈ j :: ([g2] ++ (cv.ownBlock.toList ++ T)), x ∉ S5 := by
  have hz2 := hu02.size
  have hz5 := hu5.size
  have hz6 := hu6.size
  have hlt5 := hd.lt
  have hin : ∀ x ∈ j :: (rv.ownBlock.toList ++ T), x ∉ S5 := fun x hx hm => by
    rcases hs5 x hm with h | h
    · exact hsep x hx h
    · have := hjl x hx; omega
  have hsub : ∀ x ∈ j :: rv.ownBlock.toList, x ∈ j :: (rv.ownBlock.toList ++ T) := fun x hx => by
    rcases List.mem_cons.1 hx with rfl | hx
    · simp
    · exact List.mem_cons_of_mem _ (List.mem_append_left _ hx)
  have hJ' : ∀ x ∈ j :: ([g2] ++ (cv.ownBlock.toList ++ T)), x ∈ j :: (rv.ownBlock.toList ++ T) ∨ wr.heap.size ≤ x := fun x hx => by
    simp only [List.mem_cons, List.mem_append, List.not_mem_nil, or_false, Option.mem_toList] at hx
    rcases hx with rfl | rfl | hx | hx
    · exact .inl (by simp)
    · rcases hat with h | h
      · exact .inl (by simp [h])
      · exact .inr (by omega)
    · exact .inr (hcn x hx).1
    · exact .inl (by simp [hx])
  refine ⟨(hd.upd0 hu6).upd hW (fun x hx hm => hin x (hsub x hm) hx), ?_, fun x hx => ?_, fun x hx => ?_, fun x hx hm => ?_⟩
  · exact ((hu02.mono (by simp)).trans (hu5.mono (fun x hx => .inl (List.mem_append_left _ hx)))).trans ((hu6.mono (by simp)).trans (hW.mono (fun x hx => .inl (List.mem_append_right _ (hsub x hx)))))
  · rcases hs5 x hx with h | h
    · exact .inl h
    · exact .inr (by omega)
  · rcases hJ' x hx with h | h
    · exact .inl h
    · exact .inr (by omega)
  · rcases hJ' x hx with h | h
    · exact hin x h hm
    · have := hlt5 x hm; omega

set_option maxRecDepth 100000 in
set_option maxHeartbeats 4000000 in
theorem append_yes (v : Value) (b : List Int) (j : Nat) (J : List Nat) (p : Nat) (S : List Nat) (d : DK) (k : JK) (w : World) (hb : BytesAt w v b) (hbS : BytesOut v b S) (h0 : 0 < b.length) (h1 : b.length ≤ 2000) (hu8 : U8L b) (hj : JAt w j J p k) (hd : DiskAt w p S d)
    (hsep : ∀ x ∈ J, x ∉ S) (hn : needJ b ≤ k.blocks - k.used) (hup : d.down = false) (hin : k.from_ + k.blocks ≤ d.last.length) :
    Calls Try.prog 13 #[.pointer (some ⟨j, 0, none⟩), v] w fun e w' => e = .returned (.int .i64 0) ∧
      ∃ S' J', DiskAt w' p S' (d.layRec (k.from_ + k.used) k.life b (needJ b)) ∧ JAt w' j J' p (k.push b) ∧ Upd (S ++ J) w w' ∧ Sub w S S' ∧ Sub w J J' ∧ ∀ x ∈ J', x ∉ S' := by
  have hb' := hb
  obtain ⟨a, cap, rfl, hnc, hcm, hcell⟩ := hb
  obtain ⟨g, off, rfl, hgl, hcell⟩ := hcell (by intro e; rw [e] at h0; simp at h0)
  have hgS : g ∉ S := hbS g off _ _ (by intro e; rw [e] at h0; simp at h0) rfl
  have x1 := hj.wf.used
  have x2 := hj.wf.room
  have x3 := hj.wf.life0
  have x4 := hj.wf.life1
  have hjl := hj.lt
  have hdl := hd.lt
  have HJ := Lib.hid hj
  have HD := Lib.hid hd
  have HSEP := Lib.hid hsep
  have HCELL := Lib.hid hcell
  have HWF := Lib.hid (hj.wf.push h0 h1 hu8 hn)
  obtain ⟨nd, hnd⟩ : ∃ nd, nd = needJ b := ⟨_, rfl⟩
  rw [← hnd] at hn ⊢
  have hnd2 : nd = (b.length + 43) / 44 := hnd
  obtain ⟨n, hnx⟩ : ∃ n, n = b.length := ⟨_, rfl⟩
  rw [← hnx] at h0 h1 hnd2 hnc HCELL ⊢
  have hnd3 : 44 * nd ≤ n + 43 := by omega
  have hnd4 : n ≤ 44 * nd := by omega
  have HNX := Lib.hid hnx
  have HND := Lib.hid hnd
  have hj1 := (HJ.out.upd0 ((Upd.refl [] w).alloc (.cells #[.pointer (some ⟨j, 0, none⟩)] 28)))
  have q1 : ((n : Int) == 0) = false := by simp only [beq_eq_false_iff_ne, ne_eq]; omega
  have q2 : decide ((2000 : Int) < (n : Int)) = false := by simp only [decide_eq_false_iff_not]; omega
  have q3 : decide ((k.blocks : Int) - (k.used : Int) < ((n : Int) + 44 - 1) / 44) = false := by simp only [decide_eq_false_iff_not]; omega
  obtain ⟨w1, hw1⟩ : ∃ w1, w1 = w.alloc (.cells #[.pointer (some ⟨j, 0, none⟩)] 28) := ⟨_, rfl⟩
  have hbx : Blk w1 w.heap.size #[.pointer (some ⟨j, 0, none⟩)] 28 := by rw [hw1]; exact Blk.new _ _ _
  have hu1 : Upd [] w w1 := by rw [hw1]; exact (Upd.refl _ _).alloc _
  rw [← hw1] at hj1
  have HW1 := Lib.hid hw1
  have HU1 := Lib.hid hu1
  have HJ1 := Lib.hid hj1
  obtain ⟨bx, hbxe⟩ : ∃ bx, bx = w.heap.size := ⟨_, rfl⟩
  rw [← hbxe] at hbx
  have cbx := hbx.cell (o := 0) rfl
  have HBX := Lib.hid hbx
  have HBE := Lib.hid hbxe
  have hunfold := hj1
  obtain ⟨rv, rvs, T, rfl, j1, j2, j3, j4, j5, j6, j7⟩ := hunfold
  have c4 := j5.cell (o := 4) rfl
  have HJP : Hid (JP w1 j p k rv rvs T) := Lib.hid ⟨j1, j2, j3, j5, j6, j7⟩
  clear hnd2 hnd hnx hj1 hw1 hu1 hbx hbxe hb' hbS hcell hj hd hsep hu8 j1 j2 j3 j4 j6 j7
  go_enter Try.func13, Try.ntmps13
  go_upto_region 1 with fail
  rw [← HW1.out, ← HBE.out]
  go_wp2_with (go_at_call 20; refine (jroom_any j _ p k _ HJ1.out).mono ?_; rintro e w2 ⟨rfl, hu2⟩
               have cbx := (World.cell?_of_block (a := ⟨bx, 0, none⟩) (hu2.block bx HBX.out.lt (by simp))).trans cbx
               have c4 := (World.cell?_of_block (a := ⟨j, 4, none⟩) (hu2.block j (j5.lt) (by simp))).trans c4
               have HU2 := Lib.hid hu2
               clear hu2)
  have hu02 : Upd [] w w2 := HU1.out.trans HU2.out
  have hjw : Hid (JAt w2 j (j :: (rv.ownBlock.toList ++ T)) p k) := Lib.hid (HJ1.out.upd0 HU2.out)
  have hdw : Hid (DiskAt w2 p S d) := Lib.hid (HD.out.upd0 hu02)
  have hbw : Hid (Blk w2 bx #[.pointer (some ⟨j, 0, none⟩)] 28) := Lib.hid (HBX.out.upd HU2.out (by simp))
  have hcw : Hid (∀ i, i < n → w2.cell? ⟨g, off + i, none⟩ = some (.int .u8 (b.getD i 0))) := Lib.hid (fun i hi => (World.cell?_of_block (a := ⟨g, off + i, none⟩) (hu02.block g hgl (by simp))).trans (HCELL.out i hi))
  have hgw : g < w2.heap.size := Nat.lt_of_lt_of_le hgl hu02.size
  have hjw2 : Hid (Blk w2 j #[.pointer (some ⟨p, 0, none⟩), .int .i64 k.from_, .int .i64 k.blocks, .int .i64 k.life, .int .i64 k.used, rv] 68) := Lib.hid (j5.upd HU2.out (by simp))
  have hjS : j ∉ S := HSEP.out j (by simp)
  have hbS : bx ∉ S := fun hm => by have := hdl bx hm; have := HBE.out; omega
  have HU02 := Lib.hid hu02
  clear cbx c4 j5 hu02 q1 q2 q3
  go_loopw [6, 7] (fun u at_ wx => ∃ (i : Nat) (S' : List Nat), i ≤ nd ∧ u = .int .i64 ((k.used + i : Nat) : Int) ∧ at_ = .int .i64 ((44 * i : Nat) : Int) ∧ DiskAt wx p S' (d.layRec (k.from_ + k.used) k.life b i) ∧ Upd S w2 wx ∧ Sub w2 S S') (fun _ at_ _ => n + 44 - (intOf at_).toNat)
  case atStart => exact ⟨0, S, Nat.zero_le _, by go_num, by go_num, hdw.out, Upd.refl _ _, Sub.refl _ _⟩
  case round =>
    obtain ⟨i, S5, hi, rfl, rfl, hd5, hu5, hs5⟩ := hrel
    have hj5 := hjw2.out.upd hu5 hjS
    have hb5 := hbw.out.upd hu5 hbS
    have hc5 : ∀ i, i < n → wr.cell? ⟨g, off + i, none⟩ = some (.int .u8 (b.getD i 0)) := fun i hi => (World.cell?_of_block (a := ⟨g, off + i, none⟩) (hu5.block g hgw hgS)).trans (hcw.out i hi)
    have HD5 := Lib.hid hd5
    have HU5 := Lib.hid hu5
    have HS5 := Lib.hid hs5
    have HJ5 := Lib.hid hj5
    have HB5 := Lib.hid hb5
    have HC5 := Lib.hid hc5
    have cbx := hb5.cell (o := 0) rfl
    have hz5 := hu5.size
    obtain ⟨uv, huv⟩ : ∃ uv, uv = k.used + i := ⟨_, rfl⟩
    obtain ⟨av, hav⟩ : ∃ av, av = 44 * i := ⟨_, rfl⟩
    rw [← huv, ← hav]
    have huv1 : uv = k.used + i := huv
    have hav1 : av = 44 * i := hav
    have HUV := Lib.hid huv
    have HAV := Lib.hid hav
    clear hd5 hu5 hs5 hj5 hb5 hc5 huv hav
    by_cases hlt : i < nd
    · have hx0 : (0 : Int) ≤ (av : Int) := by omega
      have hx1 : (av : Int) < (n : Int) := by omega
      have hxn : av < n := by omega
      have hcode : (d.layRec (k.from_ + k.used) k.life b i).code ((k.from_ + uv : Nat) : Int) = 0 := by
        unfold DK.code; rw [DK.layRec_down, DK.layRec_last, hup]; simp; omega
      have hpos : ((k.from_ + uv : Nat) : Int) = ((k.from_ + k.used + i : Nat) : Int) := by rw [huv1, Nat.add_assoc]
      have hstep : (d.layRec (k.from_ + k.used) k.life b i).write ((k.from_ + uv : Nat) : Int) (blockJ k.life (b.drop av)) = d.layRec (k.from_ + k.used) k.life b (i + 1) := by rw [hpos, hav1]; rfl
      have hdl2 : (b.drop av).length = n - av := by rw [List.length_drop, ← HNX.out]
      have hcl : ∀ w : World, (∀ i, i < n → w.cell? ⟨g, off + i, none⟩ = some (Value.int .u8 (b.getD i 0))) → ∀ x, x < (b.drop av).length → w.cell? ⟨g, off + av + x, none⟩ = some (.int .u8 ((b.drop av).getD x 0)) := by
        intro w hc x hx
        rw [hdl2] at hx
        rw [Nat.add_assoc, hc (av + x) (by omega)]
        congr 2
        rw [List.getD_eq_getElem?_getD, List.getD_eq_getElem?_getD, List.getElem?_drop]
      have HCL := Lib.hid hcl
      have HDL2 := Lib.hid hdl2
      have HCODE := Lib.hid hcode
      have HSTEP := Lib.hid hstep
      have huvb : k.from_ + uv ≤ 4096 := by omega
      clear hcl hdl2 hcode hstep huv1 hav1 hpos
      go_upto_region 12 with fail
      refine held_start (fun w' => Blk w' bx #[.pointer (some ⟨j, 0, none⟩)] 28 ∧ Blk w' j #[.pointer (some ⟨p, 0, none⟩), .int .i64 k.from_, .int .i64 k.blocks, .int .i64 k.life, .int .i64 k.used, rv] 68) 17 mixed rfl ⟨HB5.out, HJ5.out⟩ (fun hHeld => ?_)
      refine held_take 0 41 (.pointer (some ⟨j, 0, none⟩)) rfl (by kernel_rfl) (by kernel_rfl) (by kernel_rfl) rfl (fun _ _ _ h => h) rfl hHeld (fun w hS => by have c := hS.1.cell (o := 0) rfl; go_simp) ?_
      simp only [List.setIfInBounds_toArray, List.set_cons_zero, List.set_cons_succ]
      refine held_take 1 42 (.pointer (some ⟨j, 0, none⟩)) rfl (by kernel_rfl) (by kernel_rfl) (by kernel_rfl) rfl (fun _ _ _ h => h) rfl hHeld (fun w hS => by go_simp) ?_
      simp only [List.setIfInBounds_toArray, List.set_cons_zero, List.set_cons_succ]
      refine held_take 2 43 (.pointer (some ⟨j, 0, none⟩)) rfl (by kernel_rfl) (by kernel_rfl) (by kernel_rfl) rfl (fun _ _ _ h => h) rfl hHeld (fun w hS => by go_simp) ?_
      simp only [List.setIfInBounds_toArray, List.set_cons_zero, List.set_cons_succ]
      refine held_take 3 44 (.pointer (some ⟨p, 0, none⟩)) rfl (by kernel_rfl) (by kernel_rfl) (by kernel_rfl) rfl (fun _ _ _ h => h) rfl hHeld (fun w hS => by have c := hS.2.cell (o := 0) rfl; go_simp) ?_
      simp only [List.setIfInBounds_toArray, List.set_cons_zero, List.set_cons_succ]
      refine held_take 4 45 (.pointer (some ⟨j, 0, none⟩)) rfl (by kernel_rfl) (by kernel_rfl) (by kernel_rfl) rfl (fun _ _ _ h => h) rfl hHeld (fun w hS => by have c := hS.1.cell (o := 0) rfl; go_simp) ?_
      simp only [List.setIfInBounds_toArray, List.set_cons_zero, List.set_cons_succ]
      refine held_take 5 46 (.pointer (some ⟨j, 0, none⟩)) rfl (by kernel_rfl) (by kernel_rfl) (by kernel_rfl) rfl (fun _ _ _ h => h) rfl hHeld (fun w hS => by go_simp) ?_
      simp only [List.setIfInBounds_toArray, List.set_cons_zero, List.set_cons_succ]
      refine held_take 6 47 (.pointer (some ⟨j, 1, none⟩)) rfl (by kernel_rfl) (by kernel_rfl) (by kernel_rfl) rfl (fun _ _ _ h => h) rfl hHeld (fun w hS => by go_simp) ?_
      simp only [List.setIfInBounds_toArray, List.set_cons_zero, List.set_cons_succ]
      refine held_take 7 48 (.int .i64 k.from_) rfl (by kernel_rfl) (by kernel_rfl) (by kernel_rfl) rfl (fun _ _ _ h => h) rfl hHeld (fun w hS => by have c := hS.2.cell (o := 1) rfl; go_simp) ?_
      simp only [List.setIfInBounds_toArray, List.set_cons_zero, List.set_cons_succ]
      refine held_take 8 49 (.int .i64 (uv : Int)) rfl (by kernel_rfl) (by kernel_rfl) (by kernel_rfl) rfl (fun _ _ _ h => h) rfl hHeld (fun w hS => by rfl) ?_
      simp only [List.setIfInBounds_toArray, List.set_cons_zero, List.set_cons_succ]
      refine held_take 9 50 (.int .i64 ((k.from_ + uv : Nat) : Int)) rfl (by kernel_rfl) (by kernel_rfl) (by kernel_rfl) rfl (fun _ _ _ h => h) rfl hHeld (fun w hS => by have e : IntKind.i64.wrap ((k.from_ : Int) + (uv : Int)) = ((k.from_ + uv : Nat) : Int) := (by rw [IntWalk.i64_in _ (by omega)]; omega); go_simp) ?_
      simp only [List.setIfInBounds_toArray, List.set_cons_zero, List.set_cons_succ]
      refine held_take 10 51 (.func (.func 38) #[] #[.pointer (some ⟨bx, 0, none⟩)]) rfl (by kernel_rfl) (by kernel_rfl) (by kernel_rfl) rfl (fun _ _ _ h => h) rfl hHeld (fun w hS => by rfl) ?_
      simp only [List.setIfInBounds_toArray, List.set_cons_zero, List.set_cons_succ]
      refine held_take 11 52 (.slice (some ⟨g, off, none⟩) n cap) rfl (by kernel_rfl) (by kernel_rfl) (by kernel_rfl) rfl (fun _ _ _ h => h) rfl hHeld (fun w hS => by rfl) ?_
      simp only [List.setIfInBounds_toArray, List.set_cons_zero, List.set_cons_succ]
      refine held_take 12 53 (.int .i64 (av : Int)) rfl (by kernel_rfl) (by kernel_rfl) (by kernel_rfl) rfl (fun _ _ _ h => h) rfl hHeld (fun w hS => by rfl) ?_
      simp only [List.setIfInBounds_toArray, List.set_cons_zero, List.set_cons_succ]
      refine held_take 13 54 (.slice (some ⟨g, off + av, none⟩) (n - av) (cap - av)) rfl (by kernel_rfl) (by kernel_rfl) (by kernel_rfl) rfl (fun _ _ _ h => h) rfl hHeld (fun w hS => by exact exec_slice_l 31 (.tmp 52) (.tmp 53) rfl Try.underlying31 (by kernel_rfl) rfl rfl (by omega) (by omega)) ?_
      simp only [List.setIfInBounds_toArray, List.set_cons_zero, List.set_cons_succ]
      refine held_next 14 55 rfl (by kernel_rfl) rfl rfl (fun K hK => ?_)
      go_simp
      have hcw5 : ∀ i, i < n → wr.drew.cell? ⟨g, off + i, none⟩ = some (.int .u8 (b.getD i 0)) := HC5.out
      have hbl := blockf_any g (off + av) (cap - av) bx j (b.drop av) k.life wr.drew (HCL.out _ hcw5) (Nat.lt_of_lt_of_le hgw hz5) (by rw [HDL2.out]; omega) (by rw [HDL2.out]; omega) (hHeld.1.cell (o := 0) rfl) (hHeld.2.cell (o := 3) rfl) (by omega) x4
      rw [HDL2.out] at hbl
      refine hbl.mono ?_
      rintro e w6 ⟨rfl, hu6⟩
      have HD6 := Lib.hid (HD5.out.upd0 (((Upd.refl [] wr).drew).trans hu6))
      have HU6 := Lib.hid (HU5.out.trans ((((Upd.refl [] wr).drew).trans hu6).mono (by simp)))
      have hs6 := hu6.size
      refine hK.out _ _ ⟨hHeld.1.upd hu6 (by simp), hHeld.2.upd hu6 (by simp)⟩ (fun hHeld => ?_)
      clear hu6 hK K hbl hcw5
      simp only [List.setIfInBounds_toArray, List.set_cons_zero, List.set_cons_succ]
      refine held_next 15 56 rfl (by kernel_rfl) rfl rfl (fun K hK => ?_)
      go_simp
      refine (write_any p S5 (d.layRec (k.from_ + k.used) k.life b i) ((k.from_ + uv : Nat) : Int) (blockJ k.life (b.drop av)) w6 HD6.out (blockJ_len _ _)).mono ?_
      rw [HCODE.out, HSTEP.out]
      rintro e w7 ⟨rfl, S7, hd7, hu7, hs7⟩
      have hbS5 : bx ∉ S5 := fun hm => by
        rcases HS5.out bx hm with h | h
        · exact hbS h
        · have := hbw.out.lt; omega
      have hjS5 : j ∉ S5 := fun hm => by
        rcases HS5.out j hm with h | h
        · exact hjS h
        · have := hjw2.out.lt; omega
      have HD7 := Lib.hid hd7
      have HU7 := Lib.hid (HU6.out.then hu7 (fun x hx => (HS5.out x hx)))
      have HS7 : Hid (Sub w2 S S7) := Lib.hid (fun x hx => by
        rcases hs7 x hx with h | h
        · exact HS5.out x h
        · have : wr.heap.size ≤ w6.heap.size := hs6
          exact .inr (by omega))
      refine hK.out _ _ ⟨hHeld.1.upd hu7 hbS5, hHeld.2.upd hu7 hjS5⟩ (fun hHeld => ?_)
      clear hd7 hu7 hs7 hK K
      simp only [List.setIfInBounds_toArray, List.set_cons_zero, List.set_cons_succ]
      refine held_take 16 8 (.int .i64 0) rfl (by kernel_rfl) (by kernel_rfl) (by kernel_rfl) rfl (fun _ _ _ h => h) rfl hHeld (fun w hS => by rfl) ?_
      simp only [List.setIfInBounds_toArray, List.set_cons_zero, List.set_cons_succ]
      refine held_done (by kernel_rfl) ?_
      have hav4 : (av : Int) + 44 = ((44 * (i + 1) : Nat) : Int) := by rw [HAV.out]; omega
      have huv4 : (uv : Int) + 1 = ((k.used + (i + 1) : Nat) : Int) := by rw [HUV.out]; omega
      have HAV4 := Lib.hid hav4
      have HUV4 := Lib.hid huv4
      have havn : av ≤ 2000 := by omega
      clear hav4 huv4 hHeld HD6 HU6 HD5 HU5 HS5 HJ5 HB5 HC5 cbx
      go_wp2_with fail
      go_roundw
      case rel => exact ⟨i + 1, S7, by omega, by rw [HUV4.out], by rw [HAV4.out], HD7.out, HU7.out, HS7.out⟩
      case measure => simp [intOf]; omega
    · have hjp6 : JP wr j p k rv rvs T := (HJP.out.upd HU2.out (by simp)).upd HU5.out HSEP.out
      have hlo6 : ∀ x ∈ j :: (rv.ownBlock.toList ++ T), x < wr.heap.size := fun x hx => by have h8 := hjl x hx; have h9 := HU02.out.size; omega
      have HJP6 := Lib.hid hjp6
      have HLO6 := Lib.hid hlo6
      clear hjp6 hlo6
      obtain ⟨rl, hrlx⟩ : ∃ rl, rl = k.recs.length := ⟨_, rfl⟩
      have hrl4 : rl ≤ 4096 := by have h8 := HJ.out.wf.recs; omega
      have HRLX := Lib.hid hrlx
      have hor := HJP6.out.2.2.2.2.1
      rw [← hrlx] at hor
      have HOR := Lib.hid hor
      have hrvj : ∀ x, rv.ownBlock = some x → x ≠ bx ∧ x ≠ j := fun x hx => ⟨fun e => by have h8 := hjl x (by simp [hx]); have := HBE.out; omega, (HJP6.out.2.1 x hx).1⟩
      have hbxj : bx ≠ j := fun e => by have h8 := hjl j (by simp); have := HBE.out; omega
      have HRVJ := Lib.hid hrvj
      obtain ⟨i0, hi0, hz0, hz1, hz2⟩ := info_parts info_row
      clear hor hrvj hrlx
      obtain rfl : i = nd := by omega
      have hxa : (n : Int) ≤ (av : Int) := by omega
      have hxd : decide (av < n) = false := by simp only [decide_eq_false_iff_not]; omega
      have huvb : k.from_ + uv ≤ 4096 := by omega
      clear huv1 hav1
      have hbAt : BytesAt wr (.slice (some ⟨g, off, none⟩) n cap) b := ⟨_, _, by rw [← HNX.out], by rw [← HNX.out]; exact hnc, hcm, fun _ => ⟨g, off, rfl, Nat.lt_of_lt_of_le hgw hz5, by rw [← HNX.out]; exact HC5.out⟩⟩
      have HBA := Lib.hid hbAt
      have hjj := Lib.hid (hjw.out.upd HU5.out HSEP.out)
      clear hlt hbAt
      go_upto_region 16 with fail
      refine held_start (fun w' => Blk w' bx #[.pointer (some ⟨j, 0, none⟩)] 28) 17 mixed rfl HB5.out (fun hHeld => ?_)
      refine held_take 0 62 (.pointer (some ⟨j, 0, none⟩)) rfl (by kernel_rfl) (by kernel_rfl) (by kernel_rfl) rfl (fun _ _ _ h => h) rfl hHeld (fun w hS => by have c := hS.cell (o := 0) rfl; go_simp) ?_
      simp only [List.setIfInBounds_toArray, List.set_cons_zero, List.set_cons_succ]
      refine held_take 1 63 (.pointer (some ⟨j, 0, none⟩)) rfl (by kernel_rfl) (by kernel_rfl) (by kernel_rfl) rfl (fun _ _ _ h => h) rfl hHeld (fun w hS => by have c := hS.cell (o := 0) rfl; go_simp) ?_
      simp only [List.setIfInBounds_toArray, List.set_cons_zero, List.set_cons_succ]
      refine held_take 2 64 (.int .i64 (uv : Int)) rfl (by kernel_rfl) (by kernel_rfl) (by kernel_rfl) rfl (fun _ _ _ h => h) rfl hHeld (fun w hS => by rfl) ?_
      simp only [List.setIfInBounds_toArray, List.set_cons_zero, List.set_cons_succ]
      refine held_take 3 65 (.pointer (some ⟨j, 0, none⟩)) rfl (by kernel_rfl) (by kernel_rfl) (by kernel_rfl) rfl (fun _ _ _ h => h) rfl hHeld (fun w hS => by have c := hS.cell (o := 0) rfl; go_simp) ?_
      simp only [List.setIfInBounds_toArray, List.set_cons_zero, List.set_cons_succ]
      refine held_take 4 66 (.pointer (some ⟨j, 0, none⟩)) rfl (by kernel_rfl) (by kernel_rfl) (by kernel_rfl) rfl (fun _ _ _ h => h) rfl hHeld (fun w hS => by go_simp) ?_
      simp only [List.setIfInBounds_toArray, List.set_cons_zero, List.set_cons_succ]
      refine held_take 5 67 (.pointer (some ⟨j, 5, none⟩)) rfl (by kernel_rfl) (by kernel_rfl) (by kernel_rfl) rfl (fun _ _ _ h => h) rfl hHeld (fun w hS => by go_simp) ?_
      simp only [List.setIfInBounds_toArray, List.set_cons_zero, List.set_cons_succ]
      refine held_take 7 69 (.slice (some ⟨g, off, none⟩) n cap) rfl (by kernel_rfl) (by kernel_rfl) (by kernel_rfl) rfl (fun _ _ _ h => h) rfl hHeld (fun w hS => by rfl) ?_
      simp only [List.setIfInBounds_toArray, List.set_cons_zero, List.set_cons_succ]
      refine wpAnyH_ready (rs := [6, 8]) (by kernel_rfl) (by simp) (held_cons 6 68 rfl rfl rfl (fun K hK => ?_) (held_cons 8 70 rfl rfl rfl (fun K hK => ?_) AllReadyH.nil))
      · have c5 : wr.cell? ⟨j, 5, none⟩ = some rv := (hjw2.out.upd HU5.out hjS).cell (o := 5) rfl
        go_simp
        refine hK.out rv _ hHeld (fun hHeld => ?_)
        clear hK K c5
        simp only [List.setIfInBounds_toArray, List.set_cons_zero, List.set_cons_succ]
        refine held_next 8 70 rfl (by kernel_rfl) rfl rfl (fun K hK => ?_)
        go_simp
        refine (bclone_any _ b _ (HBA.out.upd0 ((Upd.refl [] wr).drew)) (by rw [← HNX.out]; omega)).mono ?_
        rintro e w6 ⟨cv, rfl, hcb, hcn, hu6⟩
        obtain ⟨ca, cc, rfl⟩ := hcb.form
        rw [← HNX.out] at hcb hcn ⊢
        have HCB := Lib.hid hcb
        have HCN := Lib.hid hcn
        have HU6 := Lib.hid (((Upd.refl [] wr).drew).trans hu6)
        have hz6 := hu6.size
        refine hK.out _ _ (hHeld.upd hu6 (by simp)) (fun hHeld => ?_)
        clear hcb hcn hu6 hK K
        simp only [List.setIfInBounds_toArray, List.set_cons_zero, List.set_cons_succ]
        refine held_next 9 71 rfl (by kernel_rfl) rfl rfl (fun K hK => ?_)
        go_simp
        refine hK.out (.slice (some ⟨w6.heap.size, 0, none⟩) 1 1) _ (hHeld.alloc _) (fun hHeld => ?_)
        clear hK K
        try simp only [List.setIfInBounds_toArray, List.set_cons_zero, List.set_cons_succ]
        have hw7u : Upd [] w6 (w6.alloc (.cells #[.slice ca n cc] 31)) := (Upd.refl _ _).alloc _
        have hb7 : Blk (w6.alloc (.cells #[.slice ca n cc] 31)) w6.heap.size #[.slice ca n cc] 31 := Blk.new _ _ _
        have hnews : ∀ x u, ([Value.slice ca n cc])[x]? = some u → (w6.alloc (.cells #[.slice ca n cc] 31)).cell? ((⟨w6.heap.size, 0, none⟩ : Addr).add x) = some u := by
          intro x u hx
          match x, hx with
          | 0, hx => simp at hx; subst hx; exact hb7.cell rfl
        refine held_next 10 72 rfl (by kernel_rfl) rfl rfl (fun K hK => ?_)
        refine wp_append_lies _ (.tmp 68) (.tmp 71) 37 rfl 0 31 i0 (.slice none 0 0) 1 24 Try.underlying37 hi0 hz0 hz1 hz2 rfl (by decide) rv rl rvs rfl (own_upd HOR.out (HU6.out.trans hw7u) (by simp)) ⟨w6.heap.size, 0, none⟩ 1 1 [.slice ca n cc] rfl rfl hnews (fun u hu => one_slice ca n cc u (by simpa [Value.cells] using hu)) (by decide) (by unfold maxLen; omega) (by omega) (Nat.zero_le _) (w6.heap.size + 1) (by simp) (fun g2 cap2 w9 ho9 hg9 hat9 hlt9 => ?_)
        have hu9 : Upd rv.ownBlock.toList w6 w9 := ((Upd.refl _ _).alloc _).grown hg9 (fun k hk => .inl (by simp [hk]))
        have hat : rv.ownBlock = some g2 ∨ w6.heap.size < g2 := by rcases hat9 with h | h; exact .inl h; exact .inr (by omega)
        have hb9 : Blk w9 bx #[.pointer (some ⟨j, 0, none⟩)] 28 := (HB5.out.upd HU6.out (by simp)).upd hu9 (fun hm => (HRVJ.out bx (by simpa using hm)).1 rfl)
        have hj9 := ((hjw2.out.upd HU5.out hjS).upd HU6.out (by simp)).upd hu9 (fun hm => (HRVJ.out j (by simpa using hm)).2 rfl)
        have hcl := append_close (uv := uv) (HJP6.out.upd HU6.out (by simp)) HCB.out HCN.out HLO6.out HWF.out ho9 HRLX.out (by rw [HUV.out, HND.out]) hu9 hat
        have HCL := Lib.hid hcl
        have HAT := Lib.hid hat
        have hc4 := hj9.cell (o := 4) rfl
        have hc5 := hj9.cell (o := 5) rfl
        have hf4 := hj9.free 4
        have hf5 := hj9.free 5
        refine hK.out _ _ hb9 (fun hHeld => ?_)
        clear hK K hw7u hb7 hnews ho9 hg9 hat9 hlt9 hu9 hat hb9 hcl hj9
        simp only [List.setIfInBounds_toArray, List.set_cons_zero, List.set_cons_succ]
        refine held_take 11 73 (.pointer (some ⟨j, 0, none⟩)) rfl (by kernel_rfl) (by kernel_rfl) (by kernel_rfl) rfl (fun _ _ _ h => h) rfl hHeld (fun w hS => by go_simp) ?_
        simp only [List.setIfInBounds_toArray, List.set_cons_zero, List.set_cons_succ]
        refine held_take 12 74 (.pointer (some ⟨j, 4, none⟩)) rfl (by kernel_rfl) (by kernel_rfl) (by kernel_rfl) rfl (fun _ _ _ h => h) rfl hHeld (fun w hS => by go_simp) ?_
        simp only [List.setIfInBounds_toArray, List.set_cons_zero, List.set_cons_succ]
        refine held_store 13 rfl (by kernel_rfl) rfl rfl (fun K hK => ?_)
        go_simp
        refine hK.out _ (hHeld.set_other hbxj _) (fun hHeld => ?_)
        clear hK K
        try simp only [List.setIfInBounds_toArray, List.set_cons_zero, List.set_cons_succ]
        refine held_take 14 75 (.pointer (some ⟨j, 0, none⟩)) rfl (by kernel_rfl) (by kernel_rfl) (by kernel_rfl) rfl (fun _ _ _ h => h) rfl hHeld (fun w hS => by go_simp) ?_
        simp only [List.setIfInBounds_toArray, List.set_cons_zero, List.set_cons_succ]
        refine held_take 15 76 (.pointer (some ⟨j, 5, none⟩)) rfl (by kernel_rfl) (by kernel_rfl) (by kernel_rfl) rfl (fun _ _ _ h => h) rfl hHeld (fun w hS => by go_simp) ?_
        simp only [List.setIfInBounds_toArray, List.set_cons_zero, List.set_cons_succ]
        refine held_store 16 rfl (by kernel_rfl) rfl rfl (fun K hK => ?_)
        go_simp
        refine hK.out _ ((hHeld.set_other hbxj _)) (fun hHeld => ?_)
        clear hK K
        try simp only [List.setIfInBounds_toArray, List.set_cons_zero, List.set_cons_succ]
        refine held_done (by kernel_rfl) ?_
        go_wp2
        go_ret
        have hout := append_out HU02.out HU5.out HU6.out HCL.out.2 HD5.out HS5.out hjl HSEP.out HAT.out HCN.out
        exact ⟨rfl, S5, _, hout.1, HCL.out.1, hout.2.1, hout.2.2.1, hout.2.2.2.1, hout.2.2.2.2⟩
      · go_simp
        refine (bclone_any _ b _ (HBA.out.upd0 ((Upd.refl [] wr).drew)) (by rw [← HNX.out]; omega)).mono ?_
        rintro e w6 ⟨cv, rfl, hcb, hcn, hu6⟩
        obtain ⟨ca, cc, rfl⟩ := hcb.form
        rw [← HNX.out] at hcb hcn ⊢
        have HCB := Lib.hid hcb
        have HCN := Lib.hid hcn
        have HU6 := Lib.hid (((Upd.refl [] wr).drew).trans hu6)
        have hz6 := hu6.size
        refine hK.out _ _ (hHeld.upd hu6 (by simp)) (fun hHeld => ?_)
        clear hcb hcn hu6 hK K
        simp only [List.setIfInBounds_toArray, List.set_cons_zero, List.set_cons_succ]
        refine wpAnyH_ready (rs := [6, 9]) (by kernel_rfl) (by simp) (held_cons 6 68 rfl rfl rfl (fun K hK => ?_) (held_cons 9 71 rfl rfl rfl (fun K hK => ?_) AllReadyH.nil))
        · have c5 : w6.cell? ⟨j, 5, none⟩ = some rv := ((hjw2.out.upd HU5.out hjS).upd HU6.out (by simp)).cell (o := 5) rfl
          go_simp
          refine hK.out rv _ hHeld (fun hHeld => ?_)
          clear hK K c5
          simp only [List.setIfInBounds_toArray, List.set_cons_zero, List.set_cons_succ]
          refine held_next 9 71 rfl (by kernel_rfl) rfl rfl (fun K hK => ?_)
          go_simp
          refine hK.out (.slice (some ⟨w6.heap.size, 0, none⟩) 1 1) _ (hHeld.alloc _) (fun hHeld => ?_)
          clear hK K
          try simp only [List.setIfInBounds_toArray, List.set_cons_zero, List.set_cons_succ]
          have hw7u : Upd [] w6 (w6.alloc (.cells #[.slice ca n cc] 31)) := (Upd.refl _ _).alloc _
          have hb7 : Blk (w6.alloc (.cells #[.slice ca n cc] 31)) w6.heap.size #[.slice ca n cc] 31 := Blk.new _ _ _
          have hnews : ∀ x u, ([Value.slice ca n cc])[x]? = some u → (w6.alloc (.cells #[.slice ca n cc] 31)).cell? ((⟨w6.heap.size, 0, none⟩ : Addr).add x) = some u := by
            intro x u hx
            match x, hx with
            | 0, hx => simp at hx; subst hx; exact hb7.cell rfl
          refine held_next 10 72 rfl (by kernel_rfl) rfl rfl (fun K hK => ?_)
          refine wp_append_lies _ (.tmp 68) (.tmp 71) 37 rfl 0 31 i0 (.slice none 0 0) 1 24 Try.underlying37 hi0 hz0 hz1 hz2 rfl (by decide) rv rl rvs rfl (own_upd HOR.out (HU6.out.trans hw7u) (by simp)) ⟨w6.heap.size, 0, none⟩ 1 1 [.slice ca n cc] rfl rfl hnews (fun u hu => one_slice ca n cc u (by simpa [Value.cells] using hu)) (by decide) (by unfold maxLen; omega) (by omega) (Nat.zero_le _) (w6.heap.size + 1) (by simp) (fun g2 cap2 w9 ho9 hg9 hat9 hlt9 => ?_)
          have hu9 : Upd rv.ownBlock.toList w6 w9 := ((Upd.refl _ _).alloc _).grown hg9 (fun k hk => .inl (by simp [hk]))
          have hat : rv.ownBlock = some g2 ∨ w6.heap.size < g2 := by rcases hat9 with h | h; exact .inl h; exact .inr (by omega)
          have hb9 : Blk w9 bx #[.pointer (some ⟨j, 0, none⟩)] 28 := (HB5.out.upd HU6.out (by simp)).upd hu9 (fun hm => (HRVJ.out bx (by simpa using hm)).1 rfl)
          have hj9 := ((hjw2.out.upd HU5.out hjS).upd HU6.out (by simp)).upd hu9 (fun hm => (HRVJ.out j (by simpa using hm)).2 rfl)
          have hcl := append_close (uv := uv) (HJP6.out.upd HU6.out (by simp)) HCB.out HCN.out HLO6.out HWF.out ho9 HRLX.out (by rw [HUV.out, HND.out]) hu9 hat
          have HCL := Lib.hid hcl
          have HAT := Lib.hid hat
          have hc4 := hj9.cell (o := 4) rfl
          have hc5 := hj9.cell (o := 5) rfl
          have hf4 := hj9.free 4
          have hf5 := hj9.free 5
          refine hK.out _ _ hb9 (fun hHeld => ?_)
          clear hK K hw7u hb7 hnews ho9 hg9 hat9 hlt9 hu9 hat hb9 hcl hj9
          simp only [List.setIfInBounds_toArray, List.set_cons_zero, List.set_cons_succ]
          refine held_take 11 73 (.pointer (some ⟨j, 0, none⟩)) rfl (by kernel_rfl) (by kernel_rfl) (by kernel_rfl) rfl (fun _ _ _ h => h) rfl hHeld (fun w hS => by go_simp) ?_
          simp only [List.setIfInBounds_toArray, List.set_cons_zero, List.set_cons_succ]
          refine held_take 12 74 (.pointer (some ⟨j, 4, none⟩)) rfl (by kernel_rfl) (by kernel_rfl) (by kernel_rfl) rfl (fun _ _ _ h => h) rfl hHeld (fun w hS => by go_simp) ?_
          simp only [List.setIfInBounds_toArray, List.set_cons_zero, List.set_cons_succ]
          refine held_store 13 rfl (by kernel_rfl) rfl rfl (fun K hK => ?_)
          go_simp
          refine hK.out _ (hHeld.set_other hbxj _) (fun hHeld => ?_)
          clear hK K
          try simp only [List.setIfInBounds_toArray, List.set_cons_zero, List.set_cons_succ]
          refine held_take 14 75 (.pointer (some ⟨j, 0, none⟩)) rfl (by kernel_rfl) (by kernel_rfl) (by kernel_rfl) rfl (fun _ _ _ h => h) rfl hHeld (fun w hS => by go_simp) ?_
          simp only [List.setIfInBounds_toArray, List.set_cons_zero, List.set_cons_succ]
          refine held_take 15 76 (.pointer (some ⟨j, 5, none⟩)) rfl (by kernel_rfl) (by kernel_rfl) (by kernel_rfl) rfl (fun _ _ _ h => h) rfl hHeld (fun w hS => by go_simp) ?_
          simp only [List.setIfInBounds_toArray, List.set_cons_zero, List.set_cons_succ]
          refine held_store 16 rfl (by kernel_rfl) rfl rfl (fun K hK => ?_)
          go_simp
          refine hK.out _ ((hHeld.set_other hbxj _)) (fun hHeld => ?_)
          clear hK K
          try simp only [List.setIfInBounds_toArray, List.set_cons_zero, List.set_cons_succ]
          refine held_done (by kernel_rfl) ?_
          go_wp2
          go_ret
          have hout := append_out HU02.out HU5.out HU6.out HCL.out.2 HD5.out HS5.out hjl HSEP.out HAT.out HCN.out
          exact ⟨rfl, S5, _, hout.1, HCL.out.1, hout.2.1, hout.2.2.1, hout.2.2.2.1, hout.2.2.2.2⟩
        · go_simp
          refine hK.out (.slice (some ⟨w6.heap.size, 0, none⟩) 1 1) _ (hHeld.alloc _) (fun hHeld => ?_)
          clear hK K
          try simp only [List.setIfInBounds_toArray, List.set_cons_zero, List.set_cons_succ]
          refine held_next 6 68 rfl (by kernel_rfl) rfl rfl (fun K hK => ?_)
          have c5 : (w6.alloc (.cells #[.slice ca n cc] 31)).cell? ⟨j, 5, none⟩ = some rv := (((hjw2.out.upd HU5.out hjS).upd HU6.out (by simp)).alloc _).cell (o := 5) rfl
          go_simp
          refine hK.out rv _ hHeld (fun hHeld => ?_)
          clear hK K c5
          simp only [List.setIfInBounds_toArray, List.set_cons_zero, List.set_cons_succ]
          have hw7u : Upd [] w6 (w6.alloc (.cells #[.slice ca n cc] 31)) := (Upd.refl _ _).alloc _
          have hb7 : Blk (w6.alloc (.cells #[.slice ca n cc] 31)) w6.heap.size #[.slice ca n cc] 31 := Blk.new _ _ _
          have hnews : ∀ x u, ([Value.slice ca n cc])[x]? = some u → (w6.alloc (.cells #[.slice ca n cc] 31)).cell? ((⟨w6.heap.size, 0, none⟩ : Addr).add x) = some u := by
            intro x u hx
            match x, hx with
            | 0, hx => simp at hx; subst hx; exact hb7.cell rfl
          refine held_next 10 72 rfl (by kernel_rfl) rfl rfl (fun K hK => ?_)
          refine wp_append_lies _ (.tmp 68) (.tmp 71) 37 rfl 0 31 i0 (.slice none 0 0) 1 24 Try.underlying37 hi0 hz0 hz1 hz2 rfl (by decide) rv rl rvs rfl (own_upd HOR.out (HU6.out.trans hw7u) (by simp)) ⟨w6.heap.size, 0, none⟩ 1 1 [.slice ca n cc] rfl rfl hnews (fun u hu => one_slice ca n cc u (by simpa [Value.cells] using hu)) (by decide) (by unfold maxLen; omega) (by omega) (Nat.zero_le _) (w6.heap.size + 1) (by simp) (fun g2 cap2 w9 ho9 hg9 hat9 hlt9 => ?_)
          have hu9 : Upd rv.ownBlock.toList w6 w9 := ((Upd.refl _ _).alloc _).grown hg9 (fun k hk => .inl (by simp [hk]))
          have hat : rv.ownBlock = some g2 ∨ w6.heap.size < g2 := by rcases hat9 with h | h; exact .inl h; exact .inr (by omega)
          have hb9 : Blk w9 bx #[.pointer (some ⟨j, 0, none⟩)] 28 := (HB5.out.upd HU6.out (by simp)).upd hu9 (fun hm => (HRVJ.out bx (by simpa using hm)).1 rfl)
          have hj9 := ((hjw2.out.upd HU5.out hjS).upd HU6.out (by simp)).upd hu9 (fun hm => (HRVJ.out j (by simpa using hm)).2 rfl)
          have hcl := append_close (uv := uv) (HJP6.out.upd HU6.out (by simp)) HCB.out HCN.out HLO6.out HWF.out ho9 HRLX.out (by rw [HUV.out, HND.out]) hu9 hat
          have HCL := Lib.hid hcl
          have HAT := Lib.hid hat
          have hc4 := hj9.cell (o := 4) rfl
          have hc5 := hj9.cell (o := 5) rfl
          have hf4 := hj9.free 4
          have hf5 := hj9.free 5
          refine hK.out _ _ hb9 (fun hHeld => ?_)
          clear hK K hw7u hb7 hnews ho9 hg9 hat9 hlt9 hu9 hat hb9 hcl hj9
          simp only [List.setIfInBounds_toArray, List.set_cons_zero, List.set_cons_succ]
          refine held_take 11 73 (.pointer (some ⟨j, 0, none⟩)) rfl (by kernel_rfl) (by kernel_rfl) (by kernel_rfl) rfl (fun _ _ _ h => h) rfl hHeld (fun w hS => by go_simp) ?_
          simp only [List.setIfInBounds_toArray, List.set_cons_zero, List.set_cons_succ]
          refine held_take 12 74 (.pointer (some ⟨j, 4, none⟩)) rfl (by kernel_rfl) (by kernel_rfl) (by kernel_rfl) rfl (fun _ _ _ h => h) rfl hHeld (fun w hS => by go_simp) ?_
          simp only [List.setIfInBounds_toArray, List.set_cons_zero, List.set_cons_succ]
          refine held_store 13 rfl (by kernel_rfl) rfl rfl (fun K hK => ?_)
          go_simp
          refine hK.out _ (hHeld.set_other hbxj _) (fun hHeld => ?_)
          clear hK K
          try simp only [List.setIfInBounds_toArray, List.set_cons_zero, List.set_cons_succ]
          refine held_take 14 75 (.pointer (some ⟨j, 0, none⟩)) rfl (by kernel_rfl) (by kernel_rfl) (by kernel_rfl) rfl (fun _ _ _ h => h) rfl hHeld (fun w hS => by go_simp) ?_
          simp only [List.setIfInBounds_toArray, List.set_cons_zero, List.set_cons_succ]
          refine held_take 15 76 (.pointer (some ⟨j, 5, none⟩)) rfl (by kernel_rfl) (by kernel_rfl) (by kernel_rfl) rfl (fun _ _ _ h => h) rfl hHeld (fun w hS => by go_simp) ?_
          simp only [List.setIfInBounds_toArray, List.set_cons_zero, List.set_cons_succ]
          refine held_store 16 rfl (by kernel_rfl) rfl rfl (fun K hK => ?_)
          go_simp
          refine hK.out _ ((hHeld.set_other hbxj _)) (fun hHeld => ?_)
          clear hK K
          try simp only [List.setIfInBounds_toArray, List.set_cons_zero, List.set_cons_succ]
          refine held_done (by kernel_rfl) ?_
          go_wp2
          go_ret
          have hout := append_out HU02.out HU5.out HU6.out HCL.out.2 HD5.out HS5.out hjl HSEP.out HAT.out HCN.out
          exact ⟨rfl, S5, _, hout.1, HCL.out.1, hout.2.1, hout.2.2.1, hout.2.2.2.1, hout.2.2.2.2⟩

end Go.Proofs.Ytfjmkdjbeoafjaa
