/- The walks of the document's Append: on a disk that is down; where it appends. -/
import Derived.Test.YtfjmkdjbeoafjaaRefS
namespace Go.Proofs.Ytfjmkdjbeoafjaa
open Go.ChangeShapes Go.WideShapes Go.ChangeAt Go.RowKit

set_option maxRecDepth 100000 in
set_option maxHeartbeats 4000000 in
theorem rappend_down (v : Value) (b : List Int) (j : Nat) (J : List Nat) (q : Nat) (R : List Nat) (d : DK) (k : JK) (w : World) (hb : BytesAt w v b) (h0 : 0 < b.length) (h1 : b.length ≤ 2000) (hj : RJAt w j J q k) (hr : RefAt w q R d) (hn : needJ b ≤ k.blocks - k.used) (hdn : d.down = true) :
    Calls Try.prog 23 #[.pointer (some ⟨j, 0, none⟩), v] w fun e w' => e = .returned (.int .i64 60) ∧ Upd [] w w' := by
  have hnd := fun w (h : BytesAt w v b) => rneed_any v b w h (by omega)
  have hblk := fun (i : Nat) (hi : i < needJ b) (w : World) (h : BytesAt w v b) => rblock_any v b i k.life w h h1 (by unfold needJ at hi; omega) (by have := hj.wf.life0; omega) hj.wf.life1
  have hcode : ∀ n, d.code n = 60 := fun n => by unfold DK.code; rw [if_pos hdn]
  have hwr := fun (n : Int) (x : Array Value) (w : World) (h : RefAt w q R d) => rwrite_no q R d n x w h (by rw [hcode n]; omega)
  have HBA := Lib.hid hb
  obtain ⟨a, cap, rfl, -⟩ := hb
  have x1 := hj.wf.used
  have x2 := hj.wf.room
  obtain ⟨rv, rvs, T, rfl, -, -, -, -, h5, -, -⟩ := hj
  have c2 := h5.cell (o := 2) rfl
  have c4 := h5.cell (o := 4) rfl
  obtain ⟨nd, hnde⟩ : ∃ nd, nd = needJ b := ⟨_, rfl⟩
  rw [← hnde] at hn hnd hblk
  have HN := Lib.hid hnd
  have hnd1 : nd ≤ 46 := by rw [hnde]; unfold needJ; omega
  have hnd0 : 0 < nd := by rw [hnde]; unfold needJ; omega
  obtain ⟨n, hnx⟩ : ∃ n, n = b.length := ⟨_, rfl⟩
  rw [← hnx] at h0 h1 HN HBA hblk ⊢
  have HJ5 := Lib.hid (h5.upd ((Upd.refl [] w).drewN 0) (by simp))
  have HJ0 := Lib.hid h5
  have HR0 := Lib.hid hr
  have HBLK := Lib.hid hblk
  have HC := Lib.hid hcode
  have HW := Lib.hid hwr
  clear hnx hnd hnde h5 hr hblk hwr hdn hcode HJ5
  have q1 : ((n : Int) == 0) = false := by simp only [beq_eq_false_iff_ne, ne_eq]; omega
  have q2 : decide ((2000 : Int) < (n : Int)) = false := by simp only [decide_eq_false_iff_not]; omega
  have q3 : decide ((k.blocks : Int) - (k.used : Int) < (nd : Int)) = false := by simp only [decide_eq_false_iff_not]; omega
  go_enter Try.func23, Try.ntmps23
  go_upto_region 4 with (go_at_call 45; refine (HN.out _ HBA.out).mono ?_; rintro e w1 ⟨rfl, rfl⟩)
  go_quiet (fail)
  go_wp2_with fail
  go_loopw [6, 7] (fun i _ wx => ∃ (i' : Nat), i' = 0 ∧ i = .int .i64 i' ∧ wx = w.drewN nq) (fun _ _ _ => 1)
  case atStart => exact ⟨0, rfl, rfl, rfl⟩
  case round =>
    obtain ⟨i, hi, rfl, hwr⟩ := hrel
    have hlt : i < nd := by omega
    have hx : (i : Int) < (nd : Int) := by omega
    have hi45 : i ≤ 46 := by omega
    have hu0 : Upd [] w wr := by rw [hwr]; exact (Upd.refl _ _).drewN _
    have HJ5 := Lib.hid (HJ0.out.upd hu0 (by simp))
    have HR5 := Lib.hid (HR0.out.upd0 hu0)
    have HBA5 := Lib.hid (HBA.out.upd0 hu0)
    have HU0 := Lib.hid hu0
    clear hi hu0 hwr c2 c4
    go_upto_region 9 with fail
    refine held_start (fun w' => Blk w' j #[.pointer (some ⟨q, 0, none⟩), .int .i64 k.from_, .int .i64 k.blocks, .int .i64 k.life, .int .i64 k.used, rv] 57) 24 mixed rfl HJ5.out (fun hHeld => ?_)
    refine held_take 0 34 (.pointer (some ⟨j, 0, none⟩)) rfl (by kernel_rfl) (by kernel_rfl) (by kernel_rfl) rfl (fun _ _ _ h => h) rfl hHeld (fun w hS => by rfl) ?_
    simp only [List.setIfInBounds_toArray, List.set_cons_zero, List.set_cons_succ]
    refine held_take 1 35 (.pointer (some ⟨j, 0, none⟩)) rfl (by kernel_rfl) (by kernel_rfl) (by kernel_rfl) rfl (fun _ _ _ h => h) rfl hHeld (fun w hS => by go_simp) ?_
    simp only [List.setIfInBounds_toArray, List.set_cons_zero, List.set_cons_succ]
    refine held_take 2 36 (.pointer (some ⟨j, 0, none⟩)) rfl (by kernel_rfl) (by kernel_rfl) (by kernel_rfl) rfl (fun _ _ _ h => h) rfl hHeld (fun w hS => by go_simp) ?_
    simp only [List.setIfInBounds_toArray, List.set_cons_zero, List.set_cons_succ]
    refine held_take 3 37 (.pointer (some ⟨q, 0, none⟩)) rfl (by kernel_rfl) (by kernel_rfl) (by kernel_rfl) rfl (fun _ _ _ h => h) rfl hHeld (fun w hS => by have c := hS.cell (o := 0) rfl; go_simp) ?_
    simp only [List.setIfInBounds_toArray, List.set_cons_zero, List.set_cons_succ]
    refine held_take 4 38 (.pointer (some ⟨j, 0, none⟩)) rfl (by kernel_rfl) (by kernel_rfl) (by kernel_rfl) rfl (fun _ _ _ h => h) rfl hHeld (fun w hS => by rfl) ?_
    simp only [List.setIfInBounds_toArray, List.set_cons_zero, List.set_cons_succ]
    refine held_take 5 39 (.pointer (some ⟨j, 0, none⟩)) rfl (by kernel_rfl) (by kernel_rfl) (by kernel_rfl) rfl (fun _ _ _ h => h) rfl hHeld (fun w hS => by go_simp) ?_
    simp only [List.setIfInBounds_toArray, List.set_cons_zero, List.set_cons_succ]
    refine held_take 6 40 (.pointer (some ⟨j, 1, none⟩)) rfl (by kernel_rfl) (by kernel_rfl) (by kernel_rfl) rfl (fun _ _ _ h => h) rfl hHeld (fun w hS => by go_simp) ?_
    simp only [List.setIfInBounds_toArray, List.set_cons_zero, List.set_cons_succ]
    refine held_take 7 41 (.int .i64 k.from_) rfl (by kernel_rfl) (by kernel_rfl) (by kernel_rfl) rfl (fun _ _ _ h => h) rfl hHeld (fun w hS => by have c := hS.cell (o := 1) rfl; go_simp) ?_
    simp only [List.setIfInBounds_toArray, List.set_cons_zero, List.set_cons_succ]
    refine held_take 8 42 (.pointer (some ⟨j, 0, none⟩)) rfl (by kernel_rfl) (by kernel_rfl) (by kernel_rfl) rfl (fun _ _ _ h => h) rfl hHeld (fun w hS => by rfl) ?_
    simp only [List.setIfInBounds_toArray, List.set_cons_zero, List.set_cons_succ]
    refine held_take 9 43 (.pointer (some ⟨j, 0, none⟩)) rfl (by kernel_rfl) (by kernel_rfl) (by kernel_rfl) rfl (fun _ _ _ h => h) rfl hHeld (fun w hS => by go_simp) ?_
    simp only [List.setIfInBounds_toArray, List.set_cons_zero, List.set_cons_succ]
    refine held_take 10 44 (.pointer (some ⟨j, 4, none⟩)) rfl (by kernel_rfl) (by kernel_rfl) (by kernel_rfl) rfl (fun _ _ _ h => h) rfl hHeld (fun w hS => by go_simp) ?_
    simp only [List.setIfInBounds_toArray, List.set_cons_zero, List.set_cons_succ]
    refine held_take 11 45 (.int .i64 k.used) rfl (by kernel_rfl) (by kernel_rfl) (by kernel_rfl) rfl (fun _ _ _ h => h) rfl hHeld (fun w hS => by have c := hS.cell (o := 4) rfl; go_simp) ?_
    simp only [List.setIfInBounds_toArray, List.set_cons_zero, List.set_cons_succ]
    refine held_take 12 46 (.int .i64 ((k.from_ + k.used : Nat) : Int)) rfl (by kernel_rfl) (by kernel_rfl) (by kernel_rfl) rfl (fun _ _ _ h => h) rfl hHeld (fun w hS => by have e : IntKind.i64.wrap ((k.from_ : Int) + (k.used : Int)) = ((k.from_ + k.used : Nat) : Int) := (by rw [IntWalk.i64_in _ (by omega)]; omega); go_simp) ?_
    simp only [List.setIfInBounds_toArray, List.set_cons_zero, List.set_cons_succ]
    refine held_take 13 47 (.int .i64 (i : Int)) rfl (by kernel_rfl) (by kernel_rfl) (by kernel_rfl) rfl (fun _ _ _ h => h) rfl hHeld (fun w hS => by rfl) ?_
    simp only [List.setIfInBounds_toArray, List.set_cons_zero, List.set_cons_succ]
    refine held_take 14 48 (.int .i64 ((k.from_ + k.used + i : Nat) : Int)) rfl (by kernel_rfl) (by kernel_rfl) (by kernel_rfl) rfl (fun _ _ _ h => h) rfl hHeld (fun w hS => by have e : IntKind.i64.wrap (((k.from_ + k.used : Nat) : Int) + (i : Int)) = ((k.from_ + k.used + i : Nat) : Int) := (by rw [IntWalk.i64_in _ (by omega)]; omega); have e2 : IntKind.i64.wrap ((k.from_ : Int) + (k.used : Int) + (i : Int)) = ((k.from_ + k.used + i : Nat) : Int) := (by rw [IntWalk.i64_in _ (by omega)]; omega); go_simp) ?_
    simp only [List.setIfInBounds_toArray, List.set_cons_zero, List.set_cons_succ]
    refine held_take 15 49 (.slice a n cap) rfl (by kernel_rfl) (by kernel_rfl) (by kernel_rfl) rfl (fun _ _ _ h => h) rfl hHeld (fun w hS => by rfl) ?_
    simp only [List.setIfInBounds_toArray, List.set_cons_zero, List.set_cons_succ]
    refine held_take 16 50 (.int .i64 (i : Int)) rfl (by kernel_rfl) (by kernel_rfl) (by kernel_rfl) rfl (fun _ _ _ h => h) rfl hHeld (fun w hS => by rfl) ?_
    simp only [List.setIfInBounds_toArray, List.set_cons_zero, List.set_cons_succ]
    refine held_take 17 51 (.pointer (some ⟨j, 0, none⟩)) rfl (by kernel_rfl) (by kernel_rfl) (by kernel_rfl) rfl (fun _ _ _ h => h) rfl hHeld (fun w hS => by rfl) ?_
    simp only [List.setIfInBounds_toArray, List.set_cons_zero, List.set_cons_succ]
    refine held_take 18 52 (.pointer (some ⟨j, 0, none⟩)) rfl (by kernel_rfl) (by kernel_rfl) (by kernel_rfl) rfl (fun _ _ _ h => h) rfl hHeld (fun w hS => by go_simp) ?_
    simp only [List.setIfInBounds_toArray, List.set_cons_zero, List.set_cons_succ]
    refine held_take 19 53 (.pointer (some ⟨j, 3, none⟩)) rfl (by kernel_rfl) (by kernel_rfl) (by kernel_rfl) rfl (fun _ _ _ h => h) rfl hHeld (fun w hS => by go_simp) ?_
    simp only [List.setIfInBounds_toArray, List.set_cons_zero, List.set_cons_succ]
    refine held_take 20 54 (.int .i64 k.life) rfl (by kernel_rfl) (by kernel_rfl) (by kernel_rfl) rfl (fun _ _ _ h => h) rfl hHeld (fun w hS => by have c := hS.cell (o := 3) rfl; go_simp) ?_
    simp only [List.setIfInBounds_toArray, List.set_cons_zero, List.set_cons_succ]
    refine held_next 21 55 rfl (by kernel_rfl) rfl rfl (fun K hK => ?_)
    go_simp
    refine (HBLK.out i hlt _ (HBA5.out.upd0 ((Upd.refl [] wr).drew))).mono ?_
    rintro e w6 ⟨rfl, hu6⟩
    have HR6 := Lib.hid (HR5.out.upd0 (((Upd.refl [] wr).drew).trans hu6))
    have HU6 := Lib.hid (((Upd.refl [] wr).drew).trans hu6)
    have hs6 := hu6.size
    have hk := hK.out (.agg (U8 (blockJ k.life (b.drop (44 * i))))) w6 (hHeld.upd hu6 (by simp))
    simp only [Act.put, List.setIfInBounds_toArray, List.set_cons_zero, List.set_cons_succ] at hk
    refine hk (fun hHeld => ?_)
    clear hu6 hK hk K
    refine held_next 22 56 rfl (by kernel_rfl) rfl rfl (fun K hK => ?_)
    go_simp
    refine (HW.out _ _ _ HR6.out).mono ?_
    rw [HC.out]
    rintro e w7 ⟨rfl, hu7⟩
    have HU7 := Lib.hid (HU6.out.trans hu7)
    have hk := hK.out (.int .i64 60) w7 (hHeld.upd hu7 (by simp))
    simp only [Act.put, List.setIfInBounds_toArray, List.set_cons_zero, List.set_cons_succ] at hk
    refine hk (fun hHeld => ?_)
    clear hu7 hK hk K
    refine held_take 23 7 (.int .i64 60) rfl (by kernel_rfl) (by kernel_rfl) (by kernel_rfl) rfl (fun _ _ _ h => h) rfl hHeld (fun w hS => by rfl) ?_
    simp only [List.setIfInBounds_toArray, List.set_cons_zero, List.set_cons_succ]
    refine held_done (by kernel_rfl) ?_
    clear hHeld HR6 HU6
    go_wp2_with fail
    go_ret
    exact ⟨rfl, HU0.out.trans HU7.out⟩

/-- The document's journal, behind what it appended. -/
theorem rappend_close {wr wE wF W : World} {j q g2 cap2 : Nat} {k : JK} {rv ov cv : Value} {rvs : List Value} {T : List Nat} {b : List Int} (hj : ∀ x ∈ j :: T, x < wr.heap.size) (hjT : j ∉ T)
    (hre : RecsAt wE T rvs k.recs) (hcb : BytesAt wE cv b) (hcn : ∀ x, cv.ownBlock = some x → wr.heap.size ≤ x ∧ x < wE.heap.size ∧ ov.ownBlock ≠ some x) (hov : ∀ x, ov.ownBlock = some x → wr.heap.size ≤ x)
    (hze : wr.heap.size ≤ wE.heap.size) (hwf : (k.push b).WF) (hoF : wF.ownsRow 0 31 1 (.slice (some ⟨g2, 0, none⟩) (k.recs.length + 1) cap2) (k.recs.length + 1) (rvs ++ [cv])) (huF : Upd ov.ownBlock.toList wE wF) (hat : ov.ownBlock = some g2 ∨ wE.heap.size < g2)
    (hW : Upd [j] wF W) (hbW : Blk W j #[.pointer (some ⟨q, 0, none⟩), .int .i64 k.from_, .int .i64 k.blocks, .int .i64 k.life, .int .i64 ((k.used + needJ b : Nat) : Int), .slice (some ⟨g2, 0, none⟩) (k.recs.length + 1) cap2] 57) :
    RJAt W j (j :: ([g2] ++ (cv.ownBlock.toList ++ T))) q (k.push b) ∧ ∀ x ∈ j :: ([g2] ++ (cv.ownBlock.toList ++ T)), x ∈ j :: T ∨ wr.heap.size ≤ x := by
  have hjl := hj j (by simp)
  have hg2 : wr.heap.size ≤ g2 := by
    rcases hat with h | h
    · exact hov g2 h
    · omega
  have hst := rec_step (lo := 0) hre hcb (fun x hx => ⟨Nat.zero_le _, (hcn x hx).2.1⟩) (fun x hx => ⟨fun hm => by have h8 := hov x hx; have h9 := hj x (by simp [hm]); omega, fun e => (hcn x e).2.2 hx⟩) (fun x hx => ⟨Nat.zero_le _, Nat.lt_of_lt_of_le (hj x (by simp [hx])) hze⟩) huF hat
  have hcj : j ∉ cv.ownBlock.toList ++ T := fun hm => by
    rcases List.mem_append.1 hm with hm | hm
    · have h8 := (hcn j (by simpa using hm)).1; omega
    · exact hjT hm
  refine ⟨⟨.slice (some ⟨g2, 0, none⟩) (k.recs.length + 1) cap2, rvs ++ [cv], cv.ownBlock.toList ++ T, rfl, hcj, fun g hg => ?_, fun g hg => Nat.lt_of_lt_of_le (hst.2.2 g hg).2 hW.size, hwf, hbW, ?_, ?_⟩, fun x hx => ?_⟩
  · have : g = g2 := by simpa [Value.ownBlock] using hg.symm
    subst this; exact ⟨by omega, hst.2.1⟩
  · have e : (k.push b).recs.length = k.recs.length + 1 := by show (k.recs ++ [b]).length = _; rw [List.length_append, List.length_singleton]
    rw [e]
    exact own_upd hoF hW (fun g hg => by have : g = g2 := by simpa [Value.ownBlock] using hg.symm
                                         subst this; simp; omega)
  · exact hst.1.upd hW (fun x hx hm => hcj ((by simpa using hm : x = j) ▸ hx))
  · simp only [List.mem_cons, List.mem_append, List.not_mem_nil, or_false, Option.mem_toList] at hx
    rcases hx with rfl | rfl | hx | hx
    · exact .inl (by simp)
    · exact .inr hg2
    · exact .inr (hcn x hx).1
    · exact .inl (by simp [hx])

theorem recs_one {w : World} {T : List Nat} {rvs : List Value} {recs : List (List Int)} (h : RecsAt w T rvs recs) : ∀ c ∈ rvs, c.oneCell' = true := by
  intro c hc
  obtain ⟨i, hi, rfl⟩ := List.getElem_of_mem hc
  have hb := (h.2 i (by rw [← h.1]; exact hi)).1
  rw [List.getD_eq_getElem?_getD, List.getElem?_eq_getElem hi] at hb
  obtain ⟨a, cap, e⟩ := hb.form
  have e' : rvs[i] = .slice a (recs.getD i []).length cap := e
  rw [e']; rfl

set_option maxRecDepth 100000 in
set_option maxHeartbeats 4000000 in
theorem rappend_yes (v : Value) (b : List Int) (j : Nat) (J : List Nat) (q : Nat) (R : List Nat) (d : DK) (k : JK) (w : World) (hb : BytesAt w v b) (hbR : BytesOut v b R) (hbJ : BytesOut v b J) (h0 : 0 < b.length) (h1 : b.length ≤ 2000) (hu8 : U8L b) (hj : RJAt w j J q k) (hr : RefAt w q R d)
    (hsep : ∀ x ∈ J, x ∉ R) (hn : needJ b ≤ k.blocks - k.used) (hup : d.down = false) (hin : k.from_ + k.blocks ≤ d.last.length) :
    Calls Try.prog 23 #[.pointer (some ⟨j, 0, none⟩), v] w fun e w' => e = .returned (.int .i64 0) ∧
      ∃ R' J', RefAt w' q R' (d.layRec (k.from_ + k.used) k.life b (needJ b)) ∧ RJAt w' j J' q (k.push b) ∧ Upd (R ++ J) w w' ∧ Sub w R R' ∧ Sub w J J' ∧ ∀ x ∈ J', x ∉ R' := by
  have hnd := fun w (h : BytesAt w v b) => rneed_any v b w h (by omega)
  have hblk := fun (i : Nat) (hi : i < needJ b) (w : World) (h : BytesAt w v b) => rblock_any v b i k.life w h h1 (by unfold needJ at hi; omega) (by have := hj.wf.life0; omega) hj.wf.life1
  have HWF := Lib.hid (hj.wf.push h0 h1 hu8 hn)
  have HBA := Lib.hid hb
  have HBR := Lib.hid hbR
  have HBJ := Lib.hid hbJ
  obtain ⟨a, cap, rfl, -⟩ := hb
  have x1 := hj.wf.used
  have x2 := hj.wf.room
  have hjl := hj.lt
  have x5 := hj.wf.recs
  obtain ⟨rv, rvs, T, rfl, j1, j2, j3, -, h5, j6, j7⟩ := hj
  have hrone := recs_one j7
  have c2 := h5.cell (o := 2) rfl
  have c4 := h5.cell (o := 4) rfl
  obtain ⟨nd, hnde⟩ : ∃ nd, nd = needJ b := ⟨_, rfl⟩
  rw [← hnde] at hn hnd hblk ⊢
  have HN := Lib.hid hnd
  have hnd1 : nd ≤ 46 := by rw [hnde]; unfold needJ; omega
  have HNDE := Lib.hid hnde
  obtain ⟨n, hnx⟩ : ∃ n, n = b.length := ⟨_, rfl⟩
  rw [← hnx] at h0 h1 HN HBA HBR HBJ hblk ⊢
  have HNX := Lib.hid hnx
  have HJ0 := Lib.hid h5
  have HR0 := Lib.hid hr
  have HBLK := Lib.hid hblk
  have HSEP := Lib.hid hsep
  have HJLT := Lib.hid hjl
  have HJL : Hid (j < w.heap.size) := Lib.hid (hjl j (by simp))
  have HJ1 := Lib.hid j1
  have HJ2 := Lib.hid j2
  have HJ6 := Lib.hid j6
  have HJ7 := Lib.hid j7
  have HONE := Lib.hid hrone
  have HUP := Lib.hid hup
  have hjR : j ∉ R := hsep j (by simp)
  have hcd : ∀ i, i < nd → (d.layRec (k.from_ + k.used) k.life b i).code ((k.from_ + k.used + i : Nat) : Int) = 0 := fun i hi => by
    unfold DK.code; rw [DK.layRec_down, DK.layRec_last, hup]; simp; omega
  have HCODEX := Lib.hid hcd
  clear hnx hnd hnde h5 hr hblk hu8 hbR hbJ hsep hjl j1 j2 j3 j6 j7 hup hcd hrone
  have q1 : ((n : Int) == 0) = false := by simp only [beq_eq_false_iff_ne, ne_eq]; omega
  have q2 : decide ((2000 : Int) < (n : Int)) = false := by simp only [decide_eq_false_iff_not]; omega
  have q3 : decide ((k.blocks : Int) - (k.used : Int) < (nd : Int)) = false := by simp only [decide_eq_false_iff_not]; omega
  go_enter Try.func23, Try.ntmps23
  go_upto_region 4 with (go_at_call 45; refine (HN.out _ HBA.out).mono ?_; rintro e w1 ⟨rfl, rfl⟩)
  go_quiet (fail)
  go_wp2_with fail
  go_loopw [6, 7] (fun i _ wx => ∃ (i' : Nat) (R' : List Nat), i' ≤ nd ∧ i = .int .i64 i' ∧ RefAt wx q R' (d.layRec (k.from_ + k.used) k.life b i') ∧ Upd R w wx ∧ Sub w R R') (fun i _ _ => 47 - (intOf i).toNat)
  case atStart => exact ⟨0, R, by omega, rfl, HR0.out.upd0 ((Upd.refl _ _).drewN _), (Upd.refl _ _).drewN _, Sub.refl _ _⟩
  case round =>
    obtain ⟨i, R5, hi, rfl, hr5, hu5, hs5⟩ := hrel
    have HR5 := Lib.hid hr5
    have HU5 := Lib.hid hu5
    have HS5 := Lib.hid hs5
    have HJ5 := Lib.hid (HJ0.out.upd hu5 hjR)
    have HBA5 := Lib.hid (HBA.out.upd hu5 HBR.out)
    clear hr5 hu5 hs5 c2 c4
    by_cases hlt : i < nd
    · have hx : (i : Int) < (nd : Int) := by omega
      have hi45 : i ≤ 46 := by omega
      have HCODE := Lib.hid (HCODEX.out i hlt)
      go_upto_region 9 with fail
      refine held_start (fun w' => Blk w' j #[.pointer (some ⟨q, 0, none⟩), .int .i64 k.from_, .int .i64 k.blocks, .int .i64 k.life, .int .i64 k.used, rv] 57) 24 mixed rfl HJ5.out (fun hHeld => ?_)
      refine held_take 0 34 (.pointer (some ⟨j, 0, none⟩)) rfl (by kernel_rfl) (by kernel_rfl) (by kernel_rfl) rfl (fun _ _ _ h => h) rfl hHeld (fun w hS => by rfl) ?_
      simp only [List.setIfInBounds_toArray, List.set_cons_zero, List.set_cons_succ]
      refine held_take 1 35 (.pointer (some ⟨j, 0, none⟩)) rfl (by kernel_rfl) (by kernel_rfl) (by kernel_rfl) rfl (fun _ _ _ h => h) rfl hHeld (fun w hS => by go_simp) ?_
      simp only [List.setIfInBounds_toArray, List.set_cons_zero, List.set_cons_succ]
      refine held_take 2 36 (.pointer (some ⟨j, 0, none⟩)) rfl (by kernel_rfl) (by kernel_rfl) (by kernel_rfl) rfl (fun _ _ _ h => h) rfl hHeld (fun w hS => by go_simp) ?_
      simp only [List.setIfInBounds_toArray, List.set_cons_zero, List.set_cons_succ]
      refine held_take 3 37 (.pointer (some ⟨q, 0, none⟩)) rfl (by kernel_rfl) (by kernel_rfl) (by kernel_rfl) rfl (fun _ _ _ h => h) rfl hHeld (fun w hS => by have c := hS.cell (o := 0) rfl; go_simp) ?_
      simp only [List.setIfInBounds_toArray, List.set_cons_zero, List.set_cons_succ]
      refine held_take 4 38 (.pointer (some ⟨j, 0, none⟩)) rfl (by kernel_rfl) (by kernel_rfl) (by kernel_rfl) rfl (fun _ _ _ h => h) rfl hHeld (fun w hS => by rfl) ?_
      simp only [List.setIfInBounds_toArray, List.set_cons_zero, List.set_cons_succ]
      refine held_take 5 39 (.pointer (some ⟨j, 0, none⟩)) rfl (by kernel_rfl) (by kernel_rfl) (by kernel_rfl) rfl (fun _ _ _ h => h) rfl hHeld (fun w hS => by go_simp) ?_
      simp only [List.setIfInBounds_toArray, List.set_cons_zero, List.set_cons_succ]
      refine held_take 6 40 (.pointer (some ⟨j, 1, none⟩)) rfl (by kernel_rfl) (by kernel_rfl) (by kernel_rfl) rfl (fun _ _ _ h => h) rfl hHeld (fun w hS => by go_simp) ?_
      simp only [List.setIfInBounds_toArray, List.set_cons_zero, List.set_cons_succ]
      refine held_take 7 41 (.int .i64 k.from_) rfl (by kernel_rfl) (by kernel_rfl) (by kernel_rfl) rfl (fun _ _ _ h => h) rfl hHeld (fun w hS => by have c := hS.cell (o := 1) rfl; go_simp) ?_
      simp only [List.setIfInBounds_toArray, List.set_cons_zero, List.set_cons_succ]
      refine held_take 8 42 (.pointer (some ⟨j, 0, none⟩)) rfl (by kernel_rfl) (by kernel_rfl) (by kernel_rfl) rfl (fun _ _ _ h => h) rfl hHeld (fun w hS => by rfl) ?_
      simp only [List.setIfInBounds_toArray, List.set_cons_zero, List.set_cons_succ]
      refine held_take 9 43 (.pointer (some ⟨j, 0, none⟩)) rfl (by kernel_rfl) (by kernel_rfl) (by kernel_rfl) rfl (fun _ _ _ h => h) rfl hHeld (fun w hS => by go_simp) ?_
      simp only [List.setIfInBounds_toArray, List.set_cons_zero, List.set_cons_succ]
      refine held_take 10 44 (.pointer (some ⟨j, 4, none⟩)) rfl (by kernel_rfl) (by kernel_rfl) (by kernel_rfl) rfl (fun _ _ _ h => h) rfl hHeld (fun w hS => by go_simp) ?_
      simp only [List.setIfInBounds_toArray, List.set_cons_zero, List.set_cons_succ]
      refine held_take 11 45 (.int .i64 k.used) rfl (by kernel_rfl) (by kernel_rfl) (by kernel_rfl) rfl (fun _ _ _ h => h) rfl hHeld (fun w hS => by have c := hS.cell (o := 4) rfl; go_simp) ?_
      simp only [List.setIfInBounds_toArray, List.set_cons_zero, List.set_cons_succ]
      refine held_take 12 46 (.int .i64 ((k.from_ + k.used : Nat) : Int)) rfl (by kernel_rfl) (by kernel_rfl) (by kernel_rfl) rfl (fun _ _ _ h => h) rfl hHeld (fun w hS => by have e : IntKind.i64.wrap ((k.from_ : Int) + (k.used : Int)) = ((k.from_ + k.used : Nat) : Int) := (by rw [IntWalk.i64_in _ (by omega)]; omega); go_simp) ?_
      simp only [List.setIfInBounds_toArray, List.set_cons_zero, List.set_cons_succ]
      refine held_take 13 47 (.int .i64 (i : Int)) rfl (by kernel_rfl) (by kernel_rfl) (by kernel_rfl) rfl (fun _ _ _ h => h) rfl hHeld (fun w hS => by rfl) ?_
      simp only [List.setIfInBounds_toArray, List.set_cons_zero, List.set_cons_succ]
      refine held_take 14 48 (.int .i64 ((k.from_ + k.used + i : Nat) : Int)) rfl (by kernel_rfl) (by kernel_rfl) (by kernel_rfl) rfl (fun _ _ _ h => h) rfl hHeld (fun w hS => by have e : IntKind.i64.wrap (((k.from_ + k.used : Nat) : Int) + (i : Int)) = ((k.from_ + k.used + i : Nat) : Int) := (by rw [IntWalk.i64_in _ (by omega)]; omega); have e2 : IntKind.i64.wrap ((k.from_ : Int) + (k.used : Int) + (i : Int)) = ((k.from_ + k.used + i : Nat) : Int) := (by rw [IntWalk.i64_in _ (by omega)]; omega); go_simp) ?_
      simp only [List.setIfInBounds_toArray, List.set_cons_zero, List.set_cons_succ]
      refine held_take 15 49 (.slice a n cap) rfl (by kernel_rfl) (by kernel_rfl) (by kernel_rfl) rfl (fun _ _ _ h => h) rfl hHeld (fun w hS => by rfl) ?_
      simp only [List.setIfInBounds_toArray, List.set_cons_zero, List.set_cons_succ]
      refine held_take 16 50 (.int .i64 (i : Int)) rfl (by kernel_rfl) (by kernel_rfl) (by kernel_rfl) rfl (fun _ _ _ h => h) rfl hHeld (fun w hS => by rfl) ?_
      simp only [List.setIfInBounds_toArray, List.set_cons_zero, List.set_cons_succ]
      refine held_take 17 51 (.pointer (some ⟨j, 0, none⟩)) rfl (by kernel_rfl) (by kernel_rfl) (by kernel_rfl) rfl (fun _ _ _ h => h) rfl hHeld (fun w hS => by rfl) ?_
      simp only [List.setIfInBounds_toArray, List.set_cons_zero, List.set_cons_succ]
      refine held_take 18 52 (.pointer (some ⟨j, 0, none⟩)) rfl (by kernel_rfl) (by kernel_rfl) (by kernel_rfl) rfl (fun _ _ _ h => h) rfl hHeld (fun w hS => by go_simp) ?_
      simp only [List.setIfInBounds_toArray, List.set_cons_zero, List.set_cons_succ]
      refine held_take 19 53 (.pointer (some ⟨j, 3, none⟩)) rfl (by kernel_rfl) (by kernel_rfl) (by kernel_rfl) rfl (fun _ _ _ h => h) rfl hHeld (fun w hS => by go_simp) ?_
      simp only [List.setIfInBounds_toArray, List.set_cons_zero, List.set_cons_succ]
      refine held_take 20 54 (.int .i64 k.life) rfl (by kernel_rfl) (by kernel_rfl) (by kernel_rfl) rfl (fun _ _ _ h => h) rfl hHeld (fun w hS => by have c := hS.cell (o := 3) rfl; go_simp) ?_
      simp only [List.setIfInBounds_toArray, List.set_cons_zero, List.set_cons_succ]
      refine held_next 21 55 rfl (by kernel_rfl) rfl rfl (fun K hK => ?_)
      go_simp
      refine (HBLK.out i hlt _ (HBA5.out.upd0 ((Upd.refl [] wr).drew))).mono ?_
      rintro e w6 ⟨rfl, hu6⟩
      have HR6 := Lib.hid (HR5.out.upd0 (((Upd.refl [] wr).drew).trans hu6))
      have HU6 := Lib.hid (((Upd.refl [] wr).drew).trans hu6)
      have hs6 := hu6.size
      have hk := hK.out (.agg (U8 (blockJ k.life (b.drop (44 * i))))) w6 (hHeld.upd hu6 (by simp))
      simp only [Act.put, List.setIfInBounds_toArray, List.set_cons_zero, List.set_cons_succ] at hk
      refine hk (fun hHeld => ?_)
      clear hu6 hK hk K
      refine held_next 22 56 rfl (by kernel_rfl) rfl rfl (fun K hK => ?_)
      go_simp
      refine (rwrite_any q R5 (d.layRec (k.from_ + k.used) k.life b i) ((k.from_ + k.used + i : Nat) : Int) (blockJ k.life (b.drop (44 * i))) w6 HR6.out (blockJ_len _ _)).mono ?_
      rw [HCODE.out]
      rintro e w7 ⟨rfl, R7, hr7, hu7, hs7⟩
      have hjR5 : j ∉ R5 := fun hm => by
        rcases HS5.out j hm with h | h
        · exact hjR h
        · have := HJL.out; omega
      have HR7 := Lib.hid hr7
      have HU7 := Lib.hid ((HU5.out.trans (HU6.out.mono (by simp))).then hu7 (fun x hx => HS5.out x hx))
      have HS7 : Hid (Sub w R R7) := Lib.hid (fun x hx => by
        rcases hs7 x hx with h | h
        · exact HS5.out x h
        · have h1 := HU6.out.size; have h2 := HU5.out.size
          exact .inr (by omega))
      have hk := hK.out (.int .i64 0) w7 (hHeld.upd hu7 hjR5)
      simp only [Act.put, List.setIfInBounds_toArray, List.set_cons_zero, List.set_cons_succ] at hk
      refine hk (fun hHeld => ?_)
      clear hr7 hu7 hs7 hK hk K
      refine held_take 23 7 (.int .i64 0) rfl (by kernel_rfl) (by kernel_rfl) (by kernel_rfl) rfl (fun _ _ _ h => h) rfl hHeld (fun w hS => by rfl) ?_
      simp only [List.setIfInBounds_toArray, List.set_cons_zero, List.set_cons_succ]
      refine held_done (by kernel_rfl) ?_
      clear hHeld HR6 HU6 HU5 HR5 HS5 HJ5 HBA5
      go_wp2_with fail
      go_roundw
      case rel => exact ⟨i + 1, R7, by omega, by go_num, HR7.out, HU7.out, HS7.out⟩
      case measure => simp [intOf]; omega
    · obtain rfl : i = nd := by omega
      have hjR5 : j ∉ R5 := fun hm => by
        rcases HS5.out j hm with h | h
        · exact hjR h
        · have := HJL.out; omega
      have hTR : ∀ x ∈ T, x ∉ R := fun x hx => HSEP.out x (by simp [hx])
      have hrvR : ∀ x, rv.ownBlock = some x → x ∉ R := fun x hx => HSEP.out x (by simp [hx])
      have hre5 := HJ7.out.upd HU5.out hTR
      have hro5 := own_upd HJ6.out HU5.out hrvR
      have hz5 := HU5.out.size
      have hjl5 : ∀ x ∈ j :: (rv.ownBlock.toList ++ T), x < wr.heap.size := fun x hx => Nat.lt_of_lt_of_le (HJLT.out x hx) hz5
      obtain ⟨ad, rfl⟩ : ∃ ad, a = some ad := by
        obtain ⟨a', c', e, -, -, hc⟩ := HBA.out
        obtain ⟨g, off, h, -, -⟩ := hc (by intro e; have := HNX.out; rw [e] at this; simp at this; omega)
        cases e; exact ⟨_, h⟩
      obtain ⟨rl, hrl⟩ : ∃ rl, rl = k.recs.length := ⟨_, rfl⟩
      rw [← hrl] at hro5
      have HRL := Lib.hid hrl
      have hrl4 : rl ≤ 4096 := by omega
      have c4 := HJ5.out.cell (o := 4) rfl
      have f4 := HJ5.out.free 4
      have hjA := HJ5.out.set 4 (.int .i64 ((k.used : Int) + (i : Int)))
      have huA : Upd [j] wr (wr.setCell ⟨j, 4, none⟩ (.int .i64 ((k.used : Int) + (i : Int)))) := (Upd.refl _ _).setCell (.inl (by simp)) _
      have hkx : (k.used : Int) + (i : Int) ≤ 4096 := by omega
      clear hrl hlt
      go_upto_region 13 with fail
      generalize hwA : wr.setCell ⟨j, 4, none⟩ (.int .i64 ((k.used : Int) + (i : Int))) = wA
      rw [hwA] at hjA huA
      have hroA := own_upd hro5 huA (fun x hx => by have := (HJ2.out x hx).1; simpa using this)
      have hreA := hre5.upd huA (fun x hx hm => HJ1.out ((by simpa using hm : x = j) ▸ hx))
      have hbaA := HBA5.out.upd huA (by intro g off len cap hne e; simpa using (fun e2 => HBJ.out g off len cap hne e (by simp [e2])))
      have c5 := hjA.cell (o := 5) rfl
      have c5a := (hjA.upd ((Upd.refl [] wA).alloc (.cells #[] 31)) (by simp)).cell (o := 5) rfl
      obtain ⟨i0, hi0, hz0, hz1, hz2⟩ := info_parts info_row
      obtain ⟨i1, hi1, hy0, hy1, hy2⟩ := info_parts info_u8'
      have hzA := huA.size
      have HROA := Lib.hid hroA
      have HREA := Lib.hid hreA
      have HBAA := Lib.hid hbaA
      have HJA := Lib.hid hjA
      have HUA := Lib.hid huA
      have HRE5 := Lib.hid hre5
      have HJL5 := Lib.hid hjl5
      have HJR5 := Lib.hid hjR5
      clear hwA hroA hreA hbaA hjA huA hre5 hro5 hjl5 c4 f4 hTR hrvR hjR5 q1 q2 q3
      go_wp2_with (first
        | ((with_reducible show wpList _ _ _ (⟨some 75, _, _, _, _, _⟩ :: _) _ _)
           refine wpList_append_clone rfl (.tmp 70) (.tmp 74) 37 rfl wr.heap.size 31 i0 (.slice none 0 0) 1 24 Try.underlying37 hi0 hz0 hz1 hz2 rfl (by decide) (.slice (some ⟨wA.heap.size, 0, none⟩) 0 0) rfl (World.ownsRow_made wA #[] 0 hzA (by unfold maxLen; omega) rfl) rv rl rvs rfl (HROA.out.alloc _) HONE.out (by unfold maxLen; omega) (by omega) (by simp; omega) fun ov wC hoC hgC => ?_
           have huC : Upd [] wA wC := ((Upd.refl [] wA).alloc _).grown hgC (fun k hk => .inr (by simp [Value.ownBlock] at hk; omega))
           have HOC := Lib.hid hoC
           have HUC := Lib.hid huC
           have hzC := huC.size
           have hnews := ((HBAA.out.upd0 huC).upd0 ((Upd.refl [] wC).alloc (.cells #[] 5))).news
           have HNEWS := Lib.hid hnews
           clear hoC hgC huC hnews)
        | ((with_reducible show wpList _ _ _ (⟨some 78, _, _, _, _, _⟩ :: _) _ _)
           go_loud (refine wpList_append_lies _ rfl (.tmp 76) (.tmp 77) 31 rfl wC.heap.size 5 i1 (.int .u8 0) 1 1 Try.underlying31 hi1 hy0 hy1 hy2 rfl (by decide) (.slice (some ⟨wC.heap.size, 0, none⟩) 0 0) 0 [] rfl (World.ownsRow_made wC #[] 0 (Nat.le_refl _) (by unfold maxLen; omega) rfl) ad n cap (b.map (Value.int .u8)) rfl (by simp [HNX.out]) HNEWS.out (fun u hu => by obtain ⟨x, _, rfl⟩ := List.mem_map.1 hu; rfl) h0 (by unfold maxLen; omega) (by omega) (by simp) _ rfl fun g3 cap3 wE hoE hgE hatE hltE => ?_)
           have huE : Upd [] wC wE := ((Upd.refl [] wC).alloc _).grown hgE (fun k hk => .inr (by simp [Value.ownBlock] at hk; omega))
           have HOE := Lib.hid hoE
           have HUE := Lib.hid huE
           have hzE := huE.size
           clear hoE hgE hatE hltE huE)
        | ((with_reducible show wpList _ _ _ (⟨some 79, _, _, _, _, _⟩ :: _) _ _)
           go_loud (refine wpList_push 79 80 37 31 (.tmp 75) (.tmp 78) (.slice none 0 0) 1 24 Try.underlying37 info_row rfl (by omega) (by omega) wr.heap.size ov rl rvs (.slice (some ⟨g3, 0, none⟩) (0 + n) cap3) rfl rfl rfl rfl rfl rfl (by simp) (by simp [Act.put]) rfl rfl (own_upd HOC.out HUE.out (by simp)) rfl (one_slice _ _ _) (by unfold maxLen; omega) (by omega) (by omega) ?_)
           intro g2 cap2 wF hoF huF hatF hltF hbF
           have hovr : ∀ x, ov.ownBlock = some x → wr.heap.size ≤ x := fun x hx => (HOC.out.lt x hx).1
           have hjF := ((HJA.out.upd HUC.out (by simp)).upd HUE.out (by simp)).upd huF (fun hm => by have h8 := hovr j (by simpa using hm); have h9 := HJL5.out j (by simp); omega)
           have c5F := hjF.cell (o := 5) rfl
           have f5F := hjF.free 5
           have HJF := Lib.hid hjF
           have HOF := Lib.hid hoF
           have HUF := Lib.hid huF
           have HATF := Lib.hid hatF
           clear hoF huF hatF hltF hbF hjF))
      go_ret
      have hW : Upd [j] wF (wF.setCell ⟨j, 5, none⟩ (.slice (some ⟨g2, 0, none⟩) (rl + 1) cap2)) := (Upd.refl _ _).setCell (.inl (by simp)) _
      have hjW := HJF.out.set 5 (.slice (some ⟨g2, 0, none⟩) (rl + 1) cap2)
      have huRE : Upd [j] wr wE := HUA.out.trans ((HUC.out.trans HUE.out).mono (by simp))
      have hovr : ∀ x, ov.ownBlock = some x → wr.heap.size ≤ x := fun x hx => (HOC.out.lt x hx).1
      have huW : Upd [j] wr (wF.setCell ⟨j, 5, none⟩ (.slice (some ⟨g2, 0, none⟩) (rl + 1) cap2)) := (huRE.then HUF.out (fun x hx => .inr (hovr x (by simpa using hx)))).trans hW
      have hcl := rappend_close (wr := wr) (wE := wE) (wF := wF) (q := q) (k := k) (rv := rv) (ov := ov) (cv := .slice (some ⟨g3, 0, none⟩) (0 + n) cap3) (rvs := rvs) (T := T) (b := b) (g2 := g2) (cap2 := cap2)
        (fun x hx => HJL5.out x (by rcases List.mem_cons.1 hx with rfl | hx; simp; simp [hx])) HJ1.out (RecsAt.upd (RecsAt.upd HREA.out HUC.out (by simp)) HUE.out (by simp)) (BytesAt.of_own (by simpa using HOE.out) (by have := HNX.out; omega))
        (fun x hx => by simp [Value.ownBlock] at hx; subst hx; exact ⟨by have := (HOE.out.lt g3 rfl).1; omega, (HOE.out.lt g3 rfl).2, fun e => by have h8 := (HOC.out.lt g3 e).2; have h9 := (HOE.out.lt g3 rfl).1; omega⟩) hovr huRE.size HWF.out
        (by rw [← HRL.out]; exact own_zero HOF.out) HUF.out HATF.out hW (by rw [← HNDE.out, ← HRL.out, show (((k.used + i : Nat) : Int)) = (k.used : Int) + (i : Int) by omega]; exact hjW)
      have hlt5 := HR5.out.lt
      refine ⟨rfl, R5, _, HR5.out.upd huW (fun x hx => by simp; exact fun e => HJR5.out (e ▸ hx)), hcl.1, ?_, HS5.out, fun x hx => ?_, fun x hx hm => ?_⟩
      · exact (HU5.out.mono (fun x hx => .inl (List.mem_append_left _ hx))).trans (huW.mono (fun x hx => .inl (List.mem_append_right _ (by simp at hx; simp [hx]))))
      · rcases hcl.2 x hx with h | h
        · exact .inl (by rcases List.mem_cons.1 h with rfl | h; simp; simp [h])
        · exact .inr (Nat.le_trans hz5 h)
      · rcases hcl.2 x hx with h | h
        · have hxJ : x ∈ j :: (rv.ownBlock.toList ++ T) := by rcases List.mem_cons.1 h with rfl | h; simp; simp [h]
          rcases HS5.out x hm with h2 | h2
          · exact HSEP.out x hxJ h2
          · have := HJLT.out x hxJ; omega
        · have := hlt5 x hm; omega

end Go.Proofs.Ytfjmkdjbeoafjaa
