/- The walk of Did. -/
import Derived.Test.YtmdioojaaneacaaRefJ
import Derived.Test.YtmdioojaaneacaaHeld
import Derived.Deep.RegionHeld
namespace Go.Proofs.Ytmdioojaaneacaa
open Go.ChangeShapes Go.WideShapes Go.ChangeAt Go.RowKit

/-- What a call says, in a variable of its own. -/
structure CallVar (w : World) (B : Nat) (c : CallK) : Prop where
  lt : B < w.heap.size
  kind : w.cell? ⟨B, 0, none⟩ = some (.int .i64 c.kind)
  n : w.cell? ⟨B, 1, none⟩ = some (.int .i64 c.n)
  b : CellsAt w B 2 (c.b.map (Value.int .u8))
  len : c.b.length = 64
  v : w.cell? ⟨B, 66, none⟩ = some c.v

theorem CallVar.new (w : World) (c : CallK) (hb : c.b.length = 64) : CallVar (w.alloc (.cells c.cells.toArray 36)) w.heap.size c := by
  have hB : Blk (w.alloc (.cells c.cells.toArray 36)) w.heap.size c.cells.toArray 36 := Blk.new _ _ _
  have hc : CellsAt (w.alloc (.cells c.cells.toArray 36)) w.heap.size 2 (c.b.map (Value.int .u8)) := fun j v hj => by
    refine hB.cell ?_
    have hjl := (List.getElem?_eq_some_iff.1 hj).1
    rw [show 2 + j = j + 1 + 1 by omega, List.getElem?_toArray]
    unfold CallK.cells
    rw [List.getElem?_cons_succ, List.getElem?_cons_succ, List.getElem?_append_left hjl]
    exact hj
  refine ⟨hB.lt, hB.cell rfl, hB.cell rfl, hc, hb, hB.cell ?_⟩
  · rw [List.getElem?_toArray]
    unfold CallK.cells
    rw [List.getElem?_cons_succ, List.getElem?_cons_succ, List.getElem?_append_right (by simp [hb])]
    simp [hb]

theorem CallVar.heap {w w' : World} {B : Nat} {c : CallK} (h : CallVar w B c) (hh : w'.heap[B]? = w.heap[B]?) : CallVar w' B c := by
  have hcell : ∀ o, w'.cell? ⟨B, o, none⟩ = w.cell? ⟨B, o, none⟩ := fun o => World.cell?_of_block (a := ⟨B, o, none⟩) hh
  refine ⟨?_, by rw [hcell]; exact h.kind, by rw [hcell]; exact h.n, fun j v hj => by rw [hcell]; exact h.b j v hj, h.len, by rw [hcell]; exact h.v⟩
  · have := h.lt
    rw [Array.getElem?_eq_getElem this] at hh
    exact (Array.getElem?_eq_some_iff.1 hh).1

theorem CallVar.load {w : World} {B : Nat} {c : CallK} (h : CallVar w B c) : (loadCells ⟨B, 2, none⟩ 64).run Try.prog w = .ok (U8 c.b) w := run_loadC h.b (by simp [h.len])

theorem CallVar.exec {w : World} {B : Nat} {c : CallK} (h : CallVar w B c) {a : Act} {o : Oper} (x : Operand) (ho : o.op = .load 23 x) (hx : a.eval x = .pointer (some ⟨B, 2, none⟩)) : (execOp a.eval o).run Try.prog w = .ok (.value (.agg (U8 c.b))) w :=
  exec_loadC (P := Try.prog) 23 x ho hx h.b (.inl ⟨_, _, Try.underlying23⟩) info_arr (by simp [h.len])

set_option maxRecDepth 100000 in
set_option maxHeartbeats 4000000 in
theorem did_any {w0 w : World} {p q : Nat} {S R : List Nat} {d : DK} (h : Both w0 w p S q R d d) (c : CallK) (hb : c.b.length = 64) (hv : IntsAt w0 c.v c.fates) :
    Calls Try.prog 21 #[.pointer (some ⟨p, 0, none⟩), .pointer (some ⟨q, 0, none⟩), .agg c.cells.toArray] w fun e w' => e = .returned (.bool true) ∧ ∃ S' R', Both w0 w' p S' q R' (d.did c) (d.did c) := by
  have hB := CallVar.new w c hb
  have hu0 := (Upd.refl [] w).alloc (.cells c.cells.toArray 36)
  have h1 := h.quiet hu0
  have hBS : w.heap.size ∉ S := fun hm => by have := h.disk.disk.lt _ hm; omega
  have hBR : w.heap.size ∉ R := fun hm => by have := h.ref.lt _ hm; omega
  obtain ⟨w1, hw1⟩ : ∃ w1, w1 = w.alloc (.cells c.cells.toArray 36) := ⟨_, rfl⟩
  rw [← hw1] at hB hu0 h1
  obtain ⟨B, hBe⟩ : ∃ B, B = w.heap.size := ⟨_, rfl⟩
  rw [← hBe] at hB hBS hBR
  obtain ⟨kd, hkd⟩ : ∃ kd, kd = c.kind := ⟨_, rfl⟩
  have ck := hB.kind
  rw [← hkd] at ck
  have HW := Lib.hid hw1
  have HBE := Lib.hid hBe
  have HB := Lib.hid hB
  have H1 := Lib.hid h1
  have HV := Lib.hid hv
  have HBS := Lib.hid hBS
  have HBR := Lib.hid hBR
  have key : ((kd == 1) = true ∧ d.did c = d.write c.n c.b) ∨ ((kd == 1) = false ∧ (kd == 2) = true ∧ d.did c = d) ∨ ((kd == 1) = false ∧ (kd == 2) = false ∧ (kd == 3) = true ∧ d.did c = d.flush) ∨
      ((kd == 1) = false ∧ (kd == 2) = false ∧ (kd == 3) = false ∧ (kd == 4) = true ∧ d.did c = d.crash c.fates) ∨ ((kd == 1) = false ∧ (kd == 2) = false ∧ (kd == 3) = false ∧ (kd == 4) = false ∧ (kd == 5) = true ∧ d.did c = d.start) ∨
      ((kd == 1) = false ∧ (kd == 2) = false ∧ (kd == 3) = false ∧ (kd == 4) = false ∧ (kd == 5) = false ∧ d.did c = d) := by
    unfold DK.did
    rw [← hkd]
    simp only [beq_iff_eq, beq_eq_false_iff_ne, ne_eq]
    by_cases e1 : kd = 1
    · left; simp [e1]
    · by_cases e2 : kd = 2
      · right; left; simp [e2]
      · by_cases e3 : kd = 3
        · right; right; left; simp [e3]
        · by_cases e4 : kd = 4
          · right; right; right; left; simp [e4]
          · by_cases e5 : kd = 5
            · right; right; right; right; left; simp [e5]
            · right; right; right; right; right; simp [e1, e2, e3, e4, e5]
  clear hw1 hBe hB hu0 h1 hBS hBR hv hkd h
  rcases key with ⟨q1, e⟩ | ⟨q1, q2, e⟩ | ⟨q1, q2, q3, e⟩ | ⟨q1, q2, q3, q4, e⟩ | ⟨q1, q2, q3, q4, q5, e⟩ | ⟨q1, q2, q3, q4, q5, e⟩
  · rw [e]; clear e
    go_enter Try.func21, Try.ntmps21
    go_upto_region 1 with fail
    rw [← HW.out, ← HBE.out]
    go_upto_region 3 with fail
    refine held_start (fun w' => CallVar w' B c) 14 mixed rfl (HB.out.heap rfl) (fun hHeld => ?_)
    refine held_take 0 15 (.pointer (some ⟨p, 0, none⟩)) rfl (by kernel_rfl) (by kernel_rfl) (by kernel_rfl) rfl (fun _ _ _ h => h) rfl hHeld (fun w hS => by rfl) ?_
    simp only [List.setIfInBounds_toArray, List.set_cons_zero, List.set_cons_succ]
    refine held_take 1 16 (.pointer (some ⟨B, 1, none⟩)) rfl (by kernel_rfl) (by kernel_rfl) (by kernel_rfl) rfl (fun _ _ _ h => h) rfl hHeld (fun w hS => by go_simp) ?_
    simp only [List.setIfInBounds_toArray, List.set_cons_zero, List.set_cons_succ]
    refine held_take 2 17 (.int .i64 c.n) rfl (by kernel_rfl) (by kernel_rfl) (by kernel_rfl) rfl (fun _ _ _ h => h) rfl hHeld (fun w hS => by have hn := hS.n; go_simp) ?_
    simp only [List.setIfInBounds_toArray, List.set_cons_zero, List.set_cons_succ]
    refine held_take 3 18 (.pointer (some ⟨B, 2, none⟩)) rfl (by kernel_rfl) (by kernel_rfl) (by kernel_rfl) rfl (fun _ _ _ h => h) rfl hHeld (fun w hS => by go_simp) ?_
    simp only [List.setIfInBounds_toArray, List.set_cons_zero, List.set_cons_succ]
    refine held_take 4 19 (.agg (U8 c.b)) rfl (by kernel_rfl) (by kernel_rfl) (by kernel_rfl) rfl (fun _ _ _ h => h) rfl hHeld (fun w hS => by exact hS.exec (.tmp 18) rfl rfl) ?_
    simp only [List.setIfInBounds_toArray, List.set_cons_zero, List.set_cons_succ]
    refine held_take 6 21 (.pointer (some ⟨q, 0, none⟩)) rfl (by kernel_rfl) (by kernel_rfl) (by kernel_rfl) rfl (fun _ _ _ h => h) rfl hHeld (fun w hS => by rfl) ?_
    simp only [List.setIfInBounds_toArray, List.set_cons_zero, List.set_cons_succ]
    refine held_take 7 22 (.pointer (some ⟨B, 1, none⟩)) rfl (by kernel_rfl) (by kernel_rfl) (by kernel_rfl) rfl (fun _ _ _ h => h) rfl hHeld (fun w hS => by go_simp) ?_
    simp only [List.setIfInBounds_toArray, List.set_cons_zero, List.set_cons_succ]
    refine held_take 8 23 (.int .i64 c.n) rfl (by kernel_rfl) (by kernel_rfl) (by kernel_rfl) rfl (fun _ _ _ h => h) rfl hHeld (fun w hS => by have hn := hS.n; go_simp) ?_
    simp only [List.setIfInBounds_toArray, List.set_cons_zero, List.set_cons_succ]
    refine held_take 9 24 (.pointer (some ⟨B, 2, none⟩)) rfl (by kernel_rfl) (by kernel_rfl) (by kernel_rfl) rfl (fun _ _ _ h => h) rfl hHeld (fun w hS => by go_simp) ?_
    simp only [List.setIfInBounds_toArray, List.set_cons_zero, List.set_cons_succ]
    refine held_take 10 25 (.agg (U8 c.b)) rfl (by kernel_rfl) (by kernel_rfl) (by kernel_rfl) rfl (fun _ _ _ h => h) rfl hHeld (fun w hS => by exact hS.exec (.tmp 24) rfl rfl) ?_
    simp only [List.setIfInBounds_toArray, List.set_cons_zero, List.set_cons_succ]
    refine held_next 5 20 rfl (by kernel_rfl) rfl rfl (fun K hK => ?_)
    go_simp
    refine (write_law (H1.out.disk.quiet ((Upd.refl _ _).drew)) c.n c.b hb).mono ?_
    rintro e wA ⟨rfl, SA, hdA, hkA⟩
    have HA := Lib.hid ((H1.out.quiet ((Upd.refl _ _).drew)).left hdA hkA)
    have hpA := hkA.2 B HB.out.lt HBS.out
    refine hK.out _ _ (hHeld.heap hpA.2) (fun hHeld => ?_)
    clear hdA hkA hpA hK K
    simp only [List.setIfInBounds_toArray, List.set_cons_zero, List.set_cons_succ]
    refine held_next 11 26 rfl (by kernel_rfl) rfl rfl (fun K hK => ?_)
    go_simp
    refine (rwrite_any q R d c.n c.b _ HA.out.ref hb).mono ?_
    rintro e wB ⟨rfl, RB, hrB, huB, hsB⟩
    have HB2 := Lib.hid (HA.out.right hrB huB hsB)
    have hpB := huB.block B hHeld.lt HBR.out
    refine hK.out _ _ (hHeld.heap hpB) (fun hHeld => ?_)
    clear hrB huB hsB hpB hK K
    simp only [List.setIfInBounds_toArray, List.set_cons_zero, List.set_cons_succ]
    refine held_take 12 27 (.bool true) rfl (by kernel_rfl) (by kernel_rfl) (by kernel_rfl) rfl (fun _ _ _ h => h) rfl hHeld (fun w hS => by go_simp) ?_
    simp only [List.setIfInBounds_toArray, List.set_cons_zero, List.set_cons_succ]
    refine held_take 13 6 (.bool true) rfl (by kernel_rfl) (by kernel_rfl) (by kernel_rfl) rfl (fun _ _ _ h => h) rfl hHeld (fun w hS => by rfl) ?_
    simp only [List.setIfInBounds_toArray, List.set_cons_zero, List.set_cons_succ]
    refine held_done (by kernel_rfl) ?_
    go_wp2
    go_ret
    exact ⟨rfl, _, _, HB2.out⟩
  · rw [e]; clear e
    go_enter Try.func21, Try.ntmps21
    go_upto_region 1 with fail
    rw [← HW.out, ← HBE.out]
    have hn := HB.out.n
    have hrl := DK.rd_len H1.out.disk.disk.wf c.n
    have hee : (d.rd c.n == d.rd c.n) = true := by simp
    go_wp2_with (first
      | (go_at_call 13; refine (read_law H1.out.disk c.n).mono ?_; rintro e wA ⟨rfl, hdA, hkA⟩
         have HA := Lib.hid (H1.out.left hdA hkA)
         have KA := Lib.hid (HB.out.heap (hkA.2 B HB.out.lt HBS.out).2)
         clear hdA hkA)
      | (go_at_call 32; refine (rread_any q R d c.n _ HC.out.ref).mono ?_; rintro e wB ⟨rfl, hrB, huB⟩
         have HD := Lib.hid (HC.out.quiet huB)
         have k1 := hb3.upd huB (by simp)
         clear hrB huB hb3)
      | ((with_reducible show wpList _ _ _ (⟨_, .alloc 23, _, _, _, some _⟩ :: _) _ _); fail)
      | ((with_reducible show wpList _ _ _ (⟨some 7, _, _, _, _, _⟩ :: _) _ _); refine wpList_alloc rfl 23 rfl zero_arr fun w2 hb2 hu2 hs2 => ?_)
      | ((with_reducible show wpList _ _ _ (⟨_, .store _ (.tmp 7) _, _, _, _, _⟩ :: _) _ _); refine wpList_store rfl (.tmp 7) (.tmp 35) rfl rfl rfl hb2 DK.zeros_len hrl fun w3 hb3 hu3 hs3 => ?_
         have hu := hu2.then hu3 (by simp)
         have HC := Lib.hid (HA.out.quiet hu)
         have hnC := (KA.out.heap (hu.block B KA.out.lt (by simp))).n
         clear hu hb2 hu2 hs2 hu3 hs3)
      | ((with_reducible show wpList _ _ _ (⟨some 9, _, _, _, _, _⟩ :: _) _ _); refine wpList_alloc rfl 23 rfl zero_arr fun w4 hb4 hu4 hs4 => ?_)
      | ((with_reducible show wpList _ _ _ (⟨_, .store _ (.tmp 9) _, _, _, _, _⟩ :: _) _ _); refine wpList_store rfl (.tmp 9) (.tmp 42) rfl rfl rfl hb4 DK.zeros_len hrl fun w5 hb5 hu5 hs5 => ?_
         have hu := hu4.then hu5 (by simp)
         have HE := Lib.hid (HD.out.quiet hu)
         have k2 := k1.upd hu (by simp)
         clear hu hb4 hu4 hs4 hu5 hs5 k1)
      | ((with_reducible show wpList _ _ _ (⟨_, .load _ (.tmp 7), _, _, _, _⟩ :: _) _ _); refine wpList_loadW (.tmp 7) rfl rfl rfl k2 hrl ?_)
      | ((with_reducible show wpList _ _ _ (⟨_, .load _ (.tmp 9), _, _, _, _⟩ :: _) _ _); refine wpList_loadW (.tmp 9) rfl rfl rfl hb5 hrl ?_)
      | ((with_reducible show wpList _ _ _ (⟨_, .binOp .eql 23 (.tmp 44) (.tmp 45) _, _, _, _, _⟩ :: _) _ _); refine wpList_eqW (.tmp 44) (.tmp 45) rfl rfl rfl rfl hrl hrl hee ?_))
    go_ret
    exact ⟨rfl, _, _, HE.out⟩
  · rw [e]; clear e
    go_enter Try.func21, Try.ntmps21
    go_upto_region 1 with fail
    rw [← HW.out, ← HBE.out]
    go_wp2_with (first
      | (go_at_call 14; refine (flush_law H1.out.disk).mono ?_; rintro e wA ⟨rfl, SA, hdA, hkA⟩
         have HA := Lib.hid (H1.out.left hdA hkA)
         clear hdA hkA)
      | (go_at_call 33; refine (rflush_any q R d _ HA.out.ref).mono ?_; rintro e wB ⟨rfl, RB, hrB, huB, hsB⟩
         have HD := Lib.hid (HA.out.right hrB huB hsB)
         clear hrB huB hsB))
    go_ret
    exact ⟨rfl, _, _, HD.out⟩
  · rw [e]; clear e
    go_enter Try.func21, Try.ntmps21
    go_upto_region 1 with fail
    rw [← HW.out, ← HBE.out]
    have hv := HB.out.v
    go_wp2_with (first
      | (go_at_call 15; refine (crash_law H1.out.disk c.v c.fates (HV.out.later H1.out.disk.upd) (HV.out.out H1.out.disk.base)).mono ?_; rintro e wA ⟨rfl, SA, hdA, hkA⟩
         have HA := Lib.hid (H1.out.left hdA hkA)
         have hvA := (HB.out.heap (hkA.2 B HB.out.lt HBS.out).2).v
         clear hdA hkA)
      | (go_at_call 34; refine (rcrash_any q R d c.v c.fates _ HA.out.ref (HV.out.later HA.out.disk.upd) (HV.out.out HA.out.base)).mono ?_; rintro e wB ⟨rfl, RB, hrB, huB, hsB⟩
         have HD := Lib.hid (HA.out.right hrB huB hsB)
         clear hrB huB hsB))
    go_ret
    exact ⟨rfl, _, _, HD.out⟩
  · rw [e]; clear e
    go_enter Try.func21, Try.ntmps21
    go_upto_region 1 with fail
    rw [← HW.out, ← HBE.out]
    go_wp2_with (first
      | (go_at_call 16; refine (start_law H1.out.disk).mono ?_; rintro e wA ⟨rfl, hdA, hkA⟩
         have HA := Lib.hid (H1.out.left hdA hkA)
         clear hdA hkA)
      | (go_at_call 24; refine (rstart_any q R d _ HA.out.ref).mono ?_; rintro e wB ⟨rfl, hrB, huB⟩
         have HD := Lib.hid (HA.out.right hrB huB (Sub.refl _ _))
         clear hrB huB))
    go_ret
    exact ⟨rfl, _, _, HD.out⟩
  · rw [e]; clear e
    go_enter Try.func21, Try.ntmps21
    go_upto_region 1 with fail
    rw [← HW.out, ← HBE.out]
    go_wp2
    go_ret
    exact ⟨rfl, _, _, H1.out⟩

end Go.Proofs.Ytmdioojaaneacaa
