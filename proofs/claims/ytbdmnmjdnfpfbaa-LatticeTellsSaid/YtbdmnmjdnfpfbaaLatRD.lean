/- The walks of the document's Add and Merge. (Printed by wip/tools/gen_radd.py.) -/
import Derived.Test.YtbdmnmjdnfpfbaaLatRC
namespace Go.Proofs.Ytbdmnmjdnfpfbaa
open Go.ChangeShapes Go.WideShapes Go.ChangeAt Go.RowKit

section
variable {P : Program} {ops : Array Oper} {Q : Exit → Act → World → Prop} {S : World → Prop}
theorem held_startG {id : Nat} {a : Act} {w : World} (S : World → Prop) (n : Nat) (hm : P.follows .mixedOrders = true) (hn : ops.size = n) (hS : S w.drew) (h : ∀ wd, S wd → wpAnyH P .any ops Q S n (Array.replicate n false) a wd) : (Code.region id ops true).wp P Q a w :=
  held_start S n hm hn hS (h _)
end

theorem one_fs {w : World} {b : Nat} {f : FK} {cv : Value} {T : List Nat} (hb : Blk w b (encF f cv).toArray 31) (hf : f.WF) (hc : ChunksAt w T cv f.chunks) : FsAt w (b :: T) (.slice (some ⟨b, 0, none⟩) 1 1) [f] :=
  ⟨_, 1, [cv], rfl, Nat.le_refl _, by unfold maxLen; omega, fun g hg => by rw [List.mem_singleton.1 hg]; exact hf, (ChunksL.one hc).mono (fun k hk => List.mem_cons_of_mem _ hk), fun _ => ⟨b, 0, rfl, hb.lt, List.mem_cons_self, by rw [encL_one]; exact CellsAt.of_blk hb⟩⟩

theorem OL.none {w : World} (base : Nat) (T : List Nat) (hb : base ≤ w.heap.size) : OL (w.alloc (.cells #[] 31)) base (.slice (some ⟨w.heap.size, 0, none⟩) 0 0) [] [] T :=
  ⟨World.ownsRow_made w #[] 0 hb (by unfold maxLen; omega) rfl, ChunksL.nil _ _, fun f hf => by simp at hf⟩

theorem place_end {L : List FK} {f : FK} {m : Nat} (hm : m ≤ L.length) (h : ∀ j, j < m → (L.getD j FK.zero).less f = true) (hn : m < L.length → (L.getD m FK.zero).less f = false) : placeL L f = m := by
  unfold placeL
  rcases Nat.lt_or_ge m L.length with h1 | h1
  · exact takeWhile_len _ L m h1 (hn h1) h
  · have : L.length = m := by omega
    rw [← this]
    exact takeWhile_all _ L (fun j hj => h j (by omega))

set_option maxRecDepth 100000 in
set_option maxHeartbeats 4000000 in
theorem radd_fi {w : World} {v cv : Value} {L : List FK} {f : FK} (nodes : Int) (h : FI w v L) (hf : f.WF) (hc : CI w cv f.chunks) (hl : L.length ≤ 900) :
    Calls Try.prog 25 #[.int .i64 nodes, v, .agg (encF f cv).toArray] w fun e w' => ∃ v', e = .returned (.tuple #[v', .int .i64 (addCode nodes L f)]) ∧ FI w' v' (addL nodes L f) ∧ Upd [] w w' := by
  have key : (f.chk nodes = 100 ∧ addCode nodes L f = 100 ∧ addL nodes L f = L) ∨ (f.chk nodes = 0 ∧ hasL L f.kind f.epoch f.node = true ∧ addCode nodes L f = 0 ∧ addL nodes L f = L) ∨
      (f.chk nodes = 0 ∧ hasL L f.kind f.epoch f.node = false ∧ 200 ≤ L.length ∧ addCode nodes L f = 110 ∧ addL nodes L f = L) ∨ (f.chk nodes = 0 ∧ hasL L f.kind f.epoch f.node = false ∧ L.length < 200 ∧ addCode nodes L f = 0 ∧ addL nodes L f = insL L f) := by
    unfold FK.chk addCode addL
    cases h1 : f.ok nodes with
    | false => left; simp
    | true =>
      right
      cases h2 : hasL L f.kind f.epoch f.node with
      | true => left; simp
      | false =>
        right
        by_cases h3 : 200 ≤ L.length
        · left; simp [h3]
        · right; simp [h3]; omega
  obtain ⟨cd, hcd⟩ : ∃ x, x = addCode nodes L f := ⟨_, rfl⟩
  obtain ⟨R, hR⟩ : ∃ x, x = addL nodes L f := ⟨_, rfl⟩
  obtain ⟨ck, hck⟩ : ∃ x, x = f.chk nodes := ⟨_, rfl⟩
  obtain ⟨hs, hhs⟩ : ∃ x, x = hasL L f.kind f.epoch f.node := ⟨_, rfl⟩
  rw [← hcd, ← hR, ← hck, ← hhs] at key
  rw [← hcd, ← hR]
  obtain ⟨la, lc, rfl⟩ := h.form
  obtain ⟨ln, hln⟩ : ∃ n, n = L.length := ⟨_, rfl⟩
  rw [← hln] at h key hl ⊢
  have HLN := Lib.hid hln
  have HECK := Lib.hid hck
  have HEHS := Lib.hid hhs
  have HFI := Lib.hid h
  have HF := Lib.hid hf
  have HCI := Lib.hid hc
  obtain ⟨w1, hw1⟩ : ∃ w1, w1 = w.alloc (.cells (encF f cv).toArray 31) := ⟨_, rfl⟩
  obtain ⟨hb, hu⟩ := boxed w (encF f cv).toArray 31
  rw [← hw1] at hb hu
  obtain ⟨tb, htb⟩ : ∃ x, x = w.heap.size := ⟨_, rfl⟩
  rw [← htb] at hb
  have HB1 := Lib.hid hb
  have HL1 := Lib.hid (CellsAt.of_blk hb)
  have HU1 := Lib.hid hu
  have HW1 := Lib.hid hw1
  have HTB := Lib.hid htb
  have HC1 := Lib.hid (hc.upd0 hu)
  clear hw1 hb hu htb h hf hc hcd hR hck hhs hln
  go_enter Try.func25, Try.ntmps25
  go_upto_region 1 with fail
  rw [← HW1.out, ← HTB.out]
  go_upto_if 13 with (first
    | ((with_reducible show wpList _ _ _ (⟨some 11, _, _, _, _, _⟩ :: _) _ _); refine wpList_run rfl (fact_load (.tmp 5) rfl rfl HL1.out HF.out) ?_)
    | (go_at_call 50; refine (rcheck_any nodes HF.out HC1.out).mono ?_; rw [← HECK.out]; rintro e w3 ⟨rfl, hu3⟩
       have HB3 := Lib.hid (HB1.out.upd hu3 (by simp))
       have HU3 := Lib.hid (HU1.out.trans hu3)
       clear hu3))
  clear HB1 HL1 HU1 HW1 HTB HC1
  have HFI3 := Lib.hid (HFI.out.upd0 HU3.out)
  rcases key with ⟨rfl, rfl, rfl⟩ | ⟨rfl, rfl, rfl, rfl⟩ | ⟨rfl, rfl, h200, rfl, rfl⟩ | ⟨rfl, rfl, h200, rfl, rfl⟩
  · go_wp2_with fail
    go_ret2
    exact ⟨_, rfl, HFI3.out, HU3.out⟩
  all_goals
    have c0 : w3.cell? ⟨tb, 0, none⟩ = some (.int .i64 f.kind) := HB3.out.cell (o := 0) rfl
    have c1 : w3.cell? ⟨tb, 1, none⟩ = some (.int .i64 f.epoch) := HB3.out.cell (o := 1) rfl
    have c2 : w3.cell? ⟨tb, 2, none⟩ = some (.int .i64 f.node) := HB3.out.cell (o := 2) rfl
    go_upto_region 4 with (go_at_call 36; refine (rhas_fi f.kind f.epoch f.node HFI3.out).mono ?_; rw [← HEHS.out]; rintro e w5 ⟨rfl, hu5⟩
                           have HB5 := Lib.hid (HB3.out.upd hu5 (by simp))
                           have HU5 := Lib.hid (HU3.out.trans hu5)
                           clear hu5)
    clear c0 c1 c2 HB3 HU3 HFI3
    have HFI5 := Lib.hid (HFI.out.upd0 HU5.out)
    have HC5 := Lib.hid (HCI.out.upd0 HU5.out)
    clear HFI HCI
  · go_wp2_with fail
    go_ret2
    exact ⟨_, rfl, HFI5.out, HU5.out⟩
  · have h200' : (200 : Int) ≤ (ln : Int) := by omega
    go_wp2_with fail
    go_ret2
    exact ⟨_, rfl, HFI5.out, HU5.out⟩
  · have h200' : ¬ (200 : Int) ≤ (ln : Int) := by omega
    go_upto_region 9 with fail
    obtain ⟨T1, hT1, hlt1⟩ := HFI5.out
    obtain ⟨T2, hT2, hlt2⟩ := HC5.out
    have HT : Hid (∀ y ∈ T1 ++ T2, y < w5.heap.size) := Lib.hid (fun y hy => (List.mem_append.1 hy).elim (hlt1 y) (hlt2 y))
    have HFT := Lib.hid (hT1.mono (T' := T1 ++ T2) (fun k hk => List.mem_append_left _ hk))
    have HCT := Lib.hid (hT2.mono (T' := T1 ++ T2) (fun k hk => List.mem_append_right _ hk))
    obtain ⟨T, hTe⟩ : ∃ T, T = T1 ++ T2 := ⟨_, rfl⟩
    rw [← hTe] at HT HFT HCT
    have hlc : ln ≤ lc := by obtain ⟨_, _, _, e, h1, -⟩ := hT1; cases e; rw [HLN.out]; exact h1
    clear hT1 hlt1 hT2 hlt2 hTe HFI5 HC5
    go_loopw [9] (fun i wx => ∃ (m : Nat), m ≤ ln ∧ i = .int .i64 m ∧ (∀ j, j < m → (L.getD j FK.zero).less f = true) ∧ Upd [] w5 wx) (fun i _ => ln - (intOf i).toNat)
    case atStart => exact ⟨0, Nat.zero_le _, rfl, fun j hj => by omega, Upd.refl _ _⟩
    case round =>
      obtain ⟨m, hm, rfl, hall, hu⟩ := hrel
      have HALL := Lib.hid hall
      have HU := Lib.hid hu
      have HBX := Lib.hid (HB5.out.upd hu (by simp))
      have hBl := HBX.out.lt
      clear hall hu
      by_cases hlt : m < ln
      · have hlx : m < L.length := by rw [← HLN.out]; exact hlt
        obtain ⟨g, off, xv, hge, hg, -, hcl, -, hwf⟩ := HFT.out.get hlx
        subst hge
        have hg := Nat.lt_of_lt_of_le hg HU.out.size
        obtain ⟨x, hx⟩ : ∃ x, x = L.getD m FK.zero := ⟨_, rfl⟩
        rw [← hx] at hcl hwf
        have HK1 := Lib.hid (hcl.upd HU.out (Nat.lt_of_lt_of_le (by assumption) (Nat.le_refl _)) (by simp))
        have HWF := Lib.hid hwf
        have HX := Lib.hid hx
        have hx0 : (0 : Int) ≤ (m : Int) := by omega
        have hx1 : (m : Int) < (ln : Int) := by omega
        obtain ⟨ls, hls⟩ : ∃ b, b = x.less f := ⟨_, rfl⟩
        have HLS := Lib.hid hls
        clear hcl hwf hx hls
        cases ls with
        | true => as_aux_lemma =>
            go_upto_region 9 with fail
            refine held_start (fun w' => Upd [] wr w') 12 mixed rfl ((Upd.refl _ _).drew) (fun hHeld => ?_)
            refine held_take 0 29 (.int .i64 (m : Nat)) rfl (by kernel_rfl) (by kernel_rfl) (by kernel_rfl) rfl (fun _ _ _ h => h) rfl hHeld (fun w hS => by rfl) ?_
            simp only [List.setIfInBounds_toArray, List.set_cons_zero, List.set_cons_succ]
            refine held_take 1 30 (.slice (some ⟨g, off, none⟩) ln lc) rfl (by kernel_rfl) (by kernel_rfl) (by kernel_rfl) rfl (fun _ _ _ h => h) rfl hHeld (fun w hS => by rfl) ?_
            simp only [List.setIfInBounds_toArray, List.set_cons_zero, List.set_cons_succ]
            refine held_take 2 31 (.int .i64 (ln : Nat)) rfl (by kernel_rfl) (by kernel_rfl) (by kernel_rfl) rfl (fun _ _ _ h => h) rfl hHeld (fun w hS => by go_simp) ?_
            simp only [List.setIfInBounds_toArray, List.set_cons_zero, List.set_cons_succ]
            refine held_take 3 32 (.bool true) rfl (by kernel_rfl) (by kernel_rfl) (by kernel_rfl) rfl (fun _ _ _ h => h) rfl hHeld (fun w hS => by go_simp) ?_
            simp only [List.setIfInBounds_toArray, List.set_cons_zero, List.set_cons_succ]
            refine held_take 4 33 (.bool true) rfl (by kernel_rfl) (by kernel_rfl) (by kernel_rfl) rfl (fun _ _ _ h => h) rfl hHeld (fun w hS => by rfl) ?_
            simp only [List.setIfInBounds_toArray, List.set_cons_zero, List.set_cons_succ]
            refine held_take 5 34 (.slice (some ⟨g, off, none⟩) ln lc) rfl (by kernel_rfl) (by kernel_rfl) (by kernel_rfl) rfl (fun _ _ _ h => h) rfl hHeld (fun w hS => by rfl) ?_
            simp only [List.setIfInBounds_toArray, List.set_cons_zero, List.set_cons_succ]
            refine held_take 6 35 (.int .i64 (m : Nat)) rfl (by kernel_rfl) (by kernel_rfl) (by kernel_rfl) rfl (fun _ _ _ h => h) rfl hHeld (fun w hS => by rfl) ?_
            simp only [List.setIfInBounds_toArray, List.set_cons_zero, List.set_cons_succ]
            refine held_take 7 36 (.pointer (some ⟨g, off + m * 38, none⟩)) rfl (by kernel_rfl) (by kernel_rfl) (by kernel_rfl) rfl (fun _ _ _ h => h) rfl hHeld (fun w hS => by go_simp) ?_
            simp only [List.setIfInBounds_toArray, List.set_cons_zero, List.set_cons_succ]
            refine held_take 8 37 (.agg (encF x xv).toArray) rfl (by kernel_rfl) (by kernel_rfl) (by kernel_rfl) rfl (fun _ _ _ h => h) rfl hHeld (fun w hS => by exact fact_load (.tmp 36) rfl rfl (HK1.out.upd hS hg (by simp)) HWF.out) ?_
            simp only [List.setIfInBounds_toArray, List.set_cons_zero, List.set_cons_succ]
            refine held_take 9 38 (.agg (encF f cv).toArray) rfl (by kernel_rfl) (by kernel_rfl) (by kernel_rfl) rfl (fun _ _ _ h => h) rfl hHeld (fun w hS => by exact fact_load (.tmp 5) rfl rfl (CellsAt.of_blk (HBX.out.upd hS (by simp))) HF.out) ?_
            simp only [List.setIfInBounds_toArray, List.set_cons_zero, List.set_cons_succ]
            refine held_next 10 39 rfl (by kernel_rfl) rfl rfl (fun K hK => ?_)
            go_simp
            refine (rless_any x f xv cv _).mono ?_
            rw [← HLS.out]
            rintro e w6 ⟨rfl, hu6⟩
            have hk := hK.out (.bool true) _ (hHeld.trans hu6)
            simp only [Act.put, List.setIfInBounds_toArray, List.set_cons_zero, List.set_cons_succ] at hk
            refine hk (fun hHeld => ?_)
            clear hK hk K
            refine held_take 11 40 (.bool true) rfl (by kernel_rfl) (by kernel_rfl) (by kernel_rfl) rfl (fun _ _ _ h => h) rfl hHeld (fun w hS => by rfl) ?_
            simp only [List.setIfInBounds_toArray, List.set_cons_zero, List.set_cons_succ]
            refine held_done (by kernel_rfl) ?_
            go_wp2_with fail
            go_roundw
            case rel => exact ⟨m + 1, by omega, by go_num, fun j hj => by
              rcases Nat.lt_or_ge j m with h1 | h1
              · exact HALL.out j h1
              · obtain rfl : j = m := by omega
                rw [← HX.out, ← HLS.out], HU.out.trans hHeld⟩
            case measure => simp [intOf]; omega
        | false => as_aux_lemma =>
            go_upto_region 9 with fail
            refine held_start (fun w' => Upd [] wr w') 12 mixed rfl ((Upd.refl _ _).drew) (fun hHeld => ?_)
            refine held_take 0 29 (.int .i64 (m : Nat)) rfl (by kernel_rfl) (by kernel_rfl) (by kernel_rfl) rfl (fun _ _ _ h => h) rfl hHeld (fun w hS => by rfl) ?_
            simp only [List.setIfInBounds_toArray, List.set_cons_zero, List.set_cons_succ]
            refine held_take 1 30 (.slice (some ⟨g, off, none⟩) ln lc) rfl (by kernel_rfl) (by kernel_rfl) (by kernel_rfl) rfl (fun _ _ _ h => h) rfl hHeld (fun w hS => by rfl) ?_
            simp only [List.setIfInBounds_toArray, List.set_cons_zero, List.set_cons_succ]
            refine held_take 2 31 (.int .i64 (ln : Nat)) rfl (by kernel_rfl) (by kernel_rfl) (by kernel_rfl) rfl (fun _ _ _ h => h) rfl hHeld (fun w hS => by go_simp) ?_
            simp only [List.setIfInBounds_toArray, List.set_cons_zero, List.set_cons_succ]
            refine held_take 3 32 (.bool true) rfl (by kernel_rfl) (by kernel_rfl) (by kernel_rfl) rfl (fun _ _ _ h => h) rfl hHeld (fun w hS => by go_simp) ?_
            simp only [List.setIfInBounds_toArray, List.set_cons_zero, List.set_cons_succ]
            refine held_take 4 33 (.bool true) rfl (by kernel_rfl) (by kernel_rfl) (by kernel_rfl) rfl (fun _ _ _ h => h) rfl hHeld (fun w hS => by rfl) ?_
            simp only [List.setIfInBounds_toArray, List.set_cons_zero, List.set_cons_succ]
            refine held_take 5 34 (.slice (some ⟨g, off, none⟩) ln lc) rfl (by kernel_rfl) (by kernel_rfl) (by kernel_rfl) rfl (fun _ _ _ h => h) rfl hHeld (fun w hS => by rfl) ?_
            simp only [List.setIfInBounds_toArray, List.set_cons_zero, List.set_cons_succ]
            refine held_take 6 35 (.int .i64 (m : Nat)) rfl (by kernel_rfl) (by kernel_rfl) (by kernel_rfl) rfl (fun _ _ _ h => h) rfl hHeld (fun w hS => by rfl) ?_
            simp only [List.setIfInBounds_toArray, List.set_cons_zero, List.set_cons_succ]
            refine held_take 7 36 (.pointer (some ⟨g, off + m * 38, none⟩)) rfl (by kernel_rfl) (by kernel_rfl) (by kernel_rfl) rfl (fun _ _ _ h => h) rfl hHeld (fun w hS => by go_simp) ?_
            simp only [List.setIfInBounds_toArray, List.set_cons_zero, List.set_cons_succ]
            refine held_take 8 37 (.agg (encF x xv).toArray) rfl (by kernel_rfl) (by kernel_rfl) (by kernel_rfl) rfl (fun _ _ _ h => h) rfl hHeld (fun w hS => by exact fact_load (.tmp 36) rfl rfl (HK1.out.upd hS hg (by simp)) HWF.out) ?_
            simp only [List.setIfInBounds_toArray, List.set_cons_zero, List.set_cons_succ]
            refine held_take 9 38 (.agg (encF f cv).toArray) rfl (by kernel_rfl) (by kernel_rfl) (by kernel_rfl) rfl (fun _ _ _ h => h) rfl hHeld (fun w hS => by exact fact_load (.tmp 5) rfl rfl (CellsAt.of_blk (HBX.out.upd hS (by simp))) HF.out) ?_
            simp only [List.setIfInBounds_toArray, List.set_cons_zero, List.set_cons_succ]
            refine held_next 10 39 rfl (by kernel_rfl) rfl rfl (fun K hK => ?_)
            go_simp
            refine (rless_any x f xv cv _).mono ?_
            rw [← HLS.out]
            rintro e w6 ⟨rfl, hu6⟩
            have hk := hK.out (.bool false) _ (hHeld.trans hu6)
            simp only [Act.put, List.setIfInBounds_toArray, List.set_cons_zero, List.set_cons_succ] at hk
            refine hk (fun hHeld => ?_)
            clear hK hk K
            refine held_take 11 40 (.bool false) rfl (by kernel_rfl) (by kernel_rfl) (by kernel_rfl) rfl (fun _ _ _ h => h) rfl hHeld (fun w hS => by rfl) ?_
            simp only [List.setIfInBounds_toArray, List.set_cons_zero, List.set_cons_succ]
            refine held_done (by kernel_rfl) ?_
            have HEND : Hid (m < L.length → (L.getD m FK.zero).less f = false) := Lib.hid (fun _ => by rw [← HX.out, ← HLS.out])
            have HPL : Hid (insL L f = L.take m ++ [f] ++ L.drop m) := Lib.hid (by unfold insL; rw [place_end (by rw [← HLN.out]; exact hm) HALL.out HEND.out]; simp)
            have HUW := Lib.hid hHeld
            clear hHeld
            go_upto_region 11 with fail
            refine held_startG (fun w' => Upd [] wr w') 14 mixed rfl HUW.out.drew (fun wd hHeld => ?_)
            refine held_take 1 44 (.slice (some ⟨g, off, none⟩) ln lc) rfl (by kernel_rfl) (by kernel_rfl) (by kernel_rfl) rfl (fun _ _ _ h => h) rfl hHeld (fun w hS => by rfl) ?_
            simp only [List.setIfInBounds_toArray, List.set_cons_zero, List.set_cons_succ]
            refine held_take 2 45 (.int .i64 (m : Nat)) rfl (by kernel_rfl) (by kernel_rfl) (by kernel_rfl) rfl (fun _ _ _ h => h) rfl hHeld (fun w hS => by rfl) ?_
            simp only [List.setIfInBounds_toArray, List.set_cons_zero, List.set_cons_succ]
            refine held_take 3 46 (sliced (some ⟨g, off, none⟩) 0 m lc 38) rfl (by kernel_rfl) (by kernel_rfl) (by kernel_rfl) rfl (fun _ _ _ h => h) rfl hHeld (fun w hS => by exact exec_sliceH0 23 (.tmp 44) (.tmp 45) rfl Try.underlying23 info_fact rfl rfl (by omega)) ?_
            simp only [List.setIfInBounds_toArray, List.set_cons_zero, List.set_cons_succ]
            refine held_take 5 48 (.agg (encF f cv).toArray) rfl (by kernel_rfl) (by kernel_rfl) (by kernel_rfl) rfl (fun _ _ _ h => h) rfl hHeld (fun w hS => by exact fact_load (.tmp 5) rfl rfl (CellsAt.of_blk (HBX.out.upd hS (by simp))) HF.out) ?_
            simp only [List.setIfInBounds_toArray, List.set_cons_zero, List.set_cons_succ]
            refine held_take 8 51 (.slice (some ⟨g, off, none⟩) ln lc) rfl (by kernel_rfl) (by kernel_rfl) (by kernel_rfl) rfl (fun _ _ _ h => h) rfl hHeld (fun w hS => by rfl) ?_
            simp only [List.setIfInBounds_toArray, List.set_cons_zero, List.set_cons_succ]
            refine held_take 9 52 (.int .i64 (m : Nat)) rfl (by kernel_rfl) (by kernel_rfl) (by kernel_rfl) rfl (fun _ _ _ h => h) rfl hHeld (fun w hS => by rfl) ?_
            simp only [List.setIfInBounds_toArray, List.set_cons_zero, List.set_cons_succ]
            refine held_take 10 53 (sliced (some ⟨g, off, none⟩) m ln lc 38) rfl (by kernel_rfl) (by kernel_rfl) (by kernel_rfl) rfl (fun _ _ _ h => h) rfl hHeld (fun w hS => by exact exec_sliceL0 23 (.tmp 51) (.tmp 52) rfl Try.underlying23 info_fact rfl rfl (by omega) rfl) ?_
            simp only [List.setIfInBounds_toArray, List.set_cons_zero, List.set_cons_succ]
            have hz0 := HU.out.size
            have HTR : Hid (∀ y ∈ T, y < wr.heap.size) := Lib.hid (fun y hy => Nat.lt_of_lt_of_le (HT.out y hy) hz0)
            have HSRC : Hid (FsAt wr T (.slice (some ⟨g, off, none⟩) ln lc) L) := Lib.hid (HFT.out.upd0 HU.out)
            have HSH : Hid (FsAt wr T (sliced (some ⟨g, off, none⟩) 0 m lc 38) (L.take m)) := Lib.hid (by have h1 := HSRC.out; rw [HLN.out] at h1; exact h1.slicedH (by rw [← HLN.out]; exact hm))
            have HSL : Hid (FsAt wr T (sliced (some ⟨g, off, none⟩) m ln lc 38) (L.drop m)) := Lib.hid (by have h1 := HSRC.out; rw [HLN.out] at h1 ⊢; exact h1.slicedL (by rw [← HLN.out]; exact hm))
            have HCR := Lib.hid (HCT.out.upd0 HU.out)
            have hlt1 : (L.take m).length ≤ 200 := by rw [List.length_take]; omega
            have hlt2 : (L.drop m).length ≤ 200 := by rw [List.length_drop, ← HLN.out]; omega
            clear hz0
            refine wpAnyH_ready (rs := [0, 6]) (by kernel_rfl) (by simp) ?_
            have HWD := hHeld
            refine held_cons 0 43 rfl rfl rfl (fun K hK => ?_) (held_cons 6 49 rfl rfl rfl (fun K hK => ?_) AllReadyH.nil)
            · refine wp_none rfl ?_
              have hk := hK.out (.slice (some ⟨wd.heap.size, 0, none⟩) 0 0) _ (hHeld.alloc (.cells #[] 31))
              refine hk (fun hHeld => ?_)
              clear hK hk K
              simp only [List.setIfInBounds_toArray, List.set_cons_zero, List.set_cons_succ]
              have HOLw43 := Lib.hid (OL.none (w := wd) wr.heap.size T HWD.size)
              have hua : Upd [] wd (wd.alloc (.cells #[] 31)) := (Upd.refl _ _).alloc _
              have hsz : (wd.alloc (.cells #[] 31)).heap.size = wd.heap.size + 1 := by simp
              obtain ⟨w43, hwx⟩ : ∃ x, x = wd.alloc (.cells #[] 31) := ⟨_, rfl⟩
              rw [← hwx] at hHeld hua hsz HOLw43 ⊢
              obtain ⟨b43, hb43⟩ : ∃ x, x = wd.heap.size := ⟨_, rfl⟩
              rw [← hb43] at HOLw43 hsz ⊢
              have HSw43 := Lib.hid hsz
              have HB43 := Lib.hid hb43
              have HUAw43 := Lib.hid hua
              have HWDw43 := hHeld
              clear hwx hsz hua hb43
              refine wpAnyH_ready (rs := [4, 6]) (by kernel_rfl) (by simp) ?_
              refine held_cons 4 47 rfl rfl rfl (fun K hK => ?_) (held_cons 6 49 rfl rfl rfl (fun K hK => ?_) AllReadyH.nil)
              · refine wp_appendF (v0 := .slice (some ⟨b43, 0, none⟩) 0 0) (.tmp 43) (.tmp 46) rfl rfl HOLw43.out (HWDw43.size) rfl (HSH.out.upd0 hHeld) (fun y hy hm => by have h1 := HTR.out y hy; have h2 := (HOLw43.out.own.lt y (by simpa using hm)).1; omega) (fun y hy hm => by have h1 := HTR.out y hy; have h2 := (HOLw43.out.own.lt y (by simpa using hm)).1; omega) (by simpa using (by omega : (L.take m).length ≤ 1000)) ?_
                intro v47 w47 cvs47 hol47 hu47 hat47
                have HHT : Hid (∀ y ∈ (Value.slice (some ⟨b43, 0, none⟩) 0 0).ownBlock.toList, wr.heap.size ≤ y) := Lib.hid (fun y hy => (HOLw43.out.own.lt y (by simpa using hy)).1)
                have hHeld2 : Upd [] wr w47 := hHeld.then hu47 (fun y hy => .inr (HHT.out y hy))
                have hk := hK.out v47 w47 hHeld2
                simp only [Act.put, List.setIfInBounds_toArray, List.set_cons_zero, List.set_cons_succ] at hk
                refine hk (fun hHeld => ?_)
                clear hK hk K hHeld2
                rw [List.nil_append] at hol47
                have HOLw47 := Lib.hid hol47
                have HU47 := Lib.hid hu47
                have HAT47 := Lib.hid hat47
                have HWDw47 := hHeld
                clear hol47 hu47 hat47
                refine held_next 6 49 rfl (by kernel_rfl) rfl rfl (fun K hK => ?_)
                refine wp_one (.tmp 48) rfl rfl HF.out ?_
                have hk := hK.out (.slice (some ⟨w47.heap.size, 0, none⟩) 1 1) _ (hHeld.alloc (.cells (encF f cv).toArray 31))
                refine hk (fun hHeld => ?_)
                clear hK hk K
                simp only [List.setIfInBounds_toArray, List.set_cons_zero, List.set_cons_succ]
                have hbx : Blk (w47.alloc (.cells (encF f cv).toArray 31)) w47.heap.size (encF f cv).toArray 31 := Blk.new _ _ _
                have hua : Upd [] w47 (w47.alloc (.cells (encF f cv).toArray 31)) := (Upd.refl _ _).alloc _
                have hsz : (w47.alloc (.cells (encF f cv).toArray 31)).heap.size = w47.heap.size + 1 := by simp
                obtain ⟨wt, hwx⟩ : ∃ x, x = w47.alloc (.cells (encF f cv).toArray 31) := ⟨_, rfl⟩
                rw [← hwx] at hHeld hua hsz hbx ⊢
                obtain ⟨b49, hb49⟩ : ∃ x, x = w47.heap.size := ⟨_, rfl⟩
                rw [← hb49] at hbx hsz ⊢
                have HSwt := Lib.hid hsz
                have HB49 := Lib.hid hb49
                have HUAwt := Lib.hid hua
                have HWDwt := hHeld
                have hge49 : wr.heap.size ≤ b49 := by rw [hb49]; exact HWDw47.size
                have HFSwt := Lib.hid (one_fs hbx HF.out (HCR.out.upd0 hHeld))
                clear hwx hsz hua hb49 hbx
                have HOLT := Lib.hid (HOLw47.out.upd0 HUAwt.out)
                have HFST := HFSwt
                have HNE : Hid (b49 ∉ v47.ownBlock.toList) := Lib.hid (fun hm => by have h1 := (HOLw47.out.own.lt b49 (by simpa using hm)).2; have := HB49.out; omega)
                have HLT49 : Hid (b49 < wt.heap.size) := Lib.hid (by have := HSwt.out; omega)
                have hOWNGE : ∀ y ∈ v47.ownBlock.toList, wr.heap.size ≤ y := fun y hy => (HOLT.out.own.lt y (by simpa using hy)).1
                refine held_next 7 50 rfl (by kernel_rfl) rfl rfl (fun K hK => ?_)
                refine wp_appendF (v0 := v47) (.tmp 47) (.tmp 49) rfl rfl HOLT.out HWDwt.size rfl HFST.out (fun y hy hm => by have h2 := hOWNGE y hm; rcases List.mem_append.1 hy with h1 | h1 <;> (have h3 := HTR.out y h1; omega)) (fun y hy hm => by rcases List.mem_cons.1 hy with rfl | h1; exact HNE.out hm; (have h2 := hOWNGE y hm; have h3 := HTR.out y h1; omega)) (by simp; omega) ?_
                intro v50 w50 cvs50 hol50 hu50 hat50
                have hHeld2 : Upd [] wr w50 := hHeld.then hu50 (fun y hy => .inr (hOWNGE y hy))
                have hk := hK.out v50 w50 hHeld2
                simp only [Act.put, List.setIfInBounds_toArray, List.set_cons_zero, List.set_cons_succ] at hk
                refine hk (fun hHeld => ?_)
                clear hK hk K hHeld2
                have hOWN50 : ∀ y ∈ v50.ownBlock.toList, wr.heap.size ≤ y := fun y hy => (hol50.own.lt y (by simpa using hy)).1
                have hne50 : b49 ∉ v50.ownBlock.toList := fun hm => by
                    rcases hat50 with e | e
                    · rw [e] at hm; exact HNE.out hm
                    · rw [e] at hm; simp at hm; have := HLT49.out; omega
                refine held_next 11 54 rfl (by kernel_rfl) rfl rfl (fun K hK => ?_)
                refine wp_appendF (v0 := v50) (.tmp 50) (.tmp 53) rfl rfl hol50 hHeld.size rfl (HSL.out.upd0 hHeld) (fun y hy hm => by
                    rcases List.mem_append.1 hy with h1 | h1
                    · rcases List.mem_cons.1 h1 with rfl | h1
                      · exact hne50 hm
                      · have h2 := hOWN50 y hm; have h3 := HTR.out y h1; omega
                    · have h2 := hOWN50 y hm; rcases List.mem_append.1 h1 with h1 | h1 <;> (have h3 := HTR.out y h1; omega)) (fun y hy hm => by have h2 := hOWN50 y hm; have h3 := HTR.out y hy; omega) (by simp at hlt1 hlt2 ⊢; omega) ?_
                intro v54 w54 cvs54 hol54 hu54 hat54
                have hHeld2 : Upd [] wr w54 := hHeld.then hu54 (fun y hy => .inr (hOWN50 y hy))
                have hk := hK.out v54 w54 hHeld2
                simp only [Act.put, List.setIfInBounds_toArray, List.set_cons_zero, List.set_cons_succ] at hk
                have hl49 : b49 < w54.heap.size := Nat.lt_of_lt_of_le (Nat.lt_of_lt_of_le HLT49.out hu50.size) hu54.size
                refine hk (fun hHeld => ?_)
                clear hK hk K hHeld2
                refine held_take 12 6 (v54) rfl (by kernel_rfl) (by kernel_rfl) (by kernel_rfl) rfl (fun _ _ _ h => h) rfl hHeld (fun w hS => by rfl) ?_
                simp only [List.setIfInBounds_toArray, List.set_cons_zero, List.set_cons_succ]
                refine held_take 13 7 (.int .i64 0) rfl (by kernel_rfl) (by kernel_rfl) (by kernel_rfl) rfl (fun _ _ _ h => h) rfl hHeld (fun w hS => by rfl) ?_
                simp only [List.setIfInBounds_toArray, List.set_cons_zero, List.set_cons_succ]
                refine held_done (by kernel_rfl) ?_
                have HFIN : Hid (FI w54 v54 (insL L f)) := Lib.hid (by
                    rw [HPL.out]
                    refine ⟨_, hol54.at, fun y hy => ?_⟩
                    have hT5 : ∀ y ∈ T, y < w54.heap.size := fun y hy => Nat.lt_of_lt_of_le (HTR.out y hy) hHeld.size
                    rcases List.mem_append.1 hy with h1 | h1
                    · exact (hol54.own.lt y (by simpa using h1)).2
                    · rcases List.mem_append.1 h1 with h1 | h1
                      · exact hT5 y h1
                      · rcases List.mem_append.1 h1 with h1 | h1
                        · rcases List.mem_cons.1 h1 with rfl | h1
                          · exact hl49
                          · exact hT5 y h1
                        · rcases List.mem_append.1 h1 with h1 | h1 <;> exact hT5 y h1)
                have HUF := Lib.hid (HU5.out.trans (HU.out.trans hHeld))
                clear hol50 hu50 hat50 hol54 hu54 hat54 hOWNGE hOWN50 hne50 hHeld hl49
                go_wp2_with fail
                go_ret2
                exact ⟨_, rfl, HFIN.out, HUF.out⟩
              · refine wp_one (.tmp 48) rfl rfl HF.out ?_
                have hk := hK.out (.slice (some ⟨w43.heap.size, 0, none⟩) 1 1) _ (hHeld.alloc (.cells (encF f cv).toArray 31))
                refine hk (fun hHeld => ?_)
                clear hK hk K
                simp only [List.setIfInBounds_toArray, List.set_cons_zero, List.set_cons_succ]
                have hbx : Blk (w43.alloc (.cells (encF f cv).toArray 31)) w43.heap.size (encF f cv).toArray 31 := Blk.new _ _ _
                have hua : Upd [] w43 (w43.alloc (.cells (encF f cv).toArray 31)) := (Upd.refl _ _).alloc _
                have hsz : (w43.alloc (.cells (encF f cv).toArray 31)).heap.size = w43.heap.size + 1 := by simp
                obtain ⟨w49, hwx⟩ : ∃ x, x = w43.alloc (.cells (encF f cv).toArray 31) := ⟨_, rfl⟩
                rw [← hwx] at hHeld hua hsz hbx ⊢
                obtain ⟨b49, hb49⟩ : ∃ x, x = w43.heap.size := ⟨_, rfl⟩
                rw [← hb49] at hbx hsz ⊢
                have HSw49 := Lib.hid hsz
                have HB49 := Lib.hid hb49
                have HUAw49 := Lib.hid hua
                have HWDw49 := hHeld
                have hge49 : wr.heap.size ≤ b49 := by rw [hb49]; exact HWDw43.size
                have HFSw49 := Lib.hid (one_fs hbx HF.out (HCR.out.upd0 hHeld))
                clear hwx hsz hua hb49 hbx
                refine held_next 4 47 rfl (by kernel_rfl) rfl rfl (fun K hK => ?_)
                have HOL9 := Lib.hid (HOLw43.out.upd0 HUAw49.out)
                refine wp_appendF (v0 := .slice (some ⟨b43, 0, none⟩) 0 0) (.tmp 43) (.tmp 46) rfl rfl HOL9.out (HWDw49.size) rfl (HSH.out.upd0 hHeld) (fun y hy hm => by have h1 := HTR.out y hy; have h2 := (HOL9.out.own.lt y (by simpa using hm)).1; omega) (fun y hy hm => by have h1 := HTR.out y hy; have h2 := (HOL9.out.own.lt y (by simpa using hm)).1; omega) (by simpa using (by omega : (L.take m).length ≤ 1000)) ?_
                intro v47 wt cvs47 hol47 hu47 hat47
                have HHT : Hid (∀ y ∈ (Value.slice (some ⟨b43, 0, none⟩) 0 0).ownBlock.toList, wr.heap.size ≤ y) := Lib.hid (fun y hy => (HOL9.out.own.lt y (by simpa using hy)).1)
                have hHeld2 : Upd [] wr wt := hHeld.then hu47 (fun y hy => .inr (HHT.out y hy))
                have hk := hK.out v47 wt hHeld2
                simp only [Act.put, List.setIfInBounds_toArray, List.set_cons_zero, List.set_cons_succ] at hk
                refine hk (fun hHeld => ?_)
                clear hK hk K hHeld2
                rw [List.nil_append] at hol47
                have HOLwt := Lib.hid hol47
                have HU47 := Lib.hid hu47
                have HAT47 := Lib.hid hat47
                have HWDwt := hHeld
                clear hol47 hu47 hat47
                have HOLT := HOLwt
                have hne43 : b43 ≠ b49 := by have h1 := HSw43.out; have h2 := HB49.out; omega
                have HFST := Lib.hid (HFSw49.out.upd HU47.out (fun y hy hm => by
                    simp [Value.ownBlock] at hm
                    rcases List.mem_cons.1 hy with rfl | h1
                    · exact hne43 hm.symm
                    · have h2 := HTR.out y h1; have h3 := HHT.out b43 (by simp [Value.ownBlock]); omega))
                have HNE : Hid (b49 ∉ v47.ownBlock.toList) := Lib.hid (fun hm => by
                    rcases HAT47.out with e | e
                    · rw [e] at hm; simp [Value.ownBlock] at hm; exact hne43 hm.symm
                    · rw [e] at hm; simp at hm; have := HSw49.out; omega)
                have HLT49 : Hid (b49 < wt.heap.size) := Lib.hid (by have h1 := HSw49.out; have h2 := HU47.out.size; omega)
                have hOWNGE : ∀ y ∈ v47.ownBlock.toList, wr.heap.size ≤ y := fun y hy => (HOLT.out.own.lt y (by simpa using hy)).1
                refine held_next 7 50 rfl (by kernel_rfl) rfl rfl (fun K hK => ?_)
                refine wp_appendF (v0 := v47) (.tmp 47) (.tmp 49) rfl rfl HOLT.out HWDwt.size rfl HFST.out (fun y hy hm => by have h2 := hOWNGE y hm; rcases List.mem_append.1 hy with h1 | h1 <;> (have h3 := HTR.out y h1; omega)) (fun y hy hm => by rcases List.mem_cons.1 hy with rfl | h1; exact HNE.out hm; (have h2 := hOWNGE y hm; have h3 := HTR.out y h1; omega)) (by simp; omega) ?_
                intro v50 w50 cvs50 hol50 hu50 hat50
                have hHeld2 : Upd [] wr w50 := hHeld.then hu50 (fun y hy => .inr (hOWNGE y hy))
                have hk := hK.out v50 w50 hHeld2
                simp only [Act.put, List.setIfInBounds_toArray, List.set_cons_zero, List.set_cons_succ] at hk
                refine hk (fun hHeld => ?_)
                clear hK hk K hHeld2
                have hOWN50 : ∀ y ∈ v50.ownBlock.toList, wr.heap.size ≤ y := fun y hy => (hol50.own.lt y (by simpa using hy)).1
                have hne50 : b49 ∉ v50.ownBlock.toList := fun hm => by
                    rcases hat50 with e | e
                    · rw [e] at hm; exact HNE.out hm
                    · rw [e] at hm; simp at hm; have := HLT49.out; omega
                refine held_next 11 54 rfl (by kernel_rfl) rfl rfl (fun K hK => ?_)
                refine wp_appendF (v0 := v50) (.tmp 50) (.tmp 53) rfl rfl hol50 hHeld.size rfl (HSL.out.upd0 hHeld) (fun y hy hm => by
                    rcases List.mem_append.1 hy with h1 | h1
                    · rcases List.mem_cons.1 h1 with rfl | h1
                      · exact hne50 hm
                      · have h2 := hOWN50 y hm; have h3 := HTR.out y h1; omega
                    · have h2 := hOWN50 y hm; rcases List.mem_append.1 h1 with h1 | h1 <;> (have h3 := HTR.out y h1; omega)) (fun y hy hm => by have h2 := hOWN50 y hm; have h3 := HTR.out y hy; omega) (by simp at hlt1 hlt2 ⊢; omega) ?_
                intro v54 w54 cvs54 hol54 hu54 hat54
                have hHeld2 : Upd [] wr w54 := hHeld.then hu54 (fun y hy => .inr (hOWN50 y hy))
                have hk := hK.out v54 w54 hHeld2
                simp only [Act.put, List.setIfInBounds_toArray, List.set_cons_zero, List.set_cons_succ] at hk
                have hl49 : b49 < w54.heap.size := Nat.lt_of_lt_of_le (Nat.lt_of_lt_of_le HLT49.out hu50.size) hu54.size
                refine hk (fun hHeld => ?_)
                clear hK hk K hHeld2
                refine held_take 12 6 (v54) rfl (by kernel_rfl) (by kernel_rfl) (by kernel_rfl) rfl (fun _ _ _ h => h) rfl hHeld (fun w hS => by rfl) ?_
                simp only [List.setIfInBounds_toArray, List.set_cons_zero, List.set_cons_succ]
                refine held_take 13 7 (.int .i64 0) rfl (by kernel_rfl) (by kernel_rfl) (by kernel_rfl) rfl (fun _ _ _ h => h) rfl hHeld (fun w hS => by rfl) ?_
                simp only [List.setIfInBounds_toArray, List.set_cons_zero, List.set_cons_succ]
                refine held_done (by kernel_rfl) ?_
                have HFIN : Hid (FI w54 v54 (insL L f)) := Lib.hid (by
                    rw [HPL.out]
                    refine ⟨_, hol54.at, fun y hy => ?_⟩
                    have hT5 : ∀ y ∈ T, y < w54.heap.size := fun y hy => Nat.lt_of_lt_of_le (HTR.out y hy) hHeld.size
                    rcases List.mem_append.1 hy with h1 | h1
                    · exact (hol54.own.lt y (by simpa using h1)).2
                    · rcases List.mem_append.1 h1 with h1 | h1
                      · exact hT5 y h1
                      · rcases List.mem_append.1 h1 with h1 | h1
                        · rcases List.mem_cons.1 h1 with rfl | h1
                          · exact hl49
                          · exact hT5 y h1
                        · rcases List.mem_append.1 h1 with h1 | h1 <;> exact hT5 y h1)
                have HUF := Lib.hid (HU5.out.trans (HU.out.trans hHeld))
                clear hol50 hu50 hat50 hol54 hu54 hat54 hOWNGE hOWN50 hne50 hHeld hl49
                go_wp2_with fail
                go_ret2
                exact ⟨_, rfl, HFIN.out, HUF.out⟩
            · refine wp_one (.tmp 48) rfl rfl HF.out ?_
              have hk := hK.out (.slice (some ⟨wd.heap.size, 0, none⟩) 1 1) _ (hHeld.alloc (.cells (encF f cv).toArray 31))
              refine hk (fun hHeld => ?_)
              clear hK hk K
              simp only [List.setIfInBounds_toArray, List.set_cons_zero, List.set_cons_succ]
              have hbx : Blk (wd.alloc (.cells (encF f cv).toArray 31)) wd.heap.size (encF f cv).toArray 31 := Blk.new _ _ _
              have hua : Upd [] wd (wd.alloc (.cells (encF f cv).toArray 31)) := (Upd.refl _ _).alloc _
              have hsz : (wd.alloc (.cells (encF f cv).toArray 31)).heap.size = wd.heap.size + 1 := by simp
              obtain ⟨w49, hwx⟩ : ∃ x, x = wd.alloc (.cells (encF f cv).toArray 31) := ⟨_, rfl⟩
              rw [← hwx] at hHeld hua hsz hbx ⊢
              obtain ⟨b49, hb49⟩ : ∃ x, x = wd.heap.size := ⟨_, rfl⟩
              rw [← hb49] at hbx hsz ⊢
              have HSw49 := Lib.hid hsz
              have HB49 := Lib.hid hb49
              have HUAw49 := Lib.hid hua
              have HWDw49 := hHeld
              have hge49 : wr.heap.size ≤ b49 := by rw [hb49]; exact HWD.size
              have HFSw49 := Lib.hid (one_fs hbx HF.out (HCR.out.upd0 hHeld))
              clear hwx hsz hua hb49 hbx
              refine held_next 0 43 rfl (by kernel_rfl) rfl rfl (fun K hK => ?_)
              refine wp_none rfl ?_
              have hk := hK.out (.slice (some ⟨w49.heap.size, 0, none⟩) 0 0) _ (hHeld.alloc (.cells #[] 31))
              refine hk (fun hHeld => ?_)
              clear hK hk K
              simp only [List.setIfInBounds_toArray, List.set_cons_zero, List.set_cons_succ]
              have HOLw43 := Lib.hid (OL.none (w := w49) wr.heap.size T HWDw49.size)
              have hua : Upd [] w49 (w49.alloc (.cells #[] 31)) := (Upd.refl _ _).alloc _
              have hsz : (w49.alloc (.cells #[] 31)).heap.size = w49.heap.size + 1 := by simp
              obtain ⟨w43, hwx⟩ : ∃ x, x = w49.alloc (.cells #[] 31) := ⟨_, rfl⟩
              rw [← hwx] at hHeld hua hsz HOLw43 ⊢
              obtain ⟨b43, hb43⟩ : ∃ x, x = w49.heap.size := ⟨_, rfl⟩
              rw [← hb43] at HOLw43 hsz ⊢
              have HSw43 := Lib.hid hsz
              have HB43 := Lib.hid hb43
              have HUAw43 := Lib.hid hua
              have HWDw43 := hHeld
              clear hwx hsz hua hb43
              refine held_next 4 47 rfl (by kernel_rfl) rfl rfl (fun K hK => ?_)
              refine wp_appendF (v0 := .slice (some ⟨b43, 0, none⟩) 0 0) (.tmp 43) (.tmp 46) rfl rfl HOLw43.out (HWDw43.size) rfl (HSH.out.upd0 hHeld) (fun y hy hm => by have h1 := HTR.out y hy; have h2 := (HOLw43.out.own.lt y (by simpa using hm)).1; omega) (fun y hy hm => by have h1 := HTR.out y hy; have h2 := (HOLw43.out.own.lt y (by simpa using hm)).1; omega) (by simpa using (by omega : (L.take m).length ≤ 1000)) ?_
              intro v47 wt cvs47 hol47 hu47 hat47
              have HHT : Hid (∀ y ∈ (Value.slice (some ⟨b43, 0, none⟩) 0 0).ownBlock.toList, wr.heap.size ≤ y) := Lib.hid (fun y hy => (HOLw43.out.own.lt y (by simpa using hy)).1)
              have hHeld2 : Upd [] wr wt := hHeld.then hu47 (fun y hy => .inr (HHT.out y hy))
              have hk := hK.out v47 wt hHeld2
              simp only [Act.put, List.setIfInBounds_toArray, List.set_cons_zero, List.set_cons_succ] at hk
              refine hk (fun hHeld => ?_)
              clear hK hk K hHeld2
              rw [List.nil_append] at hol47
              have HOLwt := Lib.hid hol47
              have HU47 := Lib.hid hu47
              have HAT47 := Lib.hid hat47
              have HWDwt := hHeld
              clear hol47 hu47 hat47
              have HOLT := HOLwt
              have hne43 : b43 ≠ b49 := by have h1 := HSw49.out; have h2 := HB43.out; omega
              have HFST := Lib.hid ((HFSw49.out.upd0 HUAw43.out).upd HU47.out (fun y hy hm => by
                simp [Value.ownBlock] at hm
                rcases List.mem_cons.1 hy with rfl | h1
                · exact hne43 hm.symm
                · have h2 := HTR.out y h1; have h3 := HHT.out b43 (by simp [Value.ownBlock]); omega))
              have HNE : Hid (b49 ∉ v47.ownBlock.toList) := Lib.hid (fun hm => by
                rcases HAT47.out with e | e
                · rw [e] at hm; simp [Value.ownBlock] at hm; exact hne43 hm.symm
                · rw [e] at hm; simp at hm; have h1 := HSw49.out; have h2 := HSw43.out; have h3 := HB43.out; omega)
              have HLT49 : Hid (b49 < wt.heap.size) := Lib.hid (by have h1 := HSw49.out; have h2 := HU47.out.size; have h3 := HSw43.out; have h4 := HB43.out; omega)
              have hOWNGE : ∀ y ∈ v47.ownBlock.toList, wr.heap.size ≤ y := fun y hy => (HOLT.out.own.lt y (by simpa using hy)).1
              refine held_next 7 50 rfl (by kernel_rfl) rfl rfl (fun K hK => ?_)
              refine wp_appendF (v0 := v47) (.tmp 47) (.tmp 49) rfl rfl HOLT.out HWDwt.size rfl HFST.out (fun y hy hm => by have h2 := hOWNGE y hm; rcases List.mem_append.1 hy with h1 | h1 <;> (have h3 := HTR.out y h1; omega)) (fun y hy hm => by rcases List.mem_cons.1 hy with rfl | h1; exact HNE.out hm; (have h2 := hOWNGE y hm; have h3 := HTR.out y h1; omega)) (by simp; omega) ?_
              intro v50 w50 cvs50 hol50 hu50 hat50
              have hHeld2 : Upd [] wr w50 := hHeld.then hu50 (fun y hy => .inr (hOWNGE y hy))
              have hk := hK.out v50 w50 hHeld2
              simp only [Act.put, List.setIfInBounds_toArray, List.set_cons_zero, List.set_cons_succ] at hk
              refine hk (fun hHeld => ?_)
              clear hK hk K hHeld2
              have hOWN50 : ∀ y ∈ v50.ownBlock.toList, wr.heap.size ≤ y := fun y hy => (hol50.own.lt y (by simpa using hy)).1
              have hne50 : b49 ∉ v50.ownBlock.toList := fun hm => by
                rcases hat50 with e | e
                · rw [e] at hm; exact HNE.out hm
                · rw [e] at hm; simp at hm; have := HLT49.out; omega
              refine held_next 11 54 rfl (by kernel_rfl) rfl rfl (fun K hK => ?_)
              refine wp_appendF (v0 := v50) (.tmp 50) (.tmp 53) rfl rfl hol50 hHeld.size rfl (HSL.out.upd0 hHeld) (fun y hy hm => by
                rcases List.mem_append.1 hy with h1 | h1
                · rcases List.mem_cons.1 h1 with rfl | h1
                  · exact hne50 hm
                  · have h2 := hOWN50 y hm; have h3 := HTR.out y h1; omega
                · have h2 := hOWN50 y hm; rcases List.mem_append.1 h1 with h1 | h1 <;> (have h3 := HTR.out y h1; omega)) (fun y hy hm => by have h2 := hOWN50 y hm; have h3 := HTR.out y hy; omega) (by simp at hlt1 hlt2 ⊢; omega) ?_
              intro v54 w54 cvs54 hol54 hu54 hat54
              have hHeld2 : Upd [] wr w54 := hHeld.then hu54 (fun y hy => .inr (hOWN50 y hy))
              have hk := hK.out v54 w54 hHeld2
              simp only [Act.put, List.setIfInBounds_toArray, List.set_cons_zero, List.set_cons_succ] at hk
              have hl49 : b49 < w54.heap.size := Nat.lt_of_lt_of_le (Nat.lt_of_lt_of_le HLT49.out hu50.size) hu54.size
              refine hk (fun hHeld => ?_)
              clear hK hk K hHeld2
              refine held_take 12 6 (v54) rfl (by kernel_rfl) (by kernel_rfl) (by kernel_rfl) rfl (fun _ _ _ h => h) rfl hHeld (fun w hS => by rfl) ?_
              simp only [List.setIfInBounds_toArray, List.set_cons_zero, List.set_cons_succ]
              refine held_take 13 7 (.int .i64 0) rfl (by kernel_rfl) (by kernel_rfl) (by kernel_rfl) rfl (fun _ _ _ h => h) rfl hHeld (fun w hS => by rfl) ?_
              simp only [List.setIfInBounds_toArray, List.set_cons_zero, List.set_cons_succ]
              refine held_done (by kernel_rfl) ?_
              have HFIN : Hid (FI w54 v54 (insL L f)) := Lib.hid (by
                rw [HPL.out]
                refine ⟨_, hol54.at, fun y hy => ?_⟩
                have hT5 : ∀ y ∈ T, y < w54.heap.size := fun y hy => Nat.lt_of_lt_of_le (HTR.out y hy) hHeld.size
                rcases List.mem_append.1 hy with h1 | h1
                · exact (hol54.own.lt y (by simpa using h1)).2
                · rcases List.mem_append.1 h1 with h1 | h1
                  · exact hT5 y h1
                  · rcases List.mem_append.1 h1 with h1 | h1
                    · rcases List.mem_cons.1 h1 with rfl | h1
                      · exact hl49
                      · exact hT5 y h1
                    · rcases List.mem_append.1 h1 with h1 | h1 <;> exact hT5 y h1)
              have HUF := Lib.hid (HU5.out.trans (HU.out.trans hHeld))
              clear hol50 hu50 hat50 hol54 hu54 hat54 hOWNGE hOWN50 hne50 hHeld hl49
              go_wp2_with fail
              go_ret2
              exact ⟨_, rfl, HFIN.out, HUF.out⟩
      · obtain rfl : ln = m := by omega
        as_aux_lemma =>
          clear hlt
          go_upto_region 9 with fail
          refine held_start (fun w' => Upd [] wr w') 12 mixed rfl ((Upd.refl _ _).drew) (fun hHeld => ?_)
          refine held_take 0 29 (.int .i64 (ln : Nat)) rfl (by kernel_rfl) (by kernel_rfl) (by kernel_rfl) rfl (fun _ _ _ h => h) rfl hHeld (fun w hS => by rfl) ?_
          simp only [List.setIfInBounds_toArray, List.set_cons_zero, List.set_cons_succ]
          refine held_take 1 30 (.slice la ln lc) rfl (by kernel_rfl) (by kernel_rfl) (by kernel_rfl) rfl (fun _ _ _ h => h) rfl hHeld (fun w hS => by rfl) ?_
          simp only [List.setIfInBounds_toArray, List.set_cons_zero, List.set_cons_succ]
          refine held_take 2 31 (.int .i64 (ln : Nat)) rfl (by kernel_rfl) (by kernel_rfl) (by kernel_rfl) rfl (fun _ _ _ h => h) rfl hHeld (fun w hS => by go_simp) ?_
          simp only [List.setIfInBounds_toArray, List.set_cons_zero, List.set_cons_succ]
          refine held_take 3 32 (.bool false) rfl (by kernel_rfl) (by kernel_rfl) (by kernel_rfl) rfl (fun _ _ _ h => h) rfl hHeld (fun w hS => by go_simp) ?_
          simp only [List.setIfInBounds_toArray, List.set_cons_zero, List.set_cons_succ]
          refine held_take 4 33 (.bool false) rfl (by kernel_rfl) (by kernel_rfl) (by kernel_rfl) rfl (fun _ _ _ h => h) rfl hHeld (fun w hS => by rfl) ?_
          simp only [List.setIfInBounds_toArray, List.set_cons_zero, List.set_cons_succ]
          refine held_skip 5 34 rfl (by kernel_rfl) (by kernel_rfl) (by kernel_rfl) rfl (fun _ _ _ h => h) rfl hHeld ?_
          simp only [List.setIfInBounds_toArray, List.set_cons_zero, List.set_cons_succ]
          refine held_skip 6 35 rfl (by kernel_rfl) (by kernel_rfl) (by kernel_rfl) rfl (fun _ _ _ h => h) rfl hHeld ?_
          simp only [List.setIfInBounds_toArray, List.set_cons_zero, List.set_cons_succ]
          refine held_skip 7 36 rfl (by kernel_rfl) (by kernel_rfl) (by kernel_rfl) rfl (fun _ _ _ h => h) rfl hHeld ?_
          simp only [List.setIfInBounds_toArray, List.set_cons_zero, List.set_cons_succ]
          refine held_skip 8 37 rfl (by kernel_rfl) (by kernel_rfl) (by kernel_rfl) rfl (fun _ _ _ h => h) rfl hHeld ?_
          simp only [List.setIfInBounds_toArray, List.set_cons_zero, List.set_cons_succ]
          refine held_skip 9 38 rfl (by kernel_rfl) (by kernel_rfl) (by kernel_rfl) rfl (fun _ _ _ h => h) rfl hHeld ?_
          simp only [List.setIfInBounds_toArray, List.set_cons_zero, List.set_cons_succ]
          refine held_skip 10 39 rfl (by kernel_rfl) (by kernel_rfl) (by kernel_rfl) rfl (fun _ _ _ h => h) rfl hHeld ?_
          simp only [List.setIfInBounds_toArray, List.set_cons_zero, List.set_cons_succ]
          refine held_take 11 40 (.bool false) rfl (by kernel_rfl) (by kernel_rfl) (by kernel_rfl) rfl (fun _ _ _ h => h) rfl hHeld (fun w hS => by rfl) ?_
          simp only [List.setIfInBounds_toArray, List.set_cons_zero, List.set_cons_succ]
          refine held_done (by kernel_rfl) ?_
          have HEND : Hid (ln < L.length → (L.getD ln FK.zero).less f = false) := Lib.hid (fun h => by have := HLN.out; omega)
          have HPL : Hid (insL L f = L.take ln ++ [f] ++ L.drop ln) := Lib.hid (by unfold insL; rw [place_end (by rw [← HLN.out]; exact hm) HALL.out HEND.out]; simp)
          have HUW := Lib.hid hHeld
          clear hHeld
          go_upto_region 11 with fail
          refine held_startG (fun w' => Upd [] wr w') 14 mixed rfl HUW.out.drew (fun wd hHeld => ?_)
          refine held_take 1 44 (.slice la ln lc) rfl (by kernel_rfl) (by kernel_rfl) (by kernel_rfl) rfl (fun _ _ _ h => h) rfl hHeld (fun w hS => by rfl) ?_
          simp only [List.setIfInBounds_toArray, List.set_cons_zero, List.set_cons_succ]
          refine held_take 2 45 (.int .i64 (ln : Nat)) rfl (by kernel_rfl) (by kernel_rfl) (by kernel_rfl) rfl (fun _ _ _ h => h) rfl hHeld (fun w hS => by rfl) ?_
          simp only [List.setIfInBounds_toArray, List.set_cons_zero, List.set_cons_succ]
          refine held_take 3 46 (sliced la 0 ln lc 38) rfl (by kernel_rfl) (by kernel_rfl) (by kernel_rfl) rfl (fun _ _ _ h => h) rfl hHeld (fun w hS => by exact exec_sliceH0 23 (.tmp 44) (.tmp 45) rfl Try.underlying23 info_fact rfl rfl (by omega)) ?_
          simp only [List.setIfInBounds_toArray, List.set_cons_zero, List.set_cons_succ]
          refine held_take 5 48 (.agg (encF f cv).toArray) rfl (by kernel_rfl) (by kernel_rfl) (by kernel_rfl) rfl (fun _ _ _ h => h) rfl hHeld (fun w hS => by exact fact_load (.tmp 5) rfl rfl (CellsAt.of_blk (HBX.out.upd hS (by simp))) HF.out) ?_
          simp only [List.setIfInBounds_toArray, List.set_cons_zero, List.set_cons_succ]
          refine held_take 8 51 (.slice la ln lc) rfl (by kernel_rfl) (by kernel_rfl) (by kernel_rfl) rfl (fun _ _ _ h => h) rfl hHeld (fun w hS => by rfl) ?_
          simp only [List.setIfInBounds_toArray, List.set_cons_zero, List.set_cons_succ]
          refine held_take 9 52 (.int .i64 (ln : Nat)) rfl (by kernel_rfl) (by kernel_rfl) (by kernel_rfl) rfl (fun _ _ _ h => h) rfl hHeld (fun w hS => by rfl) ?_
          simp only [List.setIfInBounds_toArray, List.set_cons_zero, List.set_cons_succ]
          refine held_take 10 53 (sliced la ln ln lc 38) rfl (by kernel_rfl) (by kernel_rfl) (by kernel_rfl) rfl (fun _ _ _ h => h) rfl hHeld (fun w hS => by exact exec_sliceL0 23 (.tmp 51) (.tmp 52) rfl Try.underlying23 info_fact rfl rfl (by omega) rfl) ?_
          simp only [List.setIfInBounds_toArray, List.set_cons_zero, List.set_cons_succ]
          have hz0 := HU.out.size
          have HTR : Hid (∀ y ∈ T, y < wr.heap.size) := Lib.hid (fun y hy => Nat.lt_of_lt_of_le (HT.out y hy) hz0)
          have HSRC : Hid (FsAt wr T (.slice la ln lc) L) := Lib.hid (HFT.out.upd0 HU.out)
          have HSH : Hid (FsAt wr T (sliced la 0 ln lc 38) (L.take ln)) := Lib.hid (by have h1 := HSRC.out; rw [HLN.out] at h1; exact h1.slicedH (by rw [← HLN.out]; exact hm))
          have HSL : Hid (FsAt wr T (sliced la ln ln lc 38) (L.drop ln)) := Lib.hid (by have h1 := HSRC.out; rw [HLN.out] at h1 ⊢; exact h1.slicedL (by rw [← HLN.out]; exact hm))
          have HCR := Lib.hid (HCT.out.upd0 HU.out)
          have hlt1 : (L.take ln).length ≤ 200 := by rw [List.length_take]; omega
          have hlt2 : (L.drop ln).length ≤ 200 := by rw [List.length_drop, ← HLN.out]; omega
          clear hz0
          refine wpAnyH_ready (rs := [0, 6]) (by kernel_rfl) (by simp) ?_
          have HWD := hHeld
          refine held_cons 0 43 rfl rfl rfl (fun K hK => ?_) (held_cons 6 49 rfl rfl rfl (fun K hK => ?_) AllReadyH.nil)
          · refine wp_none rfl ?_
            have hk := hK.out (.slice (some ⟨wd.heap.size, 0, none⟩) 0 0) _ (hHeld.alloc (.cells #[] 31))
            refine hk (fun hHeld => ?_)
            clear hK hk K
            simp only [List.setIfInBounds_toArray, List.set_cons_zero, List.set_cons_succ]
            have HOLw43 := Lib.hid (OL.none (w := wd) wr.heap.size T HWD.size)
            have hua : Upd [] wd (wd.alloc (.cells #[] 31)) := (Upd.refl _ _).alloc _
            have hsz : (wd.alloc (.cells #[] 31)).heap.size = wd.heap.size + 1 := by simp
            obtain ⟨w43, hwx⟩ : ∃ x, x = wd.alloc (.cells #[] 31) := ⟨_, rfl⟩
            rw [← hwx] at hHeld hua hsz HOLw43 ⊢
            obtain ⟨b43, hb43⟩ : ∃ x, x = wd.heap.size := ⟨_, rfl⟩
            rw [← hb43] at HOLw43 hsz ⊢
            have HSw43 := Lib.hid hsz
            have HB43 := Lib.hid hb43
            have HUAw43 := Lib.hid hua
            have HWDw43 := hHeld
            clear hwx hsz hua hb43
            refine wpAnyH_ready (rs := [4, 6]) (by kernel_rfl) (by simp) ?_
            refine held_cons 4 47 rfl rfl rfl (fun K hK => ?_) (held_cons 6 49 rfl rfl rfl (fun K hK => ?_) AllReadyH.nil)
            · refine wp_appendF (v0 := .slice (some ⟨b43, 0, none⟩) 0 0) (.tmp 43) (.tmp 46) rfl rfl HOLw43.out (HWDw43.size) rfl (HSH.out.upd0 hHeld) (fun y hy hm => by have h1 := HTR.out y hy; have h2 := (HOLw43.out.own.lt y (by simpa using hm)).1; omega) (fun y hy hm => by have h1 := HTR.out y hy; have h2 := (HOLw43.out.own.lt y (by simpa using hm)).1; omega) (by simpa using (by omega : (L.take ln).length ≤ 1000)) ?_
              intro v47 w47 cvs47 hol47 hu47 hat47
              have HHT : Hid (∀ y ∈ (Value.slice (some ⟨b43, 0, none⟩) 0 0).ownBlock.toList, wr.heap.size ≤ y) := Lib.hid (fun y hy => (HOLw43.out.own.lt y (by simpa using hy)).1)
              have hHeld2 : Upd [] wr w47 := hHeld.then hu47 (fun y hy => .inr (HHT.out y hy))
              have hk := hK.out v47 w47 hHeld2
              simp only [Act.put, List.setIfInBounds_toArray, List.set_cons_zero, List.set_cons_succ] at hk
              refine hk (fun hHeld => ?_)
              clear hK hk K hHeld2
              rw [List.nil_append] at hol47
              have HOLw47 := Lib.hid hol47
              have HU47 := Lib.hid hu47
              have HAT47 := Lib.hid hat47
              have HWDw47 := hHeld
              clear hol47 hu47 hat47
              refine held_next 6 49 rfl (by kernel_rfl) rfl rfl (fun K hK => ?_)
              refine wp_one (.tmp 48) rfl rfl HF.out ?_
              have hk := hK.out (.slice (some ⟨w47.heap.size, 0, none⟩) 1 1) _ (hHeld.alloc (.cells (encF f cv).toArray 31))
              refine hk (fun hHeld => ?_)
              clear hK hk K
              simp only [List.setIfInBounds_toArray, List.set_cons_zero, List.set_cons_succ]
              have hbx : Blk (w47.alloc (.cells (encF f cv).toArray 31)) w47.heap.size (encF f cv).toArray 31 := Blk.new _ _ _
              have hua : Upd [] w47 (w47.alloc (.cells (encF f cv).toArray 31)) := (Upd.refl _ _).alloc _
              have hsz : (w47.alloc (.cells (encF f cv).toArray 31)).heap.size = w47.heap.size + 1 := by simp
              obtain ⟨wt, hwx⟩ : ∃ x, x = w47.alloc (.cells (encF f cv).toArray 31) := ⟨_, rfl⟩
              rw [← hwx] at hHeld hua hsz hbx ⊢
              obtain ⟨b49, hb49⟩ : ∃ x, x = w47.heap.size := ⟨_, rfl⟩
              rw [← hb49] at hbx hsz ⊢
              have HSwt := Lib.hid hsz
              have HB49 := Lib.hid hb49
              have HUAwt := Lib.hid hua
              have HWDwt := hHeld
              have hge49 : wr.heap.size ≤ b49 := by rw [hb49]; exact HWDw47.size
              have HFSwt := Lib.hid (one_fs hbx HF.out (HCR.out.upd0 hHeld))
              clear hwx hsz hua hb49 hbx
              have HOLT := Lib.hid (HOLw47.out.upd0 HUAwt.out)
              have HFST := HFSwt
              have HNE : Hid (b49 ∉ v47.ownBlock.toList) := Lib.hid (fun hm => by have h1 := (HOLw47.out.own.lt b49 (by simpa using hm)).2; have := HB49.out; omega)
              have HLT49 : Hid (b49 < wt.heap.size) := Lib.hid (by have := HSwt.out; omega)
              have hOWNGE : ∀ y ∈ v47.ownBlock.toList, wr.heap.size ≤ y := fun y hy => (HOLT.out.own.lt y (by simpa using hy)).1
              refine held_next 7 50 rfl (by kernel_rfl) rfl rfl (fun K hK => ?_)
              refine wp_appendF (v0 := v47) (.tmp 47) (.tmp 49) rfl rfl HOLT.out HWDwt.size rfl HFST.out (fun y hy hm => by have h2 := hOWNGE y hm; rcases List.mem_append.1 hy with h1 | h1 <;> (have h3 := HTR.out y h1; omega)) (fun y hy hm => by rcases List.mem_cons.1 hy with rfl | h1; exact HNE.out hm; (have h2 := hOWNGE y hm; have h3 := HTR.out y h1; omega)) (by simp; omega) ?_
              intro v50 w50 cvs50 hol50 hu50 hat50
              have hHeld2 : Upd [] wr w50 := hHeld.then hu50 (fun y hy => .inr (hOWNGE y hy))
              have hk := hK.out v50 w50 hHeld2
              simp only [Act.put, List.setIfInBounds_toArray, List.set_cons_zero, List.set_cons_succ] at hk
              refine hk (fun hHeld => ?_)
              clear hK hk K hHeld2
              have hOWN50 : ∀ y ∈ v50.ownBlock.toList, wr.heap.size ≤ y := fun y hy => (hol50.own.lt y (by simpa using hy)).1
              have hne50 : b49 ∉ v50.ownBlock.toList := fun hm => by
                  rcases hat50 with e | e
                  · rw [e] at hm; exact HNE.out hm
                  · rw [e] at hm; simp at hm; have := HLT49.out; omega
              refine held_next 11 54 rfl (by kernel_rfl) rfl rfl (fun K hK => ?_)
              refine wp_appendF (v0 := v50) (.tmp 50) (.tmp 53) rfl rfl hol50 hHeld.size rfl (HSL.out.upd0 hHeld) (fun y hy hm => by
                  rcases List.mem_append.1 hy with h1 | h1
                  · rcases List.mem_cons.1 h1 with rfl | h1
                    · exact hne50 hm
                    · have h2 := hOWN50 y hm; have h3 := HTR.out y h1; omega
                  · have h2 := hOWN50 y hm; rcases List.mem_append.1 h1 with h1 | h1 <;> (have h3 := HTR.out y h1; omega)) (fun y hy hm => by have h2 := hOWN50 y hm; have h3 := HTR.out y hy; omega) (by simp at hlt1 hlt2 ⊢; omega) ?_
              intro v54 w54 cvs54 hol54 hu54 hat54
              have hHeld2 : Upd [] wr w54 := hHeld.then hu54 (fun y hy => .inr (hOWN50 y hy))
              have hk := hK.out v54 w54 hHeld2
              simp only [Act.put, List.setIfInBounds_toArray, List.set_cons_zero, List.set_cons_succ] at hk
              have hl49 : b49 < w54.heap.size := Nat.lt_of_lt_of_le (Nat.lt_of_lt_of_le HLT49.out hu50.size) hu54.size
              refine hk (fun hHeld => ?_)
              clear hK hk K hHeld2
              refine held_take 12 6 (v54) rfl (by kernel_rfl) (by kernel_rfl) (by kernel_rfl) rfl (fun _ _ _ h => h) rfl hHeld (fun w hS => by rfl) ?_
              simp only [List.setIfInBounds_toArray, List.set_cons_zero, List.set_cons_succ]
              refine held_take 13 7 (.int .i64 0) rfl (by kernel_rfl) (by kernel_rfl) (by kernel_rfl) rfl (fun _ _ _ h => h) rfl hHeld (fun w hS => by rfl) ?_
              simp only [List.setIfInBounds_toArray, List.set_cons_zero, List.set_cons_succ]
              refine held_done (by kernel_rfl) ?_
              have HFIN : Hid (FI w54 v54 (insL L f)) := Lib.hid (by
                  rw [HPL.out]
                  refine ⟨_, hol54.at, fun y hy => ?_⟩
                  have hT5 : ∀ y ∈ T, y < w54.heap.size := fun y hy => Nat.lt_of_lt_of_le (HTR.out y hy) hHeld.size
                  rcases List.mem_append.1 hy with h1 | h1
                  · exact (hol54.own.lt y (by simpa using h1)).2
                  · rcases List.mem_append.1 h1 with h1 | h1
                    · exact hT5 y h1
                    · rcases List.mem_append.1 h1 with h1 | h1
                      · rcases List.mem_cons.1 h1 with rfl | h1
                        · exact hl49
                        · exact hT5 y h1
                      · rcases List.mem_append.1 h1 with h1 | h1 <;> exact hT5 y h1)
              have HUF := Lib.hid (HU5.out.trans (HU.out.trans hHeld))
              clear hol50 hu50 hat50 hol54 hu54 hat54 hOWNGE hOWN50 hne50 hHeld hl49
              go_wp2_with fail
              go_ret2
              exact ⟨_, rfl, HFIN.out, HUF.out⟩
            · refine wp_one (.tmp 48) rfl rfl HF.out ?_
              have hk := hK.out (.slice (some ⟨w43.heap.size, 0, none⟩) 1 1) _ (hHeld.alloc (.cells (encF f cv).toArray 31))
              refine hk (fun hHeld => ?_)
              clear hK hk K
              simp only [List.setIfInBounds_toArray, List.set_cons_zero, List.set_cons_succ]
              have hbx : Blk (w43.alloc (.cells (encF f cv).toArray 31)) w43.heap.size (encF f cv).toArray 31 := Blk.new _ _ _
              have hua : Upd [] w43 (w43.alloc (.cells (encF f cv).toArray 31)) := (Upd.refl _ _).alloc _
              have hsz : (w43.alloc (.cells (encF f cv).toArray 31)).heap.size = w43.heap.size + 1 := by simp
              obtain ⟨w49, hwx⟩ : ∃ x, x = w43.alloc (.cells (encF f cv).toArray 31) := ⟨_, rfl⟩
              rw [← hwx] at hHeld hua hsz hbx ⊢
              obtain ⟨b49, hb49⟩ : ∃ x, x = w43.heap.size := ⟨_, rfl⟩
              rw [← hb49] at hbx hsz ⊢
              have HSw49 := Lib.hid hsz
              have HB49 := Lib.hid hb49
              have HUAw49 := Lib.hid hua
              have HWDw49 := hHeld
              have hge49 : wr.heap.size ≤ b49 := by rw [hb49]; exact HWDw43.size
              have HFSw49 := Lib.hid (one_fs hbx HF.out (HCR.out.upd0 hHeld))
              clear hwx hsz hua hb49 hbx
              refine held_next 4 47 rfl (by kernel_rfl) rfl rfl (fun K hK => ?_)
              have HOL9 := Lib.hid (HOLw43.out.upd0 HUAw49.out)
              refine wp_appendF (v0 := .slice (some ⟨b43, 0, none⟩) 0 0) (.tmp 43) (.tmp 46) rfl rfl HOL9.out (HWDw49.size) rfl (HSH.out.upd0 hHeld) (fun y hy hm => by have h1 := HTR.out y hy; have h2 := (HOL9.out.own.lt y (by simpa using hm)).1; omega) (fun y hy hm => by have h1 := HTR.out y hy; have h2 := (HOL9.out.own.lt y (by simpa using hm)).1; omega) (by simpa using (by omega : (L.take ln).length ≤ 1000)) ?_
              intro v47 wt cvs47 hol47 hu47 hat47
              have HHT : Hid (∀ y ∈ (Value.slice (some ⟨b43, 0, none⟩) 0 0).ownBlock.toList, wr.heap.size ≤ y) := Lib.hid (fun y hy => (HOL9.out.own.lt y (by simpa using hy)).1)
              have hHeld2 : Upd [] wr wt := hHeld.then hu47 (fun y hy => .inr (HHT.out y hy))
              have hk := hK.out v47 wt hHeld2
              simp only [Act.put, List.setIfInBounds_toArray, List.set_cons_zero, List.set_cons_succ] at hk
              refine hk (fun hHeld => ?_)
              clear hK hk K hHeld2
              rw [List.nil_append] at hol47
              have HOLwt := Lib.hid hol47
              have HU47 := Lib.hid hu47
              have HAT47 := Lib.hid hat47
              have HWDwt := hHeld
              clear hol47 hu47 hat47
              have HOLT := HOLwt
              have hne43 : b43 ≠ b49 := by have h1 := HSw43.out; have h2 := HB49.out; omega
              have HFST := Lib.hid (HFSw49.out.upd HU47.out (fun y hy hm => by
                  simp [Value.ownBlock] at hm
                  rcases List.mem_cons.1 hy with rfl | h1
                  · exact hne43 hm.symm
                  · have h2 := HTR.out y h1; have h3 := HHT.out b43 (by simp [Value.ownBlock]); omega))
              have HNE : Hid (b49 ∉ v47.ownBlock.toList) := Lib.hid (fun hm => by
                  rcases HAT47.out with e | e
                  · rw [e] at hm; simp [Value.ownBlock] at hm; exact hne43 hm.symm
                  · rw [e] at hm; simp at hm; have := HSw49.out; omega)
              have HLT49 : Hid (b49 < wt.heap.size) := Lib.hid (by have h1 := HSw49.out; have h2 := HU47.out.size; omega)
              have hOWNGE : ∀ y ∈ v47.ownBlock.toList, wr.heap.size ≤ y := fun y hy => (HOLT.out.own.lt y (by simpa using hy)).1
              refine held_next 7 50 rfl (by kernel_rfl) rfl rfl (fun K hK => ?_)
              refine wp_appendF (v0 := v47) (.tmp 47) (.tmp 49) rfl rfl HOLT.out HWDwt.size rfl HFST.out (fun y hy hm => by have h2 := hOWNGE y hm; rcases List.mem_append.1 hy with h1 | h1 <;> (have h3 := HTR.out y h1; omega)) (fun y hy hm => by rcases List.mem_cons.1 hy with rfl | h1; exact HNE.out hm; (have h2 := hOWNGE y hm; have h3 := HTR.out y h1; omega)) (by simp; omega) ?_
              intro v50 w50 cvs50 hol50 hu50 hat50
              have hHeld2 : Upd [] wr w50 := hHeld.then hu50 (fun y hy => .inr (hOWNGE y hy))
              have hk := hK.out v50 w50 hHeld2
              simp only [Act.put, List.setIfInBounds_toArray, List.set_cons_zero, List.set_cons_succ] at hk
              refine hk (fun hHeld => ?_)
              clear hK hk K hHeld2
              have hOWN50 : ∀ y ∈ v50.ownBlock.toList, wr.heap.size ≤ y := fun y hy => (hol50.own.lt y (by simpa using hy)).1
              have hne50 : b49 ∉ v50.ownBlock.toList := fun hm => by
                  rcases hat50 with e | e
                  · rw [e] at hm; exact HNE.out hm
                  · rw [e] at hm; simp at hm; have := HLT49.out; omega
              refine held_next 11 54 rfl (by kernel_rfl) rfl rfl (fun K hK => ?_)
              refine wp_appendF (v0 := v50) (.tmp 50) (.tmp 53) rfl rfl hol50 hHeld.size rfl (HSL.out.upd0 hHeld) (fun y hy hm => by
                  rcases List.mem_append.1 hy with h1 | h1
                  · rcases List.mem_cons.1 h1 with rfl | h1
                    · exact hne50 hm
                    · have h2 := hOWN50 y hm; have h3 := HTR.out y h1; omega
                  · have h2 := hOWN50 y hm; rcases List.mem_append.1 h1 with h1 | h1 <;> (have h3 := HTR.out y h1; omega)) (fun y hy hm => by have h2 := hOWN50 y hm; have h3 := HTR.out y hy; omega) (by simp at hlt1 hlt2 ⊢; omega) ?_
              intro v54 w54 cvs54 hol54 hu54 hat54
              have hHeld2 : Upd [] wr w54 := hHeld.then hu54 (fun y hy => .inr (hOWN50 y hy))
              have hk := hK.out v54 w54 hHeld2
              simp only [Act.put, List.setIfInBounds_toArray, List.set_cons_zero, List.set_cons_succ] at hk
              have hl49 : b49 < w54.heap.size := Nat.lt_of_lt_of_le (Nat.lt_of_lt_of_le HLT49.out hu50.size) hu54.size
              refine hk (fun hHeld => ?_)
              clear hK hk K hHeld2
              refine held_take 12 6 (v54) rfl (by kernel_rfl) (by kernel_rfl) (by kernel_rfl) rfl (fun _ _ _ h => h) rfl hHeld (fun w hS => by rfl) ?_
              simp only [List.setIfInBounds_toArray, List.set_cons_zero, List.set_cons_succ]
              refine held_take 13 7 (.int .i64 0) rfl (by kernel_rfl) (by kernel_rfl) (by kernel_rfl) rfl (fun _ _ _ h => h) rfl hHeld (fun w hS => by rfl) ?_
              simp only [List.setIfInBounds_toArray, List.set_cons_zero, List.set_cons_succ]
              refine held_done (by kernel_rfl) ?_
              have HFIN : Hid (FI w54 v54 (insL L f)) := Lib.hid (by
                  rw [HPL.out]
                  refine ⟨_, hol54.at, fun y hy => ?_⟩
                  have hT5 : ∀ y ∈ T, y < w54.heap.size := fun y hy => Nat.lt_of_lt_of_le (HTR.out y hy) hHeld.size
                  rcases List.mem_append.1 hy with h1 | h1
                  · exact (hol54.own.lt y (by simpa using h1)).2
                  · rcases List.mem_append.1 h1 with h1 | h1
                    · exact hT5 y h1
                    · rcases List.mem_append.1 h1 with h1 | h1
                      · rcases List.mem_cons.1 h1 with rfl | h1
                        · exact hl49
                        · exact hT5 y h1
                      · rcases List.mem_append.1 h1 with h1 | h1 <;> exact hT5 y h1)
              have HUF := Lib.hid (HU5.out.trans (HU.out.trans hHeld))
              clear hol50 hu50 hat50 hol54 hu54 hat54 hOWNGE hOWN50 hne50 hHeld hl49
              go_wp2_with fail
              go_ret2
              exact ⟨_, rfl, HFIN.out, HUF.out⟩
          · refine wp_one (.tmp 48) rfl rfl HF.out ?_
            have hk := hK.out (.slice (some ⟨wd.heap.size, 0, none⟩) 1 1) _ (hHeld.alloc (.cells (encF f cv).toArray 31))
            refine hk (fun hHeld => ?_)
            clear hK hk K
            simp only [List.setIfInBounds_toArray, List.set_cons_zero, List.set_cons_succ]
            have hbx : Blk (wd.alloc (.cells (encF f cv).toArray 31)) wd.heap.size (encF f cv).toArray 31 := Blk.new _ _ _
            have hua : Upd [] wd (wd.alloc (.cells (encF f cv).toArray 31)) := (Upd.refl _ _).alloc _
            have hsz : (wd.alloc (.cells (encF f cv).toArray 31)).heap.size = wd.heap.size + 1 := by simp
            obtain ⟨w49, hwx⟩ : ∃ x, x = wd.alloc (.cells (encF f cv).toArray 31) := ⟨_, rfl⟩
            rw [← hwx] at hHeld hua hsz hbx ⊢
            obtain ⟨b49, hb49⟩ : ∃ x, x = wd.heap.size := ⟨_, rfl⟩
            rw [← hb49] at hbx hsz ⊢
            have HSw49 := Lib.hid hsz
            have HB49 := Lib.hid hb49
            have HUAw49 := Lib.hid hua
            have HWDw49 := hHeld
            have hge49 : wr.heap.size ≤ b49 := by rw [hb49]; exact HWD.size
            have HFSw49 := Lib.hid (one_fs hbx HF.out (HCR.out.upd0 hHeld))
            clear hwx hsz hua hb49 hbx
            refine held_next 0 43 rfl (by kernel_rfl) rfl rfl (fun K hK => ?_)
            refine wp_none rfl ?_
            have hk := hK.out (.slice (some ⟨w49.heap.size, 0, none⟩) 0 0) _ (hHeld.alloc (.cells #[] 31))
            refine hk (fun hHeld => ?_)
            clear hK hk K
            simp only [List.setIfInBounds_toArray, List.set_cons_zero, List.set_cons_succ]
            have HOLw43 := Lib.hid (OL.none (w := w49) wr.heap.size T HWDw49.size)
            have hua : Upd [] w49 (w49.alloc (.cells #[] 31)) := (Upd.refl _ _).alloc _
            have hsz : (w49.alloc (.cells #[] 31)).heap.size = w49.heap.size + 1 := by simp
            obtain ⟨w43, hwx⟩ : ∃ x, x = w49.alloc (.cells #[] 31) := ⟨_, rfl⟩
            rw [← hwx] at hHeld hua hsz HOLw43 ⊢
            obtain ⟨b43, hb43⟩ : ∃ x, x = w49.heap.size := ⟨_, rfl⟩
            rw [← hb43] at HOLw43 hsz ⊢
            have HSw43 := Lib.hid hsz
            have HB43 := Lib.hid hb43
            have HUAw43 := Lib.hid hua
            have HWDw43 := hHeld
            clear hwx hsz hua hb43
            refine held_next 4 47 rfl (by kernel_rfl) rfl rfl (fun K hK => ?_)
            refine wp_appendF (v0 := .slice (some ⟨b43, 0, none⟩) 0 0) (.tmp 43) (.tmp 46) rfl rfl HOLw43.out (HWDw43.size) rfl (HSH.out.upd0 hHeld) (fun y hy hm => by have h1 := HTR.out y hy; have h2 := (HOLw43.out.own.lt y (by simpa using hm)).1; omega) (fun y hy hm => by have h1 := HTR.out y hy; have h2 := (HOLw43.out.own.lt y (by simpa using hm)).1; omega) (by simpa using (by omega : (L.take ln).length ≤ 1000)) ?_
            intro v47 wt cvs47 hol47 hu47 hat47
            have HHT : Hid (∀ y ∈ (Value.slice (some ⟨b43, 0, none⟩) 0 0).ownBlock.toList, wr.heap.size ≤ y) := Lib.hid (fun y hy => (HOLw43.out.own.lt y (by simpa using hy)).1)
            have hHeld2 : Upd [] wr wt := hHeld.then hu47 (fun y hy => .inr (HHT.out y hy))
            have hk := hK.out v47 wt hHeld2
            simp only [Act.put, List.setIfInBounds_toArray, List.set_cons_zero, List.set_cons_succ] at hk
            refine hk (fun hHeld => ?_)
            clear hK hk K hHeld2
            rw [List.nil_append] at hol47
            have HOLwt := Lib.hid hol47
            have HU47 := Lib.hid hu47
            have HAT47 := Lib.hid hat47
            have HWDwt := hHeld
            clear hol47 hu47 hat47
            have HOLT := HOLwt
            have hne43 : b43 ≠ b49 := by have h1 := HSw49.out; have h2 := HB43.out; omega
            have HFST := Lib.hid ((HFSw49.out.upd0 HUAw43.out).upd HU47.out (fun y hy hm => by
              simp [Value.ownBlock] at hm
              rcases List.mem_cons.1 hy with rfl | h1
              · exact hne43 hm.symm
              · have h2 := HTR.out y h1; have h3 := HHT.out b43 (by simp [Value.ownBlock]); omega))
            have HNE : Hid (b49 ∉ v47.ownBlock.toList) := Lib.hid (fun hm => by
              rcases HAT47.out with e | e
              · rw [e] at hm; simp [Value.ownBlock] at hm; exact hne43 hm.symm
              · rw [e] at hm; simp at hm; have h1 := HSw49.out; have h2 := HSw43.out; have h3 := HB43.out; omega)
            have HLT49 : Hid (b49 < wt.heap.size) := Lib.hid (by have h1 := HSw49.out; have h2 := HU47.out.size; have h3 := HSw43.out; have h4 := HB43.out; omega)
            have hOWNGE : ∀ y ∈ v47.ownBlock.toList, wr.heap.size ≤ y := fun y hy => (HOLT.out.own.lt y (by simpa using hy)).1
            refine held_next 7 50 rfl (by kernel_rfl) rfl rfl (fun K hK => ?_)
            refine wp_appendF (v0 := v47) (.tmp 47) (.tmp 49) rfl rfl HOLT.out HWDwt.size rfl HFST.out (fun y hy hm => by have h2 := hOWNGE y hm; rcases List.mem_append.1 hy with h1 | h1 <;> (have h3 := HTR.out y h1; omega)) (fun y hy hm => by rcases List.mem_cons.1 hy with rfl | h1; exact HNE.out hm; (have h2 := hOWNGE y hm; have h3 := HTR.out y h1; omega)) (by simp; omega) ?_
            intro v50 w50 cvs50 hol50 hu50 hat50
            have hHeld2 : Upd [] wr w50 := hHeld.then hu50 (fun y hy => .inr (hOWNGE y hy))
            have hk := hK.out v50 w50 hHeld2
            simp only [Act.put, List.setIfInBounds_toArray, List.set_cons_zero, List.set_cons_succ] at hk
            refine hk (fun hHeld => ?_)
            clear hK hk K hHeld2
            have hOWN50 : ∀ y ∈ v50.ownBlock.toList, wr.heap.size ≤ y := fun y hy => (hol50.own.lt y (by simpa using hy)).1
            have hne50 : b49 ∉ v50.ownBlock.toList := fun hm => by
              rcases hat50 with e | e
              · rw [e] at hm; exact HNE.out hm
              · rw [e] at hm; simp at hm; have := HLT49.out; omega
            refine held_next 11 54 rfl (by kernel_rfl) rfl rfl (fun K hK => ?_)
            refine wp_appendF (v0 := v50) (.tmp 50) (.tmp 53) rfl rfl hol50 hHeld.size rfl (HSL.out.upd0 hHeld) (fun y hy hm => by
              rcases List.mem_append.1 hy with h1 | h1
              · rcases List.mem_cons.1 h1 with rfl | h1
                · exact hne50 hm
                · have h2 := hOWN50 y hm; have h3 := HTR.out y h1; omega
              · have h2 := hOWN50 y hm; rcases List.mem_append.1 h1 with h1 | h1 <;> (have h3 := HTR.out y h1; omega)) (fun y hy hm => by have h2 := hOWN50 y hm; have h3 := HTR.out y hy; omega) (by simp at hlt1 hlt2 ⊢; omega) ?_
            intro v54 w54 cvs54 hol54 hu54 hat54
            have hHeld2 : Upd [] wr w54 := hHeld.then hu54 (fun y hy => .inr (hOWN50 y hy))
            have hk := hK.out v54 w54 hHeld2
            simp only [Act.put, List.setIfInBounds_toArray, List.set_cons_zero, List.set_cons_succ] at hk
            have hl49 : b49 < w54.heap.size := Nat.lt_of_lt_of_le (Nat.lt_of_lt_of_le HLT49.out hu50.size) hu54.size
            refine hk (fun hHeld => ?_)
            clear hK hk K hHeld2
            refine held_take 12 6 (v54) rfl (by kernel_rfl) (by kernel_rfl) (by kernel_rfl) rfl (fun _ _ _ h => h) rfl hHeld (fun w hS => by rfl) ?_
            simp only [List.setIfInBounds_toArray, List.set_cons_zero, List.set_cons_succ]
            refine held_take 13 7 (.int .i64 0) rfl (by kernel_rfl) (by kernel_rfl) (by kernel_rfl) rfl (fun _ _ _ h => h) rfl hHeld (fun w hS => by rfl) ?_
            simp only [List.setIfInBounds_toArray, List.set_cons_zero, List.set_cons_succ]
            refine held_done (by kernel_rfl) ?_
            have HFIN : Hid (FI w54 v54 (insL L f)) := Lib.hid (by
              rw [HPL.out]
              refine ⟨_, hol54.at, fun y hy => ?_⟩
              have hT5 : ∀ y ∈ T, y < w54.heap.size := fun y hy => Nat.lt_of_lt_of_le (HTR.out y hy) hHeld.size
              rcases List.mem_append.1 hy with h1 | h1
              · exact (hol54.own.lt y (by simpa using h1)).2
              · rcases List.mem_append.1 h1 with h1 | h1
                · exact hT5 y h1
                · rcases List.mem_append.1 h1 with h1 | h1
                  · rcases List.mem_cons.1 h1 with rfl | h1
                    · exact hl49
                    · exact hT5 y h1
                  · rcases List.mem_append.1 h1 with h1 | h1 <;> exact hT5 y h1)
            have HUF := Lib.hid (HU5.out.trans (HU.out.trans hHeld))
            clear hol50 hu50 hat50 hol54 hu54 hat54 hOWNGE hOWN50 hne50 hHeld hl49
            go_wp2_with fail
            go_ret2
            exact ⟨_, rfl, HFIN.out, HUF.out⟩

end Go.Proofs.Ytbdmnmjdnfpfbaa
