/- The walk of Best. -/
import Derived.Test.YtbdmnmjdnfpfbaaLatO
namespace Go.Proofs.Ytbdmnmjdnfpfbaa
open Go.ChangeShapes Go.WideShapes Go.ChangeAt Go.RowKit

set_option maxRecDepth 100000 in
set_option maxHeartbeats 4000000 in
theorem kept0_any (pr : FK → Bool) (v : Value) (T : List Nat) (L : List FK) (w : World) (h : FsAt w T v L) (hl : L.length ≤ 1000) (htl : ∀ y ∈ T, y < w.heap.size)
    (hp : ∀ f cv w', Calls Try.prog 53 #[.agg (encF f cv).toArray] w' fun e w'' => e = .returned (.bool (pr f)) ∧ Upd [] w' w'') :
    Calls Try.prog 52 #[v, .func (.func 53) #[] #[]] w fun e w' => ∃ v' cvs, e = .returned v' ∧ OL w' w.heap.size v' (L.filter pr) cvs T ∧ Upd [] w w' := by
  have hT := h
  have HF := Lib.hid h
  have HP := Lib.hid hp
  have HTL := Lib.hid htl
  obtain ⟨a, cap, cvs0, rfl, -⟩ := h
  obtain ⟨n, hn⟩ : ∃ n, n = L.length := ⟨_, rfl⟩
  rw [← hn] at hl HF ⊢
  have HN := Lib.hid hn
  clear hn hT htl hp
  go_enter Try.func52, Try.ntmps52
  go_wp2
  go_loopw [4, 9] (fun ov i wx => ∃ (m : Nat) (cvs : List Value), m ≤ n ∧ i = .int .i64 m ∧ OL wx w.heap.size ov ((L.take m).filter pr) cvs T ∧ Upd [] w wx) (fun _ i _ => n - (intOf i).toNat)
  case atStart => exact ⟨0, [], Nat.zero_le _, rfl, ⟨World.ownsRow_nil _ _ _ _, ChunksL.nil _ _, fun f hf => by simp at hf⟩, Upd.refl _ _⟩
  case round =>
    obtain ⟨m, cvs, hm, rfl, ho, hu⟩ := hrel
    have HO := Lib.hid ho
    have HU := Lib.hid hu
    by_cases hlt : m < n
    · have hlx : m < L.length := by rw [← HN.out]; exact hlt
      obtain ⟨g, off, cv, rfl, hg, hgT, hcl, hch, hwf⟩ := HF.out.get hlx
      have hfs := filter_snoc pr L m hlx FK.zero
      have hfl : ((L.take m).filter pr).length ≤ m := Nat.le_trans (List.length_filter_le _ _) (by rw [List.length_take]; omega)
      obtain ⟨f, hf⟩ : ∃ f, f = L.getD m FK.zero := ⟨_, rfl⟩
      rw [← hf] at hcl hch hwf hfs
      have HC := Lib.hid (hcl.upd hu hg (by simp))
      have HCH := Lib.hid (hch.upd0 hu)
      have HWF := Lib.hid hwf
      have HFS := Lib.hid hfs
      obtain ⟨k, hk⟩ : ∃ k, k = ((L.take m).filter pr).length := ⟨_, rfl⟩
      rw [← hk] at hfl
      have HK := Lib.hid hk
      obtain ⟨oa, oc, rfl⟩ := own_slice ho.own
      have hx0 : (0 : Int) ≤ (m : Int) := by omega
      have hx1 : (m : Int) < (n : Int) := by omega
      obtain ⟨pb, hpb⟩ : ∃ pb, pb = pr f := ⟨_, rfl⟩
      have HPF := Lib.hid (fun w' => HP.out f cv w')
      rw [← hpb] at HPF
      have HPB := Lib.hid hpb
      clear hcl hch hwf hfs hf hk ho hu hpb
      rw [← HK.out]
      go_upto_region 4 with (first
        | ((with_reducible show wpList _ _ _ (⟨some 12, _, _, _, _, _⟩ :: _) _ _); refine wpList_run rfl (fact_load (.tmp 11) rfl rfl HC.out HWF.out) ?_)
        | (refine wpList_alloc rfl 31 rfl zero_fact fun w2 hb2 hu2 hs2 => ?_)
        | (refine wpList_storeA rfl 31 (.tmp 6) (.tmp 12) rfl rfl rfl hb2 info_fact (encF_size HWF.out _) (encF_size FK.zero_wf _) (encF_one' HCH.out) fun w3 hb3 hu3 hs3 => ?_))
      obtain ⟨tb, htb⟩ : ∃ x, x = wr.heap.size := ⟨_, rfl⟩
      rw [← htb] at hb3 ⊢
      have hu03 : Upd [] wr w3 := hu2.then hu3 (by simp [htb])
      have HB3 := Lib.hid hb3
      have HL3 := Lib.hid (CellsAt.of_blk hb3)
      have HU3 := Lib.hid hu03
      clear hb2 hu2 hs2 hb3 hu3 hs3 htb hu03
      go_upto_if 15 with (first
        | ((with_reducible show wpList _ _ _ (⟨some 14, _, _, _, _, _⟩ :: _) _ _); refine wpList_run rfl (fact_load (.tmp 6) rfl rfl HL3.out HWF.out) ?_)
        | (go_at_call 53; refine (HPF.out _).mono ?_; rintro e w4 ⟨rfl, hu4⟩; have HU4 := Lib.hid hu4; clear hu4))
      have HB4 := Lib.hid (CellsAt.of_blk (HB3.out.upd HU4.out (by simp)))
      have HO4 := Lib.hid ((HO.out.upd0 HU3.out).upd0 HU4.out)
      have HU04 := Lib.hid ((HU.out.trans HU3.out).trans HU4.out)
      have hz4 := HU04.out.size
      have HCH4 := Lib.hid ((HCH.out.upd0 HU3.out).upd0 HU4.out)
      clear HO HU HB3 HL3 HU3 HU4 HCH HC
      cases pb with
      | false =>
        have htk : (L.take (m + 1)).filter pr = (L.take m).filter pr := by rw [HFS.out, ← HPB.out]; simp
        have HTK := Lib.hid htk
        clear htk
        go_wp2_with fail
        go_roundw
        case rel => exact ⟨m + 1, cvs, by omega, by go_num, by rw [HTK.out, HK.out]; exact HO4.out, HU04.out⟩
        case measure => simp [intOf]; omega
      | true =>
        have htk : (L.take (m + 1)).filter pr = (L.take m).filter pr ++ [f] := by rw [HFS.out, ← HPB.out]; simp
        have HTK := Lib.hid htk
        have hown := HO4.out.own
        rw [← HK.out] at hown
        have HOWN := Lib.hid hown
        clear htk hown
        go_wp2_with (first
          | ((with_reducible show wpList _ _ _ (⟨some 17, _, _, _, _, _⟩ :: _) _ _); refine wpList_run rfl (fact_load (.tmp 6) rfl rfl HB4.out HWF.out) ?_)
          | ((with_reducible show wpList _ _ _ (⟨some 18, _, _, _, _, _⟩ :: _) _ _)
             go_loud (refine wpList_push 18 19 23 31 (.tmp 16) (.tmp 17) (.agg (encF FK.zero (.slice none 0 0)).toArray) 38 96 Try.underlying23 info_factB rfl (by omega) (by omega) w.heap.size (.slice oa k oc) k _ (.agg (encF f cv).toArray) rfl rfl rfl rfl rfl rfl (by simp) (by simp [Act.put]) rfl rfl HOWN.out (encF_size HWF.out _) (encF_one' HCH4.out) (by unfold maxLen; omega) (by omega) (by omega) ?_)
             intro g' cap' w5 ho5 hu5 hat5 hlt5 hb5
             have HO5 := Lib.hid ho5
             have HU5 := Lib.hid hu5
             clear ho5 hu5 hat5 hlt5 hb5))
        go_roundw
        case rel =>
          have hrowlt : ∀ y ∈ (Value.slice oa k oc).ownBlock.toList, w.heap.size ≤ y := fun y hy => (HOWN.out.lt y (by simpa using hy)).1
          refine ⟨m + 1, cvs ++ [cv], by omega, by go_num, ⟨?_, ?_, ?_⟩, HU04.out.then HU5.out (fun y hy => .inr (hrowlt y hy))⟩
          · rw [HTK.out, List.length_append, ← HK.out, encL_app _ _ _ _ HO4.out.chunks.1, encL_one]; exact HO5.out
          · rw [HTK.out]; exact (HO4.out.chunks.app (ChunksL.one HCH4.out)).upd HU5.out (fun y hy hm => by have h1 := hrowlt y hm; have h2 := HTL.out y hy; omega)
          · rw [HTK.out]; exact fun y hy => by
              rcases List.mem_append.1 hy with h1 | h1
              · exact HO4.out.wf y h1
              · rw [List.mem_singleton.1 h1]; exact HWF.out
        case measure => simp [intOf]; omega
    · obtain rfl : m = n := by omega
      clear ho hu hlt
      go_wp2_with fail
      go_ret
      refine ⟨_, cvs, rfl, ?_, HU.out⟩
      have := HO.out
      rwa [List.take_of_length_le (by rw [HN.out]; exact Nat.le_refl _)] at this

theorem best1_any (f : FK) (cv : Value) (w : World) :
    Calls Try.prog 53 #[.agg (encF f cv).toArray] w fun x w' => x = .returned (.bool (decide (f.kind = 1))) ∧ Upd [] w w' := by
  obtain ⟨r, hr⟩ : ∃ r, r = decide (f.kind = 1) := ⟨_, rfl⟩
  have hr2 : (f.kind == 1) = r := by rw [hr]; rw [Bool.eq_iff_iff]; simp
  rw [← hr]
  obtain ⟨w2, hw2⟩ : ∃ w2, w2 = w.alloc (.cells (encF f cv).toArray 31) := ⟨_, rfl⟩
  obtain ⟨hb, hu⟩ := boxed w (encF f cv).toArray 31
  rw [← hw2] at hb hu
  have d0 : w2.cell? ⟨w.heap.size, 0, none⟩ = some (.int .i64 f.kind) := hb.cell (o := 0) rfl
  have HU := Lib.hid hu
  have HW2 := Lib.hid hw2
  clear hw2 hb hu hr
  go_enter Try.func53, Try.ntmps53
  go_upto_region 1 with fail
  rw [← HW2.out]
  go_wp2
  go_ret
  exact ⟨rfl, HU.out⟩

/-- A step of Best among what is published. -/
def bestS (l : List FK) (majority best : Int) (f : FK) : Int := if best < f.epoch ∧ abortedL l f.epoch majority = false then f.epoch else best

theorem best_filter (l : List FK) (majority : Int) : ∀ (t : List FK) (b : Int), t.foldl (bestStep l majority) b = (t.filter (fun f => decide (f.kind = 1))).foldl (bestS l majority) b
  | [], b => rfl
  | f :: t, b => by
    rw [List.foldl_cons, List.filter_cons]
    by_cases h : f.kind = 1
    · have e : bestStep l majority b f = bestS l majority b f := by unfold bestStep bestS; simp [h]
      simp only [h, decide_true, if_true, List.foldl_cons]
      rw [e]; exact best_filter l majority t _
    · have e : bestStep l majority b f = b := by unfold bestStep; simp [h]
      rw [e]; simp only [h, decide_false, Bool.false_eq_true, if_false]
      exact best_filter l majority t _

set_option maxRecDepth 100000 in
set_option maxHeartbeats 4000000 in
theorem best_any (majority : Int) (v : Value) (T : List Nat) (L : List FK) (w : World) (h : FsAt w T v L) (hl : L.length ≤ 1000) (htl : ∀ y ∈ T, y < w.heap.size) :
    Calls Try.prog 32 #[v, .int .i64 majority] w fun e w' => e = .returned (.int .i64 (bestL L majority)) ∧ Upd [] w w' := by
  have HA := Lib.hid (kept0_any (fun f => decide (f.kind = 1)) v T L w h hl htl (fun f cv w' => best1_any f cv w'))
  have HAB := Lib.hid (fun (e : Int) (w' : World) (hu : Upd [] w w') => aborted_any e majority v T L w' (h.upd0 hu) hl (fun y hy => Nat.lt_of_lt_of_le (htl y hy) hu.size))
  obtain ⟨A, hA⟩ : ∃ A, A = L.filter (fun f => decide (f.kind = 1)) := ⟨_, rfl⟩
  have hal : A.length ≤ 1000 := by rw [hA]; exact Nat.le_trans (List.length_filter_le _ _) hl
  have hbl : bestL L majority = A.foldl (bestS L majority) 0 := by unfold bestL; rw [best_filter, hA]
  rw [← hA] at HA
  rw [hbl]
  clear hA hbl h htl
  go_enter Try.func32, Try.ntmps32
  go_wp2_with (go_at_call 52; refine HA.out.mono ?_; rintro e w1 ⟨v1, cvs1, rfl, ho1, hu1⟩
               have HF := Lib.hid ho1.at
               have HU1 := Lib.hid hu1
               obtain ⟨a, cap, rfl⟩ := own_slice ho1.own
               obtain ⟨n, hn⟩ : ∃ n, n = A.length := ⟨_, rfl⟩
               have HN := Lib.hid hn
               rw [← hn] at HF hal
               rw [← hn]
               clear ho1 hu1 hn)
  go_loopw [4, 10] (fun b i wx => ∃ (m : Nat), m ≤ n ∧ i = .int .i64 m ∧ b = .int .i64 ((A.take m).foldl (bestS L majority) 0) ∧ Upd [] w1 wx) (fun _ i _ => n - (intOf i).toNat)
  case atStart => exact ⟨0, Nat.zero_le _, rfl, rfl, Upd.refl _ _⟩
  case round =>
    obtain ⟨m, hm, rfl, rfl, hu⟩ := hrel
    by_cases hlt : m < n
    · have HUU := Lib.hid hu
      have hlx : m < A.length := by rw [← HN.out]; exact hlt
      obtain ⟨g, off, cv, rfl, hg, hgT, hcl, hch, hwf⟩ := HF.out.get hlx
      obtain ⟨f, hf⟩ : ∃ f, f = A.getD m FK.zero := ⟨_, rfl⟩
      rw [← hf] at hcl hch hwf
      have HC := Lib.hid (hcl.upd hu hg (by simp))
      have HCH := Lib.hid (hch.upd0 hu)
      have HWF := Lib.hid hwf
      have HFE := Lib.hid hf
      have hx0 : (0 : Int) ≤ (m : Int) := by omega
      have hx1 : (m : Int) < (n : Int) := by omega
      clear hcl hch hwf hf
      go_upto_region 4 with (first
        | ((with_reducible show wpList _ _ _ (⟨some 13, _, _, _, _, _⟩ :: _) _ _); refine wpList_run rfl (fact_load (.tmp 12) rfl rfl HC.out HWF.out) ?_)
        | (refine wpList_alloc rfl 31 rfl zero_fact fun w2 hb2 hu2 hs2 => ?_)
        | (refine wpList_storeA rfl 31 (.tmp 6) (.tmp 13) rfl rfl rfl hb2 info_fact (encF_size HWF.out _) (encF_size FK.zero_wf _) (encF_one' HCH.out) fun w3 hb3 hu3 hs3 => ?_))
      obtain ⟨tb, htb⟩ : ∃ x, x = wr.heap.size := ⟨_, rfl⟩
      rw [← htb] at hb3 ⊢
      have hu03 : Upd [] wr w3 := hu2.then hu3 (by simp [htb])
      have HB3 := Lib.hid hb3
      have HL3 := Lib.hid (CellsAt.of_blk hb3)
      have HU3 := Lib.hid hu03
      have c0 : w3.cell? ⟨tb, 0, none⟩ = some (.int .i64 f.kind) := hb3.cell (o := 0) rfl
      have c1 : w3.cell? ⟨tb, 1, none⟩ = some (.int .i64 f.epoch) := hb3.cell (o := 1) rfl
      have c2 : w3.cell? ⟨tb, 2, none⟩ = some (.int .i64 f.node) := hb3.cell (o := 2) rfl
      clear hb2 hu2 hs2 hb3 hu3 hs3 htb hu03
      obtain ⟨b, hbe⟩ : ∃ x, x = (A.take m).foldl (bestS L majority) 0 := ⟨_, rfl⟩
      have htk : (A.take (m + 1)).foldl (bestS L majority) 0 = bestS L majority b f := by rw [take_snoc A m hlx FK.zero, ← HFE.out, List.foldl_append, hbe]; rfl
      have key : (decide (b < f.epoch) = false ∧ bestS L majority b f = b) ∨ (decide (b < f.epoch) = true ∧ abortedL L f.epoch majority = true ∧ bestS L majority b f = b) ∨ (decide (b < f.epoch) = true ∧ abortedL L f.epoch majority = false ∧ bestS L majority b f = f.epoch) := by
        unfold bestS
        by_cases h1 : b < f.epoch
        · cases h2 : abortedL L f.epoch majority
          · right; right; simp [h1]
          · right; left; simp [h1]
        · left; simp [h1]
      have HABF := Lib.hid (HAB.out f.epoch w3 ((HU1.out.trans hu).trans HU3.out))
      obtain ⟨ab, hab⟩ : ∃ x, x = abortedL L f.epoch majority := ⟨_, rfl⟩
      rw [← hab] at key HABF
      rw [← hbe]
      obtain ⟨nb, hnb⟩ : ∃ x, x = bestS L majority b f := ⟨_, rfl⟩
      rw [← hnb] at key htk
      have HTK := Lib.hid htk
      clear htk hab hnb hbe hu
      rcases key with ⟨k1, rfl⟩ | ⟨k1, rfl, rfl⟩ | ⟨k1, rfl, rfl⟩
      · go_wp2_with fail
        go_roundw
        case rel => exact ⟨m + 1, by omega, by go_num, by rw [HTK.out], HUU.out.trans HU3.out⟩
        case measure => simp [intOf]; omega
      all_goals
        go_wp2_with (go_at_call 24; refine HABF.out.mono ?_; rintro e w4 ⟨rfl, hu4⟩
                     have c1' := (HB3.out.upd hu4 (by simp)).cell (o := 1) rfl
                     have c1 : w4.cell? ⟨tb, 1, none⟩ = some (.int .i64 f.epoch) := c1'
                     have HU4 := Lib.hid ((HUU.out.trans HU3.out).trans hu4)
                     clear hu4 c1')
        go_roundw
        case rel => exact ⟨m + 1, by omega, by go_num, by rw [HTK.out], HU4.out⟩
        case measure => simp [intOf]; omega
    · obtain rfl : m = n := by omega
      rw [List.take_of_length_le (by rw [HN.out]; exact Nat.le_refl _)]
      have HUU := Lib.hid (HU1.out.trans hu)
      clear hu hlt
      go_wp2_with fail
      go_ret
      exact ⟨rfl, HUU.out⟩

end Go.Proofs.Ytbdmnmjdnfpfbaa
