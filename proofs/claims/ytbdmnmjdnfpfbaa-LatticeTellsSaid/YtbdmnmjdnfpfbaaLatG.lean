/- The walks of about.is, kept and all. -/
import Derived.Test.YtbdmnmjdnfpfbaaLatF
namespace Go.Proofs.Ytbdmnmjdnfpfbaa
open Go.ChangeShapes Go.WideShapes Go.ChangeAt Go.RowKit

theorem is_any (kind epoch : Int) (f : FK) (cv : Value) (w : World) :
    Calls Try.prog 60 #[.agg #[.int .i64 kind, .int .i64 epoch], .agg (encF f cv).toArray] w fun x w' => x = .returned (.bool (f.is kind epoch)) ∧ Upd [] w w' := by
  have key : ((f.kind == kind) = false ∧ f.is kind epoch = false) ∨ ((f.kind == kind) = true ∧ (f.epoch == epoch) = false ∧ f.is kind epoch = false) ∨ ((f.kind == kind) = true ∧ (f.epoch == epoch) = true ∧ f.is kind epoch = true) := by
    unfold FK.is
    by_cases h1 : f.kind = kind
    · by_cases h2 : f.epoch = epoch
      · right; right; simp [h1, h2]
      · right; left; simp [h1, h2]
    · left; simp [h1]
  obtain ⟨r, hr⟩ : ∃ r, r = f.is kind epoch := ⟨_, rfl⟩
  rw [← hr] at key ⊢
  obtain ⟨w2, hw2⟩ : ∃ w2, w2 = (w.alloc (.cells #[.int .i64 kind, .int .i64 epoch] 76)).alloc (.cells (encF f cv).toArray 31) := ⟨_, rfl⟩
  obtain ⟨hb1, hb2, hu⟩ := boxed2 w #[.int .i64 kind, .int .i64 epoch] (encF f cv).toArray 76 31
  rw [← hw2] at hb1 hb2 hu
  have c0 : w2.cell? ⟨w.heap.size, 0, none⟩ = some (.int .i64 kind) := hb1.cell (o := 0) rfl
  have c1 : w2.cell? ⟨w.heap.size, 1, none⟩ = some (.int .i64 epoch) := hb1.cell (o := 1) rfl
  have d0 : w2.cell? ⟨w.heap.size + 1, 0, none⟩ = some (.int .i64 f.kind) := hb2.cell (o := 0) rfl
  have d1 : w2.cell? ⟨w.heap.size + 1, 1, none⟩ = some (.int .i64 f.epoch) := hb2.cell (o := 1) rfl
  have HU := Lib.hid hu
  have HW2 := Lib.hid hw2
  clear hw2 hb1 hb2 hu hr
  rcases key with ⟨h1, rfl⟩ | ⟨h1, h2, rfl⟩ | ⟨h1, h2, rfl⟩
  all_goals
    go_enter Try.func60, Try.ntmps60
    go_upto_region 1 with fail
    rw [← HW2.out]
    go_wp2
    go_ret
    exact ⟨rfl, HU.out⟩

theorem filter_snoc {α : Type} (p : α → Bool) (l : List α) (i : Nat) (h : i < l.length) (d : α) : (l.take (i + 1)).filter p = (l.take i).filter p ++ (if p (l.getD i d) = true then [l.getD i d] else []) := by
  rw [List.take_succ_eq_append_getElem h, List.filter_append, List.getD_eq_getElem?_getD, List.getElem?_eq_getElem h]
  congr 1
  simp only [List.filter_cons, List.filter_nil, Option.getD_some]

set_option maxRecDepth 100000 in
set_option maxHeartbeats 4000000 in
theorem kept1_any (x : Value) (pr : FK → Bool) (v : Value) (T : List Nat) (L : List FK) (w : World) (h : FsAt w T v L) (hl : L.length ≤ 1000) (htl : ∀ y ∈ T, y < w.heap.size)
    (hp : ∀ f cv w', Calls Try.prog 60 #[x, .agg (encF f cv).toArray] w' fun e w'' => e = .returned (.bool (pr f)) ∧ Upd [] w' w'') :
    Calls Try.prog 52 #[v, .func (.func 60) #[x] #[]] w fun e w' => ∃ v' cvs, e = .returned v' ∧ OL w' w.heap.size v' (L.filter pr) cvs T ∧ Upd [] w w' := by
  have hT := h
  have HF := Lib.hid h
  have HP := Lib.hid hp
  have HTL := Lib.hid htl
  obtain ⟨a, cap, cvs0, rfl, -⟩ := h
  obtain ⟨n, hn⟩ : ∃ n, n = L.length := ⟨_, rfl⟩
  rw [← hn] at hl HF ⊢
  have HN := Lib.hid hn
  clear hn hT htl hp
  go_enter Try.func52, Try.ntmps52
  go_wp2
  go_loopw [4, 9] (fun ov i wx => ∃ (m : Nat) (cvs : List Value), m ≤ n ∧ i = .int .i64 m ∧ OL wx w.heap.size ov ((L.take m).filter pr) cvs T ∧ Upd [] w wx) (fun _ i _ => n - (intOf i).toNat)
  case atStart => exact ⟨0, [], Nat.zero_le _, rfl, ⟨World.ownsRow_nil _ _ _ _, ChunksL.nil _ _, fun f hf => by simp at hf⟩, Upd.refl _ _⟩
  case round =>
    obtain ⟨m, cvs, hm, rfl, ho, hu⟩ := hrel
    have HO := Lib.hid ho
    have HU := Lib.hid hu
    by_cases hlt : m < n
    · have hlx : m < L.length := by rw [← HN.out]; exact hlt
      obtain ⟨g, off, cv, rfl, hg, hgT, hcl, hch, hwf⟩ := HF.out.get hlx
      have hfs := filter_snoc pr L m hlx FK.zero
      have hfl : ((L.take m).filter pr).length ≤ m := Nat.le_trans (List.length_filter_le _ _) (by rw [List.length_take]; omega)
      obtain ⟨f, hf⟩ : ∃ f, f = L.getD m FK.zero := ⟨_, rfl⟩
      rw [← hf] at hcl hch hwf hfs
      have HC := Lib.hid (hcl.upd hu hg (by simp))
      have HCH := Lib.hid (hch.upd0 hu)
      have HWF := Lib.hid hwf
      have HFS := Lib.hid hfs
      obtain ⟨k, hk⟩ : ∃ k, k = ((L.take m).filter pr).length := ⟨_, rfl⟩
      rw [← hk] at hfl
      have HK := Lib.hid hk
      obtain ⟨oa, oc, rfl⟩ := own_slice ho.own
      have hx0 : (0 : Int) ≤ (m : Int) := by omega
      have hx1 : (m : Int) < (n : Int) := by omega
      obtain ⟨pb, hpb⟩ : ∃ pb, pb = pr f := ⟨_, rfl⟩
      have HPF := Lib.hid (fun w' => HP.out f cv w')
      rw [← hpb] at HPF
      have HPB := Lib.hid hpb
      clear hcl hch hwf hfs hf hk ho hu hpb
      rw [← HK.out]
      go_upto_region 4 with (first
        | ((with_reducible show wpList _ _ _ (⟨some 12, _, _, _, _, _⟩ :: _) _ _); refine wpList_run rfl (fact_load (.tmp 11) rfl rfl HC.out HWF.out) ?_)
        | (refine wpList_alloc rfl 31 rfl zero_fact fun w2 hb2 hu2 hs2 => ?_)
        | (refine wpList_storeA rfl 31 (.tmp 6) (.tmp 12) rfl rfl rfl hb2 info_fact (encF_size HWF.out _) (encF_size FK.zero_wf _) (encF_one' HCH.out) fun w3 hb3 hu3 hs3 => ?_))
      obtain ⟨tb, htb⟩ : ∃ x, x = wr.heap.size := ⟨_, rfl⟩
      rw [← htb] at hb3 ⊢
      have hu03 : Upd [] wr w3 := hu2.then hu3 (by simp [htb])
      have HB3 := Lib.hid hb3
      have HL3 := Lib.hid (CellsAt.of_blk hb3)
      have HU3 := Lib.hid hu03
      clear hb2 hu2 hs2 hb3 hu3 hs3 htb hu03
      go_upto_if 15 with (first
        | ((with_reducible show wpList _ _ _ (⟨some 14, _, _, _, _, _⟩ :: _) _ _); refine wpList_run rfl (fact_load (.tmp 6) rfl rfl HL3.out HWF.out) ?_)
        | (go_at_call 60; refine (HPF.out _).mono ?_; rintro e w4 ⟨rfl, hu4⟩; have HU4 := Lib.hid hu4; clear hu4))
      have HB4 := Lib.hid (CellsAt.of_blk (HB3.out.upd HU4.out (by simp)))
      have HO4 := Lib.hid ((HO.out.upd0 HU3.out).upd0 HU4.out)
      have HU04 := Lib.hid ((HU.out.trans HU3.out).trans HU4.out)
      have hz4 := HU04.out.size
      have HCH4 := Lib.hid ((HCH.out.upd0 HU3.out).upd0 HU4.out)
      clear HO HU HB3 HL3 HU3 HU4 HCH HC
      cases pb with
      | false =>
        have htk : (L.take (m + 1)).filter pr = (L.take m).filter pr := by rw [HFS.out, ← HPB.out]; simp
        have HTK := Lib.hid htk
        clear htk
        go_wp2_with fail
        go_roundw
        case rel => exact ⟨m + 1, cvs, by omega, by go_num, by rw [HTK.out, HK.out]; exact HO4.out, HU04.out⟩
        case measure => simp [intOf]; omega
      | true =>
        have htk : (L.take (m + 1)).filter pr = (L.take m).filter pr ++ [f] := by rw [HFS.out, ← HPB.out]; simp
        have HTK := Lib.hid htk
        have hown := HO4.out.own
        rw [← HK.out] at hown
        have HOWN := Lib.hid hown
        clear htk hown
        go_wp2_with (first
          | ((with_reducible show wpList _ _ _ (⟨some 17, _, _, _, _, _⟩ :: _) _ _); refine wpList_run rfl (fact_load (.tmp 6) rfl rfl HB4.out HWF.out) ?_)
          | ((with_reducible show wpList _ _ _ (⟨some 18, _, _, _, _, _⟩ :: _) _ _)
             go_loud (refine wpList_push 18 19 23 31 (.tmp 16) (.tmp 17) (.agg (encF FK.zero (.slice none 0 0)).toArray) 38 96 Try.underlying23 info_factB rfl (by omega) (by omega) w.heap.size (.slice oa k oc) k _ (.agg (encF f cv).toArray) rfl rfl rfl rfl rfl rfl (by simp) (by simp [Act.put]) rfl rfl HOWN.out (encF_size HWF.out _) (encF_one' HCH4.out) (by unfold maxLen; omega) (by omega) (by omega) ?_)
             intro g' cap' w5 ho5 hu5 hat5 hlt5 hb5
             have HO5 := Lib.hid ho5
             have HU5 := Lib.hid hu5
             clear ho5 hu5 hat5 hlt5 hb5))
        go_roundw
        case rel =>
          have hrowlt : ∀ y ∈ (Value.slice oa k oc).ownBlock.toList, w.heap.size ≤ y := fun y hy => (HOWN.out.lt y (by simpa using hy)).1
          refine ⟨m + 1, cvs ++ [cv], by omega, by go_num, ⟨?_, ?_, ?_⟩, HU04.out.then HU5.out (fun y hy => .inr (hrowlt y hy))⟩
          · rw [HTK.out, List.length_append, ← HK.out, encL_app _ _ _ _ HO4.out.chunks.1, encL_one]; exact HO5.out
          · rw [HTK.out]; exact (HO4.out.chunks.app (ChunksL.one HCH4.out)).upd HU5.out (fun y hy hm => by have h1 := hrowlt y hm; have h2 := HTL.out y hy; omega)
          · rw [HTK.out]; exact fun y hy => by
              rcases List.mem_append.1 hy with h1 | h1
              · exact HO4.out.wf y h1
              · rw [List.mem_singleton.1 h1]; exact HWF.out
        case measure => simp [intOf]; omega
    · obtain rfl : m = n := by omega
      clear ho hu hlt
      go_wp2_with fail
      go_ret
      refine ⟨_, cvs, rfl, ?_, HU.out⟩
      have := HO.out
      rwa [List.take_of_length_le (by rw [HN.out]; exact Nat.le_refl _)] at this

theorem all_any (kind epoch : Int) (v : Value) (T : List Nat) (L : List FK) (w : World) (h : FsAt w T v L) (hl : L.length ≤ 1000) (htl : ∀ y ∈ T, y < w.heap.size) :
    Calls Try.prog 48 #[v, .int .i64 kind, .int .i64 epoch] w fun e w' => ∃ v' cvs, e = .returned v' ∧ OL w' w.heap.size v' (allL L kind epoch) cvs T ∧ Upd [] w w' := by
  have HK := Lib.hid (kept1_any (.agg #[.int .i64 kind, .int .i64 epoch]) (fun f => f.is kind epoch) v T L w h hl htl (fun f cv w' => is_any kind epoch f cv w'))
  clear h hl htl
  go_enter Try.func48, Try.ntmps48
  go_wp2_with (go_at_call 52; refine HK.out.mono ?_; rintro e w1 ⟨v', cvs, rfl, ho, hu⟩; have HO := Lib.hid ho; have HU := Lib.hid hu; clear ho hu)
  go_ret
  exact ⟨v', cvs, rfl, HO.out, HU.out⟩

end Go.Proofs.Ytbdmnmjdnfpfbaa
