/- The walk of plain. -/
import Derived.Test.YtbdmnmjdnfpfbaaLatZA
namespace Go.Proofs.Ytbdmnmjdnfpfbaa
open Go.ChangeShapes Go.WideShapes Go.ChangeAt Go.RowKit

/-- One more fact behind a list in a row of its own. -/
theorem OL.push {w w' : World} {lo k : Nat} {oa : Option Addr} {oc : Nat} {v' : Value} {K : List FK} {f : FK} {cvs T : List _} {cv : Value} (ho : OL w lo (.slice oa k oc) K cvs T) (hk : k = K.length) (hf : f.WF) (hc : ChunksAt w T cv f.chunks) (hT : ∀ y ∈ T, y < lo)
    (h5 : w'.ownsRow lo 31 38 v' (k + 1) (encL K cvs ++ encF f cv)) (hu : Upd (Value.slice oa k oc).ownBlock.toList w w') : OL w' lo v' (K ++ [f]) (cvs ++ [cv]) T := by
  have hrowlt : ∀ y ∈ (Value.slice oa k oc).ownBlock.toList, lo ≤ y := fun y hy => by
    have := ho.own
    rw [← hk] at this
    exact (this.lt y (by simpa using hy)).1
  refine ⟨?_, ?_, ?_⟩
  · rw [List.length_append, ← hk, encL_app _ _ _ _ ho.chunks.1, encL_one]; exact h5
  · exact (ho.chunks.app (ChunksL.one hc)).upd hu (fun y hy hm => by have h1 := hrowlt y hm; have h2 := hT y hy; omega)
  · exact fun y hy => by
      rcases List.mem_append.1 hy with h1 | h1
      · exact ho.wf y h1
      · rw [List.mem_singleton.1 h1]; exact hf

theorem FI.elimT {w : World} {u : Value} {M : List FK} (_ : True) (h : FI w u M) : FI w u M := h
theorem FI.elimZ {w : World} {v u : Value} {L M : List FK} (_ : FI w v L) (h : FI w u M) : FI w u M := h

set_option maxRecDepth 100000 in
set_option maxHeartbeats 1000000 in
theorem plain_fi {w : World} {v : Value} {L : List FK} (most : Int) (hmost : most ≤ 900) (h : FI w v L) :
    Calls Try.prog 18 #[v, .int .i64 most] w fun e w' => ∃ v', e = .returned v' ∧ FI w' v' (plainL L most) ∧ Upd [] w w' := by
  have HF := Lib.hid h
  obtain ⟨T, hT, htl⟩ := h
  have HFT := Lib.hid hT
  have HTL := Lib.hid htl
  obtain ⟨a, cap, cvs0, rfl, hcap1, hcap2, -⟩ := hT
  obtain ⟨n, hn⟩ : ∃ n, n = L.length := ⟨_, rfl⟩
  have HN := Lib.hid hn
  have hnm : n ≤ maxLen := by omega
  unfold maxLen at hnm
  rw [← hn] at HF HFT ⊢
  clear hn htl hcap1 hcap2
  go_enter Try.func18, Try.ntmps18
  go_upto_region 3 with fail
  go_loopw [5, 6] (fun ov i wx => ∃ (m : Nat) (cvs : List Value), m ≤ n ∧ m ≤ most.toNat ∧ i = .int .i64 m ∧ OL wx w.heap.size ov ((L.take m).filter (fun f => f.kind != 1)) cvs T ∧ Upd [] w wx) (fun _ i _ => n - (intOf i).toNat)
  case atStart => exact ⟨0, [], Nat.zero_le _, Nat.zero_le _, rfl, ⟨World.ownsRow_nil _ _ _ _, ChunksL.nil _ _, fun f hf => by simp at hf⟩, Upd.refl _ _⟩
  case round =>
    obtain ⟨m, cvs, hm, hmm, rfl, ho, hu⟩ := hrel
    have HO := Lib.hid ho
    have HU := Lib.hid hu
    by_cases hlt : m < n
    · by_cases hlm : (m : Int) < most
      · have hlx : m < L.length := by rw [← HN.out]; exact hlt
        obtain ⟨g, off, cv, rfl, hg, hgT, hcl, hch, hwf⟩ := HFT.out.get hlx
        have hfs := filter_snoc (fun f : FK => f.kind != 1) L m hlx FK.zero
        have hfl : ((L.take m).filter (fun f => f.kind != 1)).length ≤ m := Nat.le_trans (List.length_filter_le _ _) (by rw [List.length_take]; omega)
        obtain ⟨f, hf⟩ : ∃ f, f = L.getD m FK.zero := ⟨_, rfl⟩
        rw [← hf] at hcl hch hwf hfs
        have hcl := hcl.upd hu hg (by simp)
        have HC := Lib.hid hcl
        have HCH := Lib.hid (hch.upd0 hu)
        have HWF := Lib.hid hwf
        have HFS := Lib.hid hfs
        obtain ⟨kd, hkd⟩ : ∃ x, x = f.kind := ⟨_, rfl⟩
        have cc0 : wr.cell? ⟨g, off + m * 38, none⟩ = some (.int .i64 kd) := by rw [hkd]; exact hcl 0 _ rfl
        have HKD := Lib.hid hkd
        obtain ⟨k, hk⟩ : ∃ k, k = ((L.take m).filter (fun f => f.kind != 1)).length := ⟨_, rfl⟩
        rw [← hk] at hfl
        have HK := Lib.hid hk
        obtain ⟨oa, oc, rfl⟩ := own_slice ho.own
        have hx0 : (0 : Int) ≤ (m : Int) := by omega
        have hx1 : (m : Int) < (n : Int) := by omega
        have hz4 := hu.size
        clear hcl hch hwf hfs hf hk ho hu hkd
        rw [← HK.out]
        by_cases hk1 : kd = 1
        · subst hk1
          have htk : (L.take (m + 1)).filter (fun f => f.kind != 1) = (L.take m).filter (fun f => f.kind != 1) := by rw [HFS.out, ← HKD.out]; simp
          have HTK := Lib.hid htk
          clear htk
          go_wp2_with fail
          go_roundw
          case rel => exact ⟨m + 1, cvs, by omega, by omega, by go_num, by rw [HTK.out, HK.out]; exact HO.out, HU.out⟩
          case measure => simp [intOf]; omega
        · have hk2 : (kd != 1) = true := by simpa using hk1
          have htk : (L.take (m + 1)).filter (fun f => f.kind != 1) = (L.take m).filter (fun f => f.kind != 1) ++ [f] := by rw [HFS.out, ← HKD.out]; simp [hk1]
          have HTK := Lib.hid htk
          have hown := HO.out.own
          rw [← HK.out] at hown
          have HOWN := Lib.hid hown
          clear htk hown
          go_wp2_with (first
            | ((with_reducible show wpList _ _ _ (⟨some 28, _, _, _, _, _⟩ :: _) _ _); refine wpList_run rfl (fact_load (.tmp 27) rfl rfl HC.out HWF.out) ?_)
            | ((with_reducible show wpList _ _ _ (⟨some 29, _, _, _, _, _⟩ :: _) _ _)
               go_loud (refine wpList_push 29 30 23 31 (.tmp 24) (.tmp 28) (.agg (encF FK.zero (.slice none 0 0)).toArray) 38 96 Try.underlying23 info_factB rfl (by omega) (by omega) w.heap.size (.slice oa k oc) k _ (.agg (encF f cv).toArray) rfl rfl rfl rfl rfl rfl (by simp) (by simp [Act.put]) rfl rfl HOWN.out (encF_size HWF.out _) (encF_one' HCH.out) (by unfold maxLen; omega) (by omega) (by omega) ?_)
               intro g' cap' w5 ho5 hu5 hat5 hlt5 hb5
               have HO5 := Lib.hid ho5
               have HU5 := Lib.hid hu5
               clear ho5 hu5 hat5 hlt5 hb5))
          go_roundw
          case rel =>
            have hrowlt : ∀ y ∈ (Value.slice oa k oc).ownBlock.toList, w.heap.size ≤ y := fun y hy => (HOWN.out.lt y (by simpa using hy)).1
            refine ⟨m + 1, cvs ++ [cv], by omega, by omega, by go_num, ?_, HU.out.then HU5.out (fun y hy => .inr (hrowlt y hy))⟩
            rw [HTK.out]
            have hol := HO.out
            rw [← HK.out] at hol
            exact hol.push HK.out HWF.out HCH.out HTL.out HO5.out HU5.out
          case measure => simp [intOf]; omega
      · have hmt : m = most.toNat := by omega
        have q : decide ((m : Int) < most) = false := decide_eq_false hlm
        have HE : Hid (plainL L most = (L.take m).filter (fun f => f.kind != 1)) := Lib.hid (by unfold plainL; rw [hmt])
        clear hmm hlm hmt ho hu
        go_wp2_with fail
        go_ret
        refine ⟨_, rfl, ⟨_, by rw [HE.out]; exact HO.out.at, fun y hy => ?_⟩, HU.out⟩
        rcases List.mem_append.1 hy with h1 | h1
        · exact (HO.out.own.lt y (by simpa using h1)).2
        · exact Nat.lt_of_lt_of_le (HTL.out y h1) HU.out.size
    · obtain rfl : m = n := by omega
      have HE : Hid (plainL L most = (L.take m).filter (fun f => f.kind != 1)) := Lib.hid (by
        unfold plainL
        rw [List.take_of_length_le (i := m) (by rw [HN.out]; exact Nat.le_refl _), List.take_of_length_le (i := most.toNat) (by rw [← HN.out]; exact hmm)])
      clear hlt hmm hm ho hu
      go_wp2_with fail
      go_ret
      refine ⟨_, rfl, ⟨_, by rw [HE.out]; exact HO.out.at, fun y hy => ?_⟩, HU.out⟩
      rcases List.mem_append.1 hy with h1 | h1
      · exact (HO.out.own.lt y (by simpa using h1)).2
      · exact Nat.lt_of_lt_of_le (HTL.out y h1) HU.out.size

end Go.Proofs.Ytbdmnmjdnfpfbaa
