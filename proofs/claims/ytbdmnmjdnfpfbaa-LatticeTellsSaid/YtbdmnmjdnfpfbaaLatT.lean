/- The walks of Few and grown. -/
import Derived.Test.YtbdmnmjdnfpfbaaLatS
namespace Go.Proofs.Ytbdmnmjdnfpfbaa
open Go.ChangeShapes Go.WideShapes Go.ChangeAt Go.RowKit

def FK.few (f : FK) : Bool := decide (f.chunks.length ≤ 100)
def grownL (nodes : Int) (l : List FK) (most : Int) : List FK := mergeL nodes [] ((l.take most.toNat).filter FK.few)

theorem few_any (f : FK) (cv : Value) (w : World) (hc : CI w cv f.chunks) :
    Calls Try.prog 14 #[.agg (encF f cv).toArray] w fun x w' => x = .returned (.bool f.few) ∧ Upd [] w w' := by
  obtain ⟨T, hc, -⟩ := hc
  obtain ⟨ca, cc, rfl⟩ := hc.form
  obtain ⟨n, hn⟩ : ∃ n, n = f.chunks.length := ⟨_, rfl⟩
  obtain ⟨r, hr⟩ : ∃ r, r = f.few := ⟨_, rfl⟩
  have hr2 : decide ((n : Int) ≤ 100) = r := by rw [hr, hn]; unfold FK.few; rw [Bool.eq_iff_iff]; simp; omega
  rw [← hr]
  rw [← hn]
  obtain ⟨w2, hw2⟩ : ∃ w2, w2 = w.alloc (.cells (encF f (.slice ca n cc)).toArray 31) := ⟨_, rfl⟩
  obtain ⟨hb, hu⟩ := boxed w (encF f (.slice ca n cc)).toArray 31
  rw [← hw2] at hb hu
  have d5 : w2.cell? ⟨w.heap.size, 5, none⟩ = some (.slice ca n cc) := hb.cell (o := 5) rfl
  have HU := Lib.hid hu
  have HW2 := Lib.hid hw2
  clear hw2 hb hu hr hc hn
  go_enter Try.func14, Try.ntmps14
  go_upto_region 1 with fail
  rw [← HW2.out]
  go_wp2
  go_ret
  exact ⟨rfl, HU.out⟩

set_option maxHeartbeats 1000000 in
theorem grown_fi {w : World} {v : Value} {L : List FK} (nodes most : Int) (h : FI w v L) :
    Calls Try.prog 13 #[.int .i64 nodes, v, .int .i64 most] w fun e w' => ∃ v', e = .returned v' ∧ FI w' v' (grownL nodes L most) ∧ Upd [] w w' := by
  have HF := Lib.hid h
  obtain ⟨a, cap, rfl⟩ := h.form
  obtain ⟨n, hn⟩ : ∃ n, n = L.length := ⟨_, rfl⟩
  have HN := Lib.hid hn
  have hnm : n ≤ maxLen := by obtain ⟨T, ⟨_, cap', _, e, h1, h2, -⟩, -⟩ := h; cases e; omega
  unfold maxLen at hnm
  rw [← hn] at HF ⊢
  clear hn h
  go_enter Try.func13, Try.ntmps13
  go_upto_region 3 with fail
  go_loopw [7, 8] (fun ov i wx => ∃ (m : Nat), m ≤ n ∧ m ≤ most.toNat ∧ i = .int .i64 m ∧ FI wx ov (mergeL nodes [] ((L.take m).filter FK.few)) ∧ Upd [] w wx) (fun _ i _ => n - (intOf i).toNat)
  case atStart => exact ⟨0, Nat.zero_le _, Nat.zero_le _, rfl, FI.nil _, Upd.refl _ _⟩
  case round =>
    obtain ⟨m, hm, hmm, rfl, ho, hu⟩ := hrel
    have HO := Lib.hid ho
    have HU := Lib.hid hu
    clear ho hu
    by_cases hlt : m < n
    · by_cases hlm : (m : Int) < most
      · have hlx : m < L.length := by rw [← HN.out]; exact hlt
        obtain ⟨g, off, cv, rfl, hg, hcl, hch, hwf⟩ := HF.out.get hlx
        have hfs := filter_snoc FK.few L m hlx FK.zero
        obtain ⟨f, hf⟩ : ∃ f, f = L.getD m FK.zero := ⟨_, rfl⟩
        rw [← hf] at hcl hch hwf hfs
        have HC := Lib.hid (hcl.upd HU.out hg (by simp))
        have HCH := Lib.hid (hch.upd0 HU.out)
        have HWF := Lib.hid hwf
        have HFS := Lib.hid hfs
        have hx0 : (0 : Int) ≤ (m : Int) := by omega
        have hx1 : (m : Int) < (n : Int) := by omega
        obtain ⟨fw, hfw⟩ : ∃ x, x = f.few := ⟨_, rfl⟩
        rw [← hfw] at HFS
        have HFW := Lib.hid (few_any f cv wr HCH.out)
        rw [← hfw] at HFW
        clear hcl hch hwf hfs hf hfw
        go_upto_region 6 with (first
          | ((with_reducible show wpList _ _ _ (⟨some 24, _, _, _, _, _⟩ :: _) _ _); refine wpList_run rfl (fact_load (.tmp 23) rfl rfl HC.out HWF.out) ?_)
          | (go_at_call 14; refine HFW.out.mono ?_; rintro e w2 ⟨rfl, hu2⟩
             have HU2 := Lib.hid (HU.out.trans hu2)
             have HO2 := Lib.hid (HO.out.upd0 hu2)
             have HC2 := Lib.hid (HC.out.upd hu2 (by have := HU.out.size; omega) (by simp))
             have HCH2 := Lib.hid (HCH.out.upd0 hu2)
             clear hu2))
        have hol : (mergeL nodes [] ((L.take m).filter FK.few)).length ≤ 1000 := mergeL_len nodes _ _ (by simp)
        cases fw with
        | false =>
          have htk : (L.take (m + 1)).filter FK.few = (L.take m).filter FK.few := by rw [HFS.out]; simp
          have HTK := Lib.hid htk
          clear htk hol
          go_wp2_with fail
          go_roundw
          case rel => exact ⟨m + 1, by omega, by omega, by go_num, by rw [HTK.out]; exact HO2.out, HU2.out⟩
          case measure => simp [intOf]; omega
        | true =>
          have htk : mergeL nodes [] ((L.take (m + 1)).filter FK.few) = mergeL nodes (mergeL nodes [] ((L.take m).filter FK.few)) [f] := by rw [HFS.out, if_pos rfl, mergeL_snoc]; rfl
          have HTK := Lib.hid htk
          have HOL := Lib.hid hol
          clear htk hol
          go_wp2_with (first
            | ((with_reducible show wpList _ _ _ (⟨some 32, _, _, _, _, _⟩ :: _) _ _); refine wpList_run rfl (fact_load (.tmp 31) rfl rfl HC2.out HWF.out) ?_)
            | ((with_reducible show wpList _ _ _ (⟨some 33, _, _, _, _, _⟩ :: _) _ _)
               refine wpList_plain rfl fun _ hK => wp_one (f := f) (cv := cv) (.tmp 32) rfl rfl HWF.out (hK _ _ ?_))
            | (go_at_call 16; refine (merge_fi nodes (HO2.out.upd0 (boxed _ _ _).2) (one_fi HWF.out HCH2.out) HOL.out).mono ?_; rintro e w3 ⟨v3, rfl, h3, hu3⟩
               have HU3 := Lib.hid (HU2.out.trans ((boxed _ _ _).2.trans hu3))
               have HO3 := Lib.hid h3
               clear h3 hu3))
          go_roundw
          case rel => exact ⟨m + 1, by omega, by omega, by go_num, by rw [HTK.out]; exact HO3.out, HU3.out⟩
          case measure => simp [intOf]; omega
      · have hmt : m = most.toNat := by omega
        have q : decide ((m : Int) < most) = false := decide_eq_false hlm
        have HE : Hid (grownL nodes L most = mergeL nodes [] ((L.take m).filter FK.few)) := Lib.hid (by unfold grownL; rw [hmt])
        clear hmm hlm hmt
        go_wp2_with fail
        go_ret
        exact ⟨_, rfl, by rw [HE.out]; exact HO.out, HU.out⟩
    · obtain rfl : m = n := by omega
      have HE : Hid (grownL nodes L most = mergeL nodes [] ((L.take m).filter FK.few)) := Lib.hid (by
        unfold grownL
        rw [List.take_of_length_le (i := m) (by rw [HN.out]; exact Nat.le_refl _), List.take_of_length_le (i := most.toNat) (by rw [← HN.out]; exact hmm)])
      clear hlt hmm hm
      go_wp2_with fail
      go_ret
      exact ⟨_, rfl, by rw [HE.out]; exact HO.out, HU.out⟩

end Go.Proofs.Ytbdmnmjdnfpfbaa
