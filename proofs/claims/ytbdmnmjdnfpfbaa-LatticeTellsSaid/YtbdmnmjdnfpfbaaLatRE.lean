/- The walk of the document's Merge. -/
import Derived.Test.YtbdmnmjdnfpfbaaLatRD
namespace Go.Proofs.Ytbdmnmjdnfpfbaa
open Go.ChangeShapes Go.WideShapes Go.ChangeAt Go.RowKit

theorem mergeL_le (nodes : Int) {k : Nat} (hk : 200 ≤ k) : ∀ (b a : List FK), a.length ≤ k → (mergeL nodes a b).length ≤ k
  | [], a, h => h
  | f :: t, a, h => by
    rw [mergeL]
    have := addL_len nodes a f
    exact mergeL_le nodes hk t _ (by omega)

set_option maxRecDepth 100000 in
set_option maxHeartbeats 2000000 in
theorem rmerge_fi {w : World} {v u : Value} {A L : List FK} (nodes : Int) (ha : FI w v A) (h : FI w u L) (hal : A.length ≤ 900) :
    Calls Try.prog 17 #[.int .i64 nodes, v, u] w fun e w' => ∃ v', e = .returned v' ∧ FI w' v' (mergeL nodes A L) ∧ Upd [] w w' := by
  have hnm : L.length ≤ maxLen := by obtain ⟨T, ⟨_, cap', _, e, h1, h2, -⟩, -⟩ := h; omega
  unfold maxLen at hnm
  have HA := Lib.hid ha
  have HF := Lib.hid h
  obtain ⟨la, lc, rfl⟩ := h.form
  obtain ⟨n, hn⟩ : ∃ n, n = L.length := ⟨_, rfl⟩
  rw [← hn] at HF hnm ⊢
  have HN := Lib.hid hn
  clear hn h ha
  go_enter Try.func17, Try.ntmps17
  go_upto_region 3 with fail
  go_loopw [7, 8] (fun ov i wx => ∃ (m : Nat), m ≤ n ∧ i = .int .i64 m ∧ FI wx ov (mergeL nodes A (L.take m)) ∧ Upd [] w wx) (fun _ i _ => n - (intOf i).toNat)
  case atStart => exact ⟨0, Nat.zero_le _, rfl, HA.out, Upd.refl _ _⟩
  case round =>
    obtain ⟨m, hm, rfl, ho, hu⟩ := hrel
    have HO := Lib.hid ho
    have HU := Lib.hid hu
    clear ho hu
    by_cases hlt : m < n
    · have hlx : m < L.length := by rw [← HN.out]; exact hlt
      obtain ⟨g, off, cv, rfl, hg, hcl, hch, hwf⟩ := HF.out.get hlx
      have hsn : mergeL nodes A (L.take (m + 1)) = addL nodes (mergeL nodes A (L.take m)) (L.getD m FK.zero) := by rw [take_snoc L m hlx FK.zero, mergeL_snoc]
      obtain ⟨f, hf⟩ : ∃ x, x = L.getD m FK.zero := ⟨_, rfl⟩
      rw [← hf] at hcl hch hwf hsn
      have HC := Lib.hid (hcl.upd HU.out hg (by simp))
      have HCH := Lib.hid (hch.upd0 HU.out)
      have HWF := Lib.hid hwf
      have HSN := Lib.hid hsn
      have HLE : Hid ((mergeL nodes A (L.take m)).length ≤ 900) := Lib.hid (mergeL_le nodes (by omega) _ _ hal)
      have hx0 : (0 : Int) ≤ (m : Int) := by omega
      have hx1 : (m : Int) < (n : Int) := by omega
      clear hcl hch hwf hsn hf
      go_wp2_with (first
        | ((with_reducible show wpList _ _ _ (⟨some 24, _, _, _, _, _⟩ :: _) _ _); refine wpList_run rfl (fact_load (.tmp 23) rfl rfl HC.out HWF.out) ?_)
        | (go_at_call 25; refine (radd_fi nodes HO.out HWF.out HCH.out HLE.out).mono ?_; rintro e w5 ⟨bv, rfl, hb5, hu5⟩
           have HO5 := Lib.hid hb5
           have HU5 := Lib.hid (HU.out.trans hu5)
           clear hb5 hu5))
      go_roundw
      case rel => exact ⟨m + 1, by omega, by go_num, by rw [HSN.out]; exact HO5.out, HU5.out⟩
      case measure => simp [intOf]; omega
    · obtain rfl : n = m := by omega
      have HE : Hid (L.take n = L) := Lib.hid (by rw [HN.out, List.take_length])
      clear hlt hm
      go_wp2_with fail
      go_ret
      exact ⟨_, rfl, by have h1 := HO.out; rwa [HE.out] at h1, HU.out⟩

end Go.Proofs.Ytbdmnmjdnfpfbaa
