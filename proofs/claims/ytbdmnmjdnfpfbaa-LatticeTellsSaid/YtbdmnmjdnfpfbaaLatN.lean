/- The walks of Merge, Who, Aborted, Best, Next. -/
import Derived.Test.YtbdmnmjdnfpfbaaLatM
namespace Go.Proofs.Ytbdmnmjdnfpfbaa
open Go.ChangeShapes Go.WideShapes Go.ChangeAt Go.RowKit

theorem mergeL_snoc (nodes : Int) : ∀ (b a : List FK) (f : FK), mergeL nodes a (b ++ [f]) = addL nodes (mergeL nodes a b) f
  | [], a, f => rfl
  | x :: t, a, f => by rw [List.cons_append, mergeL, mergeL, mergeL_snoc nodes t]

theorem take_snoc {α : Type} (l : List α) (i : Nat) (h : i < l.length) (d : α) : l.take (i + 1) = l.take i ++ [l.getD i d] := by
  rw [List.take_succ_eq_append_getElem h, List.getD_eq_getElem?_getD, List.getElem?_eq_getElem h]; rfl

theorem addL_len (nodes : Int) (l : List FK) (f : FK) : (addL nodes l f).length ≤ l.length + 1 ∧ ((addL nodes l f).length ≤ l.length ∨ l.length < 200) := by
  unfold addL
  split
  · exact ⟨by omega, .inl (Nat.le_refl _)⟩
  · split
    · exact ⟨by omega, .inl (Nat.le_refl _)⟩
    · split
      · exact ⟨by omega, .inl (Nat.le_refl _)⟩
      · unfold insL
        refine ⟨?_, .inr (by omega)⟩
        simp only [List.length_append, List.length_take, List.length_cons, List.length_drop]; omega

theorem mergeL_len (nodes : Int) : ∀ (b a : List FK), a.length ≤ 1000 → (mergeL nodes a b).length ≤ 1000
  | [], a, h => h
  | f :: t, a, h => by
    rw [mergeL]
    have := addL_len nodes a f
    exact mergeL_len nodes t _ (by omega)

theorem Gives.at {w w' : World} {T : List Nat} {v' : Value} {L' : List FK} (h : Gives w w' T v' L') : ∃ T', FsAt w' T' v' L' ∧ (∀ y ∈ T', (y ∈ T ∨ w.heap.size ≤ y) ∧ y < w'.heap.size) ∧ Upd [] w w' := by
  obtain ⟨cvs, T', ho, hT, hu⟩ := h
  refine ⟨_, ho.at, fun y hy => ?_, hu⟩
  rcases List.mem_append.1 hy with h1 | h1
  · have := ho.own.lt y (by simpa using h1); exact ⟨.inr this.1, this.2⟩
  · exact hT y h1

set_option maxRecDepth 100000 in
set_option maxHeartbeats 4000000 in
theorem merge_any (nodes : Int) (v u : Value) (T : List Nat) (A L : List FK) (w : World) (ha : FsAt w T v A) (h : FsAt w T u L) (hal : A.length ≤ 1000) (htl : ∀ y ∈ T, y < w.heap.size) :
    Calls Try.prog 16 #[.int .i64 nodes, v, u] w fun e w' => ∃ v', e = .returned v' ∧ Gives w w' T v' (mergeL nodes A L) := by
  have HCL := Lib.hid (cloneF_any v T A w ha hal)
  have HFS := Lib.hid h
  have HTL := Lib.hid htl
  obtain ⟨a, cap, cvs0, rfl, hlc, hcm, -⟩ := h
  unfold maxLen at hcm
  obtain ⟨n, hn⟩ : ∃ n, n = L.length := ⟨_, rfl⟩
  rw [← hn] at HFS hlc ⊢
  have HF := HFS
  have HN := Lib.hid hn
  clear hn ha htl
  go_enter Try.func16, Try.ntmps16
  go_wp2_with (go_at_call 39; refine HCL.out.mono ?_; rintro e w1 ⟨v1, cvs1, rfl, ho1, hu1⟩
               have HG1 : Hid (Gives w w1 T v1 A) := Lib.hid ⟨cvs1, T, ho1, fun y hy => ⟨.inl hy, Nat.lt_of_lt_of_le (HTL.out y hy) hu1.size⟩, hu1⟩
               clear ho1 hu1)
  go_loopw [7, 14] (fun ov i wx => ∃ (m : Nat), m ≤ n ∧ i = .int .i64 m ∧ Gives w wx T ov (mergeL nodes A (L.take m))) (fun _ i _ => n - (intOf i).toNat)
  case atStart => exact ⟨0, Nat.zero_le _, rfl, HG1.out⟩
  case round =>
    obtain ⟨m, hm, rfl, hgv⟩ := hrel
    clear HG1
    by_cases hlt : m < n
    · obtain ⟨T', hat, hT', hu⟩ := hgv.at
      have hlx : m < L.length := by rw [← HN.out]; exact hlt
      obtain ⟨g, off, cv, rfl, hg, hgT, hcl, hch, hwf⟩ := HF.out.get hlx
      obtain ⟨f, hf⟩ : ∃ f, f = L.getD m FK.zero := ⟨_, rfl⟩
      rw [← hf] at hcl hch hwf
      have HC := Lib.hid (hcl.upd hu hg (by simp))
      have HCH := Lib.hid (hch.upd0 hu)
      have HWF := Lib.hid hwf
      have HFE := Lib.hid hf
      have hx0 : (0 : Int) ≤ (m : Int) := by omega
      have hx1 : (m : Int) < (n : Int) := by omega
      clear hcl hch hwf hf
      go_upto_region 5 with (first
        | ((with_reducible show wpList _ _ _ (⟨some 17, _, _, _, _, _⟩ :: _) _ _); refine wpList_run rfl (fact_load (.tmp 16) rfl rfl HC.out HWF.out) ?_)
        | (refine wpList_alloc rfl 31 rfl zero_fact fun w2 hb2 hu2 hs2 => ?_)
        | (refine wpList_storeA rfl 31 (.tmp 9) (.tmp 17) rfl rfl rfl hb2 info_fact (encF_size HWF.out _) (encF_size FK.zero_wf _) (encF_one' HCH.out) fun w3 hb3 hu3 hs3 => ?_))
      obtain ⟨tb, htb⟩ : ∃ x, x = wr.heap.size := ⟨_, rfl⟩
      rw [← htb] at hb3 ⊢
      have hu03 : Upd [] wr w3 := hu2.then hu3 (by simp [htb])
      have HB3 := Lib.hid hb3
      have HL3 := Lib.hid (CellsAt.of_blk hb3)
      have HU3 := Lib.hid hu03
      have c0 : w3.cell? ⟨tb, 0, none⟩ = some (.int .i64 f.kind) := hb3.cell (o := 0) rfl
      have c1 : w3.cell? ⟨tb, 1, none⟩ = some (.int .i64 f.epoch) := hb3.cell (o := 1) rfl
      have c2 : w3.cell? ⟨tb, 2, none⟩ = some (.int .i64 f.node) := hb3.cell (o := 2) rfl
      clear hb2 hu2 hs2 hb3 hu3 hs3 htb hu03
      obtain ⟨pre, hpre⟩ : ∃ x, x = mergeL nodes A (L.take m) := ⟨_, rfl⟩
      have hpl : pre.length ≤ 1000 := by rw [hpre]; exact mergeL_len nodes _ _ hal
      have htk : mergeL nodes A (L.take (m + 1)) = addL nodes pre f := by rw [take_snoc L m hlx FK.zero, mergeL_snoc, ← HFE.out, hpre]
      rw [← hpre] at hat
      have hTT : ∀ y ∈ T' ++ T, y < w3.heap.size := fun y hy => by
        have hz := HU3.out.size
        rcases List.mem_append.1 hy with h1 | h1
        · have := (hT' y h1).2; omega
        · have := HTL.out y h1; have := hu.size; omega
      have HADD := Lib.hid (add_any nodes _ (T' ++ T) pre f cv w3 ((hat.upd0 HU3.out).mono (fun y hy => List.mem_append_left _ hy)) HWF.out ((HCH.out.upd0 HU3.out).mono (fun y hy => List.mem_append_right _ hy)) hpl hTT)
      have HTK := Lib.hid htk
      have HU := Lib.hid (hu.trans HU3.out)
      have HTP := Lib.hid hT'
      clear hpre hpl htk hat hTT hT' hu hgv c0 c1 c2
      go_wp2_with (first
        | ((with_reducible show wpList _ _ _ (⟨some 21, _, _, _, _, _⟩ :: _) _ _); refine wpList_run rfl (fact_load (.tmp 9) rfl rfl HL3.out HWF.out) ?_)
        | (go_at_call 19; refine HADD.out.mono ?_; rintro e w4 ⟨v4, rfl, hg4⟩; have HG4 := Lib.hid hg4; clear hg4))
      go_roundw
      case rel =>
        refine ⟨m + 1, by omega, by go_num, ?_⟩
        rw [HTK.out]
        obtain ⟨cvs4, T4, ho4, hT4, hu4⟩ := HG4.out
        refine ⟨cvs4, T4, ho4.le HU.out.size, fun y hy => ⟨?_, (hT4 y hy).2⟩, HU.out.trans hu4⟩
        have hz := HU.out.size
        rcases (hT4 y hy).1 with h1 | h1
        · rcases List.mem_append.1 h1 with h2 | h2
          · exact (HTP.out y h2).1
          · exact .inl h2
        · exact .inr (by omega)
      case measure => simp [intOf]; omega
    · obtain rfl : m = n := by omega
      rw [List.take_of_length_le (by rw [HN.out]; exact Nat.le_refl _)] at hgv
      have HG := Lib.hid hgv
      clear hgv hlt
      go_wp2_with fail
      go_ret
      exact ⟨_, rfl, HG.out⟩

end Go.Proofs.Ytbdmnmjdnfpfbaa
