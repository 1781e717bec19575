/- The walks of the document's Who, Aborted and Next. -/
import Derived.Test.YtbdmnmjdnfpfbaaLatRC
namespace Go.Proofs.Ytbdmnmjdnfpfbaa
open Go.ChangeShapes Go.WideShapes Go.ChangeAt Go.RowKit

theorem is_iff (f : FK) (k e : Int) : f.is k e = (decide (f.kind = k) && decide (f.epoch = e)) := rfl

theorem FI.maxLen {w : World} {v : Value} {L : List FK} (h : FI w v L) : L.length ≤ 9223372036854775807 := by
  obtain ⟨T, ⟨_, cap', _, e, h1, h2, -⟩, -⟩ := h
  unfold Go.maxLen at h2
  omega

set_option maxRecDepth 100000 in
set_option maxHeartbeats 2000000 in
theorem rwho_fi {w : World} {v : Value} {L : List FK} (kind epoch : Int) (h : FI w v L) (hl : L.length ≤ 1000) :
    Calls Try.prog 30 #[v, .int .i64 kind, .int .i64 epoch] w fun e w' => ∃ v', e = .returned v' ∧ w'.ownsRow w.heap.size 3 1 v' (whoL L kind epoch).length ((whoL L kind epoch).map (Value.int .i64)) ∧ Upd [] w w' := by
  have HF := Lib.hid h
  obtain ⟨a, cap, rfl⟩ := h.form
  obtain ⟨n, hn⟩ : ∃ n, n = L.length := ⟨_, rfl⟩
  rw [← hn] at HF hl ⊢
  have HN := Lib.hid hn
  clear hn h
  go_enter Try.func30, Try.ntmps30
  go_upto_region 3 with fail
  go_loopw [7, 8] (fun ov i wx => ∃ (m : Nat), m ≤ n ∧ i = .int .i64 m ∧ wx.ownsRow w.heap.size 3 1 ov (whoL (L.take m) kind epoch).length ((whoL (L.take m) kind epoch).map (Value.int .i64)) ∧ Upd [] w wx) (fun _ i _ => n - (intOf i).toNat)
  case atStart => exact ⟨0, Nat.zero_le _, rfl, World.ownsRow_nil _ _ _ _, Upd.refl _ _⟩
  case round =>
    obtain ⟨m, hm, rfl, ho, hu⟩ := hrel
    have HO := Lib.hid ho
    have HU := Lib.hid hu
    obtain ⟨oa, oc, rfl⟩ := own_slice ho
    by_cases hlt : m < n
    · have hlx : m < L.length := by rw [← HN.out]; exact hlt
      obtain ⟨g, off, cv, rfl, hg, hcl, -, -⟩ := HF.out.get hlx
      have hfs := filter_snoc (fun f : FK => f.is kind epoch) L m hlx FK.zero
      obtain ⟨f, hf⟩ : ∃ x, x = L.getD m FK.zero := ⟨_, rfl⟩
      rw [← hf] at hcl hfs
      have hws : whoL (L.take (m + 1)) kind epoch = whoL (L.take m) kind epoch ++ (if f.is kind epoch = true then [f.node] else []) := by
        unfold whoL allL
        rw [hfs, List.map_append]
        congr 1
        split <;> rfl
      have hwl : (whoL (L.take m) kind epoch).length ≤ m := by
        unfold whoL allL
        rw [List.length_map]
        exact Nat.le_trans (List.length_filter_le _ _) (by rw [List.length_take]; omega)
      obtain ⟨W, hW⟩ : ∃ W, W = whoL (L.take m) kind epoch := ⟨_, rfl⟩
      rw [← hW] at HO ho hws hwl ⊢
      obtain ⟨k, hk⟩ : ∃ k, k = W.length := ⟨_, rfl⟩
      rw [← hk] at HO ho hwl ⊢
      have HK := Lib.hid hk
      have HEW := Lib.hid hW
      have hcl := hcl.upd hu hg (by simp)
      obtain ⟨kd, hkd⟩ : ∃ x, x = f.kind := ⟨_, rfl⟩
      obtain ⟨ep, hep⟩ : ∃ x, x = f.epoch := ⟨_, rfl⟩
      obtain ⟨nd, hnd⟩ : ∃ x, x = f.node := ⟨_, rfl⟩
      have c0 : wr.cell? ⟨g, off + m * 38, none⟩ = some (.int .i64 kd) := by rw [hkd]; exact hcl 0 _ rfl
      have c1 : wr.cell? ⟨g, off + m * 38 + 1, none⟩ = some (.int .i64 ep) := by rw [hep]; exact hcl 1 _ rfl
      have c2 : wr.cell? ⟨g, off + m * 38 + 2, none⟩ = some (.int .i64 nd) := by rw [hnd]; exact hcl 2 _ rfl
      have his : f.is kind epoch = (decide (kd = kind) && decide (ep = epoch)) := by rw [is_iff, hkd, hep]
      rw [his, ← hnd] at hws
      have HWS := Lib.hid hws
      have hz := hu.size
      have hx0 : (0 : Int) ≤ (m : Int) := by omega
      have hx1 : (m : Int) < (n : Int) := by omega
      clear hcl hfs hf hW hws hkd hep hnd his hk ho hu
      by_cases h1 : kd = kind
      · by_cases h2 : ep = epoch
        · have HT : Hid (whoL (L.take (m + 1)) kind epoch = W ++ [nd]) := Lib.hid (by rw [HWS.out]; simp [h1, h2])
          subst h1 h2
          go_wp2_with (first
            | ((with_reducible show wpList _ _ _ (⟨some 37, _, _, _, _, _⟩ :: _) _ _)
               go_loud (refine wpList_push 37 38 46 3 (.tmp 31) (.tmp 36) (.int .i64 0) 1 8 Try.underlying46 info_intB rfl (by omega) (by omega) w.heap.size (.slice oa k oc) k _ (.int .i64 nd) rfl rfl rfl rfl rfl rfl (by simp) (by simp [Act.put]) rfl rfl HO.out rfl (int_one _ _) (by unfold maxLen; omega) (by omega) (by omega) ?_)
               intro g' cap' w5 ho5 hu5 hat5 hlt5 hb5
               have HO5 := Lib.hid ho5
               have HU5 := Lib.hid hu5
               clear ho5 hu5 hat5 hlt5 hb5))
          go_roundw
          case rel =>
            have hrowlt : ∀ y ∈ (Value.slice oa k oc).ownBlock.toList, w.heap.size ≤ y := fun y hy => (HO.out.lt y (by simpa using hy)).1
            refine ⟨m + 1, by omega, by go_num, ?_, HU.out.then HU5.out (fun y hy => .inr (hrowlt y hy))⟩
            rw [HT.out, List.length_append, ← HK.out, List.map_append]
            exact HO5.out
          case measure => simp [intOf]; omega
        · have HT : Hid (whoL (L.take (m + 1)) kind epoch = W) := Lib.hid (by rw [HWS.out]; simp [h2])
          subst h1
          have h2' : (ep == epoch) = false := by simpa using h2
          go_wp2_with fail
          go_roundw
          case rel => exact ⟨m + 1, by omega, by go_num, by rw [HT.out, ← HK.out]; exact HO.out, HU.out⟩
          case measure => simp [intOf]; omega
      · have HT : Hid (whoL (L.take (m + 1)) kind epoch = W) := Lib.hid (by rw [HWS.out]; simp [h1])
        have h1' : (kd == kind) = false := by simpa using h1
        go_wp2_with fail
        go_roundw
        case rel => exact ⟨m + 1, by omega, by go_num, by rw [HT.out, ← HK.out]; exact HO.out, HU.out⟩
        case measure => simp [intOf]; omega
    · obtain rfl : n = m := by omega
      have HE : Hid (L.take n = L) := Lib.hid (by rw [HN.out, List.take_length])
      clear hlt hm ho hu
      go_wp2_with fail
      go_ret
      exact ⟨_, rfl, by have h1 := HO.out; rwa [HE.out] at h1 ⊢, HU.out⟩

set_option maxRecDepth 100000 in
theorem raborted_fi {w : World} {v : Value} {L : List FK} (epoch majority : Int) (h : FI w v L) (hl : L.length ≤ 1000) :
    Calls Try.prog 31 #[v, .int .i64 epoch, .int .i64 majority] w fun e w' => e = .returned (.bool (abortedL L epoch majority)) ∧ Upd [] w w' := by
  have HW := Lib.hid (rwho_fi 3 epoch h hl)
  have hab : abortedL L epoch majority = decide (majority ≤ ((whoL L 3 epoch).length : Int)) := rfl
  rw [hab]
  obtain ⟨k, hk⟩ : ∃ k, k = (whoL L 3 epoch).length := ⟨_, rfl⟩
  rw [← hk] at HW ⊢
  clear hk hab h
  go_enter Try.func31, Try.ntmps31
  go_wp2_with (go_at_call 30; refine HW.out.mono ?_; rintro e w2 ⟨v2, rfl, ho2, hu2⟩
               obtain ⟨oa, oc, rfl⟩ := own_slice ho2
               have HU2 := Lib.hid hu2
               clear ho2 hu2)
  go_ret
  exact ⟨rfl, HU2.out⟩

set_option maxRecDepth 100000 in
set_option maxHeartbeats 2000000 in
theorem rnext_fi {w : World} {v : Value} {L : List FK} (h : FI w v L) :
    Calls Try.prog 35 #[v] w fun e w' => e = .returned (.int .i64 (nextL L)) ∧ Upd [] w w' := by
  have hnm := h.maxLen
  have HF := Lib.hid h
  obtain ⟨a, cap, rfl⟩ := h.form
  obtain ⟨n, hn⟩ : ∃ n, n = L.length := ⟨_, rfl⟩
  rw [← hn] at HF hnm ⊢
  have HN := Lib.hid hn
  clear hn h
  go_enter Try.func35, Try.ntmps35
  go_upto_region 3 with fail
  go_loopw [3, 4] (fun b i wx => ∃ (m : Nat), m ≤ n ∧ i = .int .i64 m ∧ b = .int .i64 (nextL (L.take m)) ∧ w = wx) (fun _ i _ => n - (intOf i).toNat)
  case atStart => exact ⟨0, Nat.zero_le _, rfl, rfl, rfl⟩
  case round =>
    obtain ⟨m, hm, rfl, rfl, rfl⟩ := hrel
    by_cases hlt : m < n
    · have hlx : m < L.length := by rw [← HN.out]; exact hlt
      obtain ⟨g, off, cv, rfl, hg, hcl, -, -⟩ := HF.out.get hlx
      obtain ⟨f, hf⟩ : ∃ x, x = L.getD m FK.zero := ⟨_, rfl⟩
      rw [← hf] at hcl
      have htk : nextL (L.take (m + 1)) = max (nextL (L.take m)) ((ofN f.epoch).2 + 1) := by rw [take_snoc L m hlx FK.zero, ← hf, nextL_snoc]
      obtain ⟨o1, o2⟩ := ofN_bound f.epoch
      obtain ⟨ep, hep⟩ : ∃ x, x = f.epoch := ⟨_, rfl⟩
      rw [← hep] at htk o1 o2
      have c1 : w.cell? ⟨g, off + m * 38 + 1, none⟩ = some (.int .i64 ep) := by rw [hep]; exact hcl 1 _ rfl
      have HOF := Lib.hid (fun w => rof_any ep w)
      obtain ⟨q2, hq2⟩ : ∃ x, x = (ofN ep).2 := ⟨_, rfl⟩
      obtain ⟨q1, hq1⟩ : ∃ x, x = (ofN ep).1 := ⟨_, rfl⟩
      obtain ⟨nx, hnx⟩ : ∃ x, x = nextL (L.take m) := ⟨_, rfl⟩
      rw [← hq1, ← hq2] at HOF
      rw [← hq2] at htk o1 o2
      rw [← hnx] at htk ⊢
      have hx0 : (0 : Int) ≤ (m : Int) := by omega
      have hx1 : (m : Int) < (n : Int) := by omega
      have hwr : IntKind.i64.wrap (q2 + 1) = q2 + 1 := IntWalk.i64_in _ (by omega)
      have HTK := Lib.hid htk
      clear hcl hf hep hq1 hq2 hnx htk
      by_cases hgt : nx < q2 + 1
      · have HT : Hid (nextL (L.take (m + 1)) = q2 + 1) := Lib.hid (by rw [HTK.out]; omega)
        go_wp2_with (go_at_call 54; refine (HOF.out _).mono ?_; rintro e _ ⟨rfl, rfl⟩)
        go_roundw
        case rel => exact ⟨m + 1, by omega, by go_num, by rw [HT.out], trivial⟩
        case measure => simp [intOf]; omega
      · have HT : Hid (nextL (L.take (m + 1)) = nx) := Lib.hid (by rw [HTK.out]; omega)
        go_wp2_with (go_at_call 54; refine (HOF.out _).mono ?_; rintro e _ ⟨rfl, rfl⟩)
        go_roundw
        case rel => exact ⟨m + 1, by omega, by go_num, by rw [HT.out], trivial⟩
        case measure => simp [intOf]; omega
    · obtain rfl : n = m := by omega
      have HE : Hid (L.take n = L) := Lib.hid (by rw [HN.out, List.take_length])
      clear hlt hm
      go_wp2_with fail
      go_ret
      exact ⟨by rw [HE.out]; rfl, Upd.refl _ _⟩

end Go.Proofs.Ytbdmnmjdnfpfbaa
