/- Lists of bytes in memory; the walks of Records and Force. -/
import Derived.Test.YtfjmkdjbeoafjaaJrnB
import Derived.Test.YtfjmkdjbeoafjaaPush
namespace Go.Proofs.Ytfjmkdjbeoafjaa
open Go.ChangeShapes Go.WideShapes Go.ChangeAt Go.RowKit

/-- A value that is a slice of these lists of bytes, all in blocks T. -/
def ListsAt (w : World) (T : List Nat) (v : Value) (L : List (List Int)) : Prop :=
  ∃ a cap, v = .slice a L.length cap ∧ L.length ≤ maxLen ∧ (L ≠ [] → ∃ g off, a = some ⟨g, off, none⟩ ∧ g < w.heap.size ∧ g ∈ T ∧ ∀ i, i < L.length → ∃ u, w.cell? ⟨g, off + i, none⟩ = some u ∧ BytesAt w u (L.getD i []) ∧ (L.getD i [] ≠ [] → ∀ k, u.ownBlock = some k → k ∈ T))

theorem ListsAt.upd {S T : List Nat} {w w' : World} {v : Value} {L : List (List Int)} (h : ListsAt w T v L) (hu : Upd S w w') (hT : ∀ k ∈ T, k ∉ S) : ListsAt w' T v L := by
  obtain ⟨a, cap, rfl, hm, h⟩ := h
  refine ⟨a, cap, rfl, hm, fun hne => ?_⟩
  obtain ⟨g, off, rfl, hg, hgT, hc⟩ := h hne
  refine ⟨g, off, rfl, Nat.lt_of_lt_of_le hg hu.size, hgT, fun i hi => ?_⟩
  obtain ⟨u, h1, h2, h3⟩ := hc i hi
  exact ⟨u, by rw [World.cell?_of_block (a := ⟨g, off + i, none⟩) (hu.block g hg (hT g hgT))]; exact h1, h2.upd hu (fun g off len cap hl e => hT g (h3 hl g (by rw [e]; rfl))), h3⟩

theorem ListsAt.upd0 {T : List Nat} {w w' : World} {v : Value} {L : List (List Int)} (h : ListsAt w T v L) (hu : Upd [] w w') : ListsAt w' T v L := h.upd hu (by simp)

theorem ListsAt.of_own {w : World} {T : List Nat} {base : Nat} {v : Value} {us : List Value} {L : List (List Int)} {n : Nat} (h : w.ownsRow base 31 1 v n us) (hn : n = L.length) (hr : RecsAt w T us L) : ListsAt w (v.ownBlock.toList ++ T) v L := by
  subst hn
  rcases h.2 with ⟨rfl, hn⟩ | ⟨g, cap, cur, rfl, hb, hg, hnc, hcm, hcs, htk⟩
  · exact ⟨none, 0, by rw [hn], by rw [hn]; unfold maxLen; omega, fun hne => absurd (List.eq_nil_of_length_eq_zero hn) hne⟩
  · refine ⟨_, _, rfl, by omega, fun _ => ⟨g, 0, rfl, Blk.lt hg, by simp [Value.ownBlock], fun i hi => ⟨us.getD i undef, ?_, (hr.2 i hi).1, fun _ k hk => List.mem_append_right _ ((hr.2 i hi).2 k hk)⟩⟩⟩
    rw [Nat.zero_add]
    refine Blk.cell hg ?_
    rw [Nat.mul_one] at htk
    have hlt : i < us.length := by rw [hr.1]; exact hi
    have h1 : (cur.toList.take L.length)[i]? = some (us.getD i undef) := by
      rw [htk, List.getD_eq_getElem?_getD, List.getElem?_eq_getElem hlt]; rfl
    rw [List.getElem?_take, if_pos hi] at h1
    simpa using h1

theorem rec_step {w2 w3 : World} {U : List Nat} {us : List Value} {L : List (List Int)} {r : List Int} {cv ov : Value} {g lo : Nat} (hr : RecsAt w2 U us L) (hcb : BytesAt w2 cv r) (hcv : ∀ x, cv.ownBlock = some x → lo ≤ x ∧ x < w2.heap.size)
    (hov : ∀ x, ov.ownBlock = some x → x ∉ U ∧ cv.ownBlock ≠ some x) (hU : ∀ x ∈ U, lo ≤ x ∧ x < w2.heap.size) (hu : Upd ov.ownBlock.toList w2 w3) (hg : ov.ownBlock = some g ∨ w2.heap.size < g) :
    RecsAt w3 (cv.ownBlock.toList ++ U) (us ++ [cv]) (L ++ [r]) ∧ g ∉ cv.ownBlock.toList ++ U ∧ ∀ x ∈ cv.ownBlock.toList ++ U, lo ≤ x ∧ x < w3.heap.size := by
  have hin : ∀ x ∈ cv.ownBlock.toList ++ U, lo ≤ x ∧ x < w2.heap.size := fun x hx => by
    rcases List.mem_append.1 hx with hx | hx
    · exact hcv x (by simpa using hx)
    · exact hU x hx
  have hap : ∀ x ∈ cv.ownBlock.toList ++ U, x ∉ ov.ownBlock.toList := fun x hx hm => by
    have h1 := hov x (by simpa using hm)
    rcases List.mem_append.1 hx with hx | hx
    · exact h1.2 (by simpa using hx)
    · exact h1.1 hx
  refine ⟨((hr.mono (fun k hk => List.mem_append_right _ hk)).snoc hcb (fun k hk => List.mem_append_left _ (by simp [hk]))).upd hu hap, fun hm => ?_, fun x hx => ⟨(hin x hx).1, Nat.lt_of_lt_of_le (hin x hx).2 hu.size⟩⟩
  rcases hg with hg | hg
  · exact hap g hm (by simp [hg])
  · have := (hin g hm).2; omega

theorem info_row : (Try.prog.info? 31).map (fun i => (i.zero, i.size, i.bytes)) = some (some (.slice none 0 0), 1, 24) := by kernel_rfl

set_option maxHeartbeats 1000000 in
theorem jrecords_any (j : Nat) (J : List Nat) (p : Nat) (k : JK) (w : World) (h : JAt w j J p k) :
    Calls Try.prog 15 #[.pointer (some ⟨j, 0, none⟩)] w fun e w' => ∃ v T, e = .returned v ∧ ListsAt w' T v k.recs ∧ (∀ g ∈ T, w.heap.size ≤ g ∧ g < w'.heap.size) ∧ Upd [] w w' := by
  have hJ := h.lt
  have HJ := Lib.hid h
  obtain ⟨rv, rvs, T, rfl, h1, h2, h3, h4, h5, h6, h7⟩ := h
  have c5 := h5.cell (o := 5) rfl
  obtain ⟨a, cap, rfl⟩ := own_slice h6
  have hlen : k.recs.length ≤ 4096 := by have := h4.recs; have := h4.used; have := h4.room; omega
  have H6 := Lib.hid h6
  have H7 := Lib.hid h7
  have HS := Lib.hid h4.small
  have hcl : ∀ i, i < k.recs.length → ∃ g, a = some ⟨g, 0, none⟩ ∧ w.cell? ⟨g, i, none⟩ = some (rvs.getD i undef) := by
    intro i hi
    rcases h6.2 with ⟨e, hn⟩ | ⟨g, cap', cur, e, hb, hg, hnc, hcm, hcs, htk⟩
    · omega
    · cases e
      refine ⟨g, rfl, Blk.cell hg ?_⟩
      rw [Nat.mul_one] at htk
      have hlt : i < rvs.length := by rw [h7.1]; exact hi
      have h1 : (cur.toList.take k.recs.length)[i]? = some (rvs.getD i undef) := by
        rw [htk, List.getD_eq_getElem?_getD, List.getElem?_eq_getElem hlt]; rfl
      rw [List.getElem?_take, if_pos hi] at h1
      simpa using h1
  have HCL := Lib.hid hcl
  obtain ⟨n, hn⟩ : ∃ n, n = k.recs.length := ⟨_, rfl⟩
  rw [← hn] at c5 hlen
  have HN := Lib.hid hn
  clear h1 h2 h3 h4 h5 h6 h7 hcl hn hJ
  go_enter Try.func15, Try.ntmps15
  go_wp2
  go_loopw [2, 12] (fun ov i wx => ∃ (m : Nat) (us : List Value) (U : List Nat), m ≤ n ∧ i = .int .i64 m ∧ wx.ownsRow w.heap.size 31 1 ov m us ∧ RecsAt wx U us (k.recs.take m) ∧ (∀ g, ov.ownBlock = some g → g ∉ U) ∧ (∀ g ∈ U, w.heap.size ≤ g ∧ g < wx.heap.size) ∧ Upd [] w wx) (fun _ i _ => n - (intOf i).toNat)
  case atStart => exact ⟨0, [], [], Nat.zero_le _, rfl, World.ownsRow_nil _ _ _ _, RecsAt.nil _ _, by simp, by simp, Upd.refl _ _⟩
  case round =>
    obtain ⟨m, us, U, hm, rfl, ho, hr, hd, hU, hu⟩ := hrel
    have HO := Lib.hid ho
    have HR := Lib.hid hr
    have HD := Lib.hid hd
    have HU := Lib.hid hU
    have HW := Lib.hid hu
    by_cases hlt : m < n
    · have hlt2 : m < k.recs.length := by rw [← HN.out]; exact hlt
      obtain ⟨g, rfl, hc⟩ := HCL.out m hlt2
      have hgw : g < w.heap.size := World.block_lt_of_cell? w _ hc
      have hc' := (World.cell?_of_block (a := ⟨g, m, none⟩) (hu.block g hgw (by simp))).trans hc
      have hb := ((H7.out.2 m hlt2).1).upd0 hu
      have hsm := HS.out (k.recs.getD m []) (by rw [List.getD_eq_getElem?_getD, List.getElem?_eq_getElem hlt2]; exact List.getElem_mem hlt2)
      obtain ⟨bv, hbv⟩ : ∃ bv, bv = rvs.getD m undef := ⟨_, rfl⟩
      rw [← hbv] at hc' hb
      obtain ⟨rc, hrc⟩ : ∃ rc, rc = k.recs.getD m [] := ⟨_, rfl⟩
      rw [← hrc] at hb hsm
      have HRC := Lib.hid hrc
      clear hrc
      have HB := Lib.hid hb
      have hx0 : (0 : Int) ≤ (m : Int) := by omega
      have hx1 : (m : Int) < (n : Int) := by omega
      obtain ⟨oa, oc, rfl⟩ := own_slice ho
      clear ho hr hd hU hu hc hb hbv
      go_upto_region 6 with fail
      go_wp2_with (first
        | (go_at_call 40; refine (clone8_any bv rc _ HB.out (by omega)).mono ?_; rintro e w2 ⟨cv, rfl, hcb, hcn, hu2⟩
           obtain ⟨ca, cc, rfl⟩ := hcb.form
           have HCB := Lib.hid hcb
           have HCN := Lib.hid hcn
           have HU2 := Lib.hid hu2
           have hz := HW.out.size
           have hz2 := hu2.size
           clear hcb hcn hu2)
        | ((with_reducible show wpList _ _ _ (⟨some 19, _, _, _, _, _⟩ :: _) _ _)
           go_loud (refine wpList_push 19 20 37 31 (.tmp 16) (.tmp 18) (.slice none 0 0) 1 24 Try.underlying37 info_row rfl (by omega) (by omega) w.heap.size (.slice oa m oc) m us _ rfl rfl rfl rfl rfl rfl (by simp) (by simp) rfl rfl (own_upd HO.out HU2.out (by simp)) rfl (one_slice _ _ _) (by unfold maxLen; omega) (by omega) (by omega) ?_)
           intro g' cap' w3 ho3 hu3 hat3 hlt3 hb3
           have HU3 := Lib.hid hu3
           have HAT3 := Lib.hid hat3
           have HO3 := Lib.hid ho3
           clear hu3 hat3 ho3 hlt3 hb3))
      have hst := rec_step (lo := w.heap.size) (HR.out.upd HU2.out (by simp)) HCB.out (fun x hx => ⟨Nat.le_trans hz (HCN.out x hx).1, (HCN.out x hx).2⟩) (fun x hx => ⟨HD.out x hx, fun e => by have h1 := (HCN.out x e).1; have h2 := (HO.out.lt x hx).2; omega⟩) (fun x hx => ⟨(HU.out x hx).1, by have := (HU.out x hx).2; omega⟩) HU3.out HAT3.out
      have hu4 : Upd [] w w3 := (HW.out.trans HU2.out).then HU3.out (fun x hx => .inr (HO.out.lt x (by simpa using hx)).1)
      have htk : k.recs.take m ++ [rc] = k.recs.take (m + 1) := by rw [HRC.out, List.take_succ_eq_append_getElem hlt2, List.getD_eq_getElem?_getD, List.getElem?_eq_getElem hlt2]; rfl
      rw [htk] at hst
      have HST := Lib.hid hst
      have HU4 := Lib.hid hu4
      clear hst hu4 htk
      go_roundw
      case rel => exact ⟨m + 1, _, _, by omega, by go_num, HO3.out, HST.out.1, fun x hx => by simp [Value.ownBlock] at hx; subst hx; exact HST.out.2.1, HST.out.2.2, HU4.out⟩
      case measure => simp [intOf]; omega
    · obtain rfl : m = n := by omega
      clear ho hr hd hU hu hlt
      go_wp2
      go_ret
      refine ⟨_, _, rfl, ListsAt.of_own HO.out HN.out (by rw [List.take_of_length_le (by rw [HN.out]; exact Nat.le_refl _)] at HR; exact HR.out), fun x hx => ?_, HW.out⟩
      rcases List.mem_append.1 hx with hx | hx
      · exact HO.out.lt x (by simpa using hx)
      · exact HU.out x hx

end Go.Proofs.Ytfjmkdjbeoafjaa
