/- The walk of LatticeOwn. -/
import Derived.Test.YtbdmnmjdnfpfbaaLatZC
import Derived.Test.YtbdmnmjdnfpfbaaLatS
import Derived.Test.YtbdmnmjdnfpfbaaLatT
namespace Go.Proofs.Ytbdmnmjdnfpfbaa
open Go.ChangeShapes Go.WideShapes Go.ChangeAt Go.RowKit

set_option maxRecDepth 100000 in
set_option maxHeartbeats 4000000 in
theorem LatticeOwn.walk (nodes : Int) (v1 : Value) (L1 : List FK) (v2 : Value) (L2 : List FK) (w : World) (_ : (Lit.int .i64 nodes).wf = true) (h1 : FI w v1 L1) (h2 : FI w v2 L2) :
    Calls Try.prog 9 #[.int .i64 nodes, v1, v2] w fun e w' => e = .returned (.bool true) ∧ Below w.heap.size w w' := by
  obtain ⟨A, hA⟩ : ∃ X, X = grownL nodes L1 30 := ⟨_, rfl⟩
  obtain ⟨B, hB⟩ : ∃ X, X = grownL nodes L2 30 := ⟨_, rfl⟩
  have ga : Good nodes A := by rw [hA]; exact Good.grown _ _ _
  have la : A.length ≤ 30 := by rw [hA]; exact grownL_len _ _ _
  have lb : B.length ≤ 30 := by rw [hB]; exact grownL_len _ _ _
  obtain ⟨M, hM⟩ : ∃ X, X = mergeL nodes A B := ⟨_, rfl⟩
  have gm : Good nodes M := by rw [hM]; exact Good.merge _ ga
  have lm : M.length ≤ A.length + B.length := by rw [hM]; exact mergeL_len2 _ _ _
  have HEA := Lib.hid hA
  have HEB := Lib.hid hB
  have HEM := Lib.hid hM
  have HCA := Lib.hid (ok_less_1000 ga)
  have HCM := Lib.hid (ok_less_1000 gm)
  have HLA : Hid (A.length ≤ 1000) := Lib.hid (by omega)
  have H1 := Lib.hid h1
  have H2 := Lib.hid h2
  obtain ⟨a1, c1, rfl⟩ := h1.form
  obtain ⟨a2, c2, rfl⟩ := h2.form
  obtain ⟨an, han⟩ : ∃ n, n = A.length := ⟨_, rfl⟩
  obtain ⟨mn, hmn⟩ : ∃ n, n = M.length := ⟨_, rfl⟩
  have lm2 : mn ≤ 60 := by omega
  have la2 : an ≤ 30 := by omega
  have HAN := Lib.hid han
  have HMN := Lib.hid hmn
  clear hA hB ga la lb hM gm lm h1 h2 han hmn
  go_enter Try.func9, Try.ntmps9
  go_upto_region 4 with (go_at_call 12; refine (awake_any _).mono ?_; rintro e w2 ⟨rfl, hu2⟩
                         have HU2 := Lib.hid hu2
                         clear hu2)
  go_upto_region 5 with (go_at_call 13; refine (grown_fi nodes 30 (H1.out.upd0 HU2.out)).mono ?_; rw [← HEA.out]; rintro e w3 ⟨av, rfl, ha, hu3⟩
                         have HA3 := Lib.hid ha
                         obtain ⟨aa, ac, rfl⟩ := ha.form
                         have HU3 := Lib.hid (HU2.out.trans hu3)
                         clear ha hu3)
  go_upto_region 6 with (go_at_call 13; refine (grown_fi nodes 30 (H2.out.upd0 HU3.out)).mono ?_; rw [← HEB.out]; rintro e w4 ⟨bv, rfl, hb, hu4⟩
                         have HB4 := Lib.hid hb
                         obtain ⟨ba, bc, rfl⟩ := hb.form
                         have HA4 := Lib.hid (HA3.out.upd0 hu4)
                         have HU4 := Lib.hid (HU3.out.trans hu4)
                         clear hb hu4)
  clear H1 H2 HU2 HA3 HU3
  rw [← HAN.out] at HA4 ⊢
  obtain ⟨TA, htA, hltA⟩ := HA4.out
  obtain ⟨TB, htB, hltB⟩ := HB4.out
  have HTA := Lib.hid htA
  have HTB := Lib.hid htB
  have HLTA := Lib.hid hltA
  have HLTB := Lib.hid hltB
  clear htA htB hltA hltB HA4 HB4
  go_upto_region 7 with (at_builtin; go_loud (refine wpList_copyF rfl (.tmp 23) (.tmp 24) rfl w4.heap.size (.slice (some ⟨w4.heap.size, 0, none⟩) 0 0) rfl (World.ownsRow_made w4 #[] 0 (Nat.le_refl _) (by unfold maxLen; omega) rfl) (by simp) rfl HAN.out (by omega) (HTA.out.upd0 ((Upd.refl _ _).alloc _)) HLTA.out fun wv w5 cvs hol hu5 => ?_)
                         have hu : Upd [] w4 w5 := ((Upd.refl _ _).alloc _).then hu5 (fun k hk => .inr (by simp [Value.ownBlock] at hk; omega))
                         have HOL5 := Lib.hid hol
                         have HU45 := Lib.hid hu
                         clear hu hu5 hol)
  obtain ⟨T5, hT5⟩ : ∃ T, T = wv.ownBlock.toList ++ TA ++ TB := ⟨_, rfl⟩
  have hW5 : FsAt w5 T5 wv A := HOL5.out.at.mono fun k hk => by rw [hT5]; exact List.mem_append_left _ hk
  have hA5 : FsAt w5 T5 (.slice aa an ac) A := (HTA.out.upd0 HU45.out).mono fun k hk => by rw [hT5]; exact List.mem_append_left _ (List.mem_append_right _ hk)
  have hB5 : FsAt w5 T5 (.slice ba B.length bc) B := (HTB.out.upd0 HU45.out).mono fun k hk => by rw [hT5]; exact List.mem_append_right _ hk
  have hL5 : ∀ y ∈ T5, y < w5.heap.size := fun y hy => by
    have hsz := HU45.out.size
    rw [hT5] at hy
    rcases List.mem_append.1 hy with h1 | h1
    · rcases List.mem_append.1 h1 with h2 | h2
      · exact (HOL5.out.own.lt y (by simpa using h2)).2
      · have := HLTA.out y h2; omega
    · have := HLTB.out y h1; omega
  obtain ⟨wa, wc, rfl⟩ := own_slice HOL5.out.own
  rw [← HAN.out] at hW5 ⊢
  have HW5 := Lib.hid hW5
  have HA5 := Lib.hid hA5
  have HB5 := Lib.hid hB5
  have HL5 := Lib.hid hL5
  have HU5 := Lib.hid (HU4.out.trans HU45.out)
  clear hT5 hW5 hA5 hB5 hL5 HTA HTB HLTA HLTB HOL5 HU45 HU4
  go_upto_region 8 with (go_at_call 16; refine (merge_any nodes _ _ T5 A B w5 HA5.out HB5.out HLA.out HL5.out).mono ?_; rw [← HEM.out]; rintro e w6 ⟨mv, rfl, cvs6, T6, ho6, -, hu6⟩
                         have HO6 := Lib.hid ho6.own
                         obtain ⟨ma, mc, rfl⟩ := own_slice ho6.own
                         have HA6 := Lib.hid (HA5.out.upd0 hu6)
                         have HB6 := Lib.hid (HB5.out.upd0 hu6)
                         have HW6 := Lib.hid (HW5.out.upd0 hu6)
                         have HU6 := Lib.hid (HU5.out.trans hu6)
                         have HS56 := Lib.hid hu6.size
                         clear ho6 hu6)
  rw [← HMN.out] at HO6 ⊢
  go_upto_region 9 with (go_at_call 16; refine (merge_any nodes _ _ T5 A B w6 HA6.out HB6.out HLA.out (fun y hy => Nat.lt_of_lt_of_le (HL5.out y hy) HS56.out)).mono ?_; rw [← HEM.out]; rintro e w7 ⟨zv, rfl, hg⟩
                         obtain ⟨T7, hz7, hT7, hu7⟩ := hg.at
                         have HZ7 := Lib.hid hz7
                         have HT7 := Lib.hid hT7
                         have HA7 := Lib.hid (HA6.out.upd0 hu7)
                         have HB7 := Lib.hid (HB6.out.upd0 hu7)
                         have HW7 := Lib.hid (HW6.out.upd0 hu7)
                         have HU7 := Lib.hid (HU6.out.trans hu7)
                         have HO7 := Lib.hid (own_upd HO6.out hu7 (by simp))
                         have HS67 := Lib.hid hu7.size
                         obtain ⟨za, zc, e7⟩ : ∃ a c, zv = .slice a M.length c := by obtain ⟨a, c, _, e, -⟩ := hz7; exact ⟨a, c, e⟩
                         subst e7
                         have HLTO := Lib.hid (fun g (hg : ma = some ⟨g, 0, none⟩) => (HO6.out.lt g (by rw [hg]; rfl)).2)
                         clear hg hz7 hT7 hu7)
  rw [← HMN.out] at HZ7 ⊢
  have HW05 : Hid (w.heap.size ≤ w5.heap.size) := Lib.hid HU5.out.size
  clear HA5 HB5 HW5 HU5 HA6 HB6 HW6 HU6 HO6
  go_upto_region 10 with fail
  go_loopw [13] (fun i wx => ∃ (m : Nat), m ≤ mn ∧ i = .int .i64 m ∧ Upd (Value.slice ma mn mc).ownBlock.toList w7 wx ∧ ∀ g, ma = some ⟨g, 0, none⟩ → ∃ cur, Blk wx g cur 31 ∧ cur.size = mc * 38) (fun i _ => mn - (intOf i).toNat)
  case atStart => exact ⟨0, Nat.zero_le _, rfl, Upd.refl _ _, fun g hg => ((own_blk HO7.out).2 g hg).2.2⟩
  case round =>
    obtain ⟨m, hm, rfl, hu, hblk⟩ := hrel
    have HU := Lib.hid hu
    by_cases hlt : m < mn
    · obtain ⟨g, hge⟩ := (own_blk HO7.out).1 (Nat.lt_of_le_of_lt (Nat.zero_le m) hlt)
      obtain ⟨-, hnc, -⟩ := (own_blk HO7.out).2 g hge
      subst hge
      obtain ⟨cur, hb, hcs⟩ := hblk g rfl
      have HB := Lib.hid hb
      have hroom : m * 38 + 38 ≤ cur.size := by rw [hcs]; omega
      have HCS := Lib.hid hcs
      have hx0 : (0 : Int) ≤ (m : Int) := by omega
      have hx1 : (m : Int) < (mn : Int) := by omega
      clear hu hblk hb hcs
      go_wp2_with (first
        | ((with_reducible show wpList _ _ _ (⟨some 42, _, _, _, _, _⟩ :: _) _ _); refine wpList_run rfl (exec_bare1 rfl rfl) ?_)
        | (refine wpList_storeK (off := m * 38) rfl 31 (.tmp 43) (.tmp 42) rfl (by go_simp) rfl HB.out info_fact (encF_size (bare_wf _ _ _) _) hroom (encF_one' (ChunksAt.nil w [])) fun w8 hb8 hu8 => ?_
           have HB8 := Lib.hid hb8
           have HU8 := Lib.hid hu8
           clear hb8 hu8))
      go_roundw
      case rel =>
        refine ⟨m + 1, by omega, by go_num, HU.out.trans HU8.out, fun g' hg' => ?_⟩
        cases hg'
        obtain ⟨c', h1, h2⟩ := HB8.out
        exact ⟨c', h1, by rw [h2]; exact HCS.out⟩
      case measure => simp [intOf]; omega
    · obtain rfl : mn = m := by omega
      clear hlt hm hblk hu
      have hfar : ∀ g, ma = some ⟨g, 0, none⟩ → w5.heap.size ≤ g := fun g hg => (((own_blk HO7.out).2 g hg).1)
      have hno5 : ∀ k ∈ T5, k ∉ (Value.slice ma mn mc).ownBlock.toList := fun k hk hm => by
        have h1 := HL5.out k hk
        rcases HO7.out.2 with ⟨e, -⟩ | ⟨g, cap', cur', e, h2, -⟩
        · cases e; simp [Value.ownBlock] at hm
        · cases e; simp [Value.ownBlock] at hm; omega
      have hno7 : ∀ k ∈ T7, k ∉ (Value.slice ma mn mc).ownBlock.toList := fun k hk hm => by
        rcases (HT7.out k hk).1 with h1 | h1
        · exact hno5 k h1 hm
        · rcases HO7.out.2 with ⟨e, -⟩ | ⟨g, cap', cur', e, h2, -⟩
          · cases e; simp [Value.ownBlock] at hm
          · cases e
            have := HLTO.out g rfl
            simp [Value.ownBlock] at hm; omega
      have hsz := HU.out.size
      have h57 := HS56.out
      have h67 := HS67.out
      have HLX : Hid (∀ y ∈ T5, y < wr.heap.size) := Lib.hid (fun y hy => by have := HL5.out y hy; omega)
      have HFA := Lib.hid (show FI wr _ A from ⟨T5, HA7.out.upd HU.out hno5, HLX.out⟩)
      have HFB := Lib.hid (show FI wr _ B from ⟨T5, HB7.out.upd HU.out hno5, HLX.out⟩)
      have HFW := Lib.hid (show FI wr _ A from ⟨T5, HW7.out.upd HU.out hno5, HLX.out⟩)
      have HFZ := Lib.hid (show FI wr _ M from ⟨T7, HZ7.out.upd HU.out hno7, fun y hy => Nat.lt_of_lt_of_le (HT7.out y hy).2 hsz⟩)
      have HBEL : Hid (Upd [] w wr) := Lib.hid (by
        refine HU7.out.then HU.out fun k hk => .inr ?_
        rcases HO7.out.2 with ⟨e, -⟩ | ⟨g, cap', cur', e, h2, -⟩
        · cases e; simp [Value.ownBlock] at hk
        · cases e
          simp [Value.ownBlock] at hk
          have := HW05.out
          omega)
      clear hfar hno5 hno7 hsz h57 h67
      go_wp2_with (first
        | (go_at_call 15; refine (same11_yes HN1.out HFZ.out HCM.out).mono ?_; rintro e w6 ⟨rfl, hu6⟩
           have HUE := Lib.hid (HUE.out.trans hu6)
           clear hu6)
        | (go_at_call 16; refine (merge_fi nodes (FI.elimT HDONE.out HFA.out) HFB.out HLA.out).mono ?_; rw [← HEM.out]; rintro e w7 ⟨nv, rfl, hn, hu7⟩
           have HN1 := Lib.hid hn
           have HFZ := Lib.hid (HFZ.out.upd0 hu7)
           have HUE := Lib.hid (HUE.out.trans hu7)
           clear hn hu7)
        | (go_at_call 15; refine (same11_yes HFA.out HFW.out HCA.out).mono ?_; rintro e w6 ⟨rfl, hu6⟩
           have HFA := Lib.hid (HFA.out.upd0 hu6)
           have HFB := Lib.hid (HFB.out.upd0 hu6)
           have HFZ := Lib.hid (HFZ.out.upd0 hu6)
           have HUE := Lib.hid hu6
           have HDONE : Hid True := Lib.hid trivial
           clear hu6))
      go_ret
      exact ⟨rfl, (HBEL.out.trans HUE.out).toBelow⟩

end Go.Proofs.Ytbdmnmjdnfpfbaa
