/- The walk of awake of the lattice's statements. -/
import Derived.Test.YtbdmnmjdnfpfbaaLatR
namespace Go.Proofs.Ytbdmnmjdnfpfbaa
open Go.ChangeShapes Go.WideShapes Go.ChangeAt Go.RowKit

namespace Awake11
def F1 : FK := ⟨2, 16, 1, 0, 0, [], zeros32⟩
def F3 : FK := ⟨3, 32, 0, 0, 0, [], zeros32⟩
def A1 : List FK := addL 3 [] F1
def B1 : List FK := addL 3 A1 F1
def M : List FK := mergeL 3 A1 [F3]
theorem c1 : addCode 3 [] F1 = 0 := by decide +kernel
theorem c2 : addCode 3 A1 F1 = 0 := by decide +kernel
theorem c3 : addCode 3 B1 FK.zero = 100 := by decide +kernel
theorem la : A1.length = 1 := by decide +kernel
theorem lb : B1.length = 1 := by decide +kernel
theorem lm : M.length = 2 := by decide +kernel
theorem who : whoL B1 2 16 = [1] := by decide +kernel
theorem has1 : hasL B1 2 16 1 = true := by decide +kernel
theorem has0 : hasL B1 2 16 0 = false := by decide +kernel
theorem best : bestL B1 2 = 0 := by decide +kernel
theorem next : nextL M = 3 := by decide +kernel
theorem next0 : nextL [] = 1 := by decide +kernel
theorem ab1 : abortedL M 32 1 = true := by decide +kernel
theorem ab2 : abortedL M 32 2 = false := by decide +kernel
theorem w1 : F1.WF := ⟨zeros32_len, FK.zero_wf.bytes, fun c hc => by simp [F1] at hc⟩
theorem w3 : F3.WF := ⟨zeros32_len, FK.zero_wf.bytes, fun c hc => by simp [F3] at hc⟩
end Awake11

/-- A list of one fact, in a block of its own. -/
theorem one_fi {w : World} {f : FK} {cv : Value} (hf : f.WF) (hc : CI w cv f.chunks) : FI (w.alloc (.cells (encF f cv).toArray 31)) (.slice (some ⟨w.heap.size, 0, none⟩) 1 1) [f] := by
  obtain ⟨hb, hu⟩ := boxed w (encF f cv).toArray 31
  obtain ⟨T, hc, ht⟩ := hc
  refine ⟨w.heap.size :: T, ⟨_, 1, [cv], rfl, Nat.le_refl _, by unfold maxLen; omega, fun g hg => by rw [List.mem_singleton.1 hg]; exact hf, ((ChunksL.one hc).upd0 hu).mono (fun k hk => List.mem_cons_of_mem _ hk), fun _ => ⟨w.heap.size, 0, rfl, hb.lt, List.mem_cons_self, ?_⟩⟩, fun y hy => ?_⟩
  · rw [encL_one]; exact CellsAt.of_blk hb
  · rcases List.mem_cons.1 hy with rfl | hy
    · exact hb.lt
    · exact Nat.lt_of_lt_of_le (ht y hy) hu.size

set_option maxRecDepth 100000 in
set_option maxHeartbeats 4000000 in
theorem awake_any (w : World) : Calls Try.prog 12 #[] w fun e w' => e = .returned (.bool true) ∧ Upd [] w w' := by
  go_enter Try.func12, Try.ntmps12
  go_upto_region 2 with (first
    | (refine wpList_alloc rfl 31 rfl zero_fact fun w1 hb1 hu1 hs1 => ?_)
    | (refine wpList_storeA rfl 31 (.tmp 1) (.tmp 10) rfl rfl (news := (encF Awake11.F1 (.slice none 0 0)).toArray) rfl hb1 info_fact (encF_size Awake11.w1 _) (encF_size FK.zero_wf _) (encF_one' (ChunksAt.nil w [])) fun w2 hb2 hu2 hs2 => ?_))
  obtain ⟨tb, htb⟩ : ∃ x, x = w.heap.size := ⟨_, rfl⟩
  rw [← htb] at hb2 ⊢
  have HB2 := Lib.hid hb2
  have HU2 := Lib.hid (hu1.then hu2 (by simp))
  have HL2 := Lib.hid (CellsAt.of_blk hb2)
  clear hb1 hu1 hs1 hb2 hu2 hs2 htb
  go_upto_region 3 with (first
    | ((with_reducible show wpList _ _ _ (⟨some 12, _, _, _, _, _⟩ :: _) _ _); refine wpList_run rfl (fact_load (.tmp 1) rfl rfl HL2.out Awake11.w1) ?_)
    | (go_at_call 19; refine (add_fi 3 (FI.nil _) Awake11.w1 (CI.nil _) (by simp)).mono ?_; rw [Awake11.c1]; rintro e w3 ⟨va, rfl, ha, hu3⟩
       have HA3 : Hid (FI w3 va Awake11.A1) := Lib.hid ha
       have HB3 := Lib.hid (HB2.out.upd hu3 (by simp))
       have HL3 := Lib.hid (CellsAt.of_blk HB3.out)
       have HU3 := Lib.hid (HU2.out.trans hu3)
       obtain ⟨aa, ac, ea⟩ := HA3.out.form; rw [Awake11.la] at ea; subst ea
       clear ha hu3))
  go_upto_region 4 with (first
    | ((with_reducible show wpList _ _ _ (⟨some 18, _, _, _, _, _⟩ :: _) _ _); refine wpList_run rfl (fact_load (.tmp 1) rfl rfl HL3.out Awake11.w1) ?_)
    | (go_at_call 19; refine (add_fi 3 HA3.out Awake11.w1 (CI.nil _) (by rw [Awake11.la]; omega)).mono ?_; rw [Awake11.c2]; rintro e w4 ⟨vb, rfl, hb, hu4⟩
       have HB4 : Hid (FI w4 vb Awake11.B1) := Lib.hid hb
       have HA4 := Lib.hid (HA3.out.upd0 hu4)
       have HU4 := Lib.hid (HU3.out.trans hu4)
       obtain ⟨ba, bc, eb⟩ := HB4.out.form; rw [Awake11.lb] at eb; subst eb
       clear hb hu4))
  clear HA3 HB3 HL3 HU3 HB2 HL2 HU2
  go_upto_region 5 with (go_at_call 23; refine (who_fi 2 16 HB4.out (by rw [Awake11.lb]; omega)).mono ?_; rw [Awake11.who]; rintro e w5 ⟨vw, rfl, hw, hu5⟩
                         have HW5 := Lib.hid hw
                         have HB5 := Lib.hid (HB4.out.upd0 hu5)
                         have HA5 := Lib.hid (HA4.out.upd0 hu5)
                         have HU5 := Lib.hid (HU4.out.trans hu5)
                         obtain ⟨wa, wc, rfl⟩ := own_slice hw
                         clear hw hu5)
  clear HB4 HA4 HU4
  go_upto_region 6 with (go_at_call 19; refine (add_fi (f := FK.zero) (cv := .slice none 0 0) 3 HB5.out FK.zero_wf (CI.nil _) (by rw [Awake11.lb]; omega)).mono ?_; rw [Awake11.c3]; rintro e w6 ⟨vc, rfl, hc, hu6⟩
                         have HW6 := Lib.hid (own_upd HW5.out hu6 (by simp))
                         have HB6 := Lib.hid (HB5.out.upd0 hu6)
                         have HA6 := Lib.hid (HA5.out.upd0 hu6)
                         have HU6 := Lib.hid (HU5.out.trans hu6)
                         clear hc hu6)
  clear HB5 HA5 HU5 HW5
  go_upto_region 7 with (first
    | ((with_reducible show wpList _ _ _ (⟨some 32, _, _, _, _, _⟩ :: _) _ _)
       refine wpList_plain rfl fun _ hK => wp_one (f := Awake11.F3) (cv := .slice none 0 0) (.tmp 31) rfl rfl Awake11.w3 (hK _ _ ?_))
    | (go_at_call 16; refine (merge_fi 3 (HA6.out.upd0 (boxed _ _ _).2) (one_fi (f := Awake11.F3) (cv := .slice none 0 0) Awake11.w3 (CI.nil _)) (by rw [Awake11.la]; omega)).mono ?_; rintro e w7 ⟨vm, rfl, hm, hu7⟩
       have hu67 := (boxed w6 (encF Awake11.F3 (.slice none 0 0)).toArray 31).2.trans hu7
       have HM7 : Hid (FI w7 vm Awake11.M) := Lib.hid hm
       have HW7 := Lib.hid (own_upd HW6.out hu67 (by simp))
       have HB7 := Lib.hid (HB6.out.upd0 hu67)
       have HA7 := Lib.hid (HA6.out.upd0 hu67)
       have HU7 := Lib.hid (HU6.out.trans hu67)
       obtain ⟨ma, mc, em⟩ := HM7.out.form; rw [Awake11.lm] at em; subst em
       clear hm hu7 hu67))
  clear HB6 HA6 HU6 HW6
  go_upto_region 9 with fail
  obtain ⟨wg, hwg⟩ : ∃ g, wa = some ⟨g, 0, none⟩ := by
    rcases HW7.out.2 with ⟨e, h0⟩ | ⟨g, cap, cur, e, -⟩
    · exact absurd h0 (by decide)
    · cases e; exact ⟨g, rfl⟩
  subst hwg
  have cw : w7.cell? ⟨wg, 0, none⟩ = some (.int .i64 1) := by
    have := HW7.out.cells (g := wg) rfl 0 (.int .i64 1) rfl
    simpa [Addr.add] using this
  go_wp2_with (first
    | (go_at_call 22; refine (has_fi 2 16 1 HB7.out (by rw [Awake11.lb]; omega)).mono ?_; rw [Awake11.has1]; rintro e w8 ⟨rfl, hu8⟩; have HB8 := Lib.hid (HB7.out.upd0 hu8); have HM8 := Lib.hid (HM7.out.upd0 hu8); have HU8 := Lib.hid (HU7.out.trans hu8); clear hu8 HB7 HM7 HU7 cw)
    | (go_at_call 22; refine (has_fi 2 16 0 HB8.out (by rw [Awake11.lb]; omega)).mono ?_; rw [Awake11.has0]; rintro e w9 ⟨rfl, hu9⟩; have HB9 := Lib.hid (HB8.out.upd0 hu9); have HM9 := Lib.hid (HM8.out.upd0 hu9); have HU9 := Lib.hid (HU8.out.trans hu9); clear hu9 HB8 HM8 HU8)
    | (go_at_call 32; refine (best_fi 2 HB9.out (by rw [Awake11.lb]; omega)).mono ?_; rw [Awake11.best]; rintro e w10 ⟨rfl, hu10⟩; have HM10 := Lib.hid (HM9.out.upd0 hu10); have HU10 := Lib.hid (HU9.out.trans hu10); clear hu10 HB9 HM9 HU9)
    | (go_at_call 34; refine (next_fi HM10.out).mono ?_; rw [Awake11.next]; rintro e w11 ⟨rfl, hu11⟩; have HM11 := Lib.hid (HM10.out.upd0 hu11); have HU11 := Lib.hid (HU10.out.trans hu11); clear hu11 HM10 HU10)
    | (go_at_call 34; refine (next_fi (FI.nil _)).mono ?_; rw [Awake11.next0]; rintro e w12 ⟨rfl, hu12⟩; have HM12 := Lib.hid (HM11.out.upd0 hu12); have HU12 := Lib.hid (HU11.out.trans hu12); clear hu12 HM11 HU11)
    | (go_at_call 24; refine (aborted_fi 32 1 HM12.out (by rw [Awake11.lm]; omega)).mono ?_; rw [Awake11.ab1]; rintro e w13 ⟨rfl, hu13⟩; have HM13 := Lib.hid (HM12.out.upd0 hu13); have HU13 := Lib.hid (HU12.out.trans hu13); clear hu13 HM12 HU12)
    | (go_at_call 24; refine (aborted_fi 32 2 HM13.out (by rw [Awake11.lm]; omega)).mono ?_; rw [Awake11.ab2]; rintro e w14 ⟨rfl, hu14⟩; have HU14 := Lib.hid (HU13.out.trans hu14); clear hu14 HM13 HU13))
  go_ret
  exact ⟨rfl, HU14.out⟩

end Go.Proofs.Ytbdmnmjdnfpfbaa
