/- The walk of first: a block that begins so. -/
import Derived.Test.YtfjmkdjbeoafjaaPlayA
namespace Go.Proofs.Ytfjmkdjbeoafjaa
open Go.ChangeShapes Go.WideShapes Go.ChangeAt Go.RowKit

/-- A block that begins as these bytes. -/
def firstB (b : List Int) : Blok := (List.range 64).map fun i => b.getD i 0

theorem firstB_len (b : List Int) : (firstB b).length = 64 := by simp [firstB]
theorem firstB_get (b : List Int) (i : Nat) (hi : i < 64) : (firstB b).getD i 0 = b.getD i 0 := by
  unfold firstB
  rw [List.getD_eq_getElem?_getD, List.getElem?_map, List.getElem?_range hi]; rfl
theorem firstB_u8 {b : List Int} (h : U8L b) : U8L (firstB b) := by
  intro x hx
  obtain ⟨i, -, rfl⟩ := List.mem_map.1 hx
  exact h.getD i

def FB (b : List Int) (k : Nat) (c : Blok) : Prop := c.length = 64 ∧ ∀ i, i < 64 → c.getD i 0 = if i < k then b.getD i 0 else 0

theorem FB.begin (b : List Int) : FB b 0 DK.zeros := ⟨DK.zeros_len, fun i _ => by rw [if_neg (by omega), zeros_get]⟩
theorem FB.step {b : List Int} {k : Nat} {c : Blok} (h : FB b k c) (hk : k < 64) : FB b (k + 1) (c.set k (b.getD k 0)) := by
  refine ⟨by rw [List.length_set]; exact h.1, fun i hi => ?_⟩
  rw [getD_set _ _ _ _ (by rw [h.1]; omega), h.2 i hi]
  by_cases e : i = k
  · subst e; rw [if_pos rfl, if_pos (by omega)]
  · rw [if_neg e]
    by_cases e2 : i < k
    · rw [if_pos e2, if_pos (by omega)]
    · rw [if_neg e2, if_neg (by omega)]
theorem FB.done {b : List Int} {k : Nat} {c : Blok} (h : FB b k c) (hk : b.length ≤ k ∨ 64 ≤ k) : c = firstB b := by
  refine blok_ext (by rw [h.1, firstB_len]) fun i hi => ?_
  rw [h.1] at hi
  rw [h.2 i hi, firstB_get b i hi]
  by_cases e : i < k
  · rw [if_pos e]
  · rw [if_neg e, List.getD_eq_getElem?_getD, List.getElem?_eq_none (by omega)]; rfl

set_option maxHeartbeats 4000000 in
theorem first_any (v : Value) (b : List Int) (w : World) (hv : BytesAt w v b) :
    Calls Try.prog 27 #[v] w fun e w' => e = .returned (.agg (U8 (firstB b))) ∧ Upd [] w w' := by
  obtain ⟨a, cap, rfl, hnc, hcm, hcell⟩ := hv
  obtain ⟨n, hn⟩ : ∃ n, n = b.length := ⟨_, rfl⟩
  rw [← hn] at hnc hcell ⊢
  have HN := Lib.hid hn
  have HC := Lib.hid hcell
  clear hn hcell
  unfold maxLen at hcm
  go_enter Try.func27, Try.ntmps27
  go_upto_region 2 with (first
    | ((with_reducible show wpList _ _ _ (⟨some 2, _, _, _, _, _⟩ :: _) _ _); refine wpList_alloc rfl 54 rfl zero_arr fun w1 hb1 hu1 hs1 => ?_)
    | ((with_reducible show wpList _ _ _ (⟨some 5, _, _, _, _, _⟩ :: _) _ _); refine wpList_run rfl (arr_zero rfl) ?_)
    | ((with_reducible show wpList _ _ _ (⟨some 3, _, _, _, _, _⟩ :: _) _ _); refine wpList_alloc rfl 54 rfl zero_arr fun w2 hb2 hu2 hs2 => ?_)
    | (refine wpList_store rfl (.tmp 3) (.tmp 5) rfl rfl rfl hb2 DK.zeros_len DK.zeros_len fun w3 hb3 hu3 hs3 => ?_))
  obtain ⟨B0, hB0⟩ : ∃ x, x = w.heap.size := ⟨_, rfl⟩
  obtain ⟨B, hB⟩ : ∃ x, x = w1.heap.size := ⟨_, rfl⟩
  have hne : B0 < B := by omega
  have hBz : w.heap.size ≤ B := by omega
  have hB0z : w.heap.size ≤ B0 := by omega
  have hu03 : Upd [] w w3 := (hu1.trans hu2).then hu3 (by simp; omega)
  have hb0 : Blk w3 B0 (U8 DK.zeros) 54 := by rw [hB0]; exact (hb1.upd hu2 (by simp)).upd hu3 (by simp; omega)
  rw [← hB0, ← hB]
  rw [← hB] at hb3
  clear hb1 hu1 hs1 hb2 hu2 hs2 hu3 hs3 hB0 hB
  have HB0 := Lib.hid hb0
  have HB3 := Lib.hid hb3
  have HU3 := Lib.hid hu03
  clear hb0 hb3 hu03
  have hw3 : w.heap.size ≤ w3.heap.size := HU3.out.size
  go_wp2_with fail
  go_loopw [4] (fun i wx => ∃ k : Nat, ∃ c : Blok, k ≤ n ∧ k ≤ 64 ∧ i = .int .i64 k ∧ FB b k c ∧ Blk wx B (U8 c) 54 ∧ Upd [B] w3 wx) (fun i _ => 64 - (intOf i).toNat)
  case atStart => exact ⟨0, _, by omega, by omega, rfl, FB.begin b, HB3.out, Upd.refl _ _⟩
  case round =>
    obtain ⟨k, c, hkn, hk64, rfl, hfb, hb, hu⟩ := hrel
    clear HB3
    by_cases hlt : k < n ∧ k < 64
    · have hx1 : (k : Int) < (n : Int) := by omega
      have hx2 : (k : Int) < 64 := by omega
      have hx0 : (0 : Int) ≤ (k : Int) := by omega
      obtain ⟨g, off, rfl, hg, hcl⟩ := HC.out (by intro e; have := HN.out; rw [e] at this; simp at this; omega)
      have ck := hb.cell (U8_get c k (by rw [hfb.1]; omega))
      have fk := hb.free k
      have cb := (World.cell?_of_block (a := ⟨g, off + k, none⟩) ((HU3.out.then hu (T := [B]) (S := []) (by simp; omega)).block g hg (by simp))).trans (hcl k hlt.1)
      have HST := Lib.hid (hfb.step hlt.2)
      have hb5 := hb.set k (.int .u8 (b.getD k 0))
      rw [U8_set] at hb5
      have HB5 := Lib.hid hb5
      have HU5 := Lib.hid (hu.setCell (p := ⟨B, k, none⟩) (.inl (by simp)) (.int .u8 (b.getD k 0)))
      clear hb hu hfb hb5 hcl
      obtain ⟨hl1, hl2⟩ := hlt
      go_wp2
      go_roundw
      case rel => exact ⟨k + 1, _, by omega, by omega, by go_num, HST.out, HB5.out, HU5.out⟩
      case measure => simp [intOf]; omega
    · have key : decide (k < n) = false ∨ (decide (k < n) = true ∧ k = 64) := by
        simp only [decide_eq_true_eq, decide_eq_false_iff_not]; omega
      have HX := Lib.hid (hfb.done (by have := HN.out; omega))
      have hcl := hfb.1
      have HB := Lib.hid hb
      have HU := Lib.hid hu
      have HB00 := Lib.hid (HB0.out.upd hu (by simp; omega))
      clear hb hu hfb hlt
      rcases key with q1 | ⟨q1, rfl⟩
      · go_wp2_with (first
          | ((with_reducible show wpList _ _ _ (⟨some 22, _, _, _, _, _⟩ :: _) _ _); refine wpList_loadW (.tmp 3) rfl rfl rfl HB.out hcl ?_)
          | (refine wpList_store rfl (.tmp 2) (.tmp 22) rfl rfl rfl HB00.out DK.zeros_len hcl fun w6 hb6 hu6 hs6 => ?_))
        exact bodyPost_ret (results_arr rfl rfl hb6 hcl) rfl ⟨by rw [HX.out], (HU3.out.then HU.out (by simp; omega)).then hu6 (by simp; omega)⟩
      · rw [show (((64 : Nat)) : Int) = 64 from rfl]
        have q1' : decide ((64 : Int) < (n : Int)) = true := by simp only [decide_eq_true_eq] at q1 ⊢; omega
        go_wp2_with (first
          | ((with_reducible show wpList _ _ _ (⟨some 22, _, _, _, _, _⟩ :: _) _ _); refine wpList_loadW (.tmp 3) rfl rfl rfl HB.out hcl ?_)
          | (refine wpList_store rfl (.tmp 2) (.tmp 22) rfl rfl rfl HB00.out DK.zeros_len hcl fun w6 hb6 hu6 hs6 => ?_))
        exact bodyPost_ret (results_arr rfl rfl hb6 hcl) rfl ⟨by rw [HX.out], (HU3.out.then HU.out (by simp; omega)).then hu6 (by simp; omega)⟩

end Go.Proofs.Ytfjmkdjbeoafjaa
