/- The document's journal: the walk of block. -/
import Derived.Test.YtfjmkdjbeoafjaaRefN
namespace Go.Proofs.Ytfjmkdjbeoafjaa
open Go.ChangeShapes Go.WideShapes Go.ChangeAt Go.RowKit

/-- What is laid ahead of the lives. -/
def refFlag (rest : List Int) : Blok := if rest.length ≤ 44 then DK.zeros.set 10 1 else DK.zeros
def refHead (rest : List Int) : Blok := ((refFlag rest).set 8 0).set 9 (min rest.length 44 : Nat)

theorem refFlag_len (rest : List Int) : (refFlag rest).length = 64 := by
  unfold refFlag; split <;> simp [DK.zeros_len]

theorem refHead_len (rest : List Int) : (refHead rest).length = 64 := by unfold refHead; simp [refFlag_len]

theorem refHead_get (rest : List Int) (i : Nat) : (refHead rest).getD i 0 = if i = 9 then min (rest.length : Int) 44 else if i = 10 then (if rest.length ≤ 44 then 1 else 0) else 0 := by
  have hf : (refFlag rest).getD i 0 = if i = 10 then (if rest.length ≤ 44 then 1 else 0) else 0 := by
    unfold refFlag
    split
    · rw [getD_set _ _ _ _ (by rw [DK.zeros_len]; omega), zeros_get]
    · rw [zeros_get]; split <;> rfl
  unfold refHead
  rw [getD_set _ _ _ _ (by simp [refFlag_len]), getD_set _ _ _ _ (by simp [refFlag_len]), hf]
  by_cases e9 : i = 9
  · rw [if_pos e9, if_pos e9]; omega
  · rw [if_neg e9, if_neg e9]
    by_cases e8 : i = 8
    · subst e8; rfl
    · rw [if_neg e8]

/-- The block, as far as its bytes are laid. -/
def RB (l : Int) (rest : List Int) (k : Nat) (c : Blok) : Prop :=
  c.length = 64 ∧ ∀ i, i < 64 → c.getD i 0 = if 12 ≤ i ∧ i < 12 + k then rest.getD (i - 12) 0 else (layL l (refHead rest) 8).getD i 0

theorem RB.begin (l : Int) (rest : List Int) : RB l rest 0 (layL l (refHead rest) 8) :=
  ⟨by rw [layL_len, refHead_len], fun i _ => by rw [if_neg (by omega)]⟩

theorem RB.step {l : Int} {rest : List Int} {k : Nat} {c : Blok} (h : RB l rest k c) (hk : k < 44) : RB l rest (k + 1) (c.set (12 + k) (rest.getD k 0)) := by
  refine ⟨by rw [List.length_set]; exact h.1, fun i hi => ?_⟩
  rw [getD_set _ _ _ _ (by rw [h.1]; omega), h.2 i hi]
  by_cases e : i = 12 + k
  · subst e; rw [if_pos rfl, if_pos (by omega), show 12 + k - 12 = k by omega]
  · rw [if_neg e]
    by_cases e2 : 12 ≤ i ∧ i < 12 + k
    · rw [if_pos e2, if_pos (by omega)]
    · rw [if_neg e2, if_neg (by omega)]

theorem blok_ext {c d : List Int} (h1 : c.length = d.length) (h : ∀ i, i < c.length → c.getD i 0 = d.getD i 0) : c = d := by
  refine List.ext_getElem h1 fun i hi hj => ?_
  have := h i hi
  rwa [List.getD_eq_getElem?_getD, List.getD_eq_getElem?_getD, List.getElem?_eq_getElem hi, List.getElem?_eq_getElem hj] at this

theorem RB.done {l : Int} {rest : List Int} {c : Blok} (h : RB l rest (min rest.length 44) c) : c = blockJ l rest := by
  refine blok_ext (by rw [h.1, blockJ_len]) fun i hi => ?_
  rw [h.1] at hi
  rw [h.2 i hi, blockJ_get l rest i hi, layL_get l (refHead_len rest) 8 (by omega) i hi, refHead_get]
  by_cases h1 : i < 8
  · rw [if_neg (by omega), if_pos h1, if_pos h1]
  · by_cases h2 : 56 ≤ i
    · have h56 : 56 ≤ i ∧ i < 56 + 8 := by omega
      rw [if_neg (by omega), if_neg h1, if_pos h56, if_neg h1, if_pos h2]
    · have h56 : ¬ (56 ≤ i ∧ i < 56 + 8) := by omega
      rw [if_neg h1, if_neg h56, if_neg h1, if_neg h2]
      by_cases h3 : 12 ≤ i ∧ i < 12 + min rest.length 44
      · have h9 : ¬ i = 9 := by omega
        have h10 : ¬ i = 10 := by omega
        rw [if_pos h3, if_neg h9, if_neg h10, if_pos h3]
      · rw [if_neg h3, if_neg h3]

set_option maxHeartbeats 4000000 in
theorem rblock_any (v : Value) (b : List Int) (i : Nat) (life : Int) (w : World) (hv : BytesAt w v b) (hbl : b.length ≤ 2000) (hi : 44 * i < b.length) (h0 : 0 ≤ life) (h1 : life ≤ 1099511627777) :
    Calls Try.prog 46 #[v, .int .i64 i, .int .i64 life] w fun e w' => e = .returned (.agg (U8 (blockJ life (b.drop (44 * i))))) ∧ Upd [] w w' := by
  obtain ⟨a, cap, rfl, -, -, hc⟩ := hv
  obtain ⟨g, off, rfl, hg, hc⟩ := hc (by intro e; rw [e] at hi; simp at hi)
  obtain ⟨rest, hrest⟩ : ∃ r, r = b.drop (44 * i) := ⟨_, rfl⟩
  have hrg : ∀ k, rest.getD k 0 = b.getD (44 * i + k) 0 := fun k => by rw [hrest]; exact drop_get b _ k
  obtain ⟨rl, hrl⟩ : ∃ x, x = rest.length := ⟨_, rfl⟩
  obtain ⟨bl, hble⟩ : ∃ x, x = b.length := ⟨_, rfl⟩
  have hrb : rl + 44 * i = bl := by rw [hrl, hble, hrest, List.length_drop]; omega
  have hcell : ∀ k, k < rl → w.cell? ⟨g, off + (44 * i + k), none⟩ = some (.int .u8 (rest.getD k 0)) := fun k hk => by rw [hrg k]; exact hc _ (by omega)
  rw [← hrest, ← hble]
  obtain ⟨mn, hmn⟩ : ∃ x, x = min rl 44 := ⟨_, rfl⟩
  rw [← hble] at hbl hi
  have HC := Lib.hid hcell
  have HMN := Lib.hid hmn
  have HRL := Lib.hid hrl
  clear hcell hmn hc hrg hrest hble hrl
  have hi46 : i < 46 := by omega
  go_enter Try.func46, Try.ntmps46
  go_upto_region 2 with (first
    | ((with_reducible show wpList _ _ _ (⟨some 6, _, _, _, _, _⟩ :: _) _ _); refine wpList_alloc rfl 54 rfl zero_arr fun w1 hb1 hu1 hs1 => ?_)
    | ((with_reducible show wpList _ _ _ (⟨some 12, _, _, _, _, _⟩ :: _) _ _); refine wpList_run rfl (arr_zero rfl) ?_)
    | ((with_reducible show wpList _ _ _ (⟨some 7, _, _, _, _, _⟩ :: _) _ _); refine wpList_alloc rfl 54 rfl zero_arr fun w2 hb2 hu2 hs2 => ?_)
    | (refine wpList_store rfl (.tmp 7) (.tmp 12) rfl rfl rfl hb2 DK.zeros_len DK.zeros_len fun w3 hb3 hu3 hs3 => ?_))
  obtain ⟨B0, hB0⟩ : ∃ x, x = w.heap.size := ⟨_, rfl⟩
  obtain ⟨B, hB⟩ : ∃ x, x = w1.heap.size := ⟨_, rfl⟩
  have hne : B0 < B := by omega
  have hBz : w.heap.size ≤ B := by omega
  have hB0z : w.heap.size ≤ B0 := by omega
  have hu03 : Upd [] w w3 := (hu1.trans hu2).then hu3 (by simp; omega)
  have hb0 : Blk w3 B0 (U8 DK.zeros) 54 := by rw [hB0]; exact (hb1.upd hu2 (by simp)).upd hu3 (by simp; omega)
  rw [← hB0, ← hB]
  rw [← hB] at hb3
  clear hb1 hu1 hs1 hb2 hu2 hs2 hu3 hs3 hB0 hB
  have HB0 := Lib.hid hb0
  have HB3 := Lib.hid hb3
  have HU3 := Lib.hid hu03
  clear hb0 hb3 hu03
  go_upto_if 19 with fail
  have hw3 : w.heap.size ≤ w3.heap.size := HU3.out.size
  go_cut [8] (fun v8 wx => v8 = .int .i64 mn ∧ Blk wx B (U8 (refFlag rest)) 54 ∧ Upd [B] w3 wx)
  case first =>
    have hf := HB3.out.free 10
    have hc10 := HB3.out.cell (U8_get DK.zeros 10 (by rw [DK.zeros_len]; omega))
    by_cases h44 : rl ≤ 44
    · have q : decide (44 < (bl : Int) - 44 * i) = false := decide_eq_false (by omega)
      go_wp2_with fail
      go_meet
      have e : (mn : Int) = bl - 44 * i := by have := HMN.out; omega
      refine ⟨by rw [e], ?_, (Upd.refl [B] w3).setCell (p := ⟨B, 10, none⟩) (.inl (by simp)) _⟩
      have hb := HB3.out.set 10 (.int .u8 1)
      rw [U8_set] at hb
      unfold refFlag
      rw [if_pos (by rw [← HRL.out]; exact h44)]
      exact hb
    · have q : decide (44 < (bl : Int) - 44 * i) = true := decide_eq_true (by omega)
      go_wp2_with fail
      go_meet
      have e : (mn : Int) = 44 := by have := HMN.out; omega
      refine ⟨by rw [e], ?_, Upd.refl _ _⟩
      unfold refFlag
      rw [if_neg (by rw [← HRL.out]; exact h44)]
      exact HB3.out
  case rest =>
    obtain ⟨rfl, hbx, hux⟩ := hcut
    have hmn44 : mn ≤ 44 := by have := HMN.out; omega
    have hb6 := (hbx.set 8 (.int .u8 ((mn : Int) / 256))).set 9 (.int .u8 ((mn : Int) % 256))
    rw [U8_set, U8_set] at hb6
    have hhd : (((refFlag rest).set 8 ((mn : Int) / 256)).set 9 ((mn : Int) % 256)) = refHead rest := by
      unfold refHead; rw [show (mn : Int) / 256 = 0 by omega, show (mn : Int) % 256 = mn by omega, HMN.out, HRL.out]
    rw [hhd] at hb6
    have c8 := hbx.cell (U8_get (refFlag rest) 8 (by rw [refFlag_len]; omega))
    have c9 := hbx.cell (U8_get (refFlag rest) 9 (by rw [refFlag_len]; omega))
    have f8 := hbx.free 8
    have f9 := hbx.free 9
    have hu6 : Upd [B] w3 ((wc.setCell ⟨B, 8, none⟩ (.int .u8 ((mn : Int) / 256))).setCell ⟨B, 9, none⟩ (.int .u8 ((mn : Int) % 256))) := (hux.setCell (.inl (by simp)) _).setCell (.inl (by simp)) _
    have HB6 := Lib.hid hb6
    have HU6 := Lib.hid hu6
    clear hbx hux hb6 hu6 hhd
    go_upto_region 8 with fail
    generalize hw6 : (wc.setCell ⟨B, 8, none⟩ (.int .u8 ((mn : Int) / 256))).setCell ⟨B, 9, none⟩ (.int .u8 ((mn : Int) % 256)) = w6
    rw [hw6] at HB6 HU6
    clear hw6 c8 c9 f8 f9
    obtain ⟨m0, hm0⟩ : ∃ m0, m0 = refHead rest := ⟨_, rfl⟩
    have hml : m0.length = 64 := by rw [hm0]; exact refHead_len _
    rw [← hm0] at HB6
    have HM0 := Lib.hid hm0
    have HML := Lib.hid hml
    clear hm0 hml
    go_wp2_with fail
    go_loopw [9, 10] (fun i _ wx => ∃ k : Nat, k ≤ 8 ∧ i = .int .i64 k ∧ Blk wx B (U8 (layL life m0 k)) 54 ∧ Upd [B] w3 wx) (fun i _ _ => 8 - (intOf i).toNat)
    case atStart => exact ⟨0, by omega, rfl, HB6.out, HU6.out⟩
    case round =>
      obtain ⟨k, hk, rfl, hb, hu⟩ := hrel
      clear HB6 HU6
      by_cases hlt : k < 8
      · have hx8 : (k : Int) < 8 := by omega
        have hx0 : (0 : Int) ≤ (k : Int) := by omega
        have hlen : (layL life m0 k).length = 64 := by rw [layL_len]; exact HML.out
        have ck := hb.cell (U8_get _ k (by omega))
        have ck6 := hb.cell (U8_get (layL life m0 k) (56 + k) (by omega))
        have fk := hb.free k
        have fk6 := hb.free (56 + k)
        have HB := Lib.hid hb
        have HU := Lib.hid hu
        clear hb hu
        go_wp2
        have hb5 := (HB.out.set k (.int .u8 (lifeByte life k))).set (56 + k) (.int .u8 (lifeByte life k))
        rw [U8_set, U8_set] at hb5
        have hu5 : Upd [B] w3 ((wr.setCell ⟨B, k, none⟩ (.int .u8 (lifeByte life k))).setCell ⟨B, 56 + k, none⟩ (.int .u8 (lifeByte life k))) := (HU.out.setCell (.inl (by simp)) _).setCell (.inl (by simp)) _
        go_roundw
        case rel => exact ⟨k + 1, by omega, by go_num, hb5, hu5⟩
        case measure => simp [intOf]; omega
      · obtain rfl : k = 8 := by omega
        have HB := Lib.hid hb
        have HU := Lib.hid hu
        clear hb hu hk hlt
        have hrb0 := RB.begin life rest
        rw [← HM0.out] at hrb0
        have HRB0 := Lib.hid hrb0
        clear hrb0
        go_wp2_with fail
        go_loopw [11] (fun i wx => ∃ k : Nat, ∃ c : Blok, k ≤ mn ∧ i = .int .i64 k ∧ RB life rest k c ∧ Blk wx B (U8 c) 54 ∧ Upd [B] w3 wx) (fun i _ => 44 - (intOf i).toNat)
        case atStart => exact ⟨0, _, by omega, rfl, HRB0.out, HB.out, HU.out⟩
        case round =>
          obtain ⟨k, c, hk, rfl, hrb2, hb, hu⟩ := hrel
          clear HB HU HRB0
          by_cases hlt : k < mn
          · have hx8 : (k : Int) < (mn : Int) := by omega
            have hx0 : (0 : Int) ≤ (k : Int) := by omega
            have hkrl : k < rl := by have := HMN.out; omega
            have ck := hb.cell (U8_get c (12 + k) (by rw [hrb2.1]; omega))
            have fk := hb.free (12 + k)
            have cb := (World.cell?_of_block (a := ⟨g, off + (44 * i + k), none⟩) ((HU3.out.then hu (T := [B]) (S := []) (by simp; omega)).block g hg (by simp))).trans (HC.out k hkrl)
            have hst := hrb2.step (k := k) (by omega)
            have HB := Lib.hid hb
            have HU := Lib.hid hu
            have HST := Lib.hid hst
            have hb5 := hb.set (12 + k) (.int .u8 (rest.getD k 0))
            rw [U8_set] at hb5
            have hu5 : Upd [B] w3 (wr.setCell ⟨B, 12 + k, none⟩ (.int .u8 (rest.getD k 0))) := (hu.setCell (.inl (by simp)) _)
            have HB5 := Lib.hid hb5
            have HU5 := Lib.hid hu5
            clear hb hu hst hrb2 hb5 hu5
            go_wp2
            go_roundw
            case rel => exact ⟨k + 1, _, by omega, by go_num, HST.out, HB5.out, HU5.out⟩
            case measure => simp [intOf]; omega
          · obtain rfl : k = mn := by omega
            have HX := Lib.hid hrb2
            have hcl := hrb2.1
            have HB := Lib.hid hb
            have HU := Lib.hid hu
            have HB00 := Lib.hid (HB0.out.upd hu (by simp; omega))
            clear hb hu hrb2
            go_wp2_with (first
              | ((with_reducible show wpList _ _ _ (⟨some 63, _, _, _, _, _⟩ :: _) _ _); refine wpList_loadW (.tmp 7) rfl rfl rfl HB.out hcl ?_)
              | (refine wpList_store rfl (.tmp 6) (.tmp 63) rfl rfl rfl HB00.out DK.zeros_len hcl fun w6 hb6 hu6 hs6 => ?_))
            have he : c = blockJ life rest := by
              have h := HX.out
              rw [HMN.out, HRL.out] at h
              exact h.done
            exact bodyPost_ret (results_arr rfl rfl hb6 hcl) rfl ⟨by rw [he], (HU3.out.then HU.out (by simp; omega)).then hu6 (by simp; omega)⟩

end Go.Proofs.Ytfjmkdjbeoafjaa
