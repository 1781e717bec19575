/- The walks of IndexFunc, ContainsFunc and Has. -/
import Derived.Test.YtbdmnmjdnfpfbaaLatG
namespace Go.Proofs.Ytbdmnmjdnfpfbaa
open Go.ChangeShapes Go.WideShapes Go.ChangeAt Go.RowKit

/-- The first place of which something is so; -1: none. -/
def FirstAt (pr : FK → Bool) (L : List FK) (r : Int) : Prop :=
  (r = -1 ∧ ∀ j, j < L.length → pr (L.getD j FK.zero) = false) ∨ ∃ m : Nat, m < L.length ∧ r = (m : Int) ∧ pr (L.getD m FK.zero) = true ∧ ∀ j, j < m → pr (L.getD j FK.zero) = false

theorem FirstAt.any {pr : FK → Bool} {L : List FK} {r : Int} (h : FirstAt pr L r) : decide (0 ≤ r) = L.any pr := by
  rcases h with ⟨rfl, h⟩ | ⟨m, hm, rfl, h, -⟩
  · rw [decide_eq_false (by omega)]
    symm; rw [List.any_eq_false]
    intro x hx
    obtain ⟨i, hi, rfl⟩ := List.getElem_of_mem hx
    have := h i hi
    rw [List.getD_eq_getElem?_getD, List.getElem?_eq_getElem hi] at this
    simpa using this
  · rw [decide_eq_true (by omega)]
    symm; rw [List.any_eq_true]
    rw [List.getD_eq_getElem?_getD, List.getElem?_eq_getElem hm] at h
    exact ⟨L[m], List.getElem_mem hm, h⟩

theorem has1_any (node : Int) (f : FK) (cv : Value) (g : Nat) (w : World) (hc : w.cell? ⟨g, 0, none⟩ = some (.int .i64 node)) :
    Calls Try.prog 49 #[.agg (encF f cv).toArray, .pointer (some ⟨g, 0, none⟩)] w fun x w' => x = .returned (.bool (decide (f.node = node))) ∧ Upd [] w w' := by
  have hgl := World.block_lt_of_cell? w _ hc
  obtain ⟨r, hr⟩ : ∃ r, r = decide (f.node = node) := ⟨_, rfl⟩
  have hr2 : (f.node == node) = r := by rw [hr]; rw [Bool.eq_iff_iff]; simp
  rw [← hr]
  obtain ⟨w2, hw2⟩ : ∃ w2, w2 = w.alloc (.cells (encF f cv).toArray 31) := ⟨_, rfl⟩
  obtain ⟨hb, hu⟩ := boxed w (encF f cv).toArray 31
  rw [← hw2] at hb hu
  have d2 : w2.cell? ⟨w.heap.size, 2, none⟩ = some (.int .i64 f.node) := hb.cell (o := 2) rfl
  have c := (World.cell?_of_block (a := ⟨g, 0, none⟩) (hu.block g hgl (by simp))).trans hc
  have HU := Lib.hid hu
  have HW2 := Lib.hid hw2
  clear hw2 hb hu hr hc
  go_enter Try.func49, Try.ntmps49
  go_upto_region 1 with fail
  rw [← HW2.out]
  go_wp2
  go_ret
  exact ⟨rfl, HU.out⟩

set_option maxRecDepth 100000 in
set_option maxHeartbeats 4000000 in
theorem indexH_any (x : Value) (pr : FK → Bool) (v : Value) (T : List Nat) (L : List FK) (w : World) (h : FsAt w T v L)
    (hp : ∀ f T cv w', Upd [] w w' → f.WF → ChunksAt w' T cv f.chunks → Calls Try.prog 49 #[.agg (encF f cv).toArray, x] w' fun e w'' => e = .returned (.bool (pr f)) ∧ Upd [] w' w'') :
    Calls Try.prog 40 #[v, .func (.func 49) #[] #[x]] w fun e w' => ∃ r, e = .returned (.int .i64 r) ∧ FirstAt pr L r ∧ Upd [] w w' := by
  have HF := Lib.hid h
  have HP := Lib.hid hp
  obtain ⟨a, cap, cvs0, rfl, hlc, hcm, -⟩ := h
  unfold maxLen at hcm
  obtain ⟨n, hn⟩ : ∃ n, n = L.length := ⟨_, rfl⟩
  rw [← hn] at HF hlc ⊢
  have HN := Lib.hid hn
  clear hn hp
  go_enter Try.func40, Try.ntmps40
  go_wp2
  go_loopw [5, 8] (fun _ i wx => ∃ (m : Nat), m ≤ n ∧ i = .int .i64 m ∧ (∀ j, j < m → pr (L.getD j FK.zero) = false) ∧ Upd [] w wx) (fun _ i _ => n - (intOf i).toNat)
  case atStart => exact ⟨0, Nat.zero_le _, rfl, fun j hj => by omega, Upd.refl _ _⟩
  case round =>
    obtain ⟨m, hm, rfl, hb, hu⟩ := hrel
    have HB := Lib.hid hb
    have HU := Lib.hid hu
    by_cases hlt : m < n
    · have hlx : m < L.length := by rw [← HN.out]; exact hlt
      obtain ⟨g, off, cv, rfl, hg, hgT, hcl, hch, hwf⟩ := HF.out.get hlx
      obtain ⟨f, hf⟩ : ∃ f, f = L.getD m FK.zero := ⟨_, rfl⟩
      rw [← hf] at hcl hch hwf
      have HC := Lib.hid (hcl.upd hu hg (by simp))
      have HPF := Lib.hid (HP.out f T cv wr hu hwf (hch.upd0 hu))
      have HWF := Lib.hid hwf
      have HFE := Lib.hid hf
      have hx0 : (0 : Int) ≤ (m : Int) := by omega
      have hx1 : (m : Int) < (n : Int) := by omega
      obtain ⟨pb, hpb⟩ : ∃ pb, pb = pr f := ⟨_, rfl⟩
      rw [← hpb] at HPF
      have HPB := Lib.hid hpb
      clear hcl hch hwf hf hpb hb hu
      cases pb with
      | false =>
        go_wp2_with (first
          | ((with_reducible show wpList _ _ _ (⟨some 15, _, _, _, _, _⟩ :: _) _ _); refine wpList_run rfl (fact_load (.tmp 14) rfl rfl HC.out HWF.out) ?_)
          | (go_at_call 49; refine HPF.out.mono ?_; rintro e w4 ⟨rfl, hu4⟩; have HU4 := Lib.hid (HU.out.trans hu4); clear hu4))
        go_roundw
        case rel => exact ⟨m + 1, by omega, by go_num, fun j hj => by
          by_cases e : j = m
          · subst e; rw [← HFE.out, ← HPB.out]
          · exact HB.out j (by omega), HU4.out⟩
        case measure => simp [intOf]; omega
      | true =>
        go_wp2_with (first
          | ((with_reducible show wpList _ _ _ (⟨some 15, _, _, _, _, _⟩ :: _) _ _); refine wpList_run rfl (fact_load (.tmp 14) rfl rfl HC.out HWF.out) ?_)
          | (go_at_call 49; refine HPF.out.mono ?_; rintro e w4 ⟨rfl, hu4⟩; have HU4 := Lib.hid (HU.out.trans hu4); clear hu4))
        go_ret
        exact ⟨_, rfl, .inr ⟨m, hlx, rfl, by rw [← HFE.out, ← HPB.out], HB.out⟩, HU4.out⟩
    · obtain rfl : m = n := by omega
      clear hb hu hlt
      go_wp2_with fail
      go_ret
      exact ⟨_, rfl, .inl ⟨rfl, fun j hj => HB.out j (by rw [HN.out]; exact hj)⟩, HU.out⟩

set_option maxRecDepth 100000 in
set_option maxHeartbeats 4000000 in
theorem indexA_any (x : Value) (pr : FK → Bool) (v : Value) (T : List Nat) (L : List FK) (w : World) (h : FsAt w T v L)
    (hp : ∀ f T cv w', Upd [] w w' → f.WF → ChunksAt w' T cv f.chunks → Calls Try.prog 41 #[.agg (encF f cv).toArray, x] w' fun e w'' => e = .returned (.bool (pr f)) ∧ Upd [] w' w'') :
    Calls Try.prog 40 #[v, .func (.func 41) #[] #[x]] w fun e w' => ∃ r, e = .returned (.int .i64 r) ∧ FirstAt pr L r ∧ Upd [] w w' := by
  have HF := Lib.hid h
  have HP := Lib.hid hp
  obtain ⟨a, cap, cvs0, rfl, hlc, hcm, -⟩ := h
  unfold maxLen at hcm
  obtain ⟨n, hn⟩ : ∃ n, n = L.length := ⟨_, rfl⟩
  rw [← hn] at HF hlc ⊢
  have HN := Lib.hid hn
  clear hn hp
  go_enter Try.func40, Try.ntmps40
  go_wp2
  go_loopw [5, 8] (fun _ i wx => ∃ (m : Nat), m ≤ n ∧ i = .int .i64 m ∧ (∀ j, j < m → pr (L.getD j FK.zero) = false) ∧ Upd [] w wx) (fun _ i _ => n - (intOf i).toNat)
  case atStart => exact ⟨0, Nat.zero_le _, rfl, fun j hj => by omega, Upd.refl _ _⟩
  case round =>
    obtain ⟨m, hm, rfl, hb, hu⟩ := hrel
    have HB := Lib.hid hb
    have HU := Lib.hid hu
    by_cases hlt : m < n
    · have hlx : m < L.length := by rw [← HN.out]; exact hlt
      obtain ⟨g, off, cv, rfl, hg, hgT, hcl, hch, hwf⟩ := HF.out.get hlx
      obtain ⟨f, hf⟩ : ∃ f, f = L.getD m FK.zero := ⟨_, rfl⟩
      rw [← hf] at hcl hch hwf
      have HC := Lib.hid (hcl.upd hu hg (by simp))
      have HPF := Lib.hid (HP.out f T cv wr hu hwf (hch.upd0 hu))
      have HWF := Lib.hid hwf
      have HFE := Lib.hid hf
      have hx0 : (0 : Int) ≤ (m : Int) := by omega
      have hx1 : (m : Int) < (n : Int) := by omega
      obtain ⟨pb, hpb⟩ : ∃ pb, pb = pr f := ⟨_, rfl⟩
      rw [← hpb] at HPF
      have HPB := Lib.hid hpb
      clear hcl hch hwf hf hpb hb hu
      cases pb with
      | false =>
        go_wp2_with (first
          | ((with_reducible show wpList _ _ _ (⟨some 15, _, _, _, _, _⟩ :: _) _ _); refine wpList_run rfl (fact_load (.tmp 14) rfl rfl HC.out HWF.out) ?_)
          | (go_at_call 41; refine HPF.out.mono ?_; rintro e w4 ⟨rfl, hu4⟩; have HU4 := Lib.hid (HU.out.trans hu4); clear hu4))
        go_roundw
        case rel => exact ⟨m + 1, by omega, by go_num, fun j hj => by
          by_cases e : j = m
          · subst e; rw [← HFE.out, ← HPB.out]
          · exact HB.out j (by omega), HU4.out⟩
        case measure => simp [intOf]; omega
      | true =>
        go_wp2_with (first
          | ((with_reducible show wpList _ _ _ (⟨some 15, _, _, _, _, _⟩ :: _) _ _); refine wpList_run rfl (fact_load (.tmp 14) rfl rfl HC.out HWF.out) ?_)
          | (go_at_call 41; refine HPF.out.mono ?_; rintro e w4 ⟨rfl, hu4⟩; have HU4 := Lib.hid (HU.out.trans hu4); clear hu4))
        go_ret
        exact ⟨_, rfl, .inr ⟨m, hlx, rfl, by rw [← HFE.out, ← HPB.out], HB.out⟩, HU4.out⟩
    · obtain rfl : m = n := by omega
      clear hb hu hlt
      go_wp2_with fail
      go_ret
      exact ⟨_, rfl, .inl ⟨rfl, fun j hj => HB.out j (by rw [HN.out]; exact hj)⟩, HU.out⟩

theorem containsH_any (x : Value) (pr : FK → Bool) (v : Value) (T : List Nat) (L : List FK) (w : World) (h : FsAt w T v L)
    (hp : ∀ f T cv w', Upd [] w w' → f.WF → ChunksAt w' T cv f.chunks → Calls Try.prog 49 #[.agg (encF f cv).toArray, x] w' fun e w'' => e = .returned (.bool (pr f)) ∧ Upd [] w' w'') :
    Calls Try.prog 47 #[v, .func (.func 49) #[] #[x]] w fun e w' => e = .returned (.bool (L.any pr)) ∧ Upd [] w w' := by
  have HI := Lib.hid (indexH_any x pr v T L w h hp)
  clear h hp
  go_enter Try.func47, Try.ntmps47
  go_wp2_with (go_at_call 40; refine HI.out.mono ?_; rintro e w1 ⟨r, rfl, hf, hu⟩; have HF := Lib.hid hf; have HU := Lib.hid hu; clear hf hu)
  go_ret
  exact ⟨by rw [← HF.out.any]; rfl, HU.out⟩

theorem has_any (kind epoch node : Int) (v : Value) (T : List Nat) (L : List FK) (w : World) (h : FsAt w T v L) (hl : L.length ≤ 1000) (htl : ∀ y ∈ T, y < w.heap.size) :
    Calls Try.prog 22 #[v, .int .i64 kind, .int .i64 epoch, .int .i64 node] w fun e w' => e = .returned (.bool (hasL L kind epoch node)) ∧ Upd [] w w' := by
  obtain ⟨w1, hw1⟩ : ∃ w1, w1 = w.alloc (.cells #[.int .i64 node] 3) := ⟨_, rfl⟩
  obtain ⟨hb, hu⟩ := boxed w #[.int .i64 node] 3
  rw [← hw1] at hb hu
  have HA := Lib.hid (all_any kind epoch v T L w1 (h.upd0 hu) hl (fun y hy => Nat.lt_of_lt_of_le (htl y hy) hu.size))
  have HB := Lib.hid hb
  have HU := Lib.hid hu
  have HW := Lib.hid hw1
  clear h hl htl hb hu hw1
  go_enter Try.func22, Try.ntmps22
  go_upto_region 1 with fail
  rw [← HW.out]
  go_wp2_with (first
    | (go_at_call 48; refine HA.out.mono ?_; rintro e w2 ⟨v', cvs, rfl, ho, hu2⟩
       have HO := Lib.hid ho.at
       have HB2 := Lib.hid (HB.out.upd hu2 (by simp))
       have HU2 := Lib.hid (HU.out.trans hu2)
       clear ho hu2)
    | (go_at_call 47
       refine (containsH_any _ (fun f => decide (f.node = node)) _ _ _ _ HO.out (fun f T cv w' hu' _ _ => has1_any node f cv w.heap.size w' ((HB2.out.upd hu' (by simp)).cell (o := 0) rfl))).mono ?_
       rintro e w3 ⟨rfl, hu3⟩
       have HU3 := Lib.hid (HU2.out.trans hu3)
       clear hu3))
  go_ret
  exact ⟨rfl, HU3.out⟩

end Go.Proofs.Ytbdmnmjdnfpfbaa
