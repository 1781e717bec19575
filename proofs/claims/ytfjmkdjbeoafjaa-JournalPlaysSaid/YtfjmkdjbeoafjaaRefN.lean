/- The document's journal: the walk of piece at a good block. -/
import Derived.Test.YtfjmkdjbeoafjaaRefM
import Derived.OwnWalk
namespace Go.Proofs.Ytfjmkdjbeoafjaa
open Go.ChangeShapes Go.WideShapes Go.ChangeAt Go.RowKit

theorem BytesAt.news {w : World} {ad : Addr} {cap : Nat} {l : List Int} {n : Nat} (h : BytesAt w (.slice (some ad) n cap) l) : ∀ j u, (l.map (Value.int .u8))[j]? = some u → w.cell? (ad.add j) = some u := by
  obtain ⟨a, c, e, -, -, hc⟩ := h
  cases e
  intro j u hj
  have hjl : j < l.length := by have := (List.getElem?_eq_some_iff.1 hj).1; simpa using this
  obtain ⟨g, off, e, -, h⟩ := hc (fun e => by rw [e] at hjl; simp at hjl)
  cases e
  have hadd : (⟨g, off, none⟩ : Addr).add j = ⟨g, off + j, none⟩ := by unfold Addr.add; split <;> simp_all
  rw [hadd, h j hjl, ← hj]
  simp [List.getElem?_map, List.getD_eq_getElem?_getD, List.getElem?_eq_getElem hjl]

/-- The bytes of a record that lie in a good block. -/
theorem piece_at {w : World} {B : Nat} {T : TypeId} {b : Blok} (h : Blk w B (U8 b) T) (hl : b.length = 64) (h9 : (b.getD 9 0).toNat ≤ 44) : BytesAt w (.slice (some ⟨B, 12, none⟩) (b.getD 9 0).toNat 52) (pieceB b) :=
  BytesAt.of_blk h (b.getD 9 0).toNat 52 (by omega) (by omega) (by unfold maxLen; omega)

set_option maxHeartbeats 4000000 in
theorem rpiece_yes (b : Blok) (least : Int) (within : Bool) (w : World) (hl : b.length = 64) (hr : U8L b) (h1 : 1 ≤ least) (hg : goodB b least within = true) :
    Calls Try.prog 44 #[.agg (U8 b), .int .i64 least, .bool within] w fun e w' => ∃ v, e = .returned (.tuple #[v, .bool (b.getD 10 0 == 1), .bool true]) ∧ BytesAt w' v (pieceB b) ∧ (∀ x, v.ownBlock = some x → w.heap.size ≤ x ∧ x < w'.heap.size) ∧ Upd [] w w' := by
  have hcn := goodB_cnt hr hg
  have hpl := pieceB_len hr hl hg
  have hh := (life8_bound b hr).1
  have k1 := piece_key (life8 b) (life8 (b.drop 56)) least (cnt b) (b.getD 10 0) (b.getD 11 0) within (sizeB b) (goodB b least within) hh h1 rfl
  have k2 := psize_key (cnt b) (b.getD 10 0) (sizeB b) rfl
  rw [hg] at k1
  obtain ⟨head, hhd⟩ : ∃ x, x = life8 b := ⟨_, rfl⟩
  obtain ⟨tail, htl⟩ : ∃ x, x = life8 (b.drop 56) := ⟨_, rfl⟩
  obtain ⟨sz, hsz⟩ : ∃ x, x = sizeB b := ⟨_, rfl⟩
  rw [← hhd, ← htl, ← hsz] at k1
  rw [← hsz] at k2
  have L0 := fun w => rlife_any b 0 w (by omega) hl hr
  have L1 := fun w => rlife_any b 56 w (by omega) hl hr
  rw [List.drop_zero, ← hhd] at L0
  rw [← htl] at L1
  have hpa : ∀ (w : World) (B : Nat), Blk w B (U8 b) 54 → BytesAt w (.slice (some ⟨B, 12, none⟩) (b.getD 9 0).toNat 52) (pieceB b) := fun w B h => piece_at h hl (by omega)
  have r8 := hr.getD 8
  have r9 := hr.getD 9
  have e8 := U8_get b 8 (by omega)
  have e9 := U8_get b 9 (by omega)
  have e10 := U8_get b 10 (by omega)
  have e11 := U8_get b 11 (by omega)
  have hcnt : cnt b = b.getD 8 0 * 256 + b.getD 9 0 := rfl
  generalize b.getD 8 0 = b8 at *
  generalize b.getD 9 0 = b9 at *
  generalize b.getD 10 0 = b10 at *
  generalize b.getD 11 0 = b11 at *
  rw [hcnt] at k2
  obtain ⟨r80, r81⟩ := r8
  obtain ⟨r90, r91⟩ := r9
  have HCN := Lib.hid hcn
  have HPL := Lib.hid hpl
  have HPA := Lib.hid hpa
  clear hcn hpl hpa
  have HL0 := Lib.hid L0
  have HL1 := Lib.hid L1
  have K1 := Lib.hid k1
  have K2 := Lib.hid k2
  have HL := Lib.hid hl
  obtain ⟨w1, hw1⟩ : ∃ w1, w1 = w.alloc (.cells (U8 b) 54) := ⟨_, rfl⟩
  obtain ⟨B, hBe⟩ : ∃ B, B = w.heap.size := ⟨_, rfl⟩
  have hb1 : Blk w1 B (U8 b) 54 := by rw [hw1, hBe]; exact Blk.new _ _ _
  have hu1 : Upd [] w w1 := by rw [hw1]; exact (Upd.refl _ _).alloc _
  have HW := Lib.hid hw1
  have HBE := Lib.hid hBe
  have HB1 := Lib.hid hb1
  have HU1 := Lib.hid hu1
  clear L0 L1 k1 k2 hg hhd htl hsz hcnt hr hl hw1 hBe hb1 hu1 hh
  go_enter Try.func44, Try.ntmps44
  go_upto_region 1 with fail
  rw [← HW.out, ← HBE.out]
  go_upto_region 2 with (first
    | ((with_reducible show wpList _ _ _ (⟨some 13, _, _, _, _, _⟩ :: _) _ _); refine wpList_run rfl (arr_load (.tmp 3) rfl rfl HB1.out HL.out) ?_)
    | (go_at_call 43; refine (HL0.out _).mono ?_; rintro e w2 ⟨rfl, hu2⟩
       have HB2 := Lib.hid (HB1.out.upd hu2 (by simp))
       have HU2 := Lib.hid (HU1.out.trans hu2)
       clear hu2))
  go_upto_region 3 with (first
    | ((with_reducible show wpList _ _ _ (⟨some 15, _, _, _, _, _⟩ :: _) _ _); refine wpList_run rfl (arr_load (.tmp 3) rfl rfl HB2.out HL.out) ?_)
    | (go_at_call 43; refine (HL1.out _).mono ?_; rintro e w3 ⟨rfl, hu3⟩
       have HB3 := Lib.hid (HB2.out.upd hu3 (by simp))
       have HU3 := Lib.hid (HU2.out.trans hu3)
       clear hu3))
  have c8 := HB3.out.cell (o := 8) e8
  have c9 := HB3.out.cell (o := 9) e9
  have c10 := HB3.out.cell (o := 10) e10
  have c11 := HB3.out.cell (o := 11) e11
  have E10 := Lib.hid e10
  clear e8 e9 e10 e11
  go_upto_region 4 with fail
  go_cut [12] (fun v12 wx => v12 = .bool sz ∧ wx = w3)
  case first =>
    have k2 := K2.out
    rcases k2 with ⟨q1, rfl⟩ | ⟨q1, q2, rfl⟩ | ⟨q1, q2, q3, rfl⟩ | ⟨q1, q2, q3, q4, rfl⟩ | ⟨q1, q2, q3, q4, rfl⟩
    all_goals
      go_wp2_with fail
      go_meet
      exact ⟨rfl, rfl⟩
  case rest =>
    obtain ⟨rfl, rfl⟩ := hcut
    have k1 := K1.out
    clear K1 K2
    rcases k1 with ⟨-, q⟩ | ⟨-, -, q⟩ | ⟨-, -, -, q⟩ | ⟨-, -, -, -, -, q⟩ | ⟨q1, q2, q3, q4, ⟨-, q⟩ | ⟨-, -, q⟩ | ⟨-, -, -, q⟩ | ⟨rfl, q5, q6, -⟩⟩
    · cases q
    · cases q
    · cases q
    · cases q
    · cases q
    · cases q
    · cases q
    have z2 : (head != tail) = false := by show (!(head == tail)) = false; rw [q2]; rfl
    have z6 : (b11 != 0) = false := by show (!(b11 == 0)) = false; rw [q6]; rfl
    obtain ⟨i0, hi0, hz0, hz1, hz2⟩ := info_parts info_u8
    have hcn := HCN.out
    have h9 : 0 < b9.toNat := by omega
    have h9' : b9.toNat ≤ 44 := by omega
    clear hcn
    have z4 : within = false ∨ (within = true ∧ (head != least) = false) := by
      rcases q4 with h | ⟨h, q4⟩
      · exact .inl h
      · exact .inr ⟨h, by show (!(head == least)) = false; rw [q4]; rfl⟩
    clear q4
    rcases z4 with rfl | ⟨rfl, z4⟩
    all_goals
      go_wp2_with fail
      refine held_start (fun w' => Blk w' B (U8 b) 54) 11 mixed rfl HB3.out (fun hHeld => ?_)
      refine held_take 1 75 (.int .i64 (b8 * 256 + b9)) rfl (by kernel_rfl) (by kernel_rfl) (by kernel_rfl) rfl (fun _ _ _ h => h) rfl hHeld (fun w hS => by rfl) ?_
      simp only [List.setIfInBounds_toArray, List.set_cons_zero, List.set_cons_succ]
      refine held_take 2 76 (.int .i64 (12 + (b8 * 256 + b9))) rfl (by kernel_rfl) (by kernel_rfl) (by kernel_rfl) rfl (fun _ _ _ h => h) rfl hHeld (fun w hS => by have hwr : IntKind.i64.wrap (12 + (b8 * 256 + b9)) = 12 + (b8 * 256 + b9) := IntWalk.i64_in _ (by omega); go_simp) ?_
      simp only [List.setIfInBounds_toArray, List.set_cons_zero, List.set_cons_succ]
      refine held_take 3 77 (.slice (some ⟨B, 12, none⟩) (b9.toNat) (64 - 12)) rfl (by kernel_rfl) (by kernel_rfl) (by kernel_rfl) rfl (fun _ _ _ h => h) rfl hHeld (fun w hS => by exact exec_slice_arr 54 (.tmp 3) (.const (.int .i64 12)) (.tmp 76) rfl (N := 64) (l := 12) (h := 12 + b9.toNat) (by kernel_rfl) (by kernel_rfl) (by kernel_rfl) rfl rfl rfl (by have := HCN.out; omega) (by omega) (by have := HCN.out; omega) (by omega) (by omega)) ?_
      simp only [List.setIfInBounds_toArray, List.set_cons_zero, List.set_cons_succ]
      refine held_take 5 79 (.pointer (some ⟨B, 10, none⟩)) rfl (by kernel_rfl) (by kernel_rfl) (by kernel_rfl) rfl (fun _ _ _ h => h) rfl hHeld (fun w hS => by go_simp) ?_
      simp only [List.setIfInBounds_toArray, List.set_cons_zero, List.set_cons_succ]
      refine held_take 6 80 (.int .u8 b10) rfl (by kernel_rfl) (by kernel_rfl) (by kernel_rfl) rfl (fun _ _ _ h => h) rfl hHeld (fun w hS => by have hn := hS.cell (o := 10) E10.out; go_simp) ?_
      simp only [List.setIfInBounds_toArray, List.set_cons_zero, List.set_cons_succ]
      refine held_take 7 81 (.bool (b10 == 1)) rfl (by kernel_rfl) (by kernel_rfl) (by kernel_rfl) rfl (fun _ _ _ h => h) rfl hHeld (fun w hS => by go_simp) ?_
      simp only [List.setIfInBounds_toArray, List.set_cons_zero, List.set_cons_succ]
      refine held_next 0 74 rfl (by kernel_rfl) rfl rfl (fun K hK => ?_)
      unfold Oper.wp
      rw [exec_build_empty 31 5 rfl (by kernel_rfl) (by kernel_rfl : _ = some 1)]
      refine hK.out _ _ (hHeld.upd (S := []) ((Upd.refl [] _).alloc _) (by simp)) (fun hHeld => ?_)
      clear hK K
      simp only [List.setIfInBounds_toArray, List.set_cons_zero, List.set_cons_succ]
      refine held_next 4 78 rfl (by kernel_rfl) rfl rfl (fun K hK => ?_)
      refine wp_append_lies _ (.tmp 74) (.tmp 77) 31 rfl wc.drew.heap.size 5 i0 (.int .u8 0) 1 1 Try.underlying31 hi0 hz0 hz1 hz2 rfl (by decide) (.slice (some ⟨wc.drew.heap.size, 0, none⟩) 0 0) 0 [] rfl (World.ownsRow_made wc.drew #[] 0 (Nat.le_refl _) (by unfold maxLen; omega) rfl) ⟨B, 12, none⟩ b9.toNat 52 ((pieceB b).map (.int .u8)) rfl (by simp [HPL.out]) (HPA.out _ _ hHeld).news (fun u hu => by obtain ⟨x, _, rfl⟩ := List.mem_map.1 hu; rfl) h9 (by unfold maxLen; omega) (by omega) (by simp) _ rfl (fun g cap w4 ho4 hg4 hl4 hs4 => ?_)
      have hlt : B < wc.heap.size := HB3.out.lt
      have hu4 : Upd [] w w4 := ((HU3.out.drew).alloc _).grown hg4 (fun k hk => .inr (by have := HU3.out.size; simp [Value.ownBlock] at hk; omega))
      refine hK.out _ _ (hHeld.grown hg4 (by simp [Value.ownBlock]; omega)) (fun hHeld => ?_)
      clear hK K hlt
      have HG4 := Lib.hid hl4
      clear hl4 hg4
      simp only [List.setIfInBounds_toArray, List.set_cons_zero, List.set_cons_succ]
      refine held_take 8 6 (.slice (some ⟨g, 0, none⟩) (0 + b9.toNat) cap) rfl (by kernel_rfl) (by kernel_rfl) (by kernel_rfl) rfl (fun _ _ _ h => h) rfl hHeld (fun w hS => by go_simp) ?_
      simp only [List.setIfInBounds_toArray, List.set_cons_zero, List.set_cons_succ]
      refine held_take 9 7 (.bool (b10 == 1)) rfl (by kernel_rfl) (by kernel_rfl) (by kernel_rfl) rfl (fun _ _ _ h => h) rfl hHeld (fun w hS => by go_simp) ?_
      simp only [List.setIfInBounds_toArray, List.set_cons_zero, List.set_cons_succ]
      refine held_take 10 8 (.bool true) rfl (by kernel_rfl) (by kernel_rfl) (by kernel_rfl) rfl (fun _ _ _ h => h) rfl hHeld (fun w hS => by go_simp) ?_
      simp only [List.setIfInBounds_toArray, List.set_cons_zero, List.set_cons_succ]
      refine held_done (by kernel_rfl) ?_
      have hob := ho4.lt g (by simp [Value.ownBlock])
      have hby : BytesAt w4 (.slice (some ⟨g, 0, none⟩) (0 + b9.toNat) cap) (pieceB b) := BytesAt.of_own (by simpa using ho4) (by have := HPL.out; omega)
      have hsz := HU3.out.size
      have hres : ∃ v, (Ending.returned (.tuple #[.slice (some ⟨g, 0, none⟩) (0 + b9.toNat) cap, .bool (b10 == 1), .bool true]) : Ending) = .returned (.tuple #[v, .bool (b10 == 1), .bool true]) ∧ BytesAt w4 v (pieceB b) ∧ (∀ x, v.ownBlock = some x → w.heap.size ≤ x ∧ x < w4.heap.size) ∧ Upd [] w w4 :=
        ⟨_, rfl, hby, fun x hx => by simp [Value.ownBlock] at hx; subst hx; exact ⟨Nat.le_trans hsz hob.1, hob.2⟩, hu4⟩
      clear hob hsz ho4 hu4 hby hHeld
      go_wp2_with fail
      refine bodyPost_ret (results_tmp3 rfl _ _ _) rfl ?_
      exact hres

end Go.Proofs.Ytfjmkdjbeoafjaa
