/- slices.Insert at lists of facts; the walk of Add. -/
import Derived.Test.YtbdmnmjdnfpfbaaLatK
namespace Go.Proofs.Ytbdmnmjdnfpfbaa
open Go.ChangeShapes Go.WideShapes Go.ChangeAt Go.RowKit

theorem encL_ins {L : List FK} {cvs : List Value} (h : cvs.length = L.length) (f : FK) (fv : Value) (i : Nat) : encL (L.take i ++ f :: L.drop i) (cvs.take i ++ fv :: cvs.drop i) = encL (L.take i) (cvs.take i) ++ encF f fv ++ encL (L.drop i) (cvs.drop i) := by
  rw [encL_app _ _ _ _ (by simp [h]), encL, List.append_assoc]

theorem insert_any (lo i vb : Nat) (v : Value) (L : List FK) (cvs : List Value) (T U : List Nat) (f : FK) (fv : Value) (w : World) (ho : OL w lo v L cvs T) (hi : i ≤ L.length) (hl : L.length ≤ 1000) (hb : Blk w vb (encF f fv).toArray 31) (hne : v.ownBlock ≠ some vb) (hf : f.WF) (hc : ChunksAt w U fv f.chunks) (hlo : lo ≤ w.heap.size) :
    Calls Try.prog 42 #[v, .int .i64 i, .slice (some ⟨vb, 0, none⟩) 1 1] w fun e w' => ∃ v', e = .returned v' ∧ w'.ownsRow lo 31 38 v' (L.length + 1) (encL (L.take i ++ f :: L.drop i) (cvs.take i ++ fv :: cvs.drop i)) ∧ Upd v.ownBlock.toList w w' := by
  have hel := encL_len L cvs ho.chunks.1 ho.wf
  have hone := encL_one' ho.chunks
  have hfone := encF_one' hc
  have hfl := encF_len hf fv
  rw [encL_ins ho.chunks.1, ← encL_take ho.chunks.1 ho.wf hi, ← encL_drop ho.chunks.1 ho.wf hi]
  by_cases hin : i = L.length
  · subst hin
    rw [List.take_of_length_le (by omega), List.drop_of_length_le (by omega), List.append_nil]
    exact insert_end lo L.length vb v _ _ w ho.own hl hb hfl hfone hlo
  · rcases ho.own.2 with ⟨rfl, hn⟩ | ⟨g, cap, cur, rfl, hbg, hg, hnc, hcm, hcs, htk⟩
    · omega
    · have hvg : vb ≠ g := fun e => hne (by rw [e]; rfl)
      by_cases hroom : L.length + 1 ≤ cap
      · exact (insert_room lo L.length cap i g vb cur _ _ w hg hbg hcm hcs htk hone hl (by omega) hroom hb hvg hfl hfone).mono fun _ _ ⟨v', he, h1, h2⟩ => ⟨v', he, h1, h2⟩
      · exact (insert_grow lo L.length cap i g vb cur _ _ w hg hlo hcs htk hone hl (by omega) hnc (by omega) hb hfl hfone).mono fun _ _ ⟨v', he, h1, h2⟩ => ⟨v', he, h1, h2.mono (by simp)⟩

theorem add1_any (f x : FK) (cv xv : Value) (g : Nat) (w : World) (hf : f.WF) (hc : Blk w g (encF f cv).toArray 31) (hx : x.WF) :
    Calls Try.prog 41 #[.agg (encF x xv).toArray, .pointer (some ⟨g, 0, none⟩)] w fun e w' => e = .returned (.bool (!(x.less f))) ∧ Upd [] w w' := by
  have HL := Lib.hid (fun w => less_any x f xv cv w)
  obtain ⟨w1, hw1⟩ : ∃ w1, w1 = w.alloc (.cells (encF x xv).toArray 31) := ⟨_, rfl⟩
  obtain ⟨hb, hu⟩ := boxed w (encF x xv).toArray 31
  rw [← hw1] at hb hu
  have HB := Lib.hid (CellsAt.of_blk hb)
  have HG := Lib.hid (CellsAt.of_blk (hc.upd hu (by simp)))
  have HU := Lib.hid hu
  have HW := Lib.hid hw1
  have HX := Lib.hid hx
  have HF := Lib.hid hf
  clear hw1 hb hu hc hx hf
  go_enter Try.func41, Try.ntmps41
  go_upto_region 1 with fail
  rw [← HW.out]
  go_wp2_with (first
    | ((with_reducible show wpList _ _ _ (⟨some 4, _, _, _, _, _⟩ :: _) _ _); refine wpList_run rfl (fact_load (.tmp 2) rfl rfl HB.out HX.out) ?_)
    | ((with_reducible show wpList _ _ _ (⟨some 5, _, _, _, _, _⟩ :: _) _ _); refine wpList_run rfl (fact_load (.tmp 1) rfl rfl HG.out HF.out) ?_)
    | (go_at_call 21; refine (HL.out _).mono ?_; rintro e w2 ⟨rfl, hu2⟩; have HU2 := Lib.hid (HU.out.trans hu2); clear hu2))
  go_ret
  exact ⟨rfl, HU2.out⟩

theorem takeWhile_len (p : FK → Bool) : ∀ (L : List FK) (m : Nat), m < L.length → p (L.getD m FK.zero) = false → (∀ j, j < m → p (L.getD j FK.zero) = true) → (L.takeWhile p).length = m
  | x :: t, 0, _, h, _ => by
    have : p x = false := h
    rw [List.takeWhile_cons, this]; rfl
  | x :: t, m + 1, hm, h, ha => by
    have h0 : p x = true := ha 0 (by omega)
    rw [List.takeWhile_cons, h0]
    simp only [if_true, List.length_cons]
    rw [takeWhile_len p t m (by simpa using hm) h (fun j hj => ha (j + 1) (by omega))]
  | [], m, hm, _, _ => by simp at hm

theorem takeWhile_all (p : FK → Bool) : ∀ (L : List FK), (∀ j, j < L.length → p (L.getD j FK.zero) = true) → (L.takeWhile p).length = L.length
  | x :: t, ha => by
    have h0 : p x = true := ha 0 (by simp)
    rw [List.takeWhile_cons, h0]
    simp only [if_true, List.length_cons]
    rw [takeWhile_all p t (fun j hj => ha (j + 1) (by simpa using hj))]
  | [], _ => rfl

theorem place_first {L : List FK} {f : FK} {r : Int} (h : FirstAt (fun x => !(x.less f)) L r) : (if r < 0 then (L.length : Int) else r) = (placeL L f : Nat) ∧ placeL L f ≤ L.length := by
  unfold placeL
  rcases h with ⟨rfl, h⟩ | ⟨m, hm, rfl, h, ha⟩
  · rw [if_pos (by omega), takeWhile_all _ L (fun j hj => by simpa using h j hj)]
    exact ⟨rfl, Nat.le_refl _⟩
  · rw [if_neg (by omega), takeWhile_len _ L m hm (by simpa using h) (fun j hj => by simpa using ha j hj)]
    exact ⟨rfl, by omega⟩

theorem ok_chunks {nodes : Int} {f : FK} (h : f.ok nodes = true) : f.chunks.length ≤ 64 := by
  unfold FK.ok at h
  simp only [Bool.and_eq_true, decide_eq_true_eq] at h
  obtain ⟨-, h⟩ := h
  split at h
  · simp only [Bool.and_eq_true, decide_eq_true_eq] at h
    have h2 := h.2
    unfold FK.manOk at h2
    simp only [Bool.and_eq_true, decide_eq_true_eq] at h2
    obtain ⟨h3, h4⟩ := h2
    unfold chunksN at h3 h4
    split at h4
    · omega
    · split at h4 <;> omega
  · split at h
    · unfold FK.none at h
      simp only [Bool.and_eq_true, decide_eq_true_eq] at h
      omega
    · cases h

end Go.Proofs.Ytbdmnmjdnfpfbaa
