/- The document's disk: Flush, Crash. -/
import Derived.Test.YtfjmkdjbeoafjaaRefF
import Derived.Deep.DeepCutAuto
import Derived.Deep.CutBlock
namespace Go.Proofs.Ytfjmkdjbeoafjaa
open Go.ChangeShapes Go.WideShapes Go.ChangeAt Go.RowKit

theorem lay_all {x y : Blok} (hx : x.length = 64) (hy : y.length = 64) : DK.lay 64 x y = x := by
  unfold DK.lay
  rw [List.take_of_length_le (by omega), List.drop_of_length_le (by omega), List.append_nil]

/-- All bytes of each block that was written last. -/
theorem settle64 : ∀ (f : List (Int × Blok)) (i : Nat) (l : List Blok), (f.map (·.1)).Nodup → (∀ p ∈ f, 0 ≤ p.1 ∧ p.1 < l.length) → (∀ p ∈ f, p.2.length = 64) → (∀ b ∈ l, b.length = 64) → ∀ n : Nat, n < l.length →
    (DK.settleL (fun _ => 64) i f l).getD n [] = (mget f (n : Int)).getD (l.getD n []) := by
  intro f
  induction f with
  | nil => intro i l _ _ _ _ n _; rfl
  | cons p t ih =>
    intro i l hn hr hf hl n hnl
    simp only [List.map_cons, List.nodup_cons] at hn
    have hp := hr p List.mem_cons_self
    have hp64 := hf p List.mem_cons_self
    have e64 : DK.kOf 64 = 64 := by decide
    have hpl : (l.getD p.1.toNat []).length = 64 := hl _ (DK.getD_mem (by omega))
    simp only [DK.settleL, e64]
    rw [lay_all hp64 hpl, ih (i + 1) (l.set p.1.toNat p.2) hn.2 (fun q hq => by rw [List.length_set]; exact hr q (List.mem_cons_of_mem _ hq)) (fun q hq => hf q (List.mem_cons_of_mem _ hq)) (set_len64 hl hp64 _) n (by rw [List.length_set]; exact hnl), mget_cons]
    by_cases h : p.1 = (n : Int)
    · rw [if_pos h]
      have hpn : p.1.toNat = n := by omega
      rw [mget_none (n := (n : Int)) (by rw [← h]; exact hn.1), hpn]
      rw [Option.getD_none, Option.getD_some, List.getD_eq_getElem?_getD, List.getElem?_set_self hnl]; rfl
    · rw [if_neg h]
      have hpn : p.1.toNat ≠ n := by omega
      rw [List.getD_eq_getElem?_getD (l := l.set _ _), List.getElem?_set_ne hpn, ← List.getD_eq_getElem?_getD]

theorem ext_getD {L M : List Blok} (h1 : L.length = M.length) (h : ∀ j, j < L.length → L.getD j [] = M.getD j []) : L = M := by
  apply List.ext_getElem?
  intro j
  by_cases hj : j < L.length
  · have := h j hj
    rw [List.getD_eq_getElem?_getD, List.getD_eq_getElem?_getD, List.getElem?_eq_getElem (by omega), List.getElem?_eq_getElem (by omega)] at this
    rw [List.getElem?_eq_getElem (by omega), List.getElem?_eq_getElem (by omega)]
    simpa using this
  · rw [List.getElem?_eq_none (by omega), List.getElem?_eq_none (by omega)]

theorem now_clean {d : DK} (h : d.fresh = []) : d.now = d.last := by
  refine ext_getD (DK.now_len d) fun j hj => ?_
  rw [DK.now_len] at hj
  rw [DK.now_get d hj]
  unfold DK.get; rw [h]; rfl

theorem flush_last {d : DK} (hw : d.WF) (h : d.down = false) : d.flush.last = d.now := by
  refine ext_getD (by rw [flush_len, DK.now_len]) fun j hj => ?_
  rw [flush_len] at hj
  rw [DK.now_get d hj]
  unfold DK.flush
  rw [h]
  show (DK.settleL (fun _ => 64) 0 d.fresh d.last).getD j [] = _
  rw [settle64 d.fresh 0 d.last hw.keys (fun p hp => ⟨hw.lo p hp, hw.hi p hp⟩) hw.size hw.last j hj]; rfl

theorem lay_zero (x y : Blok) : DK.lay 0 x y = y := by simp [DK.lay]

theorem set_self {L : List Blok} {n : Nat} : L.set n (L.getD n []) = L := by
  by_cases h : n < L.length
  · rw [List.getD_eq_getElem?_getD, List.getElem?_eq_getElem h]; simp
  · rw [List.set_eq_of_length_le (by omega)]

theorem settleL_zeros (many : Nat → Int) : ∀ (f : List (Int × Blok)) (i : Nat) (l : List Blok), (∀ j, i ≤ j → DK.kOf (many j) = 0) → DK.settleL many i f l = l := by
  intro f
  induction f with
  | nil => intro i l _; rfl
  | cons p t ih =>
    intro i l h
    simp only [DK.settleL]
    rw [h i (Nat.le_refl _), lay_zero, set_self, ih (i + 1) l (fun j hj => h j (by omega))]

theorem settleL_app (many : Nat → Int) : ∀ (f g : List (Int × Blok)) (i : Nat) (l : List Blok), DK.settleL many i (f ++ g) l = DK.settleL many (i + f.length) g (DK.settleL many i f l) := by
  intro f
  induction f with
  | nil => intro g i l; rfl
  | cons p t ih =>
    intro g i l
    simp only [List.cons_append, DK.settleL, List.length_cons]
    rw [ih, show i + 1 + t.length = i + (t.length + 1) by omega]

theorem fate_out (f : List Int) (j : Nat) (h : f.length ≤ j) : DK.kOf (DK.fate f j) = 0 := by
  unfold DK.fate; rw [if_neg (by omega)]; decide

/-- Where all fates are used, or all blocks, the rest changes nothing. -/
theorem settle_take (f : List Int) (fr : List (Int × Blok)) (l : List Blok) (k : Nat) (h : k = fr.length ∨ f.length ≤ k) : DK.settleL (DK.fate f) 0 (fr.take k) l = DK.settleL (DK.fate f) 0 fr l := by
  rcases h with h | h
  · rw [h, List.take_of_length_le (Nat.le_refl _)]
  · have e := settleL_app (DK.fate f) (fr.take k) (fr.drop k) 0 l
    rw [List.take_append_drop] at e
    rw [e]
    by_cases hk : k ≤ fr.length
    · exact (settleL_zeros (DK.fate f) (fr.drop k) (0 + (fr.take k).length) _ (fun j hj => fate_out f j (by rw [List.length_take] at hj; omega))).symm
    · rw [List.drop_of_length_le (by omega)]; rfl

theorem lay_step {k : Nat} {x y : Blok} (hk : k < 64) (hx : x.length = 64) (hy : y.length = 64) : (DK.lay k x y).set k (x.getD k 0) = DK.lay (k + 1) x y := by
  unfold DK.lay
  apply List.ext_getElem?
  intro j
  have ex : x.getD k 0 = x[k]'(by omega) := by rw [List.getD_eq_getElem?_getD, List.getElem?_eq_getElem (by omega)]; rfl
  rw [List.getElem?_set]
  by_cases e : k = j
  · subst e
    rw [if_pos rfl, if_pos (by simp; omega), List.getElem?_append_left (by simp; omega), List.getElem?_take, if_pos (by omega), List.getElem?_eq_getElem (by omega), ex]
  · rw [if_neg e]
    by_cases hj : j < k
    · rw [List.getElem?_append_left (by simp; omega), List.getElem?_append_left (by simp; omega), List.getElem?_take, List.getElem?_take, if_pos hj, if_pos (by omega)]
    · rw [List.getElem?_append_right (by simp; omega), List.getElem?_append_right (by simp; omega), List.getElem?_drop, List.getElem?_drop, List.length_take, List.length_take]
      congr 1; omega

theorem info_arr' : (Try.prog.info? 54).map (fun i => (i.zero, i.size, i.bytes)) = some (some (.agg (U8 DK.zeros)), 64, 64) := by kernel_rfl

theorem rowC_one (L : List Blok) : ∀ v ∈ rowC L, v.oneCell' = true := by
  intro v hv; unfold rowC at hv; obtain ⟨x, _, rfl⟩ := List.mem_map.1 hv; rfl

set_option maxRecDepth 100000 in
set_option maxHeartbeats 2000000 in
theorem rflush_any (b : Nat) (R : List Nat) (d : DK) (w : World) (h : RefAt w b R d) :
    Calls Try.prog 24 #[.pointer (some ⟨b, 0, none⟩)] w fun e w' => e = .returned (.int .i64 d.fcode) ∧ ∃ R', RefAt w' b R' d.flush ∧ Upd R w w' ∧ Sub w R R' := by
  have H := Lib.hid h
  have hlt := h.lt
  obtain ⟨lg, lc, ng, nc, ov, rfl, hnd, hw, h1, h2, h3, h4⟩ := h
  simp only [List.nodup_cons, List.mem_cons, not_or, Option.mem_toList] at hnd
  obtain ⟨⟨d1, d2, d3⟩, ⟨d4, d5⟩, d6, -⟩ := hnd
  have c3 := h1.cell (o := 3) rfl
  cases hd : d.down with
  | true =>
    rw [hd] at c3
    rw [show d.fcode = 60 from by unfold DK.fcode; rw [hd]; rfl, show d.flush = d from by unfold DK.flush; rw [hd]; rfl]
    clear h1 h2 h3 h4 hd hlt
    go_enter Try.func24, Try.ntmps24
    go_wp2_with fail
    go_ret
    exact ⟨rfl, _, H.out, Upd.refl _ _, Sub.refl _ _⟩
  | false =>
    rw [hd] at c3
    rw [show d.fcode = 0 from by unfold DK.fcode; rw [hd]; rfl]
    have c1 := h1.cell (o := 1) rfl
    have c1' := (h1.upd ((Upd.refl [] w).alloc (.cells #[] 54)) (by simp)).cell (o := 1) rfl
    obtain ⟨i0, hi0, hz0, hz1, hz2⟩ := info_parts info_arr'
    have hmany := hw.many
    have hnl := DK.now_len d
    have H1 := Lib.hid h1
    have H3 := Lib.hid h3
    have HLT := Lib.hid hlt
    have HNL := Lib.hid hnl
    have hnm : d.now.length ≤ 4096 := by omega
    clear h1 h2 h3 h4 hlt hnl
    go_enter Try.func24, Try.ntmps24
    go_wp2_with (first
      | ((with_reducible show wpList _ _ _ (⟨_, .call { callee := .builtin .append, args := #[.tmp 8, .tmp 12], argTypes := _ }, _, _, _, _⟩ :: _) _ _)
         refine wpList_append_row rfl (.tmp 8) (.tmp 12) 60 rfl w.heap.size 0 54 i0 (.agg (U8 DK.zeros)) 64 64 Try.underlying60 hi0 hz0 hz1 hz2 (by rfl) (by decide) w.heap.size 0 0 [] rfl (World.ownsRow_lit w #[] 0 (Nat.le_refl _) (by unfold maxLen; omega) rfl) _ d.now.length _ rfl (H3.out.alloc _)
           (rowC_one _) (by unfold maxLen; omega) (by omega) (by simp) fun g3 lc3 w3 ho3 hg3 => ?_
         have hu3 : Upd [] w w3 := ((Upd.refl [] w).alloc _).grown hg3 (fun k hk => .inr (by simp at hk; omega))
         have hgb3 := (ho3.lt g3 rfl).1
         have ho3' : RowAt w3 (.slice (some ⟨g3, 0, none⟩) d.now.length lc3) d.now := by rw [Nat.zero_add] at ho3; exact own_base ho3
         have j1 := H1.out.upd hu3 (by simp)
         have f0 := j1.free 0
         have k0 := j1.cell (o := 0) rfl
         have j1' := j1.set 0 (.slice (some ⟨g3, 0, none⟩) d.now.length lc3)
         have f2 := j1'.free 2
         have k2 := j1'.cell (o := 2) rfl))
    go_ret
    have lb := HLT.out b (by simp)
    have ll := HLT.out lg (by simp)
    have ln := HLT.out ng (by simp)
    have j2 := j1'.set 2 (.slice none 0 0)
    have hu5 : Upd [b] w ((w3.setCell ⟨b, 0, none⟩ (.slice (some ⟨g3, 0, none⟩) d.now.length lc3)).setCell ⟨b, 2, none⟩ (.slice none 0 0)) := ((hu3.mono (by simp)).setCell (.inl (by simp)) _).setCell (.inl (by simp)) _
    have hu6 : Upd [b] w3 ((w3.setCell ⟨b, 0, none⟩ (.slice (some ⟨g3, 0, none⟩) d.now.length lc3)).setCell ⟨b, 2, none⟩ (.slice none 0 0)) := ((Upd.refl [b] w3).setCell (.inl (by simp)) _).setCell (.inl (by simp)) _
    have e1 := flush_last hw hd
    have e2 := flush_fr d hd
    have e3 := now_clean e2
    have e4 : d.flush.down = false := by rw [flush_dn]; exact hd
    refine ⟨rfl, [b, g3, ng], ⟨g3, lc3, ng, nc, .slice none 0 0, rfl, by simp; omega, hw.flush, ?_, ?_, ?_, ?_⟩, hu5.mono (by simp), ?_⟩
    · rw [hd] at j2
      rw [e3, e1, e4]; exact j2
    · rw [e1]; exact ho3'.upd hu6 (fun g hg => by simp [Value.ownBlock] at hg; subst hg; simp; omega)
    · rw [e3, e1]; exact H3.out.upd hu5 (fun g hg => by simp [Value.ownBlock] at hg; subst hg; simp; omega)
    · rw [e2]; exact World.ownsRow_nil _ _ _ _
    · intro k hk
      simp only [List.mem_cons, List.not_mem_nil, or_false] at hk
      rcases hk with rfl | rfl | rfl
      · exact .inl (by simp)
      · exact .inr hgb3
      · exact .inl (by simp)

end Go.Proofs.Ytfjmkdjbeoafjaa
