/- The plain law of journals behind a crash, third part: torn blocks; the state of a disk and its journal. -/
import Derived.Test.YtfjmkdjbeoafjaaJrnR
namespace Go.Proofs.Ytfjmkdjbeoafjaa
open Go.RowKit

attribute [local irreducible] blockJ

theorem ext64 {x y : List Int} (hl : x.length = y.length) (h : ∀ i, i < x.length → x.getD i 0 = y.getD i 0) : x = y := by
  apply List.ext_getElem hl
  intro i h1 h2
  have := h i h1
  rw [List.getD_eq_getElem?_getD, List.getD_eq_getElem?_getD, List.getElem?_eq_getElem h1, List.getElem?_eq_getElem h2] at this
  exact this

/-- Lives below 256: seven bytes of head and of tail are zeros. -/
def Sm (b : Blok) : Prop := ∀ i, i < 7 → b.getD i 0 = 0 ∧ b.getD (56 + i) 0 = 0

theorem Sm.zeros : Sm DK.zeros := fun i _ => ⟨zeros_get i, zeros_get _⟩

theorem lifeByte_small {l : Int} (h0 : 0 ≤ l) (h1 : l < 256) {i : Nat} (hi : i < 7) : lifeByte l i = 0 := by
  unfold lifeByte
  have : i = 0 ∨ i = 1 ∨ i = 2 ∨ i = 3 ∨ i = 4 ∨ i = 5 ∨ i = 6 := by omega
  rcases this with rfl | rfl | rfl | rfl | rfl | rfl | rfl
  · simp only [show (2 : Int) ^ (56 - 8 * 0) = 72057594037927936 from rfl]; omega
  · simp only [show (2 : Int) ^ (56 - 8 * 1) = 281474976710656 from rfl]; omega
  · simp only [show (2 : Int) ^ (56 - 8 * 2) = 1099511627776 from rfl]; omega
  · simp only [show (2 : Int) ^ (56 - 8 * 3) = 4294967296 from rfl]; omega
  · simp only [show (2 : Int) ^ (56 - 8 * 4) = 16777216 from rfl]; omega
  · simp only [show (2 : Int) ^ (56 - 8 * 5) = 65536 from rfl]; omega
  · simp only [show (2 : Int) ^ (56 - 8 * 6) = 256 from rfl]; omega

theorem Sm.block {l : Int} (h0 : 0 ≤ l) (h1 : l < 256) (c : List Int) : Sm (blockJ l c) := fun i hi => by
  rw [blockJ_get l c i (by omega), blockJ_get l c (56 + i) (by omega), if_pos (by omega), if_neg (by omega), if_pos (by omega), Nat.add_sub_cancel_left]
  exact ⟨lifeByte_small h0 h1 hi, lifeByte_small h0 h1 hi⟩

theorem Sm.lay {K : Nat} {x y : Blok} (hx : Sm x) (hy : Sm y) (hK : K ≤ 64) (h64 : x.length = 64) : Sm (DK.lay K x y) := fun i hi => by
  constructor
  · by_cases h : i < K
    · rw [q_lay_lo hK h64 i h]; exact (hx i hi).1
    · rw [q_lay_hi hK h64 i (by omega)]; exact (hy i hi).1
  · by_cases h : 56 + i < K
    · rw [q_lay_lo hK h64 _ h]; exact (hx i hi).2
    · rw [q_lay_hi hK h64 _ (by omega)]; exact (hy i hi).2

theorem lay_len64 {K : Nat} {x y : Blok} (hK : K ≤ 64) (hx : x.length = 64) (hy : y.length = 64) : (DK.lay K x y).length = 64 := by
  unfold DK.lay; rw [List.length_append, List.length_take, List.length_drop]; omega

/-- Some bytes of a new block, then the old ones: the new block, the old one, or a torn one. -/
theorem lay_mix {L : Int} {c : List Int} {y : Blok} {K : Nat} (h1 : 1 ≤ L) (h2 : L < 256) (hy : Sm y) (h64 : y.length = 64) (hK : K ≤ 64) (ht : life8 (y.drop 56) < L) :
    DK.lay K (blockJ L c) y = blockJ L c ∨ DK.lay K (blockJ L c) y = y ∨ (life8 (DK.lay K (blockJ L c) y) = L ∧ life8 ((DK.lay K (blockJ L c) y).drop 56) < L) := by
  have hx := blockJ_len L c
  have hs := Sm.block (by omega : 0 ≤ L) h2 c
  have hl := lay_len64 hK hx h64
  by_cases h : K = 64
  · subst h; exact .inl (q_lay_all hx h64)
  · by_cases h8 : K < 8
    · refine .inr (.inl (ext64 (by rw [hl, h64]) fun i hi => ?_))
      by_cases hiK : i < K
      · rw [q_lay_lo hK hx i hiK, (hs i (by omega)).1, (hy i (by omega)).1]
      · exact q_lay_hi hK hx i (by omega)
    · refine .inr (.inr ⟨life8_of _ (by omega) L (by omega) (by omega) (fun i hi => ?_), ?_⟩)
      · rw [q_lay_lo hK hx i (by omega), blockJ_get L c i (by omega), if_pos hi]
      · have e : (DK.lay K (blockJ L c) y).drop 56 = y.drop 56 := ext64 (by rw [List.length_drop, List.length_drop, hl, h64]) fun i hi => by
          rw [List.length_drop, hl] at hi
          rw [drop_get, drop_get]
          by_cases hiK : 56 + i < K
          · rw [q_lay_lo hK hx _ hiK, (hs i (by omega)).2, (hy i (by omega)).2]
          · exact q_lay_hi hK hx _ (by omega)
        rw [e]; exact ht

/-! The life that an open finds. -/

theorem fold_le : ∀ (bs : List Blok) (m : Int), m ≤ bs.foldl lifeStep m ∧ ∀ b ∈ bs, life8 b + 1 ≤ bs.foldl lifeStep m ∧ life8 (b.drop 56) + 1 ≤ bs.foldl lifeStep m := by
  intro bs
  induction bs with
  | nil => intro m; exact ⟨Int.le_refl _, fun b hb => by cases hb⟩
  | cons b t ih =>
    intro m
    have e : lifeStep m b = max (max m (life8 b + 1)) (life8 (b.drop 56) + 1) := rfl
    have := ih (lifeStep m b)
    rw [List.foldl_cons]
    refine ⟨by omega, fun x hx => ?_⟩
    rcases List.mem_cons.1 hx with rfl | hx
    · have := this.1; omega
    · exact this.2 x hx

theorem fold_top {L : Int} : ∀ (bs : List Blok) (m : Int), m ≤ L + 1 → (∀ b ∈ bs, life8 b ≤ L ∧ life8 (b.drop 56) ≤ L) → bs.foldl lifeStep m ≤ L + 1 := fun bs m hm h => (fold_life L bs m hm h).2.1

/-- A life does not fall while each block stays or takes that life. -/
theorem life_grows {O Z : List Blok} (hl : Z.length = O.length) (h : ∀ i, i < O.length → Z.getD i [] = O.getD i [] ∨ life8 (Z.getD i []) = openLife O) : openLife O ≤ openLife Z := by
  by_cases he : ∃ i, i < O.length ∧ life8 (Z.getD i []) = openLife O
  · obtain ⟨i, hi, e⟩ := he
    have := (fold_le Z 1).2 (Z.getD i []) (getD_mem' (by omega))
    show _ ≤ Z.foldl lifeStep 1
    omega
  · have : Z = O := by
      apply List.ext_getElem hl
      intro i h1 h2
      rcases h i h2 with e | e
      · rw [List.getD_eq_getElem?_getD, List.getD_eq_getElem?_getD, List.getElem?_eq_getElem h1, List.getElem?_eq_getElem h2] at e
        exact e
      · exact absurd ⟨i, h2, e⟩ he
    rw [this]; exact Int.le_refl _

/-! Blocks laid over an area. -/

def over (O : List Blok) (u : Nat) (W : List Blok) : List Blok := O.take u ++ (W ++ O.drop (u + W.length))

theorem over_nil (O : List Blok) (u : Nat) : over O u [] = O := by
  unfold over; rw [List.nil_append, List.length_nil, Nat.add_zero, List.take_append_drop]

theorem over_len {O : List Blok} {u : Nat} {W : List Blok} (h : u + W.length ≤ O.length) : (over O u W).length = O.length := by
  unfold over; rw [List.length_append, List.length_append, List.length_take, List.length_drop]; omega

theorem over_get {O : List Blok} {u : Nat} {W : List Blok} (h : u + W.length ≤ O.length) (i : Nat) :
    (over O u W).getD i [] = if u ≤ i ∧ i < u + W.length then W.getD (i - u) [] else O.getD i [] := by
  have hlen : (O.take u).length = u := by rw [List.length_take]; omega
  unfold over
  rw [List.getD_eq_getElem?_getD]
  by_cases h1 : i < u
  · rw [if_neg (by omega), List.getElem?_append_left (by omega), List.getElem?_take, if_pos h1, List.getD_eq_getElem?_getD]
  · rw [List.getElem?_append_right (by omega), hlen]
    by_cases h2 : i < u + W.length
    · rw [if_pos (by omega), List.getElem?_append_left (by omega), List.getD_eq_getElem?_getD]
    · rw [if_neg (by omega), List.getElem?_append_right (by omega), List.getElem?_drop, List.getD_eq_getElem?_getD]
      congr 2; omega

theorem ext_blocks {x y : List Blok} (hl : x.length = y.length) (h : ∀ i, i < x.length → x.getD i [] = y.getD i []) : x = y := by
  apply List.ext_getElem hl
  intro i h1 h2
  have := h i h1
  rw [List.getD_eq_getElem?_getD, List.getD_eq_getElem?_getD, List.getElem?_eq_getElem h1, List.getElem?_eq_getElem h2] at this
  exact this

theorem over_more {O : List Blok} {u : Nat} {W V : List Blok} (h : u + W.length + V.length ≤ O.length) : over (over O u W) (u + W.length) V = over O u (W ++ V) := by
  have ho := over_len (O := O) (u := u) (W := W) (by omega)
  apply ext_blocks
  · rw [over_len (by rw [ho]; exact h), ho, over_len (by rw [List.length_append]; omega)]
  · intro i _
    rw [over_get (by rw [ho]; exact h), over_get (by omega), over_get (by rw [List.length_append]; omega), List.length_append]
    by_cases h1 : u ≤ i ∧ i < u + W.length
    · rw [if_neg (by omega), if_pos h1, if_pos (by omega), List.getD_eq_getElem?_getD, List.getD_eq_getElem?_getD, List.getElem?_append_left (by omega)]
    · by_cases h2 : u + W.length ≤ i ∧ i < u + W.length + V.length
      · rw [if_pos h2, if_pos (by omega), List.getD_eq_getElem?_getD, List.getD_eq_getElem?_getD, List.getElem?_append_right (by omega)]
        congr 2; omega
      · rw [if_neg h2, if_neg h1, if_neg (by omega)]

end Go.Proofs.Ytfjmkdjbeoafjaa
