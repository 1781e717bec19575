/- The plain model of journals. No program in sight. -/
import Derived.Test.YtfjmkdjbeoafjaaJrnA
import Derived.Test.YtfjmkdjbeoafjaaLaws
namespace Go.Proofs.Ytfjmkdjbeoafjaa
open Go.RowKit

/-- A journal: its blocks' place; its life; how many blocks are used; its records. -/
structure JK where
  from_ : Nat
  blocks : Nat
  life : Int
  used : Nat
  recs : List (List Int)

def lifeStep (m : Int) (b : Blok) : Int := max (max m (life8 b + 1)) (life8 (b.drop 56) + 1)

def openLife (bs : List Blok) : Int := bs.foldl lifeStep 1

/-- A good block's bytes of a record. -/
def pieceB (b : Blok) : List Int := (b.drop 12).take (b.getD 9 0).toNat

def parse : List Blok → Int → List Int → Nat → List (List Int) → Nat → List (List Int) × Nat
  | [], _, _, _, recs, used => (recs, used)
  | b :: t, least, rec, i, recs, used =>
    if goodB b least (decide (0 < rec.length)) = true then
      if b.getD 10 0 = 1 then parse t (life8 b) [] (i + 1) (recs ++ [rec ++ pieceB b]) (i + 1)
      else parse t (life8 b) (rec ++ pieceB b) (i + 1) recs used
    else (recs, used)

/-- The blocks of an area. -/
def DK.area (d : DK) (f n : Nat) : List Blok := (List.range n).map fun i => d.rd ((f + i : Nat) : Int)

def DK.openJ (d : DK) (f n : Nat) : JK :=
  { from_ := f, blocks := n, life := openLife (d.area f n), used := (parse (d.area f n) 0 [] 0 [] 0).2, recs := (parse (d.area f n) 0 [] 0 [] 0).1 }

/-- All bytes of a disk are bytes. -/
def DK.Byt (d : DK) : Prop := (∀ b ∈ d.last, U8L b) ∧ ∀ p ∈ d.fresh, U8L p.2

theorem zeros_u8 : U8L DK.zeros := fun x hx => by rw [List.eq_of_mem_replicate hx]; omega

theorem DK.Byt.get {d : DK} (h : d.Byt) (n : Int) : U8L (d.get n) := by
  unfold DK.get
  cases hm : mget d.fresh n with
  | some b => exact h.2 _ (mget_mem hm)
  | none =>
    show U8L (d.last.getD n.toNat [])
    rw [List.getD_eq_getElem?_getD]
    cases hl : d.last[n.toNat]? with
    | none => exact U8L.nil
    | some b => exact h.1 b (List.mem_of_getElem? hl)

theorem DK.Byt.rd {d : DK} (h : d.Byt) (n : Int) : U8L (d.rd n) := by
  unfold DK.rd; split
  · exact h.get n
  · exact zeros_u8

theorem DK.Byt.new (n : Nat) : (DK.new n).Byt := ⟨fun b hb => by rw [List.eq_of_mem_replicate hb]; exact zeros_u8, fun p hp => by simp [DK.new] at hp⟩

theorem DK.Byt.write {d : DK} (h : d.Byt) (n : Int) {x : Blok} (hx : U8L x) : (d.write n x).Byt := by
  unfold DK.write; split
  · refine ⟨h.1, fun p hp => ?_⟩
    rcases mset_mem hp with hp | rfl
    · exact h.2 p hp
    · exact hx
  · exact h

theorem lay_u8 {k : Nat} {b old : Blok} (hb : U8L b) (ho : U8L old) : U8L (DK.lay k b old) := (hb.take k).append (ho.drop k)

theorem getD_u8 {l : List Blok} (h : ∀ b ∈ l, U8L b) (n : Nat) : U8L (l.getD n []) := by
  rw [List.getD_eq_getElem?_getD]
  cases hl : l[n]? with
  | none => exact U8L.nil
  | some b => exact h b (List.mem_of_getElem? hl)

theorem settleL_u8 (many : Nat → Int) : ∀ (f : List (Int × Blok)) (i : Nat) (l : List Blok), (∀ b ∈ l, U8L b) → (∀ p ∈ f, U8L p.2) → ∀ b ∈ DK.settleL many i f l, U8L b := by
  intro f
  induction f with
  | nil => intro i l h _; exact h
  | cons p t ih =>
    intro i l h hf
    simp only [DK.settleL]
    refine ih _ _ ?_ (fun q hq => hf q (List.mem_cons_of_mem _ hq))
    intro b hb
    rcases List.mem_or_eq_of_mem_set hb with hb | hb
    · exact h b hb
    · rw [hb]; exact lay_u8 (hf p List.mem_cons_self) (getD_u8 h _)

theorem DK.Byt.settle {d : DK} (h : d.Byt) (many : Nat → Int) : (d.settle many).Byt := ⟨settleL_u8 many d.fresh 0 d.last h.1 h.2, fun p hp => by simp [DK.settle] at hp⟩

theorem DK.Byt.flush {d : DK} (h : d.Byt) : d.flush.Byt := by
  unfold DK.flush; split
  · exact h
  · exact h.settle _

theorem DK.Byt.crash {d : DK} (h : d.Byt) (f : List Int) : (d.crash f).Byt := by
  unfold DK.crash; split
  · exact h
  · exact ⟨(h.settle (DK.fate f)).1, (h.settle (DK.fate f)).2⟩

theorem DK.Byt.start {d : DK} (h : d.Byt) : d.start.Byt := ⟨h.1, h.2⟩

theorem area_len (d : DK) (f n : Nat) : (d.area f n).length = n := by simp [DK.area]
theorem area_get (d : DK) (f n i : Nat) (h : i < n) : (d.area f n).getD i [] = d.rd ((f + i : Nat) : Int) := by
  unfold DK.area
  rw [List.getD_eq_getElem?_getD, List.getElem?_map, List.getElem?_range h]; rfl
theorem area_drop (d : DK) (f n i : Nat) (h : i < n) : (d.area f n).drop i = d.rd ((f + i : Nat) : Int) :: (d.area f n).drop (i + 1) := by
  rw [List.drop_eq_getElem_cons (by rw [area_len]; exact h)]
  congr 1
  rw [← area_get d f n i h, List.getD_eq_getElem?_getD, List.getElem?_eq_getElem]; rfl

/-! Bounds. -/

theorem life8_bound (b : List Int) (h : U8L b) : 0 ≤ life8 b ∧ life8 b ≤ 1099511627776 := by
  unfold life8
  have := num_bound (b.take 8).length (b.take 8) rfl (h.take 8)
  split <;> omega

theorem openLife_bound : ∀ (bs : List Blok), (∀ b ∈ bs, U8L b) → ∀ m : Int, 1 ≤ m → m ≤ 1099511627777 →
    1 ≤ bs.foldl lifeStep m ∧ bs.foldl lifeStep m ≤ 1099511627777 := by
  intro bs
  induction bs with
  | nil => intro _ m h1 h2; exact ⟨h1, h2⟩
  | cons b t ih =>
    intro h m h1 h2
    have hb := life8_bound b (h b List.mem_cons_self)
    have hc := life8_bound (b.drop 56) ((h b List.mem_cons_self).drop 56)
    have e : lifeStep m b = max (max m (life8 b + 1)) (life8 (b.drop 56) + 1) := rfl
    rw [List.foldl_cons]
    exact ih (fun x hx => h x (List.mem_cons_of_mem _ hx)) _ (by omega) (by omega)

theorem goodB_cnt {b : Blok} {least : Int} {x : Bool} (hb : U8L b) (h : goodB b least x = true) : 0 < b.getD 9 0 ∧ b.getD 9 0 ≤ 44 ∧ b.getD 8 0 = 0 ∧ (b.getD 10 0 = 1 ∨ (b.getD 10 0 = 0 ∧ b.getD 9 0 = 44)) := by
  unfold goodB sizeB cnt at h
  simp only [Bool.and_eq_true, Bool.or_eq_true, beq_iff_eq, decide_eq_true_eq] at h
  have h8 := hb.getD 8
  have h9 := hb.getD 9
  have h10 := hb.getD 10
  omega

theorem pieceB_len {b : Blok} {least : Int} {x : Bool} (hb : U8L b) (hl : b.length = 64) (h : goodB b least x = true) : (pieceB b).length = (b.getD 9 0).toNat := by
  have := goodB_cnt hb h
  unfold pieceB; rw [List.length_take, List.length_drop]; omega

theorem pieceB_u8 {b : Blok} (hb : U8L b) : U8L (pieceB b) := (hb.drop 12).take _

/-- What is known while an area's blocks are gone through. -/
structure PInv (bs : List Blok) (k : Nat) (rc : List Int) (lst : Int) (recs : List (List Int)) (ud : Nat) : Prop where
  fin : parse (bs.drop k) lst rc k recs ud = parse bs 0 [] 0 [] 0
  nr : recs.length ≤ ud
  nu : ud ≤ k
  nc : rc.length ≤ 44 * k
  small : ∀ r ∈ recs, r.length ≤ 44 * k
  bytes : ∀ r ∈ recs, U8L r
  rcb : U8L rc

theorem PInv.start (bs : List Blok) : PInv bs 0 [] 0 [] 0 := ⟨by rw [List.drop_zero], by simp, by simp, by simp, by simp, by simp, U8L.nil⟩

theorem drop_getD {bs : List Blok} {k : Nat} (hk : k < bs.length) : bs.drop k = bs.getD k [] :: bs.drop (k + 1) := by
  rw [List.drop_eq_getElem_cons hk, List.getD_eq_getElem?_getD, List.getElem?_eq_getElem hk]; rfl

theorem PInv.stop {bs : List Blok} {k : Nat} {rc : List Int} {lst : Int} {recs : List (List Int)} {ud : Nat} (h : PInv bs k rc lst recs ud) (hk : k < bs.length) (hg : goodB (bs.getD k []) lst (decide (0 < rc.length)) = false) : parse bs 0 [] 0 [] 0 = (recs, ud) := by
  rw [← h.fin, drop_getD hk, parse, if_neg (by rw [hg]; exact Bool.false_ne_true)]

theorem PInv.done {bs : List Blok} {rc : List Int} {lst : Int} {recs : List (List Int)} {ud : Nat} {k : Nat} (h : PInv bs k rc lst recs ud) (hk : bs.length ≤ k) : parse bs 0 [] 0 [] 0 = (recs, ud) := by
  rw [← h.fin, List.drop_of_length_le hk, parse]

theorem PInv.more {bs : List Blok} {k : Nat} {rc : List Int} {lst : Int} {recs : List (List Int)} {ud : Nat} (h : PInv bs k rc lst recs ud) (hk : k < bs.length) (hb : U8L (bs.getD k [])) (hl : (bs.getD k []).length = 64)
    (hg : goodB (bs.getD k []) lst (decide (0 < rc.length)) = true) (h1 : (bs.getD k []).getD 10 0 ≠ 1) : PInv bs (k + 1) (rc ++ pieceB (bs.getD k [])) (life8 (bs.getD k [])) recs ud := by
  have hpl := pieceB_len hb hl hg
  have hc := goodB_cnt hb hg
  refine ⟨?_, h.nr, by have := h.nu; omega, by rw [List.length_append]; have := h.nc; omega, fun r hr => by have := h.small r hr; omega, h.bytes, h.rcb.append (pieceB_u8 hb)⟩
  rw [← h.fin, drop_getD hk, parse, if_pos hg, if_neg h1]

theorem PInv.last {bs : List Blok} {k : Nat} {rc : List Int} {lst : Int} {recs : List (List Int)} {ud : Nat} (h : PInv bs k rc lst recs ud) (hk : k < bs.length) (hb : U8L (bs.getD k [])) (hl : (bs.getD k []).length = 64)
    (hg : goodB (bs.getD k []) lst (decide (0 < rc.length)) = true) (h1 : (bs.getD k []).getD 10 0 = 1) : PInv bs (k + 1) [] (life8 (bs.getD k [])) (recs ++ [rc ++ pieceB (bs.getD k [])]) (k + 1) := by
  have hpl := pieceB_len hb hl hg
  have hc := goodB_cnt hb hg
  refine ⟨?_, by rw [List.length_append, List.length_singleton]; have := h.nr; have := h.nu; omega, Nat.le_refl _, by simp, fun r hr => ?_, fun r hr => ?_, U8L.nil⟩
  · rw [← h.fin, drop_getD hk, parse, if_pos hg, if_pos h1]
  · rcases List.mem_append.1 hr with hr | hr
    · have := h.small r hr; omega
    · rw [List.mem_singleton.1 hr, List.length_append]; have := h.nc; omega
  · rcases List.mem_append.1 hr with hr | hr
    · exact h.bytes r hr
    · rw [List.mem_singleton.1 hr]; exact h.rcb.append (pieceB_u8 hb)

end Go.Proofs.Ytfjmkdjbeoafjaa
