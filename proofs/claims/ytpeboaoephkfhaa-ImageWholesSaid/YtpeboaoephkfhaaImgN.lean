/- Plain: a disk of two blocks that is pointed at. No program in sight. -/
import Derived.Test.YtpeboaoephkfhaaImgM
namespace Go.Proofs.Ytpeboaoephkfhaa
open Go.RowKit

/-- A disk of two blocks, all of it flushed. -/
def D2 (x y : Blok) : DK := ⟨[x, y], [], false⟩
theorem D2.wf {x y : Blok} (hx : x.length = 64) (hy : y.length = 64) : (D2 x y).WF :=
  ⟨by simp [D2], fun b hb => by simp [D2] at hb; rcases hb with rfl | rfl <;> assumption, by simp [D2], fun p hp => by simp [D2] at hp, fun p hp => by simp [D2] at hp, fun p hp => by simp [D2] at hp⟩
theorem D2.code (x y : Blok) (q : Int) (h : q = 0 ∨ q = 1) : (D2 x y).code q = 0 := by
  unfold DK.code
  rw [if_neg (by simp [D2]), if_neg (by show ¬ (q < 0 ∨ (2 : Int) ≤ q); omega)]
theorem D2.rd0 (x y : Blok) : (D2 x y).rd 0 = x := by unfold DK.rd; rw [if_pos (D2.code x y 0 (.inl rfl))]; rfl
theorem D2.rd1 (x y : Blok) : (D2 x y).rd 1 = y := by unfold DK.rd; rw [if_pos (D2.code x y 1 (.inr rfl))]; rfl
theorem D2.put0 (x y z : Blok) (hz : z.length = 64) (hx : x.length = 64) : ((D2 x y).write 0 z).flush = D2 z y := by
  rw [write_ok (D2.code x y 0 (.inl rfl))]
  show D2 (DK.lay 64 z x) y = _
  rw [lay_64 hz hx]
theorem D2.put1 (x y z : Blok) (hz : z.length = 64) (hy : y.length = 64) : ((D2 x y).write 1 z).flush = D2 x z := by
  rw [write_ok (D2.code x y 1 (.inr rfl))]
  show D2 x (DK.lay 64 z y) = _
  rw [lay_64 hz hy]

/-- n times a boot was told; the last one; the one ahead of it. -/
def St (n : Nat) (was prev : BK) (x y : Blok) : Prop := if n % 2 = 1 then Has n x was ∧ Has (n - 1) y prev else Has n y was ∧ Has (n - 1) x prev

theorem St.zero : St 0 BK.zero BK.zero DK.zeros DK.zeros := ⟨⟨.inl ⟨rfl, rfl, rfl⟩⟩, ⟨.inl ⟨rfl, rfl, rfl⟩⟩⟩
theorem St.len {n : Nat} {was prev : BK} {x y : Blok} (h : St n was prev x y) : x.length = 64 ∧ y.length = 64 := by
  unfold St at h
  split at h
  · exact ⟨h.1.len, h.2.len⟩
  · exact ⟨h.2.len, h.1.len⟩
theorem St.u8 {n : Nat} {was prev : BK} {x y : Blok} (h : St n was prev x y) : U8L x ∧ U8L y := by
  unfold St at h
  split at h
  · exact ⟨h.1.u8, h.2.u8⟩
  · exact ⟨h.2.u8, h.1.u8⟩
theorem St.wf {n : Nat} {was prev : BK} {x y : Blok} (h : St n was prev x y) : was.whole.length = 32 := by
  unfold St at h
  split at h
  · exact h.1.wf
  · exact h.1.wf

/-- What two blocks that read so start. -/
theorem start_two {x y : Blok} {bx bby : BK} {cx cy : Int} (hx : readB x = (bx, cx)) (hy : readB y = (bby, cy)) : startF (D2 x y) 0 =
    if (better (better (BK.zero, 0) (bx, cx)) (bby, cy)).2 = 0 then (BK.zero, 0, 81) else ((better (better (BK.zero, 0) (bx, cx)) (bby, cy)).1, (better (better (BK.zero, 0) (bx, cx)) (bby, cy)).2, 0) := by
  have e : bestB (D2 x y) 0 2 = better (better (BK.zero, 0) (bx, cx)) (bby, cy) := by
    show better (better (BK.zero, 0) (readB ((D2 x y).rd (0 + (0 : Nat))))) (readB ((D2 x y).rd (0 + (1 : Nat)))) = _
    rw [show (0 : Int) + ((0 : Nat) : Int) = 0 from rfl, show (0 : Int) + ((1 : Nat) : Int) = 1 from rfl, D2.rd0, D2.rd1, hx, hy]
  unfold startF
  rw [if_neg (by show ¬ areaB 2 0 2 = false; decide), if_neg (by simp [D2]), e]

theorem better_up {p : BK × Int} {b : BK} {c : Int} (h : p.2 < c) : better p (b, c) = (b, c) := if_pos h
theorem better_no {p : BK × Int} {b : BK} {c : Int} (h : ¬ p.2 < c) : better p (b, c) = p := if_neg h

theorem better_z (b : BK) : better (BK.zero, 0) (b, 0) = (BK.zero, 0) := if_neg (by show ¬ (0 : Int) < 0; omega)

theorem St.start {n : Nat} {was prev : BK} {x y : Blok} (h : St n was prev x y) (hn : (n : Int) ≤ 1099511627776) : startF (D2 x y) 0 = if n = 0 then (BK.zero, 0, 81) else (was, (n : Int), 0) := by
  unfold St at h
  split at h
  · rename_i hp
    rw [start_two (h.1.read hn) (h.2.read (by omega)), better_up (show ((BK.zero, (0 : Int)) : BK × Int).2 < (n : Int) by show (0 : Int) < n; omega), better_no (show ¬ ((was, (n : Int)) : BK × Int).2 < ((n - 1 : Nat) : Int) by show ¬ (n : Int) < _; omega), if_neg (by show ¬ (n : Int) = 0; omega), if_neg (by omega)]
  · rename_i hp
    by_cases h0 : n = 0
    · subst h0
      have h1 := h.1.read (by omega)
      have h2 := h.2.read (by omega)
      rw [start_two h2 h1]
      show (if (better (better (BK.zero, 0) (prev, (0 : Int))) (was, (0 : Int))).2 = 0 then _ else _) = _
      rw [better_z, better_z, if_pos rfl, if_pos rfl]
    · rw [start_two (h.2.read (by omega)) (h.1.read hn), better_up (show ((BK.zero, (0 : Int)) : BK × Int).2 < ((n - 1 : Nat) : Int) by show (0 : Int) < _; omega), better_up (show ((prev, ((n - 1 : Nat) : Int)) : BK × Int).2 < (n : Int) by show ((n - 1 : Nat) : Int) < _; omega), if_neg (by show ¬ (n : Int) = 0; omega), if_neg h0]

theorem ok_of {b : BK} (hr : -9223372036854775808 ≤ b.area ∧ b.area ≤ 9223372036854775807) (h : b.may = true) : b.Ok := by
  obtain ⟨h1, h2, h3, h4, h5⟩ := may_key hr h
  exact ⟨h, h1, h2, h3, h4, h5⟩

/-- What Point does to it. -/
theorem St.point {n : Nat} {was prev : BK} {x y : Blok} (h : St n was prev x y) (hn : n ≤ 1000) {b : BK} (hb : b.WF) (hr : -9223372036854775808 ≤ b.area ∧ b.area ≤ 9223372036854775807) :
    (b.may = false ∧ pointF (D2 x y) 0 b = (D2 x y, 1)) ∨ (b.may = true ∧ ∃ z, Has (n + 1) z b ∧ pointF (D2 x y) 0 b = (if n % 2 = 0 then D2 z y else D2 x z, 0) ∧ if n % 2 = 0 then St (n + 1) b was z y else St (n + 1) b was x z) := by
  have hs := h.start (by omega)
  have h2 : (startF (D2 x y) 0).2.2 = if n = 0 then 81 else 0 := by rw [hs]; split <;> rfl
  have h1 : (startF (D2 x y) 0).2.1 = n := by
    rw [hs]; split
    · rename_i h0; rw [h0]; rfl
    · rfl
  have h12 : ¬ (startF (D2 x y) 0).2.2 = 1 := by rw [h2]; split <;> omega
  have h13 : ¬ ((startF (D2 x y) 0).2.2 ≠ 0 ∧ (startF (D2 x y) 0).2.2 ≠ 81) := by rw [h2]; split <;> omega
  unfold pointF
  rw [h1]
  cases hm : b.may with
  | false => left; exact ⟨rfl, by rw [if_pos (.inr rfl)]⟩
  | true =>
    right
    have hok := ok_of hr hm
    have hz : Has (n + 1) (bootB b (n + 1)) b := ⟨.inr ⟨by omega, hb, hok, by simp⟩⟩
    refine ⟨rfl, bootB b (n + 1), hz, ?_, ?_⟩
    · rw [if_neg (by simp [h12]), if_neg h13, if_neg (by omega)]
      by_cases hp : n % 2 = 0
      · rw [if_pos hp, show (0 : Int) + 1 - ((n : Int) + 1) % 2 = 0 by omega, D2.put0 _ _ _ hz.len h.len.1]
      · rw [if_neg hp, show (0 : Int) + 1 - ((n : Int) + 1) % 2 = 1 by omega, D2.put1 _ _ _ hz.len h.len.2]
    · unfold St at h
      by_cases hp : n % 2 = 0
      · rw [if_pos hp]
        rw [if_neg (by omega)] at h
        unfold St
        rw [if_pos (by omega), Nat.add_sub_cancel]
        exact ⟨hz, h.1⟩
      · rw [if_neg hp]
        rw [if_pos (by omega)] at h
        unfold St
        rw [if_neg (by omega), Nat.add_sub_cancel]
        exact ⟨hz, h.1⟩

/-- Behind a block that was written up to some byte of it. -/
theorem St.torn {n : Nat} {was prev b : BK} {x y z : Blok} (h : St n was prev x y) (h1 : 1 ≤ n) (hn : n ≤ 100) (hz : Has (n + 1) z b) {k : Nat} (hk : k ≤ 64) :
    ∀ s, s = (if n % 2 = 0 then startF (D2 (DK.lay k z x) y) 0 else startF (D2 x (DK.lay k z y)) 0) → s.2.2 = 0 ∧ (s.1 = was ∧ s.2.1 = n ∨ s.1 = b ∧ s.2.1 = n + 1) := by
  rintro s rfl
  unfold St at h
  by_cases hp : n % 2 = 0
  · rw [if_pos hp]
    rw [if_neg (by omega)] at h
    have hy := h.1.read (by omega)
    rcases Go.Proofs.Ytpeboaoephkfhaa.torn hz h.2 (by omega) (by omega) hk with e | e | e
    · rw [start_two e hy, better_up (show ((BK.zero, (0 : Int)) : BK × Int).2 < ((n + 1 : Nat) : Int) by show (0 : Int) < _; omega), better_no (show ¬ ((b, ((n + 1 : Nat) : Int)) : BK × Int).2 < (n : Int) by show ¬ ((n + 1 : Nat) : Int) < _; omega), if_neg (by show ¬ ((n + 1 : Nat) : Int) = 0; omega)]
      exact ⟨rfl, .inr ⟨rfl, by simp⟩⟩
    · by_cases h0 : n - 1 = 0
      · omega
      · rw [start_two e hy, better_up (show ((BK.zero, (0 : Int)) : BK × Int).2 < ((n - 1 : Nat) : Int) by show (0 : Int) < _; omega), better_up (show ((prev, ((n - 1 : Nat) : Int)) : BK × Int).2 < (n : Int) by show ((n - 1 : Nat) : Int) < _; omega), if_neg (by show ¬ (n : Int) = 0; omega)]
        exact ⟨rfl, .inl ⟨rfl, rfl⟩⟩
    · rw [start_two e hy, better_z, better_up (show ((BK.zero, (0 : Int)) : BK × Int).2 < (n : Int) by show (0 : Int) < _; omega), if_neg (by show ¬ (n : Int) = 0; omega)]
      exact ⟨rfl, .inl ⟨rfl, rfl⟩⟩
  · rw [if_neg hp]
    rw [if_pos (by omega)] at h
    have hx := h.1.read (by omega)
    have hu := better_up (p := (BK.zero, 0)) (b := was) (show ((BK.zero, (0 : Int)) : BK × Int).2 < (n : Int) by show (0 : Int) < _; omega)
    rcases Go.Proofs.Ytpeboaoephkfhaa.torn hz h.2 (by omega) (by omega) hk with e | e | e
    · rw [start_two hx e, hu, better_up (show ((was, (n : Int)) : BK × Int).2 < ((n + 1 : Nat) : Int) by show (n : Int) < _; omega), if_neg (by show ¬ ((n + 1 : Nat) : Int) = 0; omega)]
      exact ⟨rfl, .inr ⟨rfl, by simp⟩⟩
    · rw [start_two hx e, hu, better_no (show ¬ ((was, (n : Int)) : BK × Int).2 < ((n - 1 : Nat) : Int) by show ¬ (n : Int) < _; omega), if_neg (by show ¬ (n : Int) = 0; omega)]
      exact ⟨rfl, .inl ⟨rfl, rfl⟩⟩
    · rw [start_two hx e, hu, better_no (show ¬ ((was, (n : Int)) : BK × Int).2 < (0 : Int) by show ¬ (n : Int) < _; omega), if_neg (by show ¬ (n : Int) = 0; omega)]
      exact ⟨rfl, .inl ⟨rfl, rfl⟩⟩

/-- What a machine starts whose two boot blocks read so. -/
theorem start_gen {d : DK} {at_ : Int} (ha : areaB d.last.length at_ 2 = true) (hd : d.down = false) {bx bby : BK} {cx cy : Int} (hx : readB (d.rd at_) = (bx, cx)) (hy : readB (d.rd (at_ + 1)) = (bby, cy)) : startF d at_ =
    if (better (better (BK.zero, 0) (bx, cx)) (bby, cy)).2 = 0 then (BK.zero, 0, 81) else ((better (better (BK.zero, 0) (bx, cx)) (bby, cy)).1, (better (better (BK.zero, 0) (bx, cx)) (bby, cy)).2, 0) := by
  have e : bestB d at_ 2 = better (better (BK.zero, 0) (bx, cx)) (bby, cy) := by
    show better (better (BK.zero, 0) (readB (d.rd (at_ + ((0 : Nat) : Int))))) (readB (d.rd (at_ + ((1 : Nat) : Int)))) = _
    rw [show at_ + ((0 : Nat) : Int) = at_ by omega, show at_ + ((1 : Nat) : Int) = at_ + 1 by omega, hx, hy]
  unfold startF
  rw [if_neg (by rw [ha]; simp), if_neg (by rw [hd]; simp), e]

theorem num_inj : ∀ (n : Nat) (l m : List Int), l.length = n → m.length = n → U8L l → U8L m → num l = num m → l = m := by
  intro n
  induction n with
  | zero => intro l m hl hm _ _ _; rw [List.eq_nil_of_length_eq_zero hl, List.eq_nil_of_length_eq_zero hm]
  | succ n ih =>
    intro l m hl hm hu hv he
    have e1 : l = l.take n ++ [l.getD n 0] := by
      apply List.ext_getElem?
      intro j
      by_cases hj : j < n
      · rw [List.getElem?_append_left (by simp; omega), List.getElem?_take, if_pos hj]
      · rw [List.getElem?_append_right (by simp; omega), List.length_take]
        by_cases h2 : j = n
        · subst h2; rw [show j - min j l.length = 0 by omega, List.getD_eq_getElem?_getD, List.getElem?_eq_getElem (by omega)]; rfl
        · rw [List.getElem?_eq_none (by omega), List.getElem?_eq_none (by simp; omega)]
    have e2 : m = m.take n ++ [m.getD n 0] := by
      apply List.ext_getElem?
      intro j
      by_cases hj : j < n
      · rw [List.getElem?_append_left (by simp; omega), List.getElem?_take, if_pos hj]
      · rw [List.getElem?_append_right (by simp; omega), List.length_take]
        by_cases h2 : j = n
        · subst h2; rw [show j - min j m.length = 0 by omega, List.getD_eq_getElem?_getD, List.getElem?_eq_getElem (by omega)]; rfl
        · rw [List.getElem?_eq_none (by omega), List.getElem?_eq_none (by simp; omega)]
    have b1 : 0 ≤ l.getD n 0 ∧ l.getD n 0 < 256 := by rw [List.getD_eq_getElem?_getD, List.getElem?_eq_getElem (by omega)]; exact hu _ (List.getElem_mem _)
    have b2 : 0 ≤ m.getD n 0 ∧ m.getD n 0 < 256 := by rw [List.getD_eq_getElem?_getD, List.getElem?_eq_getElem (by omega)]; exact hv _ (List.getElem_mem _)
    have h1 : num l = num (l.take n) * 256 + l.getD n 0 := by conv => lhs; rw [e1, num_snoc]
    have h2 : num m = num (m.take n) * 256 + m.getD n 0 := by conv => lhs; rw [e2, num_snoc]
    rw [h1, h2] at he
    have h3 : l.getD n 0 = m.getD n 0 := by omega
    have h4 : num (l.take n) = num (m.take n) := by omega
    rw [e1, e2, ih _ _ (by simp; omega) (by simp; omega) (hu.take n) (hv.take n) h4, h3]

theorem xor8 (v y : Int) : bits .xor .u8 v y = ((BitVec.ofInt 8 v ^^^ BitVec.ofInt 8 y).toNat : Int) := by
  show IntKind.u8.wrap ((BitVec.ofInt 8 v ^^^ BitVec.ofInt 8 y).toNat : Int) = _
  have := (BitVec.ofInt 8 v ^^^ BitVec.ofInt 8 y).isLt
  exact IntWalk.u8_in _ (by omega)
theorem xor8_rng (v y : Int) : 0 ≤ bits .xor .u8 v y ∧ bits .xor .u8 v y < 256 := by
  rw [xor8]
  have := (BitVec.ofInt 8 v ^^^ BitVec.ofInt 8 y).isLt
  omega
theorem xor8_zero (v : Int) (h : 0 ≤ v ∧ v < 256) : bits .xor .u8 v 0 = v := by
  rw [xor8, show BitVec.ofInt 8 0 = 0#8 from rfl, BitVec.xor_zero, BitVec.toNat_ofInt]
  omega
theorem xor8_ne (v y : Int) (h : 0 ≤ v ∧ v < 256) (hy : 0 ≤ y ∧ y < 256) (h0 : y ≠ 0) : bits .xor .u8 v y ≠ v := by
  rw [xor8]
  intro he
  apply h0
  have e1 : BitVec.ofInt 8 v ^^^ BitVec.ofInt 8 y = BitVec.ofInt 8 v := by
    apply BitVec.eq_of_toNat_eq
    have e0 : (BitVec.ofInt 8 v).toNat = (v % ((2 ^ 8 : Nat) : Int)).toNat := by rw [BitVec.toNat_ofInt]
    rw [e0]
    omega
  have e2 : BitVec.ofInt 8 y = 0#8 := by
    have h3 := congrArg (fun z => BitVec.ofInt 8 v ^^^ z) e1
    simp only [← BitVec.xor_assoc, BitVec.xor_self, BitVec.zero_xor] at h3
    exact h3
  have e3 := congrArg BitVec.toNat e2
  rw [BitVec.toNat_ofInt] at e3
  simp at e3
  omega

/-- The two of 'ImageBoth', behind the second's spoiling. -/
theorem both_start {a b : BK} {x y : Blok} (h : St 2 b a x y) {p : Nat} (hp : p < 8) (v : Int) (hv : v = y.getD p 0) (by_ : Int) (hb : 0 ≤ by_ ∧ by_ < 256) :
    startF ((D2 x y).write 1 (y.set p (bits .xor .u8 v by_))) 0 = if by_ = 0 then (b, 2, 0) else (a, 1, 0) := by
  have h0 := h
  unfold St at h
  rw [if_neg (by omega)] at h
  obtain ⟨hy, hx⟩ := h
  have hyl := hy.len
  have hvr : 0 ≤ v ∧ v < 256 := by rw [hv, List.getD_eq_getElem?_getD, List.getElem?_eq_getElem (by omega)]; exact hy.u8 _ (List.getElem_mem _)
  obtain ⟨c, hc⟩ : ∃ c, c = y.set p (bits .xor .u8 v by_) := ⟨_, rfl⟩
  rw [← hc]
  have hcl : c.length = 64 := by rw [hc, List.length_set]; exact hyl
  have e0 : ((D2 x y).write 1 c) = ⟨[x, y], [(1, c)], false⟩ := by rw [write_ok (D2.code x y 1 (.inr rfl))]; rfl
  rw [e0]
  have r0 : (⟨[x, y], [(1, c)], false⟩ : DK).rd 0 = x := rfl
  have r1 : (⟨[x, y], [(1, c)], false⟩ : DK).rd (0 + 1) = c := rfl
  have hrx : readB x = (a, 1) := hx.read (by decide)
  by_cases hz : by_ = 0
  · rw [if_pos hz]
    have hcy : c = y := by
      rw [hc, hz, xor8_zero v hvr, hv]
      apply List.ext_getElem?
      intro j
      rw [List.getElem?_set]
      split
      · rename_i e; subst e
        rw [if_pos (by omega), List.getD_eq_getElem?_getD, List.getElem?_eq_getElem (by omega)]; rfl
      · rfl
    have hry : readB c = (b, 2) := by rw [hcy]; exact hy.read (by decide)
    rw [start_gen (bx := a) (cx := 1) (bby := b) (cy := 2) (by show areaB 2 0 2 = true; decide) rfl (by rw [r0]; exact hrx) (by rw [r1]; exact hry), better_up (p := (BK.zero, 0)) (b := a) (c := 1) (by show (0 : Int) < 1; omega), better_up (p := (a, 1)) (b := b) (c := 2) (by show (1 : Int) < 2; omega), if_neg (by show ¬ (2 : Int) = 0; omega)]
  · rw [if_neg hz]
    have hry : readB c = (BK.zero, 0) := by
      apply readB_bad
      have t1 : sl c 56 8 = sl y 56 8 := by rw [hc, sl_set (by omega)]
      rw [t1, hy.tail (by decide)]
      intro he
      rw [← hy.head (by decide)] at he
      have hcu : U8L c := by rw [hc]; exact set_u8 hy.u8 p (xor8_rng v by_)
      have e1 := num_inj 8 _ _ (sl_len (by omega)) (sl_len (by omega)) (sl_u8 hcu 0 8) (sl_u8 hy.u8 0 8) he
      have e2 := congrArg (fun l => l[p]?) e1
      simp only [sl_get] at e2
      rw [if_pos hp, if_pos hp, Nat.zero_add, hc, List.getElem?_set_self (by omega), List.getElem?_eq_getElem (by omega)] at e2
      have e3 : bits .xor .u8 v by_ = y[p]'(by omega) := by simpa using e2
      have e4 : v = y[p]'(by omega) := by rw [hv, List.getD_eq_getElem?_getD, List.getElem?_eq_getElem (by omega)]; rfl
      rw [← e4] at e3
      exact xor8_ne v by_ hvr hb hz e3
    rw [start_gen (bx := a) (cx := 1) (bby := BK.zero) (cy := 0) (by show areaB 2 0 2 = true; decide) rfl (by rw [r0]; exact hrx) (by rw [r1]; exact hry), better_up (p := (BK.zero, 0)) (b := a) (c := 1) (by show (0 : Int) < 1; omega), better_no (p := (a, 1)) (b := BK.zero) (c := 0) (by show ¬ (1 : Int) < 0; omega), if_neg (by show ¬ (1 : Int) = 0; omega)]

end Go.Proofs.Ytpeboaoephkfhaa
