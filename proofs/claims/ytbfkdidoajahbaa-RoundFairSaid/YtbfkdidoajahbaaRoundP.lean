/- The plain model of rounds: draws, orders, turns. No program in sight. -/
import GoSem.Core.Value
import Derived.WalkKit
namespace Go.Proofs.Ytbfkdidoajahbaa.Round

def drawP (n : Int) : Int := IntKind.u64.wrap (IntKind.u64.wrap (n * 6364136223846793005) + 1442695040888963407)

theorem wrap_u64 (x : Int) : IntKind.u64.wrap x = x % 18446744073709551616 := by
  unfold IntKind.wrap; simp [IntKind.bits, IntKind.signed]

theorem drawP_wf (n : Int) : 0 ≤ drawP n ∧ drawP n < 18446744073709551616 := by
  unfold drawP; rw [wrap_u64 (_ + _)]; omega

/-- All below n but me. -/
def others (n me : Nat) : List Int := ((List.range n).filter (· ≠ me)).map Int.ofNat

def swapL (l : List Int) (i j : Nat) : List Int := (l.set i (l.getD j 0)).set j (l.getD i 0)

def jOf (d : Int) (i : Nat) : Nat := (drawP d / 8589934592 % ((i : Int) + 1)).toNat

/-- From place i down to 1. -/
def shuf : Nat → List Int → Int → List Int × Int
  | 0, l, d => (l, d)
  | i + 1, l, d => shuf i (swapL l (i + 1) (jOf d (i + 1))) (drawP d)

def order (n me : Nat) (d : Int) : List Int × Int := shuf ((others n me).length - 1) (others n me) d

def valid (n me : Int) : Prop := 1 ≤ n ∧ n ≤ 9 ∧ 0 ≤ me ∧ me < n

theorem others_succ (n me : Nat) : others (n + 1) me = others n me ++ (if n = me then [] else [(n : Int)]) := by
  unfold others
  rw [List.range_succ, List.filter_append, List.map_append]
  by_cases h : n = me <;> simp [h]

theorem others_len (n me : Nat) : (others n me).length = if me < n then n - 1 else n := by
  induction n with
  | zero => simp [others]
  | succ n ih =>
    rw [others_succ, List.length_append, ih]
    by_cases h : n = me
    · subst h; simp
    · rw [if_neg h]
      by_cases h2 : me < n
      · rw [if_pos h2, if_pos (by omega)]; simp; omega
      · rw [if_neg h2, if_neg (by omega)]; simp

theorem swapL_len (l : List Int) (i j : Nat) : (swapL l i j).length = l.length := by simp [swapL]

theorem jOf_le (d : Int) (i : Nat) : jOf d i ≤ i := by
  unfold jOf
  have h1 := Int.emod_lt_of_pos (drawP d / 8589934592) (show (0 : Int) < (i : Int) + 1 by omega)
  have h2 := Int.emod_nonneg (drawP d / 8589934592) (show (i : Int) + 1 ≠ 0 by omega)
  omega

theorem jOf_cast (d : Int) (i : Nat) : drawP d / 8589934592 % ((i : Int) + 1) = (jOf d i : Int) := by
  unfold jOf
  have h2 := Int.emod_nonneg (drawP d / 8589934592) (show (i : Int) + 1 ≠ 0 by omega)
  omega

theorem shuf_len (i : Nat) : ∀ l d, (shuf i l d).1.length = l.length := by
  induction i with
  | zero => intro l d; rfl
  | succ i ih => intro l d; simp only [shuf]; rw [ih, swapL_len]

theorem order_len {n me : Nat} (h : me < n) (d : Int) : (order n me d).1.length = n - 1 := by
  unfold order; rw [shuf_len, others_len, if_pos h]

theorem shuf_step {i : Nat} (h : 1 ≤ i) (l : List Int) (d : Int) : shuf i l d = shuf (i - 1) (swapL l i (jOf d i)) (drawP d) := by
  obtain ⟨j, rfl⟩ : ∃ j, i = j + 1 := ⟨i - 1, by omega⟩
  rfl

theorem swapL_mem {l : List Int} {i j : Nat} (hi : i < l.length) (hj : j < l.length) : (swapL l i j).Perm l := by
  unfold swapL
  have e1 : l.getD i 0 = l[i] := by simp [List.getD_eq_getElem?_getD, hi]
  have e2 : l.getD j 0 = l[j] := by simp [List.getD_eq_getElem?_getD, hj]
  rw [e1, e2]
  exact List.set_set_perm hi hj

theorem shuf_perm (i : Nat) : ∀ l d, i < l.length → (shuf i l d).1.Perm l := by
  induction i with
  | zero => intro l d _; exact .refl _
  | succ i ih =>
    intro l d h
    simp only [shuf]
    refine (ih _ _ (by rw [swapL_len]; omega)).trans (swapL_mem h ?_)
    have := jOf_le d (i + 1); omega

theorem order_perm (n me : Nat) (d : Int) : (order n me d).1.Perm (others n me) := by
  unfold order
  by_cases h : 0 < (others n me).length
  · exact shuf_perm _ _ _ (by omega)
  · have : others n me = [] := List.eq_nil_of_length_eq_zero (by omega)
    rw [this]; exact .refl _

theorem others_mem {n me : Nat} {x : Int} : x ∈ others n me ↔ 0 ≤ x ∧ x < n ∧ x ≠ me := by
  unfold others
  simp only [List.mem_map, List.mem_filter, List.mem_range]
  constructor
  · rintro ⟨a, ⟨h1, h2⟩, rfl⟩
    have h3 : a ≠ me := by simpa using h2
    refine ⟨by simp, by simpa using h1, ?_⟩
    intro e; apply h3; have : (a : Int) = me := e; omega
  · rintro ⟨h0, h1, h2⟩
    refine ⟨x.toNat, ⟨by omega, ?_⟩, by simp; omega⟩
    simp; omega

theorem others_nodup (n me : Nat) : (others n me).Nodup := by
  unfold others
  refine List.Pairwise.map _ (S := (· ≠ ·)) (fun a b h => ?_) ((List.nodup_range).filter _)
  intro e; apply h; have : (a : Int) = b := e; omega

/-- Whose turn it is; the first number bounds the rounds. -/
def turnP (n me : Nat) : Nat → Int → Nat → Int
  | 0, _, _ => -1
  | f + 1, d, at_ => if at_ < n - 1 then (order n me d).1.getD at_ 0 else turnP n me f (order n me d).2 (at_ - (n - 1))

theorem turnP_fuel (n me : Nat) (hn : 2 ≤ n) : ∀ f d at_, at_ < f → ∀ g, at_ < g → turnP n me f d at_ = turnP n me g d at_ := by
  intro f
  induction f with
  | zero => intro d at_ h; omega
  | succ f ih =>
    intro d at_ h g hg
    obtain ⟨g, rfl⟩ : ∃ m, g = m + 1 := ⟨g - 1, by omega⟩
    simp only [turnP]
    split
    · rfl
    · exact ih _ _ (by omega) _ (by omega)

def turn (n me : Nat) (d : Int) (at_ : Nat) : Int := turnP n me (at_ + 1) d at_

theorem turn_lt {n me at_ : Nat} (d : Int) (h : at_ < n - 1) : turn n me d at_ = (order n me d).1.getD at_ 0 := by
  unfold turn turnP; rw [if_pos h]

theorem turn_ge {n me at_ : Nat} (d : Int) (hn : 2 ≤ n) (h : n - 1 ≤ at_) : turn n me d at_ = turn n me (order n me d).2 (at_ - (n - 1)) := by
  unfold turn
  conv => lhs; unfold turnP
  rw [if_neg (by omega)]
  exact turnP_fuel n me hn _ _ _ (by omega) _ (by omega)

/-- The draw behind so many rounds. -/
def nextN (n me : Nat) : Nat → Int → Int
  | 0, d => d
  | r + 1, d => nextN n me r (order n me d).2

theorem turn_div {n : Nat} (me : Nat) (hn : 2 ≤ n) (at_ : Nat) : ∀ d, turn n me d at_ = (order n me (nextN n me (at_ / (n - 1)) d)).1.getD (at_ % (n - 1)) 0 := by
  induction at_ using Nat.strongRecOn with
  | _ at_ ih =>
    intro d
    by_cases h : at_ < n - 1
    · rw [turn_lt d h, Nat.div_eq_of_lt h, Nat.mod_eq_of_lt h]; rfl
    · rw [turn_ge d hn (by omega), ih _ (by omega)]
      have e1 : at_ / (n - 1) = (at_ - (n - 1)) / (n - 1) + 1 := by rw [Nat.div_eq_sub_div (by omega) (by omega)]
      have e2 : at_ % (n - 1) = (at_ - (n - 1)) % (n - 1) := Nat.mod_eq_sub_mod (by omega)
      rw [e1, e2]; rfl

theorem getD_lt {l : List Int} {i : Nat} (h : i < l.length) : l.getD i 0 = l[i] := by simp [List.getD_eq_getElem?_getD, h]

theorem turn_mem {n me : Nat} (hn : 2 ≤ n) (hme : me < n) (d : Int) (at_ : Nat) : turn n me d at_ ∈ others n me := by
  rw [turn_div me hn]
  have hl := order_len hme (nextN n me (at_ / (n - 1)) d)
  have hk : at_ % (n - 1) < n - 1 := Nat.mod_lt _ (by omega)
  refine (order_perm n me (nextN n me (at_ / (n - 1)) d)).mem_iff.1 ?_
  rw [getD_lt (by omega)]
  exact List.getElem_mem _

theorem turn_inj {n me : Nat} (hn : 2 ≤ n) (hme : me < n) (d : Int) {a b : Nat} (hab : a / (n - 1) = b / (n - 1)) (h : turn n me d a = turn n me d b) : a = b := by
  rw [turn_div me hn, turn_div me hn, hab] at h
  have hl := order_len hme (nextN n me (b / (n - 1)) d)
  have ha : a % (n - 1) < n - 1 := Nat.mod_lt _ (by omega)
  have hb : b % (n - 1) < n - 1 := Nat.mod_lt _ (by omega)
  have hnd : (order n me (nextN n me (b / (n - 1)) d)).1.Nodup := (order_perm n me _).nodup_iff.2 (others_nodup _ _)
  obtain ⟨L, hL⟩ : ∃ L, L = (order n me (nextN n me (b / (n - 1)) d)).1 := ⟨_, rfl⟩
  rw [← hL] at h hl hnd
  rw [getD_lt (by omega), getD_lt (by omega)] at h
  have e : a % (n - 1) = b % (n - 1) := by
    rcases Nat.lt_trichotomy (a % (n - 1)) (b % (n - 1)) with h1 | h1 | h1
    · exact absurd h (List.pairwise_iff_getElem.1 hnd _ _ _ _ h1)
    · exact h1
    · exact absurd h.symm (List.pairwise_iff_getElem.1 hnd _ _ _ _ h1)
  rw [← Nat.div_add_mod a (n - 1), ← Nat.div_add_mod b (n - 1), hab, e]

theorem turn_ago {n me : Nat} (hn : 2 ≤ n) (hme : me < n) (d : Int) {a : Nat} (ha : n - 1 ≤ a) : ∃ b, b / (n - 1) + 1 = a / (n - 1) ∧ turn n me d b = turn n me d a := by
  have hm := turn_mem hn hme d a
  have h1 := (order_perm n me (nextN n me (a / (n - 1) - 1) d)).mem_iff.2 hm
  obtain ⟨j, hj, e⟩ := List.getElem_of_mem h1
  have hl := order_len hme (nextN n me (a / (n - 1) - 1) d)
  have hq : 1 ≤ a / (n - 1) := (Nat.one_le_div_iff (by omega)).2 ha
  have hd : ((n - 1) * (a / (n - 1) - 1) + j) / (n - 1) = a / (n - 1) - 1 := by
    rw [Nat.mul_add_div (by omega), Nat.div_eq_of_lt (show j < n - 1 by omega), Nat.add_zero]
  refine ⟨(n - 1) * (a / (n - 1) - 1) + j, by rw [hd]; omega, ?_⟩
  rw [turn_div me hn, hd, Nat.mul_add_mod, Nat.mod_eq_of_lt (show j < n - 1 by omega), ← e, getD_lt hj]

/-- When it was last somebody's turn; -1: never. -/
def lastOcc (f : Nat → Int) : Nat → Int → Int
  | 0, _ => -1
  | a + 1, x => if f a = x then a else lastOcc f a x

theorem lastOcc_spec (f : Nat → Int) (x : Int) : ∀ a, (lastOcc f a x = -1 ∧ ∀ b, b < a → f b ≠ x) ∨ (∃ b : Nat, lastOcc f a x = b ∧ b < a ∧ f b = x ∧ ∀ c, c < a → f c = x → c ≤ b) := by
  intro a
  induction a with
  | zero => exact .inl ⟨rfl, fun b hb => by omega⟩
  | succ a ih =>
    unfold lastOcc
    by_cases h : f a = x
    · rw [if_pos h]; exact .inr ⟨a, rfl, by omega, h, fun c hc _ => by omega⟩
    · rw [if_neg h]
      rcases ih with ⟨h1, h2⟩ | ⟨b, h1, h2, h3, h4⟩
      · refine .inl ⟨h1, fun b hb => ?_⟩
        by_cases e : b = a
        · rw [e]; exact h
        · exact h2 b (by omega)
      · refine .inr ⟨b, h1, by omega, h3, fun c hc hcx => ?_⟩
        by_cases e : c = a
        · rw [e] at hcx; exact absurd hcx h
        · exact h4 c (by omega) hcx

theorem fair {n me : Nat} (hn : 2 ≤ n) (hme : me < n) (d : Int) (a : Nat) :
    lastOcc (turn n me d) a (turn n me d a) = -1 ∨ (∃ b : Nat, lastOcc (turn n me d) a (turn n me d a) = b ∧ b < a ∧ b / (n - 1) ≠ a / (n - 1) ∧ a - b - 1 ≤ 2 * (n - 1) - 2) := by
  rcases lastOcc_spec (turn n me d) (turn n me d a) a with ⟨h1, _⟩ | ⟨b, h1, h2, h3, h4⟩
  · exact .inl h1
  · refine .inr ⟨b, h1, h2, fun e => ?_, ?_⟩
    · have := turn_inj hn hme d e h3; omega
    · by_cases ha : n - 1 ≤ a
      · obtain ⟨c, hc1, hc2⟩ := turn_ago hn hme d ha
        have hca : c < a := by
          rcases Nat.lt_or_ge c a with h | h
          · exact h
          · have := Nat.div_le_div_right (c := n - 1) h; omega
        have hcb := h4 c hca hc2
        have e1 := Nat.div_add_mod c (n - 1)
        have e2 := Nat.div_add_mod a (n - 1)
        have e3 := Nat.mod_lt a (show 0 < n - 1 by omega)
        rw [← hc1, Nat.mul_add] at e2
        omega
      · omega

theorem mul_back : (6364136223846793005 : Int) * 13877824140714322085 = 1 + 18446744073709551616 * 4787856489426250814 := by simp

theorem back_of (d a b q M : Int) (h : a * b = 1 + M * q) (h0 : 0 ≤ d) (h1 : d < M) : (d * a) % M * b % M = d := by
  rw [Int.mul_emod, Int.emod_emod, ← Int.mul_emod, Int.mul_assoc, h, Int.mul_add, Int.mul_one, ← Int.mul_assoc, Int.mul_comm d M, Int.mul_assoc, Int.add_mul_emod_self_left]
  exact Int.emod_eq_of_lt h0 h1

theorem shift_inj (x y c M : Int) (hx : 0 ≤ x ∧ x < M) (hy : 0 ≤ y ∧ y < M) (h : (x + c) % M = (y + c) % M) : x = y := by
  have e := (Int.emod_add_cancel_right c).1 h
  rwa [Int.emod_eq_of_lt hx.1 hx.2, Int.emod_eq_of_lt hy.1 hy.2] at e

theorem lcg_inj (d o a b c q M : Int) (hM : 0 < M) (hab : a * b = 1 + M * q) (h0 : 0 ≤ d) (h1 : d < M) (g0 : 0 ≤ o) (g1 : o < M) (h : (d * a % M + c) % M = (o * a % M + c) % M) : d = o := by
  have e := shift_inj _ _ _ _ ⟨Int.emod_nonneg (d * a) (by omega), Int.emod_lt_of_pos _ hM⟩ ⟨Int.emod_nonneg (o * a) (by omega), Int.emod_lt_of_pos _ hM⟩ h
  rw [← back_of d a b q M hab h0 h1, ← back_of o a b q M hab g0 g1, e]

theorem drawP_eq (n : Int) : drawP n = (n * 6364136223846793005 % 18446744073709551616 + 1442695040888963407) % 18446744073709551616 := by
  unfold drawP
  rw [wrap_u64 (_ + _), wrap_u64]

theorem drawP_inj {d o : Int} (h0 : 0 ≤ d) (h1 : d < 18446744073709551616) (g0 : 0 ≤ o) (g1 : o < 18446744073709551616) (h : drawP d = drawP o) : d = o :=
  lcg_inj d o 6364136223846793005 13877824140714322085 1442695040888963407 4787856489426250814 18446744073709551616 (by simp) mul_back h0 h1 g0 g1 (by
    have e1 := drawP_eq d
    have e2 := drawP_eq o
    exact e1.symm.trans (h.trans e2))

end Go.Proofs.Ytbfkdidoajahbaa.Round
