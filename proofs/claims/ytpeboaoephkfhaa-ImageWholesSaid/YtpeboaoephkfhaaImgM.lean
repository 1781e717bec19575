/- Plain: what a boot block reads as; a torn one. No program in sight. -/
import Derived.Test.YtpeboaoephkfhaaImgI
namespace Go.Proofs.Ytpeboaoephkfhaa
open Go.RowKit

/-- What a boot that may be says. -/
structure BK.Ok (b : BK) : Prop where
  may : b.may = true
  a : b.area = 0 ∨ b.area = 1
  e0 : 0 ≤ b.epoch
  e1 : b.epoch ≤ 1099511627776
  s0 : 0 < b.size
  s1 : b.size ≤ 65536

theorem sl_get (x : List Int) (i n j : Nat) : (sl x i n)[j]? = if j < n then x[i + j]? else none := by
  unfold sl
  rw [List.getElem?_take]
  split
  · rw [List.getElem?_drop]
  · rfl

theorem sl_congr {x y : List Int} {i n : Nat} (h : ∀ j, j < n → x[i + j]? = y[i + j]?) : sl x i n = sl y i n := by
  apply List.ext_getElem?
  intro j
  rw [sl_get, sl_get]
  split
  · rename_i hj; exact h j hj
  · rfl

theorem sl_splice {x m : List Int} {o i n : Nat} (h : o + m.length ≤ x.length) (hd : i + n ≤ o ∨ o + m.length ≤ i) : sl (splice x o m) i n = sl x i n :=
  sl_congr fun j hj => by rw [splice_get h, if_neg (by omega)]

theorem sl_set {x : List Int} {p i n : Nat} {v : Int} (hd : i + n ≤ p ∨ p < i) : sl (x.set p v) i n = sl x i n :=
  sl_congr fun j hj => by rw [List.getElem?_set_ne (by omega)]

theorem layN_get (n : Int) {c : List Int} {off k : Nat} (hk : off + k ≤ c.length) : ∀ i, i ≤ k → ∀ j, (layN n c off k i)[j]? = if off + k - i ≤ j ∧ j < off + k then some (n / 2 ^ (8 * (off + k - 1 - j)) % 256) else c[j]?
  | 0, _, j => by rw [if_neg (by omega)]; rfl
  | i + 1, hi, j => by
    rw [layN, List.getElem?_set, layN_len, layN_get n hk i (by omega) j]
    by_cases h1 : off + (k - 1 - i) = j
    · rw [if_pos h1, if_pos (by omega), if_pos (by omega)]
      have e : off + k - 1 - j = i := by omega
      rw [e]
    · rw [if_neg h1]
      by_cases h2 : off + k - i ≤ j ∧ j < off + k
      · rw [if_pos h2, if_pos (by omega)]
      · rw [if_neg h2, if_neg (by omega)]

theorem sl_layN {n : Int} {c : List Int} {off k i m : Nat} (hk : off + k ≤ c.length) (hd : i + m ≤ off ∨ off + k ≤ i) : sl (layN n c off k k) i m = sl c i m :=
  sl_congr fun j hj => by rw [layN_get n hk k (Nat.le_refl _), if_neg (by omega)]

/-- A number's last bytes, the greatest first. -/
def beN (k : Nat) (n : Int) : List Int := (List.range k).map fun i => n / 2 ^ (8 * (k - 1 - i)) % 256
theorem beN_len (k : Nat) (n : Int) : (beN k n).length = k := by simp [beN]
theorem beN_get (k : Nat) (n : Int) (j : Nat) (h : j < k) : (beN k n)[j]? = some (n / 2 ^ (8 * (k - 1 - j)) % 256) := by
  unfold beN; rw [List.getElem?_map, List.getElem?_range h]; rfl

theorem sl_layN_in {n : Int} {c : List Int} {off k : Nat} (hk : off + k ≤ c.length) : sl (layN n c off k k) off k = beN k n := by
  apply List.ext_getElem?
  intro j
  rw [sl_get]
  by_cases hj : j < k
  · rw [if_pos hj, layN_get n hk k (Nat.le_refl _), if_pos (by omega), beN_get k n j hj]
    have e : off + k - 1 - (off + j) = k - 1 - j := by omega
    rw [e]
  · rw [if_neg hj, List.getElem?_eq_none (by rw [beN_len]; omega)]

theorem sl_splice_in {x m : List Int} {o : Nat} (h : o + m.length ≤ x.length) : sl (splice x o m) o m.length = m := by
  apply List.ext_getElem?
  intro j
  rw [sl_get]
  by_cases hj : j < m.length
  · rw [if_pos hj, splice_get h, if_pos (by omega), show o + j - o = j by omega]
  · rw [if_neg hj, List.getElem?_eq_none (by omega)]

theorem beN_u8 (k : Nat) (n : Int) : U8L (beN k n) := by
  intro x hx
  obtain ⟨i, -, rfl⟩ := List.mem_map.1 hx
  omega

theorem num_be (n : Int) : ∀ k, num (beN k n) = n % 256 ^ k
  | 0 => by simp [beN, num]
  | k + 1 => by
    have e : beN (k + 1) n = beN k (n / 256) ++ [n % 256] := by
      unfold beN
      rw [List.range_succ, List.map_append]
      congr 1
      · apply List.map_congr_left
        intro i hi
        have hi := List.mem_range.1 hi
        have e1 : 8 * (k + 1 - 1 - i) = 8 * (k - 1 - i) + 8 := by omega
        rw [e1, Int.pow_add, Int.mul_comm, show (2 : Int) ^ 8 = 256 from rfl, ← Int.ediv_ediv_of_nonneg (by omega)]
      · simp
    rw [e, num_snoc, num_be (n / 256) k, Int.pow_succ]
    have h1 := Int.emod_add_mul_ediv (n / 256) (256 ^ k)
    have hp : (0 : Int) < 256 ^ k := Int.pow_pos (by omega)
    have h2 : n % (256 ^ k * 256) = (n / 256 % 256 ^ k) * 256 + n % 256 := by
      have hm0 := Int.emod_nonneg (n / 256) (Int.ne_of_gt hp)
      have hm1 := Int.emod_lt_of_pos (n / 256) hp
      have hn : n = (n / 256 % 256 ^ k * 256 + n % 256) + (256 ^ k * 256) * (n / 256 / 256 ^ k) := by
        have h3 := Int.emod_add_mul_ediv n 256
        have h4 : 256 ^ k * 256 * (n / 256 / 256 ^ k) = 256 * (256 ^ k * (n / 256 / 256 ^ k)) := by rw [Int.mul_comm (256 ^ k) 256, Int.mul_assoc]
        rw [h4]
        omega
      rw [hn, Int.add_mul_emod_self_left, ← hn]
      apply Int.emod_eq_of_lt <;> omega
    rw [h2]

section
variable {b : BK} {n : Int}
theorem boot_len (hb : b.whole.length = 32) : (bootB b n).length = 64 := by
  unfold bootB
  rw [splice_len (by rw [layN_len, layN_len, List.length_set, layN_len, layN_len, hb, DK.zeros_len]; omega), layN_len, layN_len, List.length_set, layN_len, layN_len, DK.zeros_len]

theorem boot_sl (hb : b.whole.length = 32) (i m : Nat) (h : i + m ≤ 21 ∨ 53 ≤ i) : sl (bootB b n) i m = sl (layN b.size (layN b.epoch ((layN n (layN n DK.zeros 0 8 8) 56 8 8).set 8 b.area) 9 8 8) 17 4 4) i m := by
  unfold bootB
  rw [sl_splice (by rw [layN_len, layN_len, List.length_set, layN_len, layN_len, hb, DK.zeros_len]; omega) (by omega)]

theorem boot_head (hb : b.whole.length = 32) : sl (bootB b n) 0 8 = beN 8 n := by
  rw [boot_sl hb _ _ (by omega), sl_layN (by rw [layN_len, List.length_set, layN_len, layN_len, DK.zeros_len]; omega) (by omega), sl_layN (by rw [List.length_set, layN_len, layN_len, DK.zeros_len]; omega) (by omega), sl_set (by omega),
    sl_layN (by rw [layN_len, DK.zeros_len]; omega) (by omega), sl_layN_in (by rw [DK.zeros_len]; omega)]
theorem boot_tail (hb : b.whole.length = 32) : sl (bootB b n) 56 8 = beN 8 n := by
  rw [boot_sl hb _ _ (by omega), sl_layN (by rw [layN_len, List.length_set, layN_len, layN_len, DK.zeros_len]; omega) (by omega), sl_layN (by rw [List.length_set, layN_len, layN_len, DK.zeros_len]; omega) (by omega), sl_set (by omega),
    sl_layN_in (by rw [layN_len, DK.zeros_len]; omega)]
theorem boot_epoch (hb : b.whole.length = 32) : sl (bootB b n) 9 8 = beN 8 b.epoch := by
  rw [boot_sl hb _ _ (by omega), sl_layN (by rw [layN_len, List.length_set, layN_len, layN_len, DK.zeros_len]; omega) (by omega), sl_layN_in (by rw [List.length_set, layN_len, layN_len, DK.zeros_len]; omega)]
theorem boot_size (hb : b.whole.length = 32) : sl (bootB b n) 17 4 = beN 4 b.size := by
  rw [boot_sl hb _ _ (by omega), sl_layN_in (by rw [layN_len, List.length_set, layN_len, layN_len, DK.zeros_len]; omega)]
theorem boot_whole' (hb : b.whole.length = 32) : sl (bootB b n) 21 32 = b.whole := by
  unfold bootB
  have h := sl_splice_in (x := layN b.size (layN b.epoch ((layN n (layN n DK.zeros 0 8 8) 56 8 8).set 8 b.area) 9 8 8) 17 4 4) (m := b.whole) (o := 21) (by rw [layN_len, layN_len, List.length_set, layN_len, layN_len, hb, DK.zeros_len]; omega)
  rw [hb] at h
  exact h
theorem boot_gap (hb : b.whole.length = 32) : sl (bootB b n) 53 3 = [0, 0, 0] := by
  rw [boot_sl hb _ _ (by omega), sl_layN (by rw [layN_len, List.length_set, layN_len, layN_len, DK.zeros_len]; omega) (by omega), sl_layN (by rw [List.length_set, layN_len, layN_len, DK.zeros_len]; omega) (by omega), sl_set (by omega),
    sl_layN (by rw [layN_len, DK.zeros_len]; omega) (by omega), sl_layN (by rw [DK.zeros_len]; omega) (by omega)]
  rfl
theorem boot_area (hb : b.whole.length = 32) : (bootB b n).getD 8 0 = b.area := by
  have h : sl (bootB b n) 8 1 = [b.area] := by
    rw [boot_sl hb _ _ (by omega), sl_layN (by rw [layN_len, List.length_set, layN_len, layN_len, DK.zeros_len]; omega) (by omega), sl_layN (by rw [List.length_set, layN_len, layN_len, DK.zeros_len]; omega) (by omega)]
    apply List.ext_getElem?
    intro j
    rw [sl_get]
    by_cases hj : j < 1
    · obtain rfl : j = 0 := by omega
      rw [if_pos hj, List.getElem?_set_self (by rw [layN_len, layN_len, DK.zeros_len]; omega)]; rfl
    · rw [if_neg hj, List.getElem?_eq_none (by simp; omega)]
  have h2 := congrArg (fun l => l[0]?) h
  simp only [sl_get] at h2
  rw [List.getD_eq_getElem?_getD]
  simp at h2
  simp [h2]
end

/-- A boot block reads as what was laid into it. -/
theorem readB_boot {b : BK} (hb : b.whole.length = 32) (hr : b.Ok) {n : Int} (h0 : 0 ≤ n) (h1 : n ≤ 1099511627776) : readB (bootB b n) = (b, n) := by
  have e0 : num (sl (bootB b n) 0 8) = n := by rw [boot_head hb, num_be, Int.emod_eq_of_lt h0 (by omega)]
  have e56 : num (sl (bootB b n) 56 8) = n := by rw [boot_tail hb, num_be, Int.emod_eq_of_lt h0 (by omega)]
  have e53 : num (sl (bootB b n) 53 3) = 0 := by rw [boot_gap hb]; rfl
  have es : sayB (bootB b n) = b := by
    unfold sayB
    rw [boot_area hb, boot_epoch hb, boot_size hb, boot_whole' hb, num_be, num_be, Int.emod_eq_of_lt hr.e0 (by have := hr.e1; omega), Int.emod_eq_of_lt (by have := hr.s0; omega) (by have := hr.s1; omega)]
    obtain ⟨a, e, s, w⟩ := b
    have := hr.e1
    simp only at this ⊢
    rw [Int.min_eq_left (by omega)]
  unfold readB
  rw [e0, e56, e53, es, if_neg]
  rintro (h | h | h | h)
  · omega
  · exact h rfl
  · exact h rfl
  · rw [hr.may] at h; cases h

theorem readB_zeros : readB DK.zeros = (BK.zero, 0) := by kernel_rfl

/-! A torn block. -/

theorem lay_get {k : Nat} {z old : Blok} (hk : k ≤ 64) (hz : z.length = 64) (j : Nat) : (DK.lay k z old)[j]? = if j < k then z[j]? else old[j]? := by
  unfold DK.lay
  by_cases h : j < k
  · rw [if_pos h, List.getElem?_append_left (by rw [List.length_take]; omega), List.getElem?_take, if_pos h]
  · rw [if_neg h, List.getElem?_append_right (by rw [List.length_take]; omega), List.length_take, List.getElem?_drop, show k + (j - min k z.length) = j by omega]

theorem lay_64 {z old : Blok} (hz : z.length = 64) (ho : old.length = 64) : DK.lay 64 z old = z := by
  unfold DK.lay
  rw [List.take_of_length_le (by omega), List.drop_of_length_le (by omega), List.append_nil]

theorem tail_byte {x : List Int} (hx : x.length = 64) (hu : U8L x) : num (sl x 56 8) % 256 = x.getD 63 0 := by
  have e : sl x 56 8 = sl x 56 7 ++ [x.getD 63 0] := by
    apply List.ext_getElem?
    intro j
    have hl : (sl x 56 7).length = 7 := sl_len (by omega)
    rw [sl_get]
    by_cases h7 : j < 7
    · rw [if_pos (by omega), List.getElem?_append_left (by omega), sl_get, if_pos h7]
    · rw [List.getElem?_append_right (by omega), hl]
      by_cases h8 : j < 8
      · obtain rfl : j = 7 := by omega
        rw [if_pos h8, List.getD_eq_getElem?_getD, List.getElem?_eq_getElem (by omega)]; rfl
      · rw [if_neg h8, List.getElem?_eq_none (by simp; omega)]
  have hb : 0 ≤ x.getD 63 0 ∧ x.getD 63 0 < 256 := by
    rw [List.getD_eq_getElem?_getD, List.getElem?_eq_getElem (by omega)]
    exact hu _ (List.getElem_mem _)
  rw [e, num_snoc]
  omega

theorem readB_bad {z : List Int} (h : num (sl z 0 8) ≠ num (sl z 56 8)) : readB z = (BK.zero, 0) := if_pos (.inr (.inl h))

/-- A block holds the m-th boot; of none: nothing. -/
structure Has (m : Nat) (z : Blok) (b : BK) : Prop where
  is : (m = 0 ∧ z = DK.zeros ∧ b = BK.zero) ∨ (1 ≤ m ∧ b.WF ∧ b.Ok ∧ z = bootB b m)

theorem ok_area {b : BK} (h : b.Ok) : 0 ≤ b.area ∧ b.area ≤ 1 := by have := h.a; omega

theorem Has.len {m : Nat} {z : Blok} {b : BK} (h : Has m z b) : z.length = 64 := by
  rcases h.is with ⟨-, e, -⟩ | ⟨-, h1, -, e⟩
  · rw [e]; exact DK.zeros_len
  · rw [e]; exact boot_len h1.whole
theorem Has.u8 {m : Nat} {z : Blok} {b : BK} (h : Has m z b) : U8L z := by
  rcases h.is with ⟨-, e, -⟩ | ⟨-, h1, h2, e⟩
  · rw [e]; exact zeros_u8
  · rw [e]; exact bootB_u8 h1.bytes _ (ok_area h2)
theorem Has.wf {m : Nat} {z : Blok} {b : BK} (h : Has m z b) : b.whole.length = 32 := by
  rcases h.is with ⟨-, -, e⟩ | ⟨-, h1, -, -⟩
  · rw [e]; exact zer32_len
  · exact h1.whole
theorem Has.read {m : Nat} {z : Blok} {b : BK} (h : Has m z b) (hm : (m : Int) ≤ 1099511627776) : readB z = (b, (m : Int)) := by
  rcases h.is with ⟨e1, e2, e3⟩ | ⟨-, h1, h2, e⟩
  · rw [e1, e2, e3]; exact readB_zeros
  · rw [e]; exact readB_boot h1.whole h2 (by omega) hm
theorem Has.tail {m : Nat} {z : Blok} {b : BK} (h : Has m z b) (hm : (m : Int) ≤ 1099511627776) : num (sl z 56 8) = m := by
  rcases h.is with ⟨e1, e2, e3⟩ | ⟨-, h1, h2, e⟩
  · rw [e1, e2]; kernel_rfl
  · rw [e, boot_tail h1.whole, num_be, Int.emod_eq_of_lt (by omega) (by omega)]
theorem Has.head {m : Nat} {z : Blok} {b : BK} (h : Has m z b) (hm : (m : Int) ≤ 1099511627776) : num (sl z 0 8) = m := by
  rcases h.is with ⟨e1, e2, e3⟩ | ⟨-, h1, h2, e⟩
  · rw [e1, e2]; kernel_rfl
  · rw [e, boot_head h1.whole, num_be, Int.emod_eq_of_lt (by omega) (by omega)]
theorem Has.zero {m : Nat} {z : Blok} {b : BK} (h : Has m z b) (hm : m < 256) (j : Nat) (hj : j < 7) : z[j]? = some 0 := by
  rcases h.is with ⟨e1, e2, e3⟩ | ⟨-, h1, h2, e⟩
  · rw [e2]; unfold DK.zeros; rw [List.getElem?_replicate, if_pos (by omega)]
  · have h := congrArg (fun l => l[j]?) (boot_head (n := m) h1.whole)
    simp only [sl_get] at h
    rw [if_pos (by omega), Nat.zero_add, beN_get 8 _ j (by omega)] at h
    obtain ⟨q, hq⟩ : ∃ q, q = 8 * (8 - 1 - j) := ⟨_, rfl⟩
    rw [← hq] at h
    have h3 : (256 : Int) ≤ 2 ^ q := by
      have h4 : (2 : Int) ^ q = 2 ^ 8 * 2 ^ (q - 8) := by rw [← Int.pow_add, show 8 + (q - 8) = q by omega]
      have h5 : (0 : Int) < 2 ^ (q - 8) := Int.pow_pos (by omega)
      rw [h4, show (2 : Int) ^ 8 = 256 from rfl]
      omega
    have h6 : (m : Int) / 2 ^ q % 256 = 0 := by rw [Int.ediv_eq_zero_of_lt (by omega) (by omega)]; rfl
    rw [e, h, h6]

/-- A block that is written over another one, up to some byte of it: the old, nothing, or the new. -/
theorem torn {m t : Nat} {z old : Blok} {b c : BK} (hz : Has m z b) (ho : Has t old c) (hm : m < 256) (ht : t < m) {k : Nat} (hk : k ≤ 64) :
    readB (DK.lay k z old) = (b, (m : Int)) ∨ readB (DK.lay k z old) = (c, (t : Int)) ∨ readB (DK.lay k z old) = (BK.zero, 0) := by
  by_cases h7 : k ≤ 7
  · right; left
    have e : DK.lay k z old = old := by
      apply List.ext_getElem?
      intro j
      rw [lay_get hk hz.len]
      split
      · rw [hz.zero hm j (by omega), ho.zero (by omega) j (by omega)]
      · rfl
    rw [e]
    exact ho.read (by omega)
  · by_cases h64 : k = 64
    · left
      rw [h64, lay_64 hz.len ho.len]
      exact hz.read (by omega)
    · right; right
      apply readB_bad
      intro he
      have e1 : sl (DK.lay k z old) 0 8 = sl z 0 8 := sl_congr fun j hj => by rw [lay_get hk hz.len, if_pos (by omega)]
      have hl : (DK.lay k z old).length = 64 := DK.lay_len hk hz.len ho.len
      have h2 := tail_byte hl (lay_u8 hz.u8 ho.u8)
      have h3 := tail_byte ho.len ho.u8
      have e3 : (DK.lay k z old).getD 63 0 = old.getD 63 0 := by
        rw [List.getD_eq_getElem?_getD, List.getD_eq_getElem?_getD, lay_get hk hz.len, if_neg (by omega)]
      rw [ho.tail (by omega), ← e3, ← h2, ← he, e1, hz.head (by omega)] at h3
      omega

end Go.Proofs.Ytpeboaoephkfhaa
