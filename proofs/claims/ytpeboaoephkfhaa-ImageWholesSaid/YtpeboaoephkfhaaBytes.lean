/- Bytes: numbers from 0 to 255, in slices; the number that bytes are. Of no program. -/
import Derived.Test.YtpeboaoephkfhaaDiskP
import Derived.Test.YtpeboaoephkfhaaSame
import Derived.ProofKit
import Derived.OpenShut
namespace Go.Proofs.Ytpeboaoephkfhaa
open Go.ChangeShapes Go.WideShapes Go.ChangeAt Go.RowKit

def U8L (l : List Int) : Prop := ∀ x ∈ l, 0 ≤ x ∧ x < 256

theorem U8L.nil : U8L [] := fun _ h => by cases h
theorem U8L.append {l m : List Int} (h : U8L l) (k : U8L m) : U8L (l ++ m) := fun x hx => (List.mem_append.1 hx).elim (h x) (k x)
theorem U8L.take {l : List Int} (h : U8L l) (n : Nat) : U8L (l.take n) := fun x hx => h x (List.mem_of_mem_take hx)
theorem U8L.drop {l : List Int} (h : U8L l) (n : Nat) : U8L (l.drop n) := fun x hx => h x (List.mem_of_mem_drop hx)
theorem U8L.getD {l : List Int} (h : U8L l) (i : Nat) : 0 ≤ l.getD i 0 ∧ l.getD i 0 < 256 := by
  rw [List.getD_eq_getElem?_getD]
  cases hi : l[i]? with
  | none => simp
  | some x => exact h x (List.mem_of_getElem? hi)

/-- A value that is a slice of these bytes, wherever it lies. -/
def BytesAt (w : World) (v : Value) (l : List Int) : Prop :=
  ∃ a cap, v = .slice a l.length cap ∧ l.length ≤ cap ∧ cap ≤ maxLen ∧ (l ≠ [] → ∃ g off, a = some ⟨g, off, none⟩ ∧ g < w.heap.size ∧ ∀ i, i < l.length → w.cell? ⟨g, off + i, none⟩ = some (.int .u8 (l.getD i 0)))

theorem BytesAt.form {w : World} {v : Value} {l : List Int} (h : BytesAt w v l) : ∃ a cap, v = .slice a l.length cap := by
  obtain ⟨a, cap, e, -⟩ := h; exact ⟨a, cap, e⟩

def BytesOut (v : Value) (l : List Int) (S : List Nat) : Prop := ∀ g off len cap, l ≠ [] → v = .slice (some ⟨g, off, none⟩) len cap → g ∉ S

theorem BytesAt.out {w : World} {v : Value} {l : List Int} {S : List Nat} (h : BytesAt w v l) (hS : ∀ k ∈ S, w.heap.size ≤ k) : BytesOut v l S := by
  obtain ⟨a, cap, rfl, -, hm, h⟩ := h
  intro g off len cap' hne e hg
  obtain ⟨g', off', rfl, hlt, -⟩ := h hne
  cases e
  have := hS g hg
  omega

theorem BytesAt.upd {S : List Nat} {w w' : World} {v : Value} {l : List Int} (h : BytesAt w v l) (hu : Upd S w w') (hS : BytesOut v l S) : BytesAt w' v l := by
  obtain ⟨a, cap, rfl, hc, hm, h⟩ := h
  refine ⟨a, cap, rfl, hc, hm, fun hne => ?_⟩
  obtain ⟨g, off, rfl, hg, hcl⟩ := h hne
  refine ⟨g, off, rfl, Nat.lt_of_lt_of_le hg hu.size, fun i hi => ?_⟩
  rw [World.cell?_of_block (a := ⟨g, off + i, none⟩) (hu.block g hg (hS g off _ _ hne rfl))]
  exact hcl i hi

theorem BytesAt.upd0 {w w' : World} {v : Value} {l : List Int} (h : BytesAt w v l) (hu : Upd [] w w') : BytesAt w' v l := h.upd hu (by intro _ _ _ _ _ _; simp)

theorem BytesAt.of_own {w : World} {base : Nat} {v : Value} {l : List Int} {n : Nat} (h : w.ownsRow base 5 1 v n (l.map (Value.int .u8))) (hl : l.length = n) : BytesAt w v l := by
  subst hl
  rcases h.2 with ⟨rfl, hn⟩ | ⟨g, cap, cur, rfl, hb, hg, hnc, hcm, hcs, htk⟩
  · exact ⟨none, 0, by rw [hn], by omega, by unfold maxLen; omega, fun hne => absurd (List.eq_nil_of_length_eq_zero hn) hne⟩
  · refine ⟨_, _, rfl, by omega, by omega, fun _ => ⟨g, 0, rfl, Blk.lt hg, fun i hi => ?_⟩⟩
    rw [Nat.zero_add]
    refine Blk.cell hg ?_
    rw [Nat.mul_one] at htk
    have h1 : (cur.toList.take l.length)[i]? = some (.int .u8 (l.getD i 0)) := by
      rw [htk]; simp [List.getElem?_map, List.getD_eq_getElem?_getD]; rw [List.getElem?_eq_getElem hi]; simp
    rw [List.getElem?_take, if_pos hi] at h1
    simpa using h1

theorem BytesAt.of_blk {w : World} {g off : Nat} {T : TypeId} {m : List Int} (h : Blk w g (U8 m) T) (n cap : Nat) (hn : off + n ≤ m.length) (hc : n ≤ cap) (hm : cap ≤ maxLen) : BytesAt w (.slice (some ⟨g, off, none⟩) n cap) ((m.drop off).take n) := by
  have hl : ((m.drop off).take n).length = n := by simp; omega
  refine ⟨_, _, by rw [hl], by omega, hm, fun _ => ⟨g, off, rfl, h.lt, fun i hi => ?_⟩⟩
  rw [hl] at hi
  rw [h.cell (U8_get m (off + i) (by omega))]
  congr 2
  rw [List.getD_eq_getElem?_getD, List.getD_eq_getElem?_getD, List.getElem?_take, if_pos hi, List.getElem?_drop]

/-- The number that bytes are. -/
def num (l : List Int) : Int := l.foldl (fun n x => n * 256 + x) 0

theorem num_snoc (l : List Int) (x : Int) : num (l ++ [x]) = num l * 256 + x := by simp [num]

theorem num_bound : ∀ (n : Nat) (l : List Int), l.length = n → U8L l → 0 ≤ num l ∧ num l < 256 ^ n := by
  intro n
  induction n with
  | zero => intro l hl _; rw [List.eq_nil_of_length_eq_zero hl]; simp [num]
  | succ n ih =>
    intro l hl h
    obtain ⟨m, x, rfl⟩ : ∃ m x, l = m ++ [x] := ⟨l.dropLast, l.getLast (by intro e; simp [e] at hl), (List.dropLast_concat_getLast _).symm⟩
    have := ih m (by simpa using hl) (fun y hy => h y (by simp [hy]))
    have hx := h x (by simp)
    rw [num_snoc, Int.pow_succ]
    omega

theorem pow_le7 : ∀ k < 8, (256 : Int) ^ k ≤ 72057594037927936 := by decide

theorem num_lt7 (l : List Int) (h : U8L l) (k : Nat) (hk : k < 8) (hl : k ≤ l.length) : 0 ≤ num (l.take k) ∧ num (l.take k) < 72057594037927936 := by
  have h1 := num_bound k (l.take k) (by simp; omega) (h.take k)
  have h2 := pow_le7 k hk
  omega

theorem num_take (l : List Int) (k : Nat) (h : k < l.length) : num (l.take (k + 1)) = num (l.take k) * 256 + l.getD k 0 := by
  rw [List.take_succ_eq_append_getElem h, num_snoc, List.getD_eq_getElem?_getD, List.getElem?_eq_getElem h]; rfl

theorem or_byte (n x : Nat) (hx : x < 256) : (n * 256) ||| x = n * 256 + x := by
  have := Nat.shiftLeft_add_eq_or_of_lt (i := 8) (b := x) (by omega) n
  rw [Nat.shiftLeft_eq] at this
  exact this.symm

/-- 'n << 8 | x' of a byte. -/
theorem or_u64 (n x : Int) (h0 : 0 ≤ n) (h1 : n * 256 + 255 < 2 ^ 64) (hx0 : 0 ≤ x) (hx : x < 256) : IntKind.u64.wrap ((BitVec.ofInt 64 (n * 256) ||| BitVec.ofInt 64 x).toNat : Nat) = n * 256 + x := by
  obtain ⟨n, rfl⟩ := Int.eq_ofNat_of_zero_le h0
  obtain ⟨x, rfl⟩ := Int.eq_ofNat_of_zero_le hx0
  have e1 : (BitVec.ofInt 64 ((n : Int) * 256)).toNat = n * 256 := by rw [BitVec.toNat_ofInt]; omega
  have e2 : (BitVec.ofInt 64 (x : Int)).toNat = x := by rw [BitVec.toNat_ofInt]; omega
  rw [BitVec.toNat_or, e1, e2, or_byte _ _ (by omega)]
  simp [IntKind.wrap, IntKind.bits, IntKind.signed]
  omega

theorem or_i64 (n x : Int) (h0 : 0 ≤ n) (h1 : n < 256) (hx0 : 0 ≤ x) (hx : x < 256) : IntKind.i64.wrap ((BitVec.ofInt 64 (n * 256) ||| BitVec.ofInt 64 x).toNat : Nat) = n * 256 + x := by
  obtain ⟨n, rfl⟩ := Int.eq_ofNat_of_zero_le h0
  obtain ⟨x, rfl⟩ := Int.eq_ofNat_of_zero_le hx0
  have e1 : (BitVec.ofInt 64 ((n : Int) * 256)).toNat = n * 256 := by rw [BitVec.toNat_ofInt]; omega
  have e2 : (BitVec.ofInt 64 (x : Int)).toNat = x := by rw [BitVec.toNat_ofInt]; omega
  rw [BitVec.toNat_or, e1, e2, or_byte _ _ (by omega)]
  simp [IntKind.wrap, IntKind.bits, IntKind.signed]
  omega

end Go.Proofs.Ytpeboaoephkfhaa
