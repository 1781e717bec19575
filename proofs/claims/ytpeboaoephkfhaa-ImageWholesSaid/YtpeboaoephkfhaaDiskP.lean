/- The plain model of disks. No program in sight. -/
import Derived.Test.YtpeboaoephkfhaaOps
namespace Go.Proofs.Ytpeboaoephkfhaa
open Go.RowKit

abbrev Blok := List Int

/-- Bytes as cells. -/
def U8 (l : List Int) : Array Value := (l.map (Value.int .u8)).toArray

theorem U8_size (l : List Int) : (U8 l).size = l.length := by simp [U8]
theorem U8_toList (l : List Int) : (U8 l).toList = l.map (Value.int .u8) := by simp [U8]
theorem U8_one (l : List Int) : ∀ v ∈ (U8 l).toList, v.oneCell' = true := by
  intro v hv; rw [U8_toList] at hv; obtain ⟨x, _, rfl⟩ := List.mem_map.1 hv; rfl
theorem U8_get (l : List Int) (i : Nat) (h : i < l.length) : (U8 l)[i]? = some (.int .u8 (l.getD i 0)) := by
  unfold U8; simp [List.getElem?_map, List.getD_eq_getElem?_getD, List.getElem?_eq_getElem h]
theorem U8_extract (l : List Int) (i j : Nat) : (U8 l).extract i j = U8 ((l.drop i).take (j - i)) := by
  unfold U8
  apply Array.ext'
  rw [Array.toList_extract, List.extract_eq_take_drop]
  simp [List.map_take, List.map_drop]
theorem U8_splice (l : List Int) (o : Nat) (m : List Int) : (splice (U8 l).toList o (U8 m).toList).toArray = U8 (splice l o m) := by
  rw [U8_toList, U8_toList, ← splice_map]; rfl
theorem U8_inj {l m : List Int} (h : U8 l = U8 m) : l = m := by
  have h2 : (U8 l).toList = (U8 m).toList := by rw [h]
  rw [U8_toList, U8_toList] at h2
  have hinj : ∀ a b : Int, Value.int .u8 a = Value.int .u8 b → a = b := fun a b e => by injection e
  exact (List.map_inj_right (fun a b e => hinj a b e)).1 h2

/-- A disk: its blocks as they last; those that are not flushed, in order; whether it is down. -/
structure DK where
  last : List Blok
  fresh : List (Int × Blok)
  down : Bool

namespace DK
/-- What is wrong with a block. -/
def code (d : DK) (n : Int) : Int := if d.down = true then 60 else if n < 0 ∨ (d.last.length : Int) ≤ n then 61 else 0

def zeros : Blok := List.replicate 64 0

def new (n : Nat) : DK := { last := List.replicate n zeros, fresh := [], down := false }

def get (d : DK) (n : Int) : Blok := (mget d.fresh n).getD (d.last.getD n.toNat [])

def put (d : DK) (n : Int) (b : Blok) : DK := { d with fresh := mset d.fresh n b }

def write (d : DK) (n : Int) (b : Blok) : DK := if d.code n = 0 then d.put n b else d

def kOf (m : Int) : Nat := (min (max m 0) 64).toNat

def lay (k : Nat) (b old : Blok) : Blok := b.take k ++ old.drop k

def settleL (many : Nat → Int) : Nat → List (Int × Blok) → List Blok → List Blok
  | _, [], l => l
  | i, p :: t, l => settleL many (i + 1) t (l.set p.1.toNat (lay (kOf (many i)) p.2 (l.getD p.1.toNat [])))

def settle (d : DK) (many : Nat → Int) : DK := { last := settleL many 0 d.fresh d.last, fresh := [], down := d.down }

def flush (d : DK) : DK := if d.down = true then d else d.settle fun _ => 64

def fate (f : List Int) (i : Nat) : Int := if i < f.length then f.getD i 0 else 0

def crash (d : DK) (f : List Int) : DK := if d.down = true then d else { d.settle (fate f) with down := true }

def start (d : DK) : DK := { d with down := false }

def dirty (d : DK) : List Int := d.fresh.map (·.1)

structure WF (d : DK) : Prop where
  many : d.last.length ≤ 4096
  last : ∀ b ∈ d.last, b.length = 64
  keys : (d.fresh.map (·.1)).Nodup
  lo : ∀ p ∈ d.fresh, 0 ≤ p.1
  hi : ∀ p ∈ d.fresh, p.1 < d.last.length
  size : ∀ p ∈ d.fresh, p.2.length = 64

theorem zeros_len : zeros.length = 64 := by simp [zeros]

theorem kOf_le (m : Int) : kOf m ≤ 64 := by unfold kOf; omega

theorem lay_len {k : Nat} {b old : Blok} (hk : k ≤ 64) (hb : b.length = 64) (ho : old.length = 64) : (lay k b old).length = 64 := by
  unfold lay; simp; omega

theorem settleL_len (many : Nat → Int) : ∀ (f : List (Int × Blok)) (i : Nat) (l : List Blok), (settleL many i f l).length = l.length := by
  intro f
  induction f with
  | nil => intro i l; rfl
  | cons p t ih => intro i l; simp only [settleL]; rw [ih, List.length_set]

theorem getD_mem {l : List Blok} {n : Nat} (h : n < l.length) : l.getD n [] ∈ l := by
  rw [List.getD_eq_getElem?_getD, List.getElem?_eq_getElem h]; exact List.getElem_mem h

theorem settleL_wf (many : Nat → Int) : ∀ (f : List (Int × Blok)) (i : Nat) (l : List Blok), (∀ b ∈ l, b.length = 64) → (∀ p ∈ f, p.2.length = 64) → (∀ p ∈ f, 0 ≤ p.1 ∧ p.1 < l.length) → ∀ b ∈ settleL many i f l, b.length = 64 := by
  intro f
  induction f with
  | nil => intro i l h _ _; exact h
  | cons p t ih =>
    intro i l h hf hr
    simp only [settleL]
    have hp := hr p List.mem_cons_self
    refine ih _ _ ?_ (fun q hq => hf q (List.mem_cons_of_mem _ hq)) (fun q hq => by rw [List.length_set]; exact hr q (List.mem_cons_of_mem _ hq))
    intro b hb
    rcases List.mem_or_eq_of_mem_set hb with hb | hb
    · exact h b hb
    · rw [hb]; exact lay_len (kOf_le _) (hf p List.mem_cons_self) (h _ (getD_mem (by omega)))

theorem WF.new {n : Nat} (h : n ≤ 4096) : (DK.new n).WF :=
  ⟨by simp [DK.new, h], fun b hb => by rw [List.eq_of_mem_replicate hb]; exact zeros_len, List.nodup_nil, fun _ h => by simp [DK.new] at h, fun _ h => by simp [DK.new] at h, fun _ h => by simp [DK.new] at h⟩

theorem code_zero {d : DK} {n : Int} (h : d.code n = 0) : d.down = false ∧ 0 ≤ n ∧ n < d.last.length := by
  unfold code at h
  split at h
  · cases h
  · rename_i h1
    split at h
    · cases h
    · rename_i h2
      exact ⟨by simpa using h1, by omega, by omega⟩

theorem WF.put {d : DK} (h : d.WF) {n : Int} {b : Blok} (h0 : 0 ≤ n) (h1 : n < d.last.length) (hb : b.length = 64) : (d.put n b).WF := by
  have hm : ∀ p ∈ mset d.fresh n b, p ∈ d.fresh ∨ p = (n, b) := fun p hp => mset_mem hp
  refine ⟨h.many, h.last, ?_, fun p hp => ?_, fun p hp => ?_, fun p hp => ?_⟩
  · show ((mset d.fresh n b).map (·.1)).Nodup
    rw [mset_keys]
    split
    · exact h.keys
    · rename_i hn
      rw [List.nodup_append]
      refine ⟨h.keys, by simp, fun x hx y hy => ?_⟩
      have : y = n := by simpa using hy
      intro e; apply hn; rw [← this, ← e]; exact hx
  · rcases hm p hp with hp | rfl
    · exact h.lo p hp
    · exact h0
  · rcases hm p hp with hp | rfl
    · exact h.hi p hp
    · exact h1
  · rcases hm p hp with hp | rfl
    · exact h.size p hp
    · exact hb

theorem WF.write {d : DK} (h : d.WF) {n : Int} {b : Blok} (hb : b.length = 64) : (d.write n b).WF := by
  unfold DK.write
  split
  · rename_i hc; obtain ⟨_, h0, h1⟩ := code_zero hc; exact h.put h0 h1 hb
  · exact h

theorem WF.settle {d : DK} (h : d.WF) (many : Nat → Int) : (d.settle many).WF :=
  ⟨by show (settleL _ _ _ _).length ≤ _; rw [settleL_len]; exact h.many, settleL_wf many d.fresh 0 d.last h.last h.size (fun p hp => ⟨h.lo p hp, h.hi p hp⟩), List.nodup_nil,
    fun _ h => by simp [DK.settle] at h, fun _ h => by simp [DK.settle] at h, fun _ h => by simp [DK.settle] at h⟩

theorem WF.flush {d : DK} (h : d.WF) : d.flush.WF := by
  unfold DK.flush; split
  · exact h
  · exact h.settle _

theorem WF.setDown {d : DK} (h : d.WF) (x : Bool) : ({ d with down := x } : DK).WF := ⟨h.many, h.last, h.keys, h.lo, h.hi, h.size⟩

theorem WF.crash {d : DK} (h : d.WF) (f : List Int) : (d.crash f).WF := by
  unfold DK.crash; split
  · exact h
  · exact (h.settle _).setDown true

theorem WF.start {d : DK} (h : d.WF) : d.start.WF := h.setDown false

theorem nodup_len : ∀ (N : Nat) (l : List Int), l.Nodup → (∀ x ∈ l, 0 ≤ x ∧ x < N) → l.length ≤ N := by
  intro N
  induction N with
  | zero =>
    intro l _ h
    cases l with
    | nil => simp
    | cons x t => have := h x List.mem_cons_self; omega
  | succ N ih =>
    intro l hn h
    have h1 := ih (l.erase (N : Int)) (hn.erase _) (fun x hx => by
      have h2 := h x (List.mem_of_mem_erase hx)
      have h3 : x ≠ (N : Int) := (hn.mem_erase_iff.1 hx).1
      omega)
    rw [List.length_erase] at h1
    split at h1 <;> omega

theorem WF.len {d : DK} (h : d.WF) : d.fresh.length ≤ d.last.length := by
  have := nodup_len d.last.length (d.fresh.map (·.1)) h.keys (fun x hx => by
    obtain ⟨p, hp, rfl⟩ := List.mem_map.1 hx
    exact ⟨h.lo p hp, h.hi p hp⟩)
  simpa using this

theorem get_len {d : DK} (h : d.WF) {n : Int} (h0 : 0 ≤ n) (h1 : n < d.last.length) : (d.get n).length = 64 := by
  unfold get
  cases hm : mget d.fresh n with
  | some b => exact h.size _ (mget_mem hm)
  | none => exact h.last _ (getD_mem (by omega))

end DK

/-! Blocks laid one behind the other. -/

theorem flatten_len {l : List Blok} (h : ∀ b ∈ l, b.length = 64) : l.flatten.length = 64 * l.length := by
  induction l with
  | nil => rfl
  | cons b t ih =>
    rw [List.flatten_cons, List.length_append, ih (fun x hx => h x (List.mem_cons_of_mem _ hx)), h b List.mem_cons_self, List.length_cons]; omega

theorem flatten_cut {l : List Blok} (h : ∀ b ∈ l, b.length = 64) : ∀ {n : Nat}, n < l.length → (l.flatten.drop (64 * n)).take 64 = l.getD n [] := by
  induction l with
  | nil => intro n hn; simp at hn
  | cons b t ih =>
    intro n hn
    have hb := h b List.mem_cons_self
    rw [List.flatten_cons]
    rcases n with _ | n
    · rw [Nat.mul_zero, List.drop_zero, List.take_append_of_le_length (by omega), List.take_of_length_le (by omega)]; rfl
    · rw [List.drop_append, List.drop_of_length_le (by omega), List.nil_append, hb, show 64 * (n + 1) - 64 = 64 * n by omega, ih (fun x hx => h x (List.mem_cons_of_mem _ hx)) (by simpa using hn)]
      rfl

theorem flatten_set {l : List Blok} (h : ∀ b ∈ l, b.length = 64) : ∀ {n : Nat} {k : Nat} {b : Blok}, n < l.length → k ≤ b.length → b.length = 64 →
    splice l.flatten (64 * n) (b.take k) = (l.set n (DK.lay k b (l.getD n []))).flatten := by
  induction l with
  | nil => intro n k b hn; simp at hn
  | cons c t ih =>
    intro n k b hn hk hb
    have hc := h c List.mem_cons_self
    rcases n with _ | n
    · rw [Nat.mul_zero, List.set_cons_zero, List.flatten_cons, List.flatten_cons]
      unfold splice DK.lay
      rw [List.take_zero, List.nil_append, List.length_take, Nat.min_eq_left hk, Nat.zero_add, List.drop_append_of_le_length (by omega)]
      simp
    · rw [List.set_cons_succ, List.flatten_cons, List.flatten_cons, List.getD_cons_succ, ← ih (fun x hx => h x (List.mem_cons_of_mem _ hx)) (by simpa using hn) hk hb]
      unfold splice
      have e1 : (c ++ t.flatten).take (64 * (n + 1)) = c ++ t.flatten.take (64 * n) := by
        rw [List.take_append, List.take_of_length_le (by omega), hc, show 64 * (n + 1) - 64 = 64 * n by omega]
      have e2 : ∀ x, (c ++ t.flatten).drop (64 * (n + 1) + x) = t.flatten.drop (64 * n + x) := by
        intro x
        rw [List.drop_append, List.drop_of_length_le (by omega), List.nil_append, hc, show 64 * (n + 1) + x - 64 = 64 * n + x by omega]
      rw [e1, e2]; simp

theorem flatten_zeros (n : Nat) : (List.replicate n DK.zeros).flatten = List.replicate (n * 64) (0 : Int) := by
  unfold DK.zeros
  rw [List.flatten_replicate_replicate]

end Go.Proofs.Ytpeboaoephkfhaa
