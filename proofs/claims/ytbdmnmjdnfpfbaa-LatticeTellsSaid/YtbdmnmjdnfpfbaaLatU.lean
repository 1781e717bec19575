/- Plain laws of lists of facts: they rise, none is there twice. No program in sight. -/
import Derived.Test.YtbdmnmjdnfpfbaaLatT
namespace Go.Proofs.Ytbdmnmjdnfpfbaa
open Go.RowKit

theorem less_iff (a b : FK) : a.less b = true ↔ a.epoch < b.epoch ∨ (a.epoch = b.epoch ∧ (a.kind < b.kind ∨ (a.kind = b.kind ∧ a.node < b.node))) := by unfold FK.less; simp

theorem less_trans {a b c : FK} (h : a.less b = true) (k : b.less c = true) : a.less c = true := by rw [less_iff] at *; omega
theorem less_irrefl (a : FK) : a.less a = false := by
  cases h : a.less a with
  | false => rfl
  | true => rw [less_iff] at h; omega

/-- The same Kind, Epoch and Node. -/
def FK.like (a b : FK) : Prop := a.kind = b.kind ∧ a.epoch = b.epoch ∧ a.node = b.node

theorem less_total {a b : FK} (h : a.less b = false) (hk : ¬ a.like b) : b.less a = true := by
  have h' : ¬ (a.less b = true) := by rw [h]; simp
  rw [less_iff] at h' ⊢
  unfold FK.like at hk
  omega

theorem hasL_iff {L : List FK} {k e n : Int} : hasL L k e n = true ↔ ∃ f ∈ L, f.kind = k ∧ f.epoch = e ∧ f.node = n := by
  unfold hasL allL FK.is
  simp only [List.any_eq_true, List.mem_filter, Bool.and_eq_true, decide_eq_true_eq]
  constructor
  · rintro ⟨f, ⟨h1, h2, h3⟩, h4⟩; exact ⟨f, h1, h2, h3, h4⟩
  · rintro ⟨f, h1, h2, h3, h4⟩; exact ⟨f, ⟨h1, h2, h3⟩, h4⟩

theorem hasL_of_mem {L : List FK} {f : FK} (h : f ∈ L) : hasL L f.kind f.epoch f.node = true := hasL_iff.2 ⟨f, h, rfl, rfl, rfl⟩

/-- All may be, and they rise. -/
structure Good (nodes : Int) (L : List FK) : Prop where
  ok : ∀ f ∈ L, f.ok nodes = true
  sorted : L.Pairwise (fun a b => a.less b = true)

theorem Good.nil (nodes : Int) : Good nodes [] := ⟨by simp, List.Pairwise.nil⟩

theorem takeWhile_dropWhile_len (p : FK → Bool) (L : List FK) : L.take (L.takeWhile p).length = L.takeWhile p ∧ L.drop (L.takeWhile p).length = L.dropWhile p := by
  have h := List.takeWhile_append_dropWhile (p := p) (l := L)
  constructor
  · conv => lhs; arg 2; rw [← h]
    rw [List.take_left']; rfl
  · conv => lhs; arg 2; rw [← h]
    rw [List.drop_left']; rfl

theorem insL_eq (L : List FK) (f : FK) : insL L f = L.takeWhile (fun x => x.less f) ++ f :: L.dropWhile (fun x => x.less f) := by
  unfold insL placeL
  rw [(takeWhile_dropWhile_len _ L).1, (takeWhile_dropWhile_len _ L).2]

theorem mem_insL {L : List FK} {f x : FK} : x ∈ insL L f ↔ x = f ∨ x ∈ L := by
  rw [insL_eq]
  have h := List.takeWhile_append_dropWhile (p := fun x : FK => x.less f) (l := L)
  constructor
  · intro hx
    rcases List.mem_append.1 hx with h1 | h1
    · exact .inr (by rw [← h]; exact List.mem_append_left _ h1)
    · rcases List.mem_cons.1 h1 with h2 | h2
      · exact .inl h2
      · exact .inr (by rw [← h]; exact List.mem_append_right _ h2)
  · rintro (rfl | hx)
    · exact List.mem_append_right _ List.mem_cons_self
    · rw [← h] at hx
      rcases List.mem_append.1 hx with h1 | h1
      · exact List.mem_append_left _ h1
      · exact List.mem_append_right _ (List.mem_cons_of_mem _ h1)

theorem insL_len (L : List FK) (f : FK) : (insL L f).length = L.length + 1 := by
  rw [insL_eq, List.length_append, List.length_cons]
  have h := congrArg List.length (List.takeWhile_append_dropWhile (p := fun x : FK => x.less f) (l := L))
  rw [List.length_append] at h
  omega

theorem takeWhile_all_true (p : FK → Bool) : ∀ (L : List FK), ∀ x ∈ L.takeWhile p, p x = true
  | [], x, h => by simp at h
  | y :: L, x, h => by
    rw [List.takeWhile_cons] at h
    split at h
    · rcases List.mem_cons.1 h with rfl | h
      · assumption
      · exact takeWhile_all_true p L x h
    · simp at h

theorem dropWhile_head (p : FK → Bool) : ∀ (L : List FK), L.dropWhile p = [] ∨ ∃ y t, L.dropWhile p = y :: t ∧ p y = false
  | [] => .inl rfl
  | y :: L => by
    rw [List.dropWhile_cons]
    split
    · exact dropWhile_head p L
    · rename_i h; exact .inr ⟨y, L, rfl, by simpa using h⟩

theorem dropWhile_mem (p : FK → Bool) (L : List FK) {x : FK} (h : x ∈ L.dropWhile p) : x ∈ L := by
  rw [← List.takeWhile_append_dropWhile (p := p) (l := L)]; exact List.mem_append_right _ h
theorem takeWhile_mem (p : FK → Bool) (L : List FK) {x : FK} (h : x ∈ L.takeWhile p) : x ∈ L := by
  rw [← List.takeWhile_append_dropWhile (p := p) (l := L)]; exact List.mem_append_left _ h

/-- Behind the place of a new fact all are greater. -/
theorem behind_greater {L : List FK} {f : FK} (hs : L.Pairwise (fun a b => a.less b = true)) (hn : ∀ x ∈ L, ¬ x.like f) : ∀ x ∈ L.dropWhile (fun x => x.less f), f.less x = true := by
  intro x hx
  have hs2 : (L.dropWhile (fun x => x.less f)).Pairwise (fun a b => a.less b = true) := hs.sublist (List.dropWhile_sublist _)
  rcases dropWhile_head (fun x => x.less f) L with h | ⟨y, t, h, hy⟩
  · rw [h] at hx; simp at hx
  · have hyL : y ∈ L := dropWhile_mem (fun x => x.less f) L (by rw [h]; exact List.mem_cons_self)
    have hfy : f.less y = true := less_total hy (hn y hyL)
    rw [h] at hx hs2
    rcases List.mem_cons.1 hx with rfl | hx
    · exact hfy
    · exact less_trans hfy ((List.pairwise_cons.1 hs2).1 x hx)

theorem insL_sorted {L : List FK} {f : FK} (hs : L.Pairwise (fun a b => a.less b = true)) (hn : ∀ x ∈ L, ¬ x.like f) : (insL L f).Pairwise (fun a b => a.less b = true) := by
  rw [insL_eq, List.pairwise_append]
  have hb := behind_greater hs hn
  have ht := takeWhile_all_true (fun x : FK => x.less f) L
  refine ⟨hs.sublist (List.takeWhile_sublist _), List.pairwise_cons.2 ⟨hb, hs.sublist (List.dropWhile_sublist _)⟩, fun a ha b hb' => ?_⟩
  rcases List.mem_cons.1 hb' with rfl | hb'
  · exact ht a ha
  · exact less_trans (ht a ha) (hb b hb')

theorem not_has {L : List FK} {f : FK} (h : hasL L f.kind f.epoch f.node = false) : ∀ x ∈ L, ¬ x.like f := fun x hx hk => by
  have : hasL L f.kind f.epoch f.node = true := hasL_iff.2 ⟨x, hx, hk⟩
  rw [h] at this; cases this

theorem Good.add {nodes : Int} {L : List FK} (h : Good nodes L) (f : FK) : Good nodes (addL nodes L f) := by
  unfold addL
  split
  · exact h
  · rename_i h1
    split
    · exact h
    · rename_i h2
      split
      · exact h
      · refine ⟨fun x hx => ?_, insL_sorted h.sorted (not_has (by simpa using h2))⟩
        rcases mem_insL.1 hx with rfl | hx
        · simpa using h1
        · exact h.ok x hx

theorem Good.merge {nodes : Int} : ∀ (b : List FK) {a : List FK} (_ : Good nodes a), Good nodes (mergeL nodes a b)
  | [], _, h => h
  | f :: t, _, h => Good.merge t (h.add f)

theorem Good.grown (nodes : Int) (l : List FK) (most : Int) : Good nodes (grownL nodes l most) := Good.merge _ (Good.nil nodes)

theorem mergeL_len2 (nodes : Int) : ∀ (b a : List FK), (mergeL nodes a b).length ≤ a.length + b.length
  | [], a => Nat.le_refl _
  | f :: t, a => by
    have h1 := mergeL_len2 nodes t (addL nodes a f)
    have h2 := (addL_len nodes a f).1
    simp only [mergeL, List.length_cons]
    omega

theorem grownL_len (nodes : Int) (l : List FK) (most : Int) : (grownL nodes l most).length ≤ most.toNat := by
  unfold grownL
  have h1 := mergeL_len2 nodes ((l.take most.toNat).filter FK.few) []
  have h2 := List.length_filter_le FK.few (l.take most.toNat)
  rw [List.length_take] at h2
  simp only [List.length_nil] at h1
  omega

theorem mem_addL {nodes : Int} {L : List FK} {f x : FK} (h : x ∈ L) : x ∈ addL nodes L f := by
  unfold addL
  split
  · exact h
  · split
    · exact h
    · split
      · exact h
      · exact mem_insL.2 (.inr h)

theorem addCode_yes {nodes : Int} {L : List FK} {f : FK} (hl : L.length < 200) : (addCode nodes L f = 0 ↔ f.chk nodes = 0) ∧ (addCode nodes L f = 0 → hasL (addL nodes L f) f.kind f.epoch f.node = true) := by
  unfold addCode FK.chk addL
  have hn : ¬ 200 ≤ L.length := by omega
  cases h1 : f.ok nodes with
  | false => simp
  | true =>
    cases h2 : hasL L f.kind f.epoch f.node with
    | true => simp [h2]
    | false => simp [hn]; exact hasL_of_mem (mem_insL.2 (.inl rfl))

theorem Good.less_at {nodes : Int} {L : List FK} (h : Good nodes L) {i : Nat} (hi : i + 1 < L.length) : (L.getD i FK.zero).less (L.getD (i + 1) FK.zero) = true := by
  have := List.pairwise_iff_getElem.1 h.sorted i (i + 1) (by omega) hi (by omega)
  simpa [List.getD_eq_getElem?_getD, hi, show i < L.length by omega] using this

theorem Good.chk_at {nodes : Int} {L : List FK} (h : Good nodes L) {i : Nat} (hi : i < L.length) : (L.getD i FK.zero).chk nodes = 0 := by
  have := h.ok (L.getD i FK.zero) (by simp [List.getD_eq_getElem?_getD, hi])
  unfold FK.chk; rw [if_pos this]

theorem getD_mem {L : List FK} {i : Nat} (hi : i < L.length) : L.getD i FK.zero ∈ L := by simp [List.getD_eq_getElem?_getD, hi]

theorem ok_less_1000 {nodes : Int} {L : List FK} (h : Good nodes L) : ∀ f ∈ L, f.chunks.length ≤ 1000 := fun f hf => by have := ok_chunks (h.ok f hf); omega

end Go.Proofs.Ytbdmnmjdnfpfbaa
