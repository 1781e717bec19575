/- Plain laws of merging facts without manifests: whoever is merged into whom. -/
import Derived.Test.YtbdmnmjdnfpfbaaLatZ
import Derived.Test.YtbdmnmjdnfpfbaaLatY
namespace Go.Proofs.Ytbdmnmjdnfpfbaa
open Go.RowKit

/-- Two lists that rise, of the same members, are one. -/
theorem sorted_ext : ∀ {a b : List FK} (_ : a.Pairwise (fun x y => x.less y = true)) (_ : b.Pairwise (fun x y => x.less y = true)) (_ : ∀ x, x ∈ a ↔ x ∈ b), a = b
  | [], [], _, _, _ => rfl
  | [], y :: b, _, _, h => by have := (h y).2 List.mem_cons_self; simp at this
  | x :: a, [], _, _, h => by have := (h x).1 List.mem_cons_self; simp at this
  | x :: a, y :: b, ha, hb, h => by
    obtain ⟨ha1, ha2⟩ := List.pairwise_cons.1 ha
    obtain ⟨hb1, hb2⟩ := List.pairwise_cons.1 hb
    have hno : ∀ {p q : FK}, p.less q = true → q.less p = true → False := fun h1 h2 => by
      have := less_trans h1 h2; rw [less_irrefl] at this; cases this
    have hxy : x = y := by
      rcases List.mem_cons.1 ((h x).1 List.mem_cons_self) with e | e
      · exact e
      · rcases List.mem_cons.1 ((h y).2 List.mem_cons_self) with e2 | e2
        · exact e2.symm
        · exact (hno (hb1 x e) (ha1 y e2)).elim
    subst hxy
    rw [sorted_ext ha2 hb2 fun z => ?_]
    constructor
    · intro hz
      rcases List.mem_cons.1 ((h z).1 (List.mem_cons_of_mem _ hz)) with rfl | e
      · exact (hno (ha1 z hz) (ha1 z hz)).elim
      · exact e
    · intro hz
      rcases List.mem_cons.1 ((h z).2 (List.mem_cons_of_mem _ hz)) with rfl | e
      · exact (hno (hb1 z hz) (hb1 z hz)).elim
      · exact e

/-- A fact without a manifest that may be is its key. -/
theorem plain_eq {nodes : Int} {f g : FK} (hf : f.ok nodes = true) (hg : g.ok nodes = true) (kf : f.kind ≠ 1) (kg : g.kind ≠ 1) (h : f.like g) : f = g := by
  have key : ∀ {x : FK}, x.ok nodes = true → x.kind ≠ 1 → x.size = 0 ∧ x.chunk = 0 ∧ x.chunks = [] ∧ x.whole = zeros32 := by
    intro x hx kx
    unfold FK.ok at hx
    rw [if_neg kx] at hx
    simp only [Bool.and_eq_true] at hx
    obtain ⟨-, h2⟩ := hx
    split at h2
    · unfold FK.none at h2
      simp only [Bool.and_eq_true, decide_eq_true_eq] at h2
      exact ⟨h2.1.1.1, h2.1.1.2, List.eq_nil_of_length_eq_zero h2.1.2, h2.2⟩
    · cases h2
  obtain ⟨a1, a2, a3, a4⟩ := key hf kf
  obtain ⟨b1, b2, b3, b4⟩ := key hg kg
  obtain ⟨h1, h2, h3⟩ := h
  cases f; cases g
  simp_all

/-- All may be, and none publishes an epoch. -/
structure Plain (nodes : Int) (L : List FK) : Prop where
  good : Good nodes L
  kind : ∀ f ∈ L, f.kind ≠ 1

theorem mem_addL_sub {nodes : Int} {L : List FK} {f x : FK} (h : x ∈ addL nodes L f) : x ∈ L ∨ x = f := by
  unfold addL at h
  split at h
  · exact .inl h
  · split at h
    · exact .inl h
    · split at h
      · exact .inl h
      · exact (mem_insL.1 h).symm
theorem mem_mergeL_sub {nodes : Int} {x : FK} : ∀ {b a : List FK} (_ : x ∈ mergeL nodes a b), x ∈ a ∨ x ∈ b
  | [], _, h => .inl h
  | f :: t, _, h => by
    rcases mem_mergeL_sub (b := t) h with h1 | h1
    · rcases mem_addL_sub h1 with h2 | rfl
      · exact .inl h2
      · exact .inr List.mem_cons_self
    · exact .inr (List.mem_cons_of_mem _ h1)

theorem mem_addL_iff {nodes : Int} {L : List FK} {f x : FK} (hL : Plain nodes L) (hf : f.ok nodes = true) (kf : f.kind ≠ 1) (hl : L.length < 200) : x ∈ addL nodes L f ↔ x ∈ L ∨ x = f := by
  refine ⟨mem_addL_sub, fun h => ?_⟩
  unfold addL
  rw [if_neg (by simp [hf])]
  split
  · rename_i hh
    rcases h with h | rfl
    · exact h
    · obtain ⟨g, hg, h1⟩ := hasL_iff.1 hh
      have := plain_eq (hL.good.ok g hg) hf (hL.kind g hg) kf h1
      rw [← this]; exact hg
  · rw [if_neg (by omega)]
    exact mem_insL.2 h.symm

theorem Plain.add {nodes : Int} {L : List FK} (h : Plain nodes L) {f : FK} (kf : f.kind ≠ 1) : Plain nodes (addL nodes L f) :=
  ⟨h.good.add f, fun x hx => by rcases mem_addL_sub hx with h1 | rfl; exact h.kind x h1; exact kf⟩
theorem Plain.merge {nodes : Int} {a b : List FK} (ha : Plain nodes a) (hb : ∀ f ∈ b, f.kind ≠ 1) : Plain nodes (mergeL nodes a b) :=
  ⟨Good.merge b ha.good, fun x hx => by rcases mem_mergeL_sub hx with h1 | h1; exact ha.kind x h1; exact hb x h1⟩

theorem mem_mergeL_iff {nodes : Int} {x : FK} : ∀ {b a : List FK} (_ : Plain nodes a) (_ : ∀ f ∈ b, f.ok nodes = true) (_ : ∀ f ∈ b, f.kind ≠ 1) (_ : a.length + b.length ≤ 200), x ∈ mergeL nodes a b ↔ x ∈ a ∨ x ∈ b
  | [], a, _, _, _, _ => by simp [mergeL]
  | f :: t, a, ha, h1, h2, hl => by
    rw [List.length_cons] at hl
    have hlen := (addL_len nodes a f).1
    unfold mergeL
    rw [mem_mergeL_iff (ha.add (h2 f List.mem_cons_self)) (fun g hg => h1 g (List.mem_cons_of_mem _ hg)) (fun g hg => h2 g (List.mem_cons_of_mem _ hg)) (by omega),
      mem_addL_iff ha (h1 f List.mem_cons_self) (h2 f List.mem_cons_self) (by omega), List.mem_cons]
    constructor
    · rintro ((h | h) | h)
      · exact .inl h
      · exact .inr (.inl h)
      · exact .inr (.inr h)
    · rintro (h | h | h)
      · exact .inl (.inl h)
      · exact .inl (.inr h)
      · exact .inr h

theorem merge_mem {nodes : Int} {a b : List FK} (ha : Plain nodes a) (hb : Plain nodes b) (hl : a.length + b.length ≤ 200) (x : FK) : x ∈ mergeL nodes a b ↔ x ∈ a ∨ x ∈ b :=
  mem_mergeL_iff ha hb.good.ok hb.kind hl
theorem Plain.merged {nodes : Int} {a b : List FK} (ha : Plain nodes a) (hb : Plain nodes b) : Plain nodes (mergeL nodes a b) := ha.merge hb.kind
theorem plain_ext {nodes : Int} {a b : List FK} (ha : Plain nodes a) (hb : Plain nodes b) (h : ∀ x, x ∈ a ↔ x ∈ b) : a = b := sorted_ext ha.good.sorted hb.good.sorted h

theorem merge_comm {nodes : Int} {x y : List FK} (hx : Plain nodes x) (hy : Plain nodes y) (hl : x.length + y.length ≤ 200) : mergeL nodes y x = mergeL nodes x y :=
  plain_ext (hy.merged hx) (hx.merged hy) fun f => by rw [merge_mem hy hx (by omega), merge_mem hx hy hl]; exact Or.comm
theorem merge_assoc {nodes : Int} {x y z : List FK} (hx : Plain nodes x) (hy : Plain nodes y) (hz : Plain nodes z) (hl : x.length + y.length + z.length ≤ 200) :
    mergeL nodes x (mergeL nodes y z) = mergeL nodes (mergeL nodes x y) z := by
  have h1 := mergeL_len2 nodes y x
  have h2 := mergeL_len2 nodes z y
  refine plain_ext (hx.merged (hy.merged hz)) ((hx.merged hy).merged hz) fun f => ?_
  rw [merge_mem hx (hy.merged hz) (by omega), merge_mem hy hz (by omega), merge_mem (hx.merged hy) hz (by omega), merge_mem hx hy (by omega)]
  exact or_assoc.symm
theorem merge_again {nodes : Int} {x y : List FK} (hx : Plain nodes x) (hy : Plain nodes y) (hl : x.length + y.length ≤ 200) (hs : ∀ f ∈ y, f ∈ x) : mergeL nodes x y = x :=
  plain_ext (hx.merged hy) hx fun f => by rw [merge_mem hx hy hl]; exact ⟨fun h => h.elim id (hs f), .inl⟩

/-- Facts without manifests, at most so many. -/
def plainL (l : List FK) (most : Int) : List FK := (l.take most.toNat).filter (fun f => f.kind != 1)
theorem plain_grown (nodes : Int) (l : List FK) (m k : Int) : Plain nodes (grownL nodes (plainL l m) k) :=
  ⟨Good.grown _ _ _, fun f hf => by
    unfold grownL at hf
    rcases mem_mergeL_sub hf with h | h
    · simp at h
    · have h1 := List.mem_of_mem_take (List.mem_filter.1 h).1
      have h2 := (List.mem_filter.1 h1).2
      simpa using h2⟩

end Go.Proofs.Ytbdmnmjdnfpfbaa
