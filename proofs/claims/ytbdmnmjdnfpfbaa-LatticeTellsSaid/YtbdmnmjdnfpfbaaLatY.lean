/- Plain laws of the best epoch, of what is aborted, and of the next number. -/
import Derived.Test.YtbdmnmjdnfpfbaaLatW
namespace Go.Proofs.Ytbdmnmjdnfpfbaa
open Go.RowKit

theorem allL_add_len (nodes : Int) (L : List FK) (f : FK) (k e : Int) : (allL L k e).length ≤ (allL (addL nodes L f) k e).length := by
  unfold addL
  split
  · exact Nat.le_refl _
  · split
    · exact Nat.le_refl _
    · split
      · exact Nat.le_refl _
      · rw [insL_eq]
        have h := List.takeWhile_append_dropWhile (p := fun x : FK => x.less f) (l := L)
        unfold allL
        conv => lhs; rw [← h]
        rw [List.filter_append, List.filter_append, List.length_append, List.length_append, List.filter_cons]
        split <;> simp
theorem allL_merge_len (nodes : Int) (k e : Int) : ∀ (b a : List FK), (allL a k e).length ≤ (allL (mergeL nodes a b) k e).length
  | [], _ => Nat.le_refl _
  | f :: t, a => Nat.le_trans (allL_add_len nodes a f k e) (allL_merge_len nodes k e t (addL nodes a f))
theorem mem_mergeL {nodes : Int} {x : FK} : ∀ {b a : List FK} (_ : x ∈ a), x ∈ mergeL nodes a b
  | [], _, h => h
  | _ :: t, _, h => mem_mergeL (b := t) (mem_addL h)

/-- What is aborted stays so with more facts. -/
theorem aborted_more {nodes : Int} {a b : List FK} {e m : Int} (h : abortedL a e m = true) : abortedL (mergeL nodes a b) e m = true := by
  unfold abortedL whoL at *
  rw [List.length_map] at *
  have h1 := of_decide_eq_true h
  have h2 := allL_merge_len nodes 3 e b a
  exact decide_eq_true (by omega)

theorem best_fold (M : List FK) (maj : Int) : ∀ (L : List FK) (b : Int), b ≤ L.foldl (bestStep M maj) b ∧ (∀ f ∈ L, f.kind = 1 → abortedL M f.epoch maj = false → f.epoch ≤ L.foldl (bestStep M maj) b) ∧
    (L.foldl (bestStep M maj) b = b ∨ ∃ f ∈ L, f.kind = 1 ∧ f.epoch = L.foldl (bestStep M maj) b ∧ abortedL M (L.foldl (bestStep M maj) b) maj = false)
  | [], b => ⟨Int.le_refl _, by simp, .inl rfl⟩
  | f :: t, b => by
    obtain ⟨h1, h2, h3⟩ := best_fold M maj t (bestStep M maj b f)
    rw [List.foldl_cons]
    have hs : b ≤ bestStep M maj b f := by unfold bestStep; split <;> omega
    refine ⟨Int.le_trans hs h1, fun x hx hk ha => ?_, ?_⟩
    · rcases List.mem_cons.1 hx with rfl | hx
      · refine Int.le_trans ?_ h1
        unfold bestStep
        split
        · exact Int.le_refl _
        · rename_i hn
          rw [hk, ha] at hn
          simp at hn
          omega
      · exact h2 x hx hk ha
    · rcases h3 with h3 | ⟨x, hx, hk, he, ha⟩
      · by_cases hc : f.kind = 1 ∧ b < f.epoch ∧ abortedL M f.epoch maj = false
        · right
          have : bestStep M maj b f = f.epoch := if_pos hc
          rw [h3, this]
          exact ⟨f, List.mem_cons_self, hc.1, rfl, hc.2.2⟩
        · left
          rw [h3]; exact if_neg hc
      · exact .inr ⟨x, List.mem_cons_of_mem _ hx, hk, he, ha⟩

theorem best_is {A : List FK} {maj : Int} (h : bestL A maj ≠ 0) : (manL A (bestL A maj)).2 = true ∧ abortedL A (bestL A maj) maj = false := by
  rcases (best_fold A maj A 0).2.2 with h1 | ⟨f, hf, hk, he, ha⟩
  · exact absurd h1 h
  · refine ⟨?_, ha⟩
    have hm : f ∈ allL A 1 (bestL A maj) := by
      unfold allL FK.is
      rw [List.mem_filter]
      exact ⟨hf, by simp only [Bool.and_eq_true, decide_eq_true_eq]; exact ⟨hk, he⟩⟩
    unfold manL
    split
    · rename_i h2; rw [h2] at hm; simp at hm
    · rfl
theorem best_most {A : List FK} {maj : Int} {f : FK} (hf : f ∈ A) (hk : f.kind = 1) (hb : bestL A maj < f.epoch) : abortedL A f.epoch maj = true := by
  cases h : abortedL A f.epoch maj with
  | true => rfl
  | false => have : f.epoch ≤ bestL A maj := (best_fold A maj A 0).2.1 f hf hk h; omega

theorem next_fold : ∀ (L : List FK) (b x : Int), L.foldl (fun n f => max n ((ofN f.epoch).2 + 1)) b ≤ x ↔ b ≤ x ∧ ∀ f ∈ L, (ofN f.epoch).2 + 1 ≤ x
  | [], b, x => by simp
  | f :: t, b, x => by
    rw [List.foldl_cons, next_fold t, List.forall_mem_cons]
    constructor
    · rintro ⟨h1, h2⟩; exact ⟨by omega, by omega, h2⟩
    · rintro ⟨h1, h2, h3⟩; exact ⟨by omega, h3⟩
theorem next_above {A : List FK} {f : FK} (hf : f ∈ A) : (ofN f.epoch).2 < nextL A := by
  have := ((next_fold A 1 (nextL A)).1 (Int.le_refl _)).2 f hf
  omega
theorem next_more {nodes : Int} {A B : List FK} : nextL A ≤ nextL (mergeL nodes A B) := by
  obtain ⟨h1, h2⟩ := (next_fold (mergeL nodes A B) 1 (nextL (mergeL nodes A B))).1 (Int.le_refl _)
  exact (next_fold A 1 _).2 ⟨h1, fun f hf => h2 f (mem_mergeL hf)⟩

end Go.Proofs.Ytbdmnmjdnfpfbaa
