/- Plain laws of who is among facts; the cells of a list of numbers. -/
import Derived.Test.YtbdmnmjdnfpfbaaLatV
namespace Go.Proofs.Ytbdmnmjdnfpfbaa
open Go.RowKit

theorem mem_whoL {L : List FK} {k e n : Int} : n ∈ whoL L k e ↔ hasL L k e n = true := by
  unfold whoL hasL
  simp only [List.mem_map, List.any_eq_true, decide_eq_true_eq]

/-- Who is among facts that rise, rises. -/
theorem who_rises {nodes : Int} {L : List FK} (h : Good nodes L) (k e : Int) : (whoL L k e).Pairwise (· < ·) := by
  unfold whoL allL
  rw [List.pairwise_map, List.pairwise_filter]
  refine h.sorted.imp fun {a b} hab ha hb => ?_
  unfold FK.is at ha hb
  simp only [Bool.and_eq_true, decide_eq_true_eq] at ha hb
  rw [less_iff] at hab
  omega

theorem who_below {nodes : Int} {L : List FK} (h : Good nodes L) {k e n : Int} (hn : hasL L k e n = true) : 0 ≤ n ∧ n < 9 := by
  obtain ⟨f, hf, -, -, rfl⟩ := hasL_iff.1 hn
  have := h.ok f hf
  unfold FK.ok at this
  simp only [Bool.and_eq_true, decide_eq_true_eq] at this
  omega

/-- Two rising lists of the same members are one. -/
theorem rising_ext : ∀ {a b : List Int} (_ : a.Pairwise (· < ·)) (_ : b.Pairwise (· < ·)) (_ : ∀ x, x ∈ a ↔ x ∈ b), a = b
  | [], [], _, _, _ => rfl
  | [], y :: b, _, _, h => by have := (h y).2 List.mem_cons_self; simp at this
  | x :: a, [], _, _, h => by have := (h x).1 List.mem_cons_self; simp at this
  | x :: a, y :: b, ha, hb, h => by
    obtain ⟨ha1, ha2⟩ := List.pairwise_cons.1 ha
    obtain ⟨hb1, hb2⟩ := List.pairwise_cons.1 hb
    have hxy : x = y := by
      rcases List.mem_cons.1 ((h x).1 List.mem_cons_self) with e | e
      · exact e
      · rcases List.mem_cons.1 ((h y).2 List.mem_cons_self) with e2 | e2
        · exact e2.symm
        · have h1 := hb1 x e; have h2 := ha1 y e2; omega
    subst hxy
    rw [rising_ext ha2 hb2 fun z => ?_]
    constructor
    · intro hz
      rcases List.mem_cons.1 ((h z).1 (List.mem_cons_of_mem _ hz)) with rfl | e
      · have := ha1 z hz; omega
      · exact e
    · intro hz
      rcases List.mem_cons.1 ((h z).2 (List.mem_cons_of_mem _ hz)) with rfl | e
      · have := hb1 z hz; omega
      · exact e

/-- How many of the first nodes are there. -/
def cntL (L : List FK) (k e : Int) (m : Nat) : Nat := ((List.range m).filter (fun i : Nat => hasL L k e (i : Int))).length
theorem cntL_zero (L : List FK) (k e : Int) : cntL L k e 0 = 0 := rfl
theorem cntL_succ (L : List FK) (k e : Int) (m : Nat) : cntL L k e (m + 1) = cntL L k e m + if hasL L k e (m : Int) = true then 1 else 0 := by
  unfold cntL
  rw [List.range_succ, List.filter_append, List.length_append]
  congr 1
  cases h : hasL L k e (m : Int) <;> simp [h]
theorem cntL_le (L : List FK) (k e : Int) (m : Nat) : cntL L k e m ≤ m := by
  unfold cntL
  have := List.length_filter_le (fun i : Nat => hasL L k e (i : Int)) (List.range m)
  rw [List.length_range] at this
  exact this

theorem cntL_who {nodes : Int} {L : List FK} (h : Good nodes L) (k e : Int) : cntL L k e 9 = (whoL L k e).length := by
  have h1 : ((List.range 9).filter (fun i : Nat => hasL L k e (i : Int))).map (fun i : Nat => (i : Int)) = whoL L k e := by
    refine rising_ext ?_ (who_rises h k e) fun x => ?_
    · rw [List.pairwise_map]
      refine (List.pairwise_lt_range.filter _).imp fun {a b} hab => ?_
      omega
    · rw [mem_whoL]
      simp only [List.mem_map, List.mem_filter, List.mem_range]
      constructor
      · rintro ⟨n, ⟨-, h2⟩, rfl⟩; exact h2
      · intro hx
        have hb := who_below h hx
        exact ⟨x.toNat, ⟨by omega, by rw [show ((x.toNat : Nat) : Int) = x by omega]; exact hx⟩, by omega⟩
  rw [← h1, List.length_map]; rfl

theorem rises_at {W : List Int} (h : W.Pairwise (· < ·)) {i : Nat} (hi : i + 1 < W.length) : W.getD i 0 < W.getD (i + 1) 0 := by
  have := List.pairwise_iff_getElem.1 h i (i + 1) (by omega) hi (by omega)
  simpa [List.getD_eq_getElem?_getD, hi, show i < W.length by omega] using this

/-- The cells of a list of its own, in each later world. -/
theorem own_get {w : World} {base : Nat} {t : TypeId} {a : Option Addr} {n cap : Nat} {xs : List Value} (h : w.ownsRow base t 1 (.slice a n cap) n xs) (h0 : 0 < n) :
    ∃ g, a = some ⟨g, 0, none⟩ ∧ ∀ w', Upd [] w w' → ∀ j x, xs[j]? = some x → w'.cell? ⟨g, j, none⟩ = some x := by
  have h2 := h.2
  rcases h2 with ⟨hv, hn⟩ | ⟨g, cap', cur, hv, hb, hrest⟩
  · omega
  · cases hv
    refine ⟨g, rfl, fun w' hu j x hj => ?_⟩
    have h' := own_upd h hu (by simp)
    have hl := h.1
    have hlt : j < xs.length := by
      rcases Nat.lt_or_ge j xs.length with h1 | h1
      · exact h1
      · rw [List.getElem?_eq_none h1] at hj; cases hj
    rw [World.ownsRow.cellAt h' j (by omega), hj]
theorem ints_at {K : List Int} {j : Nat} (hj : j < K.length) : (K.map (Value.int .i64))[j]? = some (.int .i64 (K.getD j 0)) := by
  simp [List.getD_eq_getElem?_getD, hj]

end Go.Proofs.Ytbdmnmjdnfpfbaa
