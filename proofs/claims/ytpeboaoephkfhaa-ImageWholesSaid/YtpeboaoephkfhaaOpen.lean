/- What comes in, opened: blocks of bytes, lists of numbers. -/
import Derived.Test.YtpeboaoephkfhaaDiskP
import Derived.Test.YtpeboaoephkfhaaSame
import Derived.ProofKit
import Derived.OpenShut
import Derived.ChangeSlices
namespace Go.Proofs.Ytpeboaoephkfhaa
open Go.ChangeShapes Go.WideShapes Go.ChangeAt Go.RowKit

section
variable {H : Type} {enc : TypeId × Value → H} {P : Program} {w : World} {base : Nat} {spare : Nat → Bool} {held : Bool} {t : TypeId}

theorem okWide_array {r : Reach} {b0 : Nat} {n : Nat} {e : TypeId} {v : Value} (ht : P.underlying t = some (.array n e)) (h : Value.okWide P w r b0 t v) : ∃ cs, v = .agg cs ∧ cs.size = P.cellsOf t := by
  unfold Value.okWide at h
  rw [ht] at h
  cases v <;> simp_all

/-- An array of bytes, as cells. -/
theorem trod_bytes {fuel n : Nat} {e : TypeId} {cs : List Value} {x : DataW H × List MemPlace} (ht : P.underlying t = some (.array n e)) (he : P.underlying e = some (.int .u8)) (hc : P.cellsOf e = 1) (hn : P.cellsOf t = n) (h : DataW.trod enc P w base spare held fuel t cs = some x) :
    ∃ l : List Int, cs = l.map (Value.int .u8) ∧ l.length = n ∧ ∀ z ∈ l, 0 ≤ z ∧ z ≤ 255 := by
  obtain ⟨xs, m, rfl, rfl, hlen, hxs, hx⟩ := DataW.trod_array ht h
  rw [hc] at hx
  have hel : ∀ i, i < n → ∃ z, cs[i]? = some (.int .u8 z) ∧ 0 ≤ z ∧ z ≤ 255 := by
    intro i hi
    have h1 := hx i hi
    rw [Nat.mul_one, List.getElem?_eq_getElem (by omega)] at h1
    obtain ⟨z, e1, -, hw⟩ := DataW.trod_int he h1
    have e2 : cs[i]? = ((cs.drop i).take 1)[0]? := by simp
    rw [e1] at e2
    exact ⟨z, by simpa using e2, bounds_u8 hw⟩
  refine ⟨cs.map (fun v => intOf v), ?_, by rw [List.length_map]; omega, ?_⟩
  · apply List.ext_getElem?
    intro i
    rw [List.map_map, List.getElem?_map]
    by_cases hi : i < n
    · obtain ⟨z, e1, -⟩ := hel i hi
      rw [e1]; rfl
    · rw [List.getElem?_eq_none (by omega)]; rfl
  · intro z hz
    obtain ⟨v, hv, rfl⟩ := List.mem_map.1 hz
    obtain ⟨i, hi, rfl⟩ := List.getElem_of_mem hv
    obtain ⟨z, e1, h2⟩ := hel i (by omega)
    rw [List.getElem?_eq_getElem hi] at e1
    have e2 : cs[i] = .int .u8 z := by simpa using e1
    rw [e2]; exact h2

/-- An argument that is an array of bytes. -/
theorem open_bytes {r : Reach} {b0 : Nat} {n : Nat} {e : TypeId} {v : Value} {d : DataW H} {p : List MemPlace} (ht : P.underlying t = some (.array n e)) (he : P.underlying e = some (.int .u8)) (hc : P.cellsOf e = 1) (hn : P.cellsOf t = n)
    (ho : Value.okWide P w r b0 t v) (h : DataW.Trod enc P w base spare held t v d p) : ∃ l : List Int, v = .agg (U8 l) ∧ l.length = n ∧ ∀ z ∈ l, 0 ≤ z ∧ z ≤ 255 := by
  obtain ⟨cs, rfl, hs⟩ := okWide_array ht ho
  obtain ⟨fuel, hf⟩ := h
  obtain ⟨l, h1, h2, h3⟩ := trod_bytes ht he hc hn hf
  refine ⟨l, ?_, h2, h3⟩
  have : cs = U8 l := by
    apply Array.ext'
    rw [U8_toList, ← h1]; rfl
  rw [this]

/-- A list of numbers, wherever it lies. -/
theorem trod_ints {fuel : Nat} {cs : List Value} {x : DataW H × List MemPlace} (ht : P.underlying t = some (.slice 3)) (he : P.underlying 3 = some (.int .i64)) (hc : P.cellsOf 3 = 1) (h : DataW.trod enc P w base (fun _ => true) held fuel t cs = some x) :
    ∃ v l, cs = [v] ∧ IntsAt w v l := by
  rcases open_ints ht he hc h with ⟨rfl, -⟩ | ⟨a, len, cap, zs, rfl, -, hl, hm, hz, -, hcell, -⟩
  · exact ⟨_, [], rfl, none, 0, rfl, by simp, fun h => absurd rfl h⟩
  · have hz' : zs.length = cap := by simpa using hz
    have hlen : (zs.take len).length = len := by rw [List.length_take]; omega
    refine ⟨_, zs.take len, rfl, some a, cap, by rw [hlen], by rw [hlen]; omega, fun hne => ?_⟩
    have hpos : 0 < len := by
      rcases Nat.eq_zero_or_pos len with h0 | h0
      · exfalso; apply hne; rw [h0]; rfl
      · exact h0
    have hsp : a.spot = none := by
      have h0 := hcell 0 (by omega)
      unfold World.cell? at h0
      split at h0
      · split at h0
        · cases h0
        · rename_i hs; simpa [Addr.add] using hs
      · cases h0
    obtain ⟨g, off, sp⟩ := a
    simp only at hsp
    subst hsp
    refine ⟨g, off, rfl, ?_, fun i hi => ?_⟩
    · have h0 := hcell 0 (by omega)
      have := World.block_lt_of_cell? _ _ h0
      simpa [Addr.add] using this
    · rw [hlen] at hi
      have h1 := hcell i (by omega)
      have hadd : (⟨g, off, none⟩ : Addr).add i = ⟨g, off + i, none⟩ := by unfold Addr.add; split <;> simp_all
      rw [hadd] at h1
      rw [h1]
      simp [List.getD_eq_getElem?_getD, hi]

theorem open_intsAt {v : Value} {d : DataW H} {p : List MemPlace} (ht : P.underlying t = some (.slice 3)) (he : P.underlying 3 = some (.int .i64)) (hc : P.cellsOf 3 = 1)
    (ho : ∃ a n c, v = .slice a n c) (h : DataW.Trod enc P w base (fun _ => true) held t v d p) : ∃ l, IntsAt w v l := by
  obtain ⟨a, n, c, rfl⟩ := ho
  obtain ⟨fuel, hf⟩ := h
  obtain ⟨v, l, e, hi⟩ := trod_ints ht he hc hf
  simp only [Value.cells, List.cons.injEq, and_true] at e
  exact ⟨l, e ▸ hi⟩
end

end Go.Proofs.Ytpeboaoephkfhaa
