/- Arguments that are bytes, or lists of bytes. -/
import Derived.Test.YtfjmkdjbeoafjaaJrnC
import Derived.Test.YtfjmkdjbeoafjaaOpen
import Derived.Deep.Slices
namespace Go.Proofs.Ytfjmkdjbeoafjaa
open Go.ChangeShapes Go.WideShapes Go.ChangeAt Go.RowKit

section
variable {H : Type} {enc : TypeId × Value → H} {w : World} {base : Nat} {held : Bool}

theorem spot_none {w : World} {a : Addr} {u : Value} (h : w.cell? (a.add 0) = some u) : a.spot = none := by
  unfold World.cell? at h
  split at h
  · split at h
    · cases h
    · rename_i hs; simpa [Addr.add] using hs
  · cases h

theorem trod_bytesS {fuel : Nat} {cs : List Value} {x : DataW H × List MemPlace} (h : DataW.trod enc Try.prog w base (fun _ => true) held fuel 31 cs = some x) :
    ∃ v l, cs = [v] ∧ BytesAt w v l ∧ U8L l ∧ (l ≠ [] → ∀ g, v.ownBlock = some g → g < w.heap.size) := by
  rcases open_ints Try.underlying31 Try.underlying5 (by kernel_rfl) h with ⟨rfl, -⟩ | ⟨a, len, cap, zs, rfl, -, hl, hm, hz, -, hcell, hwf⟩
  · exact ⟨_, [], rfl, ⟨none, 0, rfl, by simp, by unfold maxLen; omega, fun h => absurd rfl h⟩, U8L.nil, fun h => absurd rfl h⟩
  · have hz' : zs.length = cap := by simpa using hz
    have hlen : (zs.take len).length = len := by rw [List.length_take]; omega
    have key : zs.take len ≠ [] → ∃ g off, some a = some ⟨g, off, none⟩ ∧ g < w.heap.size ∧ ∀ i, i < (zs.take len).length → w.cell? ⟨g, off + i, none⟩ = some (.int .u8 ((zs.take len).getD i 0)) := fun hne => by
      have hpos : 0 < len := by
        rcases Nat.eq_zero_or_pos len with h0 | h0
        · exfalso; apply hne; rw [h0]; rfl
        · exact h0
      have hsp : a.spot = none := spot_none (hcell 0 (by omega))
      obtain ⟨g, off, sp⟩ := a
      simp only at hsp
      subst hsp
      refine ⟨g, off, rfl, ?_, fun i hi => ?_⟩
      · have h0 := hcell 0 (by omega)
        have := World.block_lt_of_cell? _ _ h0
        simpa [Addr.add] using this
      · rw [hlen] at hi
        have h1 := hcell i (by omega)
        have hadd : (⟨g, off, none⟩ : Addr).add i = ⟨g, off + i, none⟩ := by unfold Addr.add; split <;> simp_all
        rw [hadd] at h1
        rw [h1]
        simp [List.getD_eq_getElem?_getD, hi]
    refine ⟨_, zs.take len, rfl, ⟨some a, cap, by rw [hlen], by omega, hm, key⟩, fun z hz => ?_, fun hne g hg => ?_⟩
    · have := hwf z (List.mem_of_mem_take hz)
      have e1 : IntKind.u8.min = 0 := by decide
      have e2 : IntKind.u8.max = 255 := by decide
      simp [Lit.wf, e1, e2] at this
      omega
    · obtain ⟨g', off, e, h1, -⟩ := key hne
      cases e
      simp [Value.ownBlock] at hg
      omega

theorem open_bytesAt {v : Value} {d : DataW H} {p : List MemPlace} (ho : ∃ a n c, v = .slice a n c) (h : DataW.Trod enc Try.prog w base (fun _ => true) held 31 v d p) : ∃ l, BytesAt w v l ∧ U8L l := by
  obtain ⟨a, n, c, rfl⟩ := ho
  obtain ⟨fuel, hf⟩ := h
  obtain ⟨v, l, e, hi, hu, -⟩ := trod_bytesS hf
  simp only [Value.cells, List.cons.injEq, and_true] at e
  exact ⟨l, e ▸ hi, hu⟩

/-- An argument that is a list of lists of bytes. -/
theorem open_listsAt {v : Value} {d : DataW H} {p : List MemPlace} (ho : ∃ a n c, v = .slice a n c) (h : DataW.Trod enc Try.prog w base (fun _ => true) held 37 v d p) : ∃ L, ListsAt w (List.range w.heap.size) v L ∧ ∀ l ∈ L, U8L l := by
  obtain ⟨a, n, c, rfl⟩ := ho
  obtain ⟨fuel, hf⟩ := h
  have e1 : Try.prog.cellsOf 31 = 1 := by kernel_rfl
  rcases Go.Deep.open_slice1 Try.underlying37 e1 hf with ⟨e, -⟩ | ⟨a', len, cap, m, fu, V, D, Pl, e, -, hlc, hcm, hm, -, hel⟩
  · simp only [Value.cells, List.cons.injEq, and_true, Value.slice.injEq] at e
    obtain ⟨rfl, rfl, rfl⟩ := e
    exact ⟨[], ⟨none, 0, rfl, by simp, fun h => absurd rfl h⟩, by simp⟩
  · simp only [Value.cells, List.cons.injEq, and_true, Value.slice.injEq] at e
    obtain ⟨rfl, rfl, rfl⟩ := e
    rw [if_pos rfl] at hm
    subst hm
    have hel2 : ∀ i, i < n → ∃ l : List Int, BytesAt w (V i) l ∧ U8L l ∧ (l ≠ [] → ∀ g, (V i).ownBlock = some g → g < w.heap.size) := by
      intro i hi
      obtain ⟨-, h2⟩ := hel i (by omega)
      obtain ⟨v, l, e, h3, h4, h5⟩ := trod_bytesS h2
      simp only [List.cons.injEq, and_true] at e
      subst e
      exact ⟨l, h3, h4, h5⟩
    obtain ⟨f, hf2⟩ := @Go.Deep.choose_lt (List Int) ⟨[]⟩ n _ hel2
    have hget : ∀ i, i < n → ((List.range n).map f).getD i [] = f i := fun i hi => by simp [List.getD_eq_getElem?_getD, hi]
    refine ⟨(List.range n).map f, ⟨some a', m, by simp, by simp; omega, fun hne => ?_⟩, fun l hl => ?_⟩
    · have hpos : 0 < n := by
        rcases Nat.eq_zero_or_pos n with h0 | h0
        · exfalso; apply hne; rw [h0]; rfl
        · exact h0
      have hsp : a'.spot = none := spot_none (hel 0 (by omega)).1
      obtain ⟨g, off, sp⟩ := a'
      simp only at hsp
      subst hsp
      have hadd : ∀ i, (⟨g, off, none⟩ : Addr).add i = ⟨g, off + i, none⟩ := fun i => by unfold Addr.add; split <;> simp_all
      have hg : g < w.heap.size := by
        have h0 := (hel 0 (by omega)).1
        have := World.block_lt_of_cell? _ _ h0
        simpa [hadd] using this
      refine ⟨g, off, rfl, hg, List.mem_range.2 hg, fun i hi => ?_⟩
      have hi' : i < n := by simpa using hi
      refine ⟨V i, ?_, by rw [hget i hi']; exact (hf2 i hi').1, fun hl k hk => ?_⟩
      · have := (hel i (by omega)).1
        rwa [hadd] at this
      · rw [hget i hi'] at hl
        exact List.mem_range.2 ((hf2 i hi').2.2 hl k hk)
    · obtain ⟨i, hi, rfl⟩ := List.mem_map.1 hl
      exact (hf2 i (List.mem_range.1 hi)).2.1
end

end Go.Proofs.Ytfjmkdjbeoafjaa
