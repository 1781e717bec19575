/- Arguments that are bytes. -/
import Derived.Test.YtpeboaoephkfhaaBytes
import Derived.Test.YtpeboaoephkfhaaOpen
import Derived.Deep.Slices
namespace Go.Proofs.Ytpeboaoephkfhaa
open Go.ChangeShapes Go.WideShapes Go.ChangeAt Go.RowKit

section
variable {H : Type} {enc : TypeId × Value → H} {w : World} {base : Nat} {held : Bool}

theorem spot_none {w : World} {a : Addr} {u : Value} (h : w.cell? (a.add 0) = some u) : a.spot = none := by
  unfold World.cell? at h
  split at h
  · split at h
    · cases h
    · rename_i hs; simpa [Addr.add] using hs
  · cases h

theorem trod_bytesS {fuel : Nat} {cs : List Value} {x : DataW H × List MemPlace} (h : DataW.trod enc Try.prog w base (fun _ => true) held fuel 26 cs = some x) :
    ∃ v l, cs = [v] ∧ BytesAt w v l ∧ U8L l ∧ (l ≠ [] → ∀ g, v.ownBlock = some g → g < w.heap.size) := by
  rcases open_ints Try.underlying26 Try.underlying5 (by kernel_rfl) h with ⟨rfl, -⟩ | ⟨a, len, cap, zs, rfl, -, hl, hm, hz, -, hcell, hwf⟩
  · exact ⟨_, [], rfl, ⟨none, 0, rfl, by simp, by unfold maxLen; omega, fun h => absurd rfl h⟩, U8L.nil, fun h => absurd rfl h⟩
  · have hz' : zs.length = cap := by simpa using hz
    have hlen : (zs.take len).length = len := by rw [List.length_take]; omega
    have key : zs.take len ≠ [] → ∃ g off, some a = some ⟨g, off, none⟩ ∧ g < w.heap.size ∧ ∀ i, i < (zs.take len).length → w.cell? ⟨g, off + i, none⟩ = some (.int .u8 ((zs.take len).getD i 0)) := fun hne => by
      have hpos : 0 < len := by
        rcases Nat.eq_zero_or_pos len with h0 | h0
        · exfalso; apply hne; rw [h0]; rfl
        · exact h0
      have hsp : a.spot = none := spot_none (hcell 0 (by omega))
      obtain ⟨g, off, sp⟩ := a
      simp only at hsp
      subst hsp
      refine ⟨g, off, rfl, ?_, fun i hi => ?_⟩
      · have h0 := hcell 0 (by omega)
        have := World.block_lt_of_cell? _ _ h0
        simpa [Addr.add] using this
      · rw [hlen] at hi
        have h1 := hcell i (by omega)
        have hadd : (⟨g, off, none⟩ : Addr).add i = ⟨g, off + i, none⟩ := by unfold Addr.add; split <;> simp_all
        rw [hadd] at h1
        rw [h1]
        simp [List.getD_eq_getElem?_getD, hi]
    refine ⟨_, zs.take len, rfl, ⟨some a, cap, by rw [hlen], by omega, hm, key⟩, fun z hz => ?_, fun hne g hg => ?_⟩
    · have := hwf z (List.mem_of_mem_take hz)
      have e1 : IntKind.u8.min = 0 := by decide
      have e2 : IntKind.u8.max = 255 := by decide
      simp [Lit.wf, e1, e2] at this
      omega
    · obtain ⟨g', off, e, h1, -⟩ := key hne
      cases e
      simp [Value.ownBlock] at hg
      omega

theorem open_bytesAt {v : Value} {d : DataW H} {p : List MemPlace} (ho : ∃ a n c, v = .slice a n c) (h : DataW.Trod enc Try.prog w base (fun _ => true) held 26 v d p) : ∃ l, BytesAt w v l ∧ U8L l := by
  obtain ⟨a, n, c, rfl⟩ := ho
  obtain ⟨fuel, hf⟩ := h
  obtain ⟨v, l, e, hi, hu, -⟩ := trod_bytesS hf
  simp only [Value.cells, List.cons.injEq, and_true] at e
  exact ⟨l, e ▸ hi, hu⟩
end

end Go.Proofs.Ytpeboaoephkfhaa
