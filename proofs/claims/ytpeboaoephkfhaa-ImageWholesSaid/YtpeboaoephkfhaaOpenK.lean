/- Boots, and lists of boots, that came in, opened. -/
import Derived.Test.YtpeboaoephkfhaaImgD
import Derived.Test.YtpeboaoephkfhaaOpen
import Derived.Lib.SmallJoins
import Derived.Deep.Slices
namespace Go.Proofs.Ytpeboaoephkfhaa
open Go.ChangeShapes Go.WideShapes Go.ChangeAt Go.RowKit

/-- The numbers of a boot are numbers of the machine. -/
structure BK.Rng (b : BK) : Prop where
  area : -9223372036854775808 ≤ b.area ∧ b.area ≤ 9223372036854775807
  epoch : -9223372036854775808 ≤ b.epoch ∧ b.epoch ≤ 9223372036854775807
  size : -9223372036854775808 ≤ b.size ∧ b.size ≤ 9223372036854775807

theorem lit_i64 {n : Int} (h : (Lit.int .i64 n).wf = true) : -9223372036854775808 ≤ n ∧ n ≤ 9223372036854775807 := by
  have e1 : IntKind.i64.min = -9223372036854775808 := by decide
  have e2 : IntKind.i64.max = 9223372036854775807 := by decide
  simp [Lit.wf, e1, e2] at h
  omega

/-- Boots in a row. -/
def BootsAt (w : World) (v : Value) (L : List BK) : Prop := ∃ a cap, v = .slice a L.length cap ∧ L.length ≤ cap ∧ cap ≤ maxLen ∧ (∀ k ∈ L, k.WF ∧ k.Rng) ∧
  (L ≠ [] → ∃ g off, a = some ⟨g, off, none⟩ ∧ g < w.heap.size ∧ ∀ i, i < L.length → CellsAt w g (off + i * 35) (encK (L.getD i BK.zero)))

section
variable {H : Type} {enc : TypeId × Value → H} {w : World} {base : Nat} {held : Bool}

theorem cell_plain {w : World} {a : Addr} {u : Value} (h : w.cell? (a.add 0) = some u) : a.spot = none ∧ a.block < w.heap.size := by
  have h0 : a.spot = none := by
    unfold World.cell? at h
    split at h
    · split at h
      · cases h
      · rename_i hs; simpa [Addr.add] using hs
    · cases h
  refine ⟨h0, ?_⟩
  have := World.block_lt_of_cell? _ _ h
  simpa [Addr.add] using this

theorem trod_boot {fuel : Nat} {cs : List Value} {x : DataW H × List MemPlace} (h : DataW.trod enc Try.prog w base (fun _ => true) held fuel 40 cs = some x) :
    ∃ b : BK, cs = encK b ∧ b.WF ∧ b.Rng := by
  obtain ⟨y0, y1, y2, y3, n, rfl, hl, h0, h1, h2, h3⟩ := Go.Joins.trod_struct4 Try.underlying40 h
  have e0 : Try.prog.cellsOf 3 = 1 := by kernel_rfl
  have e1 : Try.prog.cellsOf 2 = 1 := by kernel_rfl
  have e3 : Try.prog.cellsOf 38 = 32 := by kernel_rfl
  have e4 : Try.prog.cellsOf 40 = 35 := by kernel_rfl
  rw [e4] at hl
  simp only [e0] at h0 h2
  simp only [e1] at h1
  simp only [e3] at h3
  obtain ⟨z0, k0, -, g0⟩ := DataW.trod_int Try.underlying3 h0
  obtain ⟨z1, k1, -, g1⟩ := DataW.trod_int Try.underlying2 h1
  obtain ⟨z2, k2, -, g2⟩ := DataW.trod_int Try.underlying3 h2
  obtain ⟨b, k3, hb, hbu⟩ := trod_bytes Try.underlying38 Try.underlying5 (by kernel_rfl) (by kernel_rfl) h3
  refine ⟨⟨z0, z1, z2, b⟩, ?_, ⟨hb, fun x hx => by have := hbu x hx; omega⟩, ⟨lit_i64 g0, lit_i64 g1, lit_i64 g2⟩⟩
  have s1 : cs = cs.take 1 ++ ((cs.drop 1).take 1 ++ ((cs.drop 2).take 1 ++ (cs.drop 3).take 32)) := by
    have t3 : (cs.drop 3).take 32 = cs.drop 3 := List.take_of_length_le (by simp; omega)
    rw [t3, show cs.drop 3 = (cs.drop 2).drop 1 by simp, List.take_append_drop, show cs.drop 2 = (cs.drop 1).drop 1 by simp, List.take_append_drop, List.take_append_drop]
  simp only [List.drop_zero] at k0
  rw [s1, k0, k1, k2, k3]
  rfl

/-- An argument that is a boot. -/
theorem open_boot {r : Reach} {b0 : Nat} {v : Value} {d : DataW H} {p : List MemPlace} (ho : Value.okWide Try.prog w r b0 40 v) (h : DataW.Trod enc Try.prog w base (fun _ => true) held 40 v d p) :
    ∃ b : BK, v = .agg (encK b).toArray ∧ b.WF ∧ b.Rng := by
  have hag : ∃ cs, v = .agg cs := by
    unfold Value.okWide at ho
    rw [Try.underlying40] at ho
    cases v <;> simp_all
  obtain ⟨cs, rfl⟩ := hag
  obtain ⟨fuel, hf⟩ := h
  obtain ⟨y, e, h1, h2⟩ := trod_boot hf
  refine ⟨y, ?_, h1, h2⟩
  have : cs = (encK y).toArray := by apply Array.ext'; rw [← e]; rfl
  rw [this]

/-- An argument that is a list of boots. -/
theorem open_boots {v : Value} {d : DataW H} {p : List MemPlace} (ho : ∃ a n c, v = .slice a n c) (h : DataW.Trod enc Try.prog w base (fun _ => true) held 51 v d p) : ∃ L, BootsAt w v L := by
  obtain ⟨a, n, c, rfl⟩ := ho
  obtain ⟨fuel, hf⟩ := h
  have e4 : Try.prog.cellsOf 40 = 35 := by kernel_rfl
  rcases Go.Deep.open_slice Try.underlying51 hf with ⟨e, -⟩ | ⟨a', len, cap, m, fu, D, Pl, e, -, hlc, hcm, hm, -, hel⟩
  · simp only [Value.cells, List.cons.injEq, and_true, Value.slice.injEq] at e
    obtain ⟨rfl, rfl, rfl⟩ := e
    exact ⟨[], none, 0, rfl, Nat.le_refl _, by unfold maxLen; omega, fun k hk => by simp at hk, fun h => absurd rfl h⟩
  · simp only [Value.cells, List.cons.injEq, and_true, Value.slice.injEq] at e
    obtain ⟨rfl, rfl, rfl⟩ := e
    rw [if_pos rfl] at hm
    subst hm
    rw [e4] at hel
    have hel2 : ∀ i, i < n → ∃ y : BK, w.cells? base (a'.add (i * 35)) 35 = some (encK y) ∧ y.WF ∧ y.Rng := by
      intro i hi
      obtain ⟨cs', h1, h2⟩ := hel i (by omega)
      obtain ⟨y, rfl, h3⟩ := trod_boot h2
      exact ⟨y, h1, h3⟩
    obtain ⟨f, hf2⟩ := @Go.Deep.choose_lt BK ⟨BK.zero⟩ n _ hel2
    have hcell : ∀ i, i < n → ∀ j, j < 35 → w.cell? ((a'.add (i * 35)).add j) = (encK (f i))[j]? := fun i hi j hj => (World.cells?_some (hf2 i hi).1).2.2 j hj
    have hwf : ∀ k ∈ (List.range n).map f, k.WF ∧ k.Rng := fun x hx => by
      obtain ⟨i, hi, rfl⟩ := List.mem_map.1 hx
      exact (hf2 i (List.mem_range.1 hi)).2
    refine ⟨(List.range n).map f, some a', m, by simp, by simp; omega, hcm, hwf, fun hne => ?_⟩
    have hpos : 0 < n := by
      rcases Nat.eq_zero_or_pos n with h0 | h0
      · exfalso; apply hne; rw [h0]; rfl
      · exact h0
    have h0 := hcell 0 hpos 0 (by omega)
    rw [Nat.zero_mul, List.getElem?_eq_getElem (by rw [encK_len (hf2 0 hpos).2.1.whole]; omega)] at h0
    obtain ⟨hsp, hg⟩ := cell_plain h0
    obtain ⟨g, off, sp⟩ := a'
    have hadd : ∀ x j, (⟨g, x, none⟩ : Addr).add j = ⟨g, x + j, none⟩ := fun x j => by unfold Addr.add; split <;> simp_all
    simp only [Addr.add] at hsp hg
    have hsp : sp = none := by simpa using hsp
    subst hsp
    have hg : g < w.heap.size := by simpa using hg
    refine ⟨g, off, rfl, hg, fun i hi j v hj => ?_⟩
    have hi' : i < n := by simpa using hi
    have hget : ((List.range n).map f).getD i BK.zero = f i := by simp [List.getD_eq_getElem?_getD, hi']
    rw [hget] at hj
    have hj4 : j < 35 := by
      have := (List.getElem?_eq_some_iff.1 hj).1
      rw [encK_len (hf2 i hi').2.1.whole] at this; exact this
    have h1 := hcell i hi' j hj4
    rw [hadd, hadd] at h1
    rw [h1, hj]
end

end Go.Proofs.Ytpeboaoephkfhaa
