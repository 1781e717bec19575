/- Facts, and lists of facts, that came in, opened. -/
import Derived.Test.YtbdmnmjdnfpfbaaLatR
import Derived.Test.YtbdmnmjdnfpfbaaOpen
import Derived.Lib.SmallJoins
import Derived.Deep.Slices
namespace Go.Proofs.Ytbdmnmjdnfpfbaa
open Go.ChangeShapes Go.WideShapes Go.ChangeAt Go.RowKit

section
variable {H : Type} {enc : TypeId × Value → H} {w : World} {base : Nat} {held : Bool}

theorem cell_plain {w : World} {a : Addr} {u : Value} (h : w.cell? (a.add 0) = some u) : a.spot = none ∧ a.block < w.heap.size := by
  have h0 : a.spot = none := by
    unfold World.cell? at h
    split at h
    · split at h
      · cases h
      · rename_i hs; simpa [Addr.add] using hs
    · cases h
  refine ⟨h0, ?_⟩
  have := World.block_lt_of_cell? _ _ h
  simpa [Addr.add] using this

/-- A slice of chunks' digests. -/
theorem trod_chunks {fuel : Nat} {cs : List Value} {x : DataW H × List MemPlace} (h : DataW.trod enc Try.prog w base (fun _ => true) held fuel 26 cs = some x) :
    ∃ v l, cs = [v] ∧ ChunksAt w (List.range w.heap.size) v l ∧ ∀ c ∈ l, c.length = 32 := by
  have e4 : Try.prog.cellsOf 27 = 32 := by kernel_rfl
  rcases Go.Deep.open_slice Try.underlying26 h with ⟨e, -⟩ | ⟨a, n, cap, m, fu, D, Pl, e, -, hlc, hcm, hm, -, hel⟩
  · exact ⟨_, [], e, ChunksAt.nil _ _, by simp⟩
  · rw [if_pos rfl] at hm
    subst hm
    rw [e4] at hel
    have hel2 : ∀ i, i < n → ∃ l : List Int, w.cells? base (a.add (i * 32)) 32 = some (l.map (Value.int .u8)) ∧ l.length = 32 := by
      intro i hi
      obtain ⟨cs', h1, h2⟩ := hel i (by omega)
      obtain ⟨l, rfl, h3, -⟩ := trod_bytes Try.underlying27 Try.underlying5 (by kernel_rfl) (by kernel_rfl) h2
      exact ⟨l, h1, h3⟩
    obtain ⟨f, hf2⟩ := @Go.Deep.choose_lt (List Int) ⟨[]⟩ n _ hel2
    have hcell : ∀ i, i < n → ∀ j, j < 32 → w.cell? ((a.add (i * 32)).add j) = ((f i).map (Value.int .u8))[j]? := fun i hi j hj => (World.cells?_some (hf2 i hi).1).2.2 j hj
    refine ⟨_, (List.range n).map f, e, ⟨some a, m, by simp, by simp; omega, hcm, fun hne => ?_⟩, fun c hc => ?_⟩
    · have hpos : 0 < n := by
        rcases Nat.eq_zero_or_pos n with h0 | h0
        · exfalso; apply hne; rw [h0]; rfl
        · exact h0
      have h0 := hcell 0 hpos 0 (by omega)
      rw [Nat.zero_mul, List.getElem?_eq_getElem (by rw [List.length_map, (hf2 0 hpos).2]; omega)] at h0
      obtain ⟨hsp, hg⟩ := cell_plain h0
      obtain ⟨g, off, sp⟩ := a
      have hadd : ∀ x j, (⟨g, x, none⟩ : Addr).add j = ⟨g, x + j, none⟩ := fun x j => by unfold Addr.add; split <;> simp_all
      simp only [Addr.add] at hsp hg
      have hsp : sp = none := by simpa using hsp
      subst hsp
      have hg : g < w.heap.size := by simpa using hg
      refine ⟨g, off, rfl, hg, List.mem_range.2 hg, fun i hi j v hj => ?_⟩
      have hi' : i < n := by simpa using hi
      have hget : ((List.range n).map f).getD i [] = f i := by simp [List.getD_eq_getElem?_getD, hi']
      rw [hget] at hj
      have hj4 : j < 32 := by
        have := (List.getElem?_eq_some_iff.1 hj).1
        rw [List.length_map, (hf2 i hi').2] at this; exact this
      have h1 := hcell i hi' j hj4
      rw [hadd, hadd] at h1
      rw [h1, hj]
    · obtain ⟨i, hi, rfl⟩ := List.mem_map.1 hc
      exact (hf2 i (List.mem_range.1 hi)).2

theorem trod_man {fuel : Nat} {cs : List Value} {x : DataW H × List MemPlace} (h : DataW.trod enc Try.prog w base (fun _ => true) held fuel 29 cs = some x) :
    ∃ (f : FK) (cv : Value), cs = encM f cv ∧ f.WF ∧ ChunksAt w (List.range w.heap.size) cv f.chunks := by
  obtain ⟨y0, y1, y2, y3, n, rfl, hl, h0, h1, h2, h3⟩ := Go.Joins.trod_struct4 Try.underlying29 h
  have e0 : Try.prog.cellsOf 3 = 1 := by kernel_rfl
  have e1 : Try.prog.cellsOf 26 = 1 := by kernel_rfl
  have e3 : Try.prog.cellsOf 27 = 32 := by kernel_rfl
  have e4 : Try.prog.cellsOf 29 = 35 := by kernel_rfl
  rw [e4] at hl
  simp only [e0] at h0 h1
  simp only [e1] at h2
  simp only [e3] at h3
  obtain ⟨z0, k0, -, -⟩ := DataW.trod_int Try.underlying3 h0
  obtain ⟨z1, k1, -, -⟩ := DataW.trod_int Try.underlying3 h1
  obtain ⟨cv, l, k2, hc, h32⟩ := trod_chunks h2
  obtain ⟨b, k3, hb, hbu⟩ := trod_bytes Try.underlying27 Try.underlying5 (by kernel_rfl) (by kernel_rfl) h3
  refine ⟨⟨0, 0, 0, z0, z1, l, b⟩, cv, ?_, ⟨hb, fun x hx => by have := hbu x hx; omega, h32⟩, hc⟩
  have s1 : cs = cs.take 1 ++ ((cs.drop 1).take 1 ++ ((cs.drop 2).take 1 ++ (cs.drop 3).take 32)) := by
    have t3 : (cs.drop 3).take 32 = cs.drop 3 := List.take_of_length_le (by simp; omega)
    rw [t3, show cs.drop 3 = (cs.drop 2).drop 1 by simp, List.take_append_drop, show cs.drop 2 = (cs.drop 1).drop 1 by simp, List.take_append_drop, List.take_append_drop]
  simp only [List.drop_zero] at k0
  rw [s1, k0, k1, k2, k3]
  rfl

theorem trod_fact {fuel : Nat} {cs : List Value} {x : DataW H × List MemPlace} (h : DataW.trod enc Try.prog w base (fun _ => true) held fuel 31 cs = some x) :
    ∃ (y : FK × Value), cs = encF y.1 y.2 ∧ y.1.WF ∧ ChunksAt w (List.range w.heap.size) y.2 y.1.chunks := by
  obtain ⟨y0, y1, y2, y3, n, rfl, hl, h0, h1, h2, h3⟩ := Go.Joins.trod_struct4 Try.underlying31 h
  have e0 : Try.prog.cellsOf 3 = 1 := by kernel_rfl
  have e1 : Try.prog.cellsOf 2 = 1 := by kernel_rfl
  have e3 : Try.prog.cellsOf 29 = 35 := by kernel_rfl
  have e4 : Try.prog.cellsOf 31 = 38 := by kernel_rfl
  rw [e4] at hl
  simp only [e0] at h0 h2
  simp only [e1] at h1
  simp only [e3] at h3
  obtain ⟨z0, k0, -, -⟩ := DataW.trod_int Try.underlying3 h0
  obtain ⟨z1, k1, -, -⟩ := DataW.trod_int Try.underlying2 h1
  obtain ⟨z2, k2, -, -⟩ := DataW.trod_int Try.underlying3 h2
  obtain ⟨f, cv, k3, hf, hc⟩ := trod_man h3
  refine ⟨(⟨z0, z1, z2, f.size, f.chunk, f.chunks, f.whole⟩, cv), ?_, ⟨hf.whole, hf.bytes, hf.each⟩, hc⟩
  have s1 : cs = cs.take 1 ++ ((cs.drop 1).take 1 ++ ((cs.drop 2).take 1 ++ (cs.drop 3).take 35)) := by
    have t3 : (cs.drop 3).take 35 = cs.drop 3 := List.take_of_length_le (by simp; omega)
    rw [t3, show cs.drop 3 = (cs.drop 2).drop 1 by simp, List.take_append_drop, show cs.drop 2 = (cs.drop 1).drop 1 by simp, List.take_append_drop, List.take_append_drop]
  simp only [List.drop_zero] at k0
  rw [s1, k0, k1, k2, k3]
  rfl

/-- An argument that is a fact. -/
theorem open_fact {r : Reach} {b0 : Nat} {v : Value} {d : DataW H} {p : List MemPlace} (ho : Value.okWide Try.prog w r b0 31 v) (h : DataW.Trod enc Try.prog w base (fun _ => true) held 31 v d p) :
    ∃ (y : FK × Value), v = .agg (encF y.1 y.2).toArray ∧ y.1.WF ∧ CI w y.2 y.1.chunks := by
  have hag : ∃ cs, v = .agg cs := by
    unfold Value.okWide at ho
    rw [Try.underlying31] at ho
    cases v <;> simp_all
  obtain ⟨cs, rfl⟩ := hag
  obtain ⟨fuel, hf⟩ := h
  obtain ⟨y, e, h1, h2⟩ := trod_fact hf
  refine ⟨y, ?_, h1, ⟨_, h2, fun z hz => List.mem_range.1 hz⟩⟩
  have : cs = (encF y.1 y.2).toArray := by apply Array.ext'; rw [← e]; rfl
  rw [this]

/-- An argument that is a list of facts. -/
theorem open_facts {v : Value} {d : DataW H} {p : List MemPlace} (ho : ∃ a n c, v = .slice a n c) (h : DataW.Trod enc Try.prog w base (fun _ => true) held 23 v d p) : ∃ L, FI w v L := by
  obtain ⟨a, n, c, rfl⟩ := ho
  obtain ⟨fuel, hf⟩ := h
  have e4 : Try.prog.cellsOf 31 = 38 := by kernel_rfl
  rcases Go.Deep.open_slice Try.underlying23 hf with ⟨e, -⟩ | ⟨a', len, cap, m, fu, D, Pl, e, -, hlc, hcm, hm, -, hel⟩
  · simp only [Value.cells, List.cons.injEq, and_true, Value.slice.injEq] at e
    obtain ⟨rfl, rfl, rfl⟩ := e
    exact ⟨[], FI.nil _⟩
  · simp only [Value.cells, List.cons.injEq, and_true, Value.slice.injEq] at e
    obtain ⟨rfl, rfl, rfl⟩ := e
    rw [if_pos rfl] at hm
    subst hm
    rw [e4] at hel
    have hel2 : ∀ i, i < n → ∃ y : FK × Value, w.cells? base (a'.add (i * 38)) 38 = some (encF y.1 y.2) ∧ y.1.WF ∧ ChunksAt w (List.range w.heap.size) y.2 y.1.chunks := by
      intro i hi
      obtain ⟨cs', h1, h2⟩ := hel i (by omega)
      obtain ⟨y, rfl, h3⟩ := trod_fact h2
      exact ⟨y, h1, h3⟩
    obtain ⟨f, hf2⟩ := @Go.Deep.choose_lt (FK × Value) ⟨(FK.zero, undef)⟩ n _ hel2
    have hcell : ∀ i, i < n → ∀ j, j < 38 → w.cell? ((a'.add (i * 38)).add j) = (encF (f i).1 (f i).2)[j]? := fun i hi j hj => (World.cells?_some (hf2 i hi).1).2.2 j hj
    have hwf : WFL ((List.range n).map (fun i => (f i).1)) := fun x hx => by
      obtain ⟨i, hi, rfl⟩ := List.mem_map.1 hx
      exact (hf2 i (List.mem_range.1 hi)).2.1
    refine ⟨(List.range n).map (fun i => (f i).1), List.range w.heap.size, ⟨some a', m, (List.range n).map (fun i => (f i).2), by simp, by simp; omega, hcm, hwf, ⟨by simp, fun i hi => ?_⟩, fun hne => ?_⟩, fun z hz => List.mem_range.1 hz⟩
    · have hi' : i < n := by simpa using hi
      have g1 : ((List.range n).map (fun i => (f i).1)).getD i FK.zero = (f i).1 := by simp [List.getD_eq_getElem?_getD, hi']
      have g2 : ((List.range n).map (fun i => (f i).2)).getD i undef = (f i).2 := by simp [List.getD_eq_getElem?_getD, hi']
      rw [g1, g2]; exact (hf2 i hi').2.2
    · have hpos : 0 < n := by
        rcases Nat.eq_zero_or_pos n with h0 | h0
        · exfalso; apply hne; rw [h0]; rfl
        · exact h0
      have h0 := hcell 0 hpos 0 (by omega)
      rw [Nat.zero_mul, List.getElem?_eq_getElem (by rw [encF_len (hf2 0 hpos).2.1]; omega)] at h0
      obtain ⟨hsp, hg⟩ := cell_plain h0
      obtain ⟨g, off, sp⟩ := a'
      have hadd : ∀ x j, (⟨g, x, none⟩ : Addr).add j = ⟨g, x + j, none⟩ := fun x j => by unfold Addr.add; split <;> simp_all
      simp only [Addr.add] at hsp hg
      have hsp : sp = none := by simpa using hsp
      subst hsp
      have hg : g < w.heap.size := by simpa using hg
      refine ⟨g, off, rfl, hg, List.mem_range.2 hg, fun j v hj => ?_⟩
      have hlen := encL_len ((List.range n).map (fun i => (f i).1)) ((List.range n).map (fun i => (f i).2)) (by simp) hwf
      rw [List.length_map, List.length_range] at hlen
      have hjl : j < n * 38 := by
        have := (List.getElem?_eq_some_iff.1 hj).1
        rw [hlen] at this; exact this
      have hi' : j / 38 < n := Nat.div_lt_of_lt_mul (by omega)
      have hg1 := encL_get (L := (List.range n).map (fun i => (f i).1)) (cvs := (List.range n).map (fun i => (f i).2)) (by simp) hwf (i := j / 38) (by simpa using hi')
      have g1 : ((List.range n).map (fun i => (f i).1)).getD (j / 38) FK.zero = (f (j / 38)).1 := by simp [List.getD_eq_getElem?_getD, hi']
      have g2 : ((List.range n).map (fun i => (f i).2)).getD (j / 38) undef = (f (j / 38)).2 := by simp [List.getD_eq_getElem?_getD, hi']
      rw [g1, g2] at hg1
      have h1 := hcell (j / 38) hi' (j % 38) (Nat.mod_lt _ (by omega))
      rw [hadd, hadd, ← hg1, List.getElem?_take, if_pos (Nat.mod_lt _ (by omega)), List.getElem?_drop] at h1
      have hjj : j / 38 * 38 + j % 38 = j := by have := Nat.div_add_mod j 38; omega
      rw [hjj, Nat.add_assoc, hjj] at h1
      rw [h1, hj]
end

end Go.Proofs.Ytbdmnmjdnfpfbaa
