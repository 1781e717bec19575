/- Rows of blocks that are owned; the document's disk in memory. -/
import Derived.Test.YtfjmkdjbeoafjaaRefP
import Derived.Laws.OwnMore
namespace Go.Proofs.Ytfjmkdjbeoafjaa
open Go.ChangeShapes Go.WideShapes Go.ChangeAt Go.RowKit

/-- Blocks as the cells of a row. -/
def rowC (L : List Blok) : List Value := L.flatten.map (Value.int .u8)

theorem rowC_get {L : List Blok} (h : ∀ b ∈ L, b.length = 64) {n : Nat} (hn : n < L.length) (k : Nat) (hk : k < 64) : (rowC L)[n * 64 + k]? = some (.int .u8 ((L.getD n []).getD k 0)) := by
  unfold rowC
  have hl := flatten_len h
  have e := flatten_cut h hn
  have e2 : (L.getD n []).getD k 0 = L.flatten.getD (n * 64 + k) 0 := by
    rw [← e, List.getD_eq_getElem?_getD, List.getD_eq_getElem?_getD, List.getElem?_take, if_pos hk, List.getElem?_drop, Nat.mul_comm]
  rw [e2, List.getElem?_map, List.getD_eq_getElem?_getD, List.getElem?_eq_getElem (by omega)]; rfl

theorem rowC_len {L : List Blok} (h : ∀ b ∈ L, b.length = 64) : (rowC L).length = L.length * 64 := by
  unfold rowC; rw [List.length_map, flatten_len h, Nat.mul_comm]

/-- The row of blocks that a slice of the disk's is. -/
def RowAt (w : World) (v : Value) (L : List Blok) : Prop := w.ownsRow 0 54 64 v L.length (rowC L)

theorem RowAt.upd {S : List Nat} {w w' : World} {v : Value} {L : List Blok} (h : RowAt w v L) (hu : Upd S w w') (hS : ∀ g, v.ownBlock = some g → g ∉ S) : RowAt w' v L := own_upd h hu hS

/-- One block of the row. -/
theorem row_cells {w : World} {g cap : Nat} {L : List Blok} (h : RowAt w (.slice (some ⟨g, 0, none⟩) L.length cap) L) (hL : ∀ b ∈ L, b.length = 64) {n : Nat} (hn : n < L.length) : CellsAt w g (n * 64) ((L.getD n []).map (Value.int .u8)) := by
  intro j v hj
  have hb : (L.getD n []).length = 64 := hL _ (DK.getD_mem hn)
  have hj64 : j < 64 := by
    have := (List.getElem?_eq_some_iff.1 hj).1
    rw [List.length_map, hb] at this; exact this
  have hc := World.ownsRow.cellAt h (n * 64 + j) (by
    have : (n + 1) * 64 ≤ L.length * 64 := Nat.mul_le_mul_right _ hn
    omega)
  rw [hc, rowC_get hL hn j hj64]
  rw [List.getElem?_map] at hj
  rw [List.getD_eq_getElem?_getD (l := L.getD n [])]
  rw [List.getElem?_eq_getElem (by omega)] at hj ⊢
  exact hj

theorem row_cell {w : World} {g cap : Nat} {L : List Blok} (h : RowAt w (.slice (some ⟨g, 0, none⟩) L.length cap) L) (hL : ∀ b ∈ L, b.length = 64) {n : Nat} (hn : n < L.length) (k : Nat) (hk : k < 64) : w.cell? ⟨g, n * 64 + k, none⟩ = some (.int .u8 ((L.getD n []).getD k 0)) := by
  have : (n + 1) * 64 ≤ L.length * 64 := Nat.mul_le_mul_right _ hn
  rw [World.ownsRow.cellAt h (n * 64 + k) (by omega), rowC_get hL hn k hk]

/-- A byte of a block is written. -/
theorem row_set {w : World} {g cap : Nat} {L : List Blok} (h : RowAt w (.slice (some ⟨g, 0, none⟩) L.length cap) L) (hL : ∀ b ∈ L, b.length = 64) {n : Nat} (hn : n < L.length) (k : Nat) (hk : k < 64) (x : Int) :
    RowAt (w.setCell ⟨g, n * 64 + k, none⟩ (.int .u8 x)) (.slice (some ⟨g, 0, none⟩) L.length cap) (L.set n ((L.getD n []).set k x)) := by
  have h1 := (World.ownsRow.stored h (n * 64 + k) (.int .u8 x)).1
  unfold RowAt
  rw [List.length_set]
  have hb : (L.getD n []).length = 64 := hL _ (DK.getD_mem hn)
  have e : (rowC L).set (n * 64 + k) (.int .u8 x) = rowC (L.set n ((L.getD n []).set k x)) := by
    have hL2 : ∀ b ∈ L.set n ((L.getD n []).set k x), b.length = 64 := fun b hbm => by
      rcases List.mem_or_eq_of_mem_set hbm with h2 | h2
      · exact hL b h2
      · rw [h2, List.length_set]; exact hb
    apply List.ext_getElem?
    intro i
    by_cases hi : i < L.length * 64
    · have hdm : i = i / 64 * 64 + i % 64 := by omega
      have hq : i / 64 < L.length := by omega
      rw [List.getElem?_set]
      have hr := rowC_get hL2 (n := i / 64) (by rw [List.length_set]; exact hq) (i % 64) (by omega)
      rw [← hdm] at hr
      rw [hr]
      by_cases hin : n * 64 + k = i
      · have e1 : i / 64 = n := by omega
        have e2 : i % 64 = k := by omega
        rw [if_pos hin, if_pos (by rw [rowC_len hL]; omega), e1, e2]
        simp [List.getD_eq_getElem?_getD, hn, List.getElem?_set, hb, hk]
        have hb2 : (L[n]).length = 64 := hL _ (List.getElem_mem hn)
        simp [hb2, hk]
      · rw [if_neg hin]
        have hr2 := rowC_get hL hq (i % 64) (by omega)
        rw [← hdm] at hr2
        rw [hr2]
        by_cases e1 : i / 64 = n
        · have e2 : i % 64 ≠ k := by omega
          rw [e1]
          have e3 : (L.set n ((L.getD n []).set k x)).getD n [] = (L.getD n []).set k x := by
            rw [List.getD_eq_getElem?_getD, List.getElem?_set_self hn]; rfl
          rw [e3, List.getD_eq_getElem?_getD (l := (L.getD n []).set k x), List.getElem?_set_ne (Ne.symm e2), ← List.getD_eq_getElem?_getD]
        · have e3 : (L.set n ((L.getD n []).set k x)).getD (i / 64) [] = L.getD (i / 64) [] := by
            rw [List.getD_eq_getElem?_getD, List.getElem?_set_ne (Ne.symm e1), ← List.getD_eq_getElem?_getD]
          rw [e3]
    · rw [List.getElem?_eq_none (by rw [List.length_set, rowC_len hL]; omega), List.getElem?_eq_none (by rw [rowC_len hL2, List.length_set]; omega)]
  rw [← e]; exact h1

/-- A block of the row is written. -/
theorem wpList_storeRow {ops : Array Oper} {Q : Exit → Act → World → Prop} {rest : List Oper} {a : Act} {o : Oper} {w : World} {g cap n : Nat} {L : List Blok} {l : Blok} (x y : Operand) (ho : o.op = .store 54 x y) (hgd : o.guard = none) (hx : a.eval x = .pointer (some ⟨g, n * 64, none⟩)) (hy : a.eval y = .agg (U8 l))
    (hr : RowAt w (.slice (some ⟨g, 0, none⟩) L.length cap) L) (hL : ∀ b ∈ L, b.length = 64) (hn : n < L.length) (hl : l.length = 64)
    (h : ∀ w', RowAt w' (.slice (some ⟨g, 0, none⟩) L.length cap) (L.set n l) → Upd [g] w w' → w'.heap.size = w.heap.size → wpList Try.prog ops Q rest (a.put o.dst undef) w') : wpList Try.prog ops Q (o :: rest) a w := by
  have hr' := hr
  obtain ⟨hxs, h0 | ⟨g', cap', cur, hv, hb, hg, hnc, hcm, hcs, htake⟩⟩ := hr
  · exact absurd h0.1 (by simp)
  · simp only [Value.slice.injEq, Option.some.injEq, Addr.mk.injEq, and_true, true_and] at hv
    obtain ⟨rfl, rfl⟩ := hv
    have hlen : (n + 1) * 64 ≤ L.length * 64 := Nat.mul_le_mul_right _ hn
    have hcap : L.length * 64 ≤ cap * 64 := Nat.mul_le_mul_right _ hnc
    have hst := exec_store (P := Try.prog) 54 x y ho hx hy (show Blk w g cur 54 from hg) info_arr (by rw [U8_size, hl]) (by omega) (U8_one l)
    refine wpList_runU hgd hst (h _ ?_ (setRow_upd (Upd.refl _ _) (.inl (by simp)) _) (by simp))
    have hfl := flatten_len hL
    have e := flatten_set hL (k := 64) hn (by omega) hl
    rw [List.take_of_length_le (by omega)] at e
    have e2 : DK.lay 64 l (L.getD n []) = l := by
      unfold DK.lay
      have : (L.getD n []).length = 64 := hL _ (DK.getD_mem hn)
      rw [List.take_of_length_le (by omega), List.drop_of_length_le (by omega), List.append_nil]
    rw [e2, Nat.mul_comm] at e
    have hu8 : (U8 l).toList.length = 64 := by rw [U8_toList, List.length_map, hl]
    have hcl : cur.toList.length = cur.size := Array.length_toList
    have hspl : (splice cur.toList (n * 64) (U8 l).toList).length = cur.size := by
      rw [splice_len (by omega)]; simp
    refine ⟨by rw [rowC_len (set_len64 hL hl n)], .inr ⟨g, cap, (splice cur.toList (n * 64) (U8 l).toList).toArray, by simp, hb, setRow_heap w g _ _ _ _ hg, by simpa using hnc, hcm, by simp [hspl, hcs], ?_⟩⟩
    show List.take ((L.set n l).length * 64) (splice cur.toList (n * 64) (U8 l).toList) = rowC (L.set n l)
    unfold rowC
    rw [← e, splice_map, ← U8_toList l, List.length_set]
    have hml : (L.flatten.map (Value.int .u8)).length = L.length * 64 := by rw [List.length_map, hfl, Nat.mul_comm]
    apply List.ext_getElem?
    intro i
    rw [List.getElem?_take]
    by_cases hi : i < L.length * 64
    · rw [if_pos hi, splice_get (by omega), splice_get (by omega)]
      split
      · rfl
      · have : (cur.toList.take (L.length * 64))[i]? = (rowC L)[i]? := by rw [htake]
        rw [List.getElem?_take, if_pos hi] at this
        exact this
    · rw [if_neg hi, List.getElem?_eq_none (by rw [splice_len (by omega)]; omega)]

end Go.Proofs.Ytfjmkdjbeoafjaa
