/- The walks of round.Draw, and of the closure of round.Order that lets two members change places. -/
import Derived.Test.YtbfkdidoajahbaaRows
import Derived.Test.YtbfkdidoajahbaaBase
import Derived.Test.YtbfkdidoajahbaaRoundP
import Derived.WalkKit
import Derived.ProofKit
import Derived.OpenShut
import Derived.Outline
import Derived.BigRegion
import Derived.Lib.Hide
namespace Go.Proofs.Ytbfkdidoajahbaa.Round
open Go.ChangeShapes Go.WideShapes Go.ChangeAt Go.RowKit

abbrev ints (l : List Int) : List Value := l.map (Value.int .i64)

theorem draw_any (n : Int) (w : World) :
    Calls Try.prog 11 #[.int .u64 n] w fun e w' => e = .returned (.int .u64 (drawP n)) ∧ w = w' := by
  go_enter Try.func11, Try.ntmps11
  go_wp2
  go_ret
  exact ⟨rfl, rfl⟩

theorem ref_draw_any (n : Int) (w : World) :
    Calls Try.prog 12 #[.int .u64 n] w fun e w' => e = .returned (.int .u64 (drawP n)) ∧ w = w' := by
  go_enter Try.func12, Try.ntmps12
  go_wp2
  go_ret
  exact ⟨rfl, rfl⟩

/-- A row of ints of which the first are l. -/
theorem row_get {cur : Array Value} {n : Nat} {l : List Int} (h : cur.toList.take n = ints l) (hl : l.length = n) {i : Nat} (hi : i < n) :
    cur[i]? = some (.int .i64 (l.getD i 0)) := by
  have h1 : (cur.toList.take n)[i]? = some (.int .i64 (l.getD i 0)) := by
    rw [h]; simp [List.getElem?_map, List.getD_eq_getElem?_getD]; rw [List.getElem?_eq_getElem (by omega)]; simp
  rw [List.getElem?_take, if_pos hi] at h1
  simpa using h1

theorem row_set {cur : Array Value} {n : Nat} {l : List Int} (h : cur.toList.take n = ints l) (i : Nat) (x : Int) :
    (cur.setIfInBounds i (.int .i64 x)).toList.take n = ints (l.set i x) := by
  rw [Array.toList_setIfInBounds, List.take_set, h, ints, ints, List.map_set]

set_option maxHeartbeats 800000 in
theorem swap_any (D L g n cap i : Nat) (d : Int) (l : List Int) (cur : Array Value) (w : World) (hi0 : 1 ≤ i) (hi1 : i < n) (hn : n ≤ 8)
    (hD : Blk w D #[.int .u64 d] 22) (hL : Blk w L #[.slice (some ⟨g, 0, none⟩) n cap] 24)
    (hg : Blk w g cur 3) (hcur : cur.toList.take n = ints l) (hl : l.length = n) (hDg : D ≠ g) (hDL : D ≠ L) :
    Calls Try.prog 15 #[.int .i64 i, .pointer (some ⟨D, 0, none⟩), .pointer (some ⟨L, 0, none⟩)] w fun e w' => e = .returned (.tuple #[]) ∧
      Blk w' D #[.int .u64 (drawP d)] 22 ∧ (∃ cur', Blk w' g cur' 3 ∧ cur'.toList.take n = ints (swapL l i (jOf d i)) ∧ cur'.size = cur.size) ∧ Upd [D, g] w w' := by
  obtain ⟨j, hj⟩ : ∃ j, j = jOf d i := ⟨_, rfl⟩
  have hj1 : j ≤ i := hj ▸ jOf_le d i
  have hd := drawP_wf d
  have hjj : drawP d / 8589934592 % ((i : Int) + 1) = (j : Int) := hj ▸ jOf_cast d i
  have hjt : (drawP d / 8589934592).tmod ((i : Int) + 1) = (j : Int) := by
    rw [Int.tmod_eq_emod_of_nonneg (by omega)]; exact hjj
  have ga := row_get hcur hl hi1
  have gb := row_get hcur hl (show j < n by omega)
  obtain ⟨a, ha⟩ : ∃ a, a = l.getD i 0 := ⟨_, rfl⟩
  obtain ⟨b, hb⟩ : ∃ b, b = l.getD j 0 := ⟨_, rfl⟩
  rw [← ha] at ga; rw [← hb] at gb
  have cD := hD.cell (o := 0) rfl
  have fD := hD.free 0
  have cL := hL.cell (o := 0) rfl
  have Hjj := Lib.hid hjj
  have Ha := Lib.hid ha
  have Hb := Lib.hid hb
  have Hj := Lib.hid hj
  have Hl := Lib.hid hl
  have Hc := Lib.hid hcur
  have HD := Lib.hid hD
  have HL := Lib.hid hL
  have Hg := Lib.hid hg
  have Hga := Lib.hid ga
  have Hgb := Lib.hid gb
  clear hjj ha hb hj hl hcur hD hL hg ga gb
  go_enter Try.func15, Try.ntmps15
  go_wp2_with (go_at_call 11; refine (draw_any _ _).mono ?_; rintro e w' ⟨rfl, rfl⟩)
  obtain ⟨w2, hw2⟩ : ∃ w2, w2 = w.setCell { block := D, off := 0 } (Value.int IntKind.u64 (drawP d)) := ⟨_, rfl⟩
  rw [← hw2]
  have h2D : Blk w2 D #[.int .u64 (drawP d)] 22 := by rw [hw2]; exact HD.out.set 0 _
  have h2L : Blk w2 L #[.slice (some ⟨g, 0, none⟩) n cap] 24 := by rw [hw2]; exact HL.out.set_other (Ne.symm hDL) _
  have h2g : Blk w2 g cur 3 := by rw [hw2]; exact Hg.out.set_other (Ne.symm hDg) _
  have hu : Upd [D, g] w w2 := by rw [hw2]; exact (Upd.refl _ _).setCell (by simp) _
  have k1 := h2L.cell (o := 0) rfl
  have k2 := h2g.cell Hga.out
  have k3 := h2g.cell Hgb.out
  have k4 := h2g.free i
  have k5 := h2g.free j
  have h3g := h2g.set i (.int .i64 b)
  obtain ⟨a', k6⟩ : ∃ a', (w2.setCell ⟨g, i, none⟩ (.int .i64 b)).cell? ⟨g, j, none⟩ = some a' := by
    have := Hgb.out
    refine ⟨((cur.setIfInBounds i (Value.int .i64 b))[j]?).getD undef, h3g.cell ?_⟩
    rw [Array.getElem?_setIfInBounds]
    split
    · rename_i e
      have e2 : j < cur.size := (Array.getElem?_eq_some_iff.1 this).1
      subst e; rw [if_pos e2]; rfl
    · rw [this]; rfl
  have H3g := Lib.hid h3g
  have Hu := Lib.hid hu
  have H2D := Lib.hid h2D
  clear hw2 h3g h2D h2g h2L hu cD cL fD
  clear hjt
  go_region
  all_goals go_wp2
  all_goals go_end0
  all_goals refine ⟨rfl, ?_, ?_, ?_⟩
  · exact ((H2D.out.set_other (p := ⟨g, i, none⟩) hDg _).set_other (p := ⟨g, j, none⟩) hDg _).drew
  · refine ⟨_, (H3g.out.set j (.int .i64 a)).drew, ?_, by simp⟩
    rw [Ha.out, Hb.out]
    have h1 := row_set Hc.out i (l.getD j 0)
    have h2 := row_set h1 j (l.getD i 0)
    rw [h2, Hj.out]; rfl
  · exact (((Hu.out).setCell (by simp) _).setCell (by simp) _).drew

end Go.Proofs.Ytbfkdidoajahbaa.Round
