/- The document's disk in memory; its walks. -/
import Derived.Test.YtfjmkdjbeoafjaaRefD
import Derived.Deep.AppendLies
import Derived.Deep.RegionHeld3
namespace Go.Proofs.Ytfjmkdjbeoafjaa
open Go.ChangeShapes Go.WideShapes Go.ChangeAt Go.RowKit

namespace DK
/-- The blocks as they are read. -/
def now (d : DK) : List Blok := (List.range d.last.length).map fun (j : Nat) => d.get j
theorem now_len (d : DK) : d.now.length = d.last.length := by simp [now]
theorem now_get (d : DK) {n : Nat} (hn : n < d.last.length) : d.now.getD n [] = d.get n := by
  unfold now; rw [List.getD_eq_getElem?_getD, List.getElem?_map, List.getElem?_range hn]; rfl
theorem now_64 {d : DK} (h : d.WF) : ∀ b ∈ d.now, b.length = 64 := fun b hb => by
  unfold now at hb
  obtain ⟨j, hj, rfl⟩ := List.mem_map.1 hb
  have hj' : j < d.last.length := by simpa using hj
  exact get_len h (by omega) (by omega)
theorem now_put (d : DK) (n : Nat) (x : Blok) : (d.put n x).now = d.now.set n x := by
  apply List.ext_getElem?
  intro j
  unfold now
  rw [List.getElem?_set]
  show ((List.range d.last.length).map _)[j]? = _
  by_cases hj : j < d.last.length
  · rw [List.getElem?_map, List.getElem?_range hj, List.getElem?_map, List.getElem?_range hj]
    simp only [Option.map_some, get_put]
    by_cases e : n = j
    · subst e; simp [hj]
    · have e2 : ¬ ((j : Int) = (n : Int)) := by omega
      simp [e, e2]
  · have : ¬ j < (List.range d.last.length).length := by simpa using hj
    simp [hj]; omega
end DK

/-- The document's disk lies at block b, and says what d is; R: all its blocks. -/
def RefAt (w : World) (b : Nat) (R : List Nat) (d : DK) : Prop :=
  ∃ (lg lc ng nc : Nat) (ov : Value), R = b :: lg :: ng :: ov.ownBlock.toList ∧ R.Nodup ∧ d.WF ∧
    Blk w b #[.slice (some ⟨lg, 0, none⟩) d.last.length lc, .slice (some ⟨ng, 0, none⟩) d.now.length nc, ov, .bool d.down] 62 ∧
    RowAt w (.slice (some ⟨lg, 0, none⟩) d.last.length lc) d.last ∧ RowAt w (.slice (some ⟨ng, 0, none⟩) d.now.length nc) d.now ∧
    w.ownsRow 0 3 1 ov d.fresh.length ((d.fresh.map (·.1)).map (Value.int .i64))

theorem RefAt.upd {T : List Nat} {w w' : World} {b : Nat} {R : List Nat} {d : DK} (h : RefAt w b R d) (hu : Upd T w w') (hT : ∀ k ∈ R, k ∉ T) : RefAt w' b R d := by
  obtain ⟨lg, lc, ng, nc, ov, rfl, hn, hw, h1, h2, h3, h4⟩ := h
  refine ⟨lg, lc, ng, nc, ov, rfl, hn, hw, h1.upd hu (hT _ (by simp)), h2.upd hu (fun g hg => hT _ ?_), h3.upd hu (fun g hg => hT _ ?_), own_upd h4 hu fun g hg => hT _ (by simp [hg])⟩
  · simp [Value.ownBlock] at hg; simp [hg]
  · simp [Value.ownBlock] at hg; simp [hg]

theorem RefAt.upd0 {w w' : World} {b : Nat} {R : List Nat} {d : DK} (h : RefAt w b R d) (hu : Upd [] w w') : RefAt w' b R d := h.upd hu (by simp)

theorem RefAt.lt {w : World} {b : Nat} {R : List Nat} {d : DK} (h : RefAt w b R d) : ∀ k ∈ R, k < w.heap.size := by
  obtain ⟨lg, lc, ng, nc, ov, rfl, _, _, h1, h2, h3, h4⟩ := h
  intro k hk
  simp only [List.mem_cons, Option.mem_toList] at hk
  rcases hk with rfl | rfl | rfl | hk
  · exact h1.lt
  · exact (h2.lt k rfl).2
  · exact (h3.lt k rfl).2
  · exact (h4.lt k hk).2

theorem wrong_any (b : Nat) (R : List Nat) (d : DK) (n : Int) (w : World) (h : RefAt w b R d) :
    Calls Try.prog 48 #[.pointer (some ⟨b, 0, none⟩), .int .i64 n] w fun e w' => e = .returned (.int .i64 (d.code n)) ∧ w = w' := by
  obtain ⟨lg, lc, ng, nc, ov, rfl, hn, hw, h1, -⟩ := h
  have c1 := h1.cell (o := 1) rfl
  have c3 := h1.cell (o := 3) rfl
  have hc : (d.down = true ∧ d.code n = 60) ∨ (d.down = false ∧ decide (n < 0) = true ∧ d.code n = 61) ∨ (d.down = false ∧ decide (n < 0) = false ∧ decide ((d.last.length : Int) ≤ n) = true ∧ d.code n = 61) ∨
      (d.down = false ∧ decide (n < 0) = false ∧ decide ((d.last.length : Int) ≤ n) = false ∧ d.code n = 0) := by
    unfold DK.code
    by_cases h1 : d.down = true
    · left; simp [h1]
    · by_cases h2 : n < 0
      · right; left; simp [h1, h2]
      · by_cases h3 : (d.last.length : Int) ≤ n
        · right; right; left; simp [h1, h2, h3]
        · right; right; right; simp [h1, h2, h3]
  rw [DK.now_len] at c1
  clear h1
  rcases hc with ⟨h1, h2⟩ | ⟨h1, h2, h3⟩ | ⟨h1, h2, h3, h4⟩ | ⟨h1, h2, h3, h4⟩
  · rw [h2]; clear h2
    go_enter Try.func48, Try.ntmps48
    go_wp2
    go_ret
    exact ⟨rfl, rfl⟩
  · rw [h3]; clear h3
    go_enter Try.func48, Try.ntmps48
    go_wp2
    go_ret
    exact ⟨rfl, rfl⟩
  · rw [h4]; clear h4
    go_enter Try.func48, Try.ntmps48
    go_wp2
    go_ret
    exact ⟨rfl, rfl⟩
  · rw [h4]; clear h4
    go_enter Try.func48, Try.ntmps48
    go_wp2
    go_ret
    exact ⟨rfl, rfl⟩

theorem rstart_any (b : Nat) (R : List Nat) (d : DK) (w : World) (h : RefAt w b R d) :
    Calls Try.prog 29 #[.pointer (some ⟨b, 0, none⟩)] w fun e w' => e = .returned (.tuple #[]) ∧ RefAt w' b R d.start ∧ Upd R w w' := by
  obtain ⟨lg, lc, ng, nc, ov, rfl, hn, hw, h1, h2, h3, h4⟩ := h
  have c3 := h1.cell (o := 3) rfl
  have f3 := h1.free 3
  have hn' := hn
  simp only [List.nodup_cons, List.mem_cons, not_or, Option.mem_toList] at hn'
  have hu : Upd [b] w (w.setCell ⟨b, 3, none⟩ (.bool false)) := (Upd.refl [b] w).setCell (.inl (by simp)) _
  have R' : RefAt (w.setCell ⟨b, 3, none⟩ (.bool false)) b (b :: lg :: ng :: ov.ownBlock.toList) d.start := by
    refine ⟨lg, lc, ng, nc, ov, rfl, hn, hw.start, h1.set 3 _, h2.upd hu (fun g hg => ?_), h3.upd hu (fun g hg => ?_), own_upd h4 hu (fun g hg => ?_)⟩
    · simp [Value.ownBlock] at hg; subst hg; simp; exact fun e => hn'.1.1 e.symm
    · simp [Value.ownBlock] at hg; subst hg; simp; exact fun e => hn'.1.2.1 e.symm
    · simp; intro e; subst e; exact hn'.1.2.2 hg
  have R'' := Lib.hid R'
  clear R' h1 h2 h3 h4 hn hn' hu
  go_enter Try.func29, Try.ntmps29
  go_wp2
  go_end0
  exact ⟨rfl, R''.out, (Upd.refl _ _).setCell (by simp) _⟩

end Go.Proofs.Ytfjmkdjbeoafjaa
