/- A journal in memory; the walks of Life, Room, Force, Records. -/
import Derived.Test.YtfjmkdjbeoafjaaJrnP
import Derived.Test.YtfjmkdjbeoafjaaCloneB
namespace Go.Proofs.Ytfjmkdjbeoafjaa
open Go.ChangeShapes Go.WideShapes Go.ChangeAt Go.RowKit

structure JK.WF (k : JK) : Prop where
  used : k.used ≤ k.blocks
  room : k.from_ + k.blocks ≤ 4096
  life0 : 1 ≤ k.life
  life1 : k.life ≤ 1099511627777
  recs : k.recs.length ≤ k.used
  small : ∀ r ∈ k.recs, r.length ≤ 180224
  bytes : ∀ r ∈ k.recs, U8L r

def RecsAt (w : World) (T : List Nat) (rvs : List Value) (recs : List (List Int)) : Prop :=
  rvs.length = recs.length ∧ ∀ i, i < recs.length → BytesAt w (rvs.getD i undef) (recs.getD i []) ∧ ∀ g, (rvs.getD i undef).ownBlock = some g → g ∈ T

theorem RecsAt.nil (w : World) (T : List Nat) : RecsAt w T [] [] := ⟨rfl, fun i hi => by simp at hi⟩

theorem RecsAt.upd {S T : List Nat} {w w' : World} {rvs : List Value} {recs : List (List Int)} (h : RecsAt w T rvs recs) (hu : Upd S w w') (hT : ∀ k ∈ T, k ∉ S) : RecsAt w' T rvs recs :=
  ⟨h.1, fun i hi => ⟨(h.2 i hi).1.upd hu (fun g off len cap _ e => hT g ((h.2 i hi).2 g (by rw [e]; rfl))), (h.2 i hi).2⟩⟩

theorem RecsAt.mono {T T' : List Nat} {w : World} {rvs : List Value} {recs : List (List Int)} (h : RecsAt w T rvs recs) (hT : ∀ k ∈ T, k ∈ T') : RecsAt w T' rvs recs :=
  ⟨h.1, fun i hi => ⟨(h.2 i hi).1, fun g hg => hT g ((h.2 i hi).2 g hg)⟩⟩

theorem RecsAt.snoc {T : List Nat} {w : World} {rvs : List Value} {recs : List (List Int)} {v : Value} {r : List Int} (h : RecsAt w T rvs recs) (hv : BytesAt w v r) (hT : ∀ g, v.ownBlock = some g → g ∈ T) : RecsAt w T (rvs ++ [v]) (recs ++ [r]) := by
  refine ⟨by simp [h.1], fun i hi => ?_⟩
  rw [List.length_append, List.length_singleton] at hi
  by_cases hlt : i < recs.length
  · have e1 : (rvs ++ [v]).getD i undef = rvs.getD i undef := by
      rw [List.getD_eq_getElem?_getD, List.getD_eq_getElem?_getD, List.getElem?_append_left (by rw [h.1]; exact hlt)]
    have e2 : (recs ++ [r]).getD i [] = recs.getD i [] := by
      rw [List.getD_eq_getElem?_getD, List.getD_eq_getElem?_getD, List.getElem?_append_left hlt]
    rw [e1, e2]; exact h.2 i hlt
  · obtain rfl : i = recs.length := by omega
    have e1 : (rvs ++ [v]).getD recs.length undef = v := by
      rw [List.getD_eq_getElem?_getD, ← h.1, List.getElem?_append_right (Nat.le_refl _), Nat.sub_self]; rfl
    have e2 : (recs ++ [r]).getD recs.length [] = r := by
      rw [List.getD_eq_getElem?_getD, List.getElem?_append_right (Nat.le_refl _), Nat.sub_self]; rfl
    rw [e1, e2]; exact ⟨hv, hT⟩

/-- A journal lies at block j, over the disk at block p; J: all its blocks. -/
def JAt (w : World) (j : Nat) (J : List Nat) (p : Nat) (k : JK) : Prop :=
  ∃ (rv : Value) (rvs : List Value) (T : List Nat), J = j :: (rv.ownBlock.toList ++ T) ∧ j ∉ T ∧ (∀ g, rv.ownBlock = some g → g ≠ j ∧ g ∉ T) ∧ (∀ g ∈ T, g < w.heap.size) ∧ k.WF ∧
    Blk w j #[.pointer (some ⟨p, 0, none⟩), .int .i64 k.from_, .int .i64 k.blocks, .int .i64 k.life, .int .i64 k.used, rv] 68 ∧
    w.ownsRow 0 31 1 rv k.recs.length rvs ∧ RecsAt w T rvs k.recs

theorem JAt.upd {S : List Nat} {w w' : World} {j : Nat} {J : List Nat} {p : Nat} {k : JK} (h : JAt w j J p k) (hu : Upd S w w') (hS : ∀ x ∈ J, x ∉ S) : JAt w' j J p k := by
  obtain ⟨rv, rvs, T, rfl, h1, h2, h3, h4, h5, h6, h7⟩ := h
  exact ⟨rv, rvs, T, rfl, h1, h2, fun g hg => Nat.lt_of_lt_of_le (h3 g hg) hu.size, h4, h5.upd hu (hS _ (by simp)), own_upd h6 hu (fun g hg => hS _ (by simp [hg])), h7.upd hu (fun g hg => hS _ (by simp [hg]))⟩

theorem JAt.upd0 {w w' : World} {j : Nat} {J : List Nat} {p : Nat} {k : JK} (h : JAt w j J p k) (hu : Upd [] w w') : JAt w' j J p k := h.upd hu (by simp)

theorem JAt.wf {w : World} {j : Nat} {J : List Nat} {p : Nat} {k : JK} (h : JAt w j J p k) : k.WF := by obtain ⟨_, _, _, _, _, _, _, h, _⟩ := h; exact h

theorem JAt.lt {w : World} {j : Nat} {J : List Nat} {p : Nat} {k : JK} (h : JAt w j J p k) : ∀ x ∈ J, x < w.heap.size := by
  obtain ⟨rv, rvs, T, rfl, h1, h2, h3, h4, h5, h6, h7⟩ := h
  intro x hx
  simp only [List.mem_cons, List.mem_append, Option.mem_toList] at hx
  rcases hx with rfl | hx | hx
  · exact h5.lt
  · exact (h6.lt x hx).2
  · exact h3 x hx

theorem jlife_any (j : Nat) (J : List Nat) (p : Nat) (k : JK) (w : World) (h : JAt w j J p k) :
    Calls Try.prog 16 #[.pointer (some ⟨j, 0, none⟩)] w fun e w' => e = .returned (.int .i64 k.life) ∧ w = w' := by
  obtain ⟨rv, rvs, T, rfl, h1, h2, h3, h4, h5, h6, h7⟩ := h
  have c3 := h5.cell (o := 3) rfl
  clear h1 h2 h3 h4 h5 h6 h7
  go_enter Try.func16, Try.ntmps16
  go_wp2
  go_ret
  exact ⟨rfl, rfl⟩

theorem jroom_any (j : Nat) (J : List Nat) (p : Nat) (k : JK) (w : World) (h : JAt w j J p k) :
    Calls Try.prog 20 #[.pointer (some ⟨j, 0, none⟩)] w fun e w' => e = .returned (.int .i64 ((k.blocks : Int) - (k.used : Int))) ∧ Upd [] w w' := by
  obtain ⟨rv, rvs, T, rfl, h1, h2, h3, h4, h5, h6, h7⟩ := h
  have c2 := h5.cell (o := 2) rfl
  have c4 := h5.cell (o := 4) rfl
  have x1 := h4.used
  have x2 := h4.room
  clear h1 h2 h3 h4 h5 h6 h7
  go_enter Try.func20, Try.ntmps20
  go_upto_region 3 with fail
  go_quiet (fail)
  go_wp2
  go_ret
  exact ⟨rfl, (Upd.refl _ _).drewN _⟩

end Go.Proofs.Ytfjmkdjbeoafjaa
