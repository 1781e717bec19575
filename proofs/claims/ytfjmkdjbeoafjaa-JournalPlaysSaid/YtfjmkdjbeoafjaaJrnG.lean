/- The walk of Append. -/
import Derived.Test.YtfjmkdjbeoafjaaJrnF
namespace Go.Proofs.Ytfjmkdjbeoafjaa
open Go.ChangeShapes Go.WideShapes Go.ChangeAt Go.RowKit

/-- How many blocks a record has. -/
def needJ (b : List Int) : Nat := (b.length + 43) / 44

/-- A record's first blocks are laid. -/
def DK.layRec (d : DK) (pos : Nat) (life : Int) (b : List Int) : Nat → DK
  | 0 => d
  | i + 1 => (DK.layRec d pos life b i).write ((pos + i : Nat) : Int) (blockJ life (b.drop (44 * i)))

def JK.push (k : JK) (b : List Int) : JK := { k with used := k.used + needJ b, recs := k.recs ++ [b] }

theorem DK.write_down (d : DK) (n : Int) (x : Blok) : (d.write n x).down = d.down := by unfold DK.write; split <;> rfl
theorem DK.write_last (d : DK) (n : Int) (x : Blok) : (d.write n x).last = d.last := by unfold DK.write; split <;> rfl
theorem DK.layRec_down (d : DK) (pos : Nat) (life : Int) (b : List Int) : ∀ i, (d.layRec pos life b i).down = d.down
  | 0 => rfl
  | i + 1 => by rw [DK.layRec, DK.write_down, DK.layRec_down]
theorem DK.layRec_last (d : DK) (pos : Nat) (life : Int) (b : List Int) : ∀ i, (d.layRec pos life b i).last = d.last
  | 0 => rfl
  | i + 1 => by rw [DK.layRec, DK.write_last, DK.layRec_last]

theorem JK.WF.push {k : JK} (h : k.WF) {b : List Int} (h0 : 0 < b.length) (h1 : b.length ≤ 2000) (hu : U8L b) (hn : needJ b ≤ k.blocks - k.used) : (k.push b).WF := by
  have hn0 : 0 < needJ b := by unfold needJ; omega
  refine ⟨?_, h.room, h.life0, h.life1, ?_, fun r hr => ?_, fun r hr => ?_⟩
  · show k.used + needJ b ≤ k.blocks
    have := h.used; omega
  · show (k.recs ++ [b]).length ≤ k.used + needJ b
    rw [List.length_append, List.length_singleton]; have := h.recs; omega
  · rcases List.mem_append.1 hr with hr | hr
    · exact h.small r hr
    · rw [List.mem_singleton.1 hr]; omega
  · rcases List.mem_append.1 hr with hr | hr
    · exact h.bytes r hr
    · rw [List.mem_singleton.1 hr]; exact hu

set_option maxHeartbeats 1000000 in
theorem append_bad (v : Value) (b : List Int) (j : Nat) (w : World) (hb : BytesAt w v b) (h : b.length = 0 ∨ 2000 < b.length) :
    Calls Try.prog 13 #[.pointer (some ⟨j, 0, none⟩), v] w fun e w' => e = .returned (.int .i64 71) ∧ Upd [] w w' := by
  obtain ⟨a, cap, rfl, -⟩ := hb
  obtain ⟨n, hn⟩ : ∃ n, n = b.length := ⟨_, rfl⟩
  rw [← hn] at h ⊢
  clear hn
  have key : (n = 0) ∨ ((((n : Int) == 0) = false) ∧ (decide ((2000 : Int) < (n : Int)) = true) ∧ 2000 < n) := by
    simp only [decide_eq_true_eq, beq_eq_false_iff_ne, ne_eq]; omega
  rcases key with rfl | ⟨q1, q2, q3⟩
  all_goals
    go_enter Try.func13, Try.ntmps13
    go_wp2
    go_ret
    exact ⟨rfl, (Upd.refl _ _).alloc _⟩

set_option maxHeartbeats 1000000 in
theorem append_nil (v : Value) (b : List Int) (w : World) (hb : BytesAt w v b) :
    Calls Try.prog 13 #[.pointer none, v] w fun e w' => e = .returned (.int .i64 1) ∧ Upd [] w w' := by
  obtain ⟨a, cap, rfl, -⟩ := hb
  go_enter Try.func13, Try.ntmps13
  go_wp2
  go_ret
  exact ⟨rfl, (Upd.refl _ _).alloc _⟩

set_option maxHeartbeats 1000000 in
theorem append_full (v : Value) (b : List Int) (j : Nat) (J : List Nat) (p : Nat) (k : JK) (w : World) (hb : BytesAt w v b) (h0 : 0 < b.length) (h1 : b.length ≤ 2000) (hj : JAt w j J p k) (hf : k.blocks - k.used < needJ b) :
    Calls Try.prog 13 #[.pointer (some ⟨j, 0, none⟩), v] w fun e w' => e = .returned (.int .i64 70) ∧ Upd [] w w' := by
  obtain ⟨a, cap, rfl, -⟩ := hb
  have x1 := hj.wf.used
  have x2 := hj.wf.room
  unfold needJ at hf
  have HJ := Lib.hid hj
  obtain ⟨n, hn⟩ : ∃ n, n = b.length := ⟨_, rfl⟩
  rw [← hn] at h0 h1 hf ⊢
  clear hn hj
  have q1 : ((n : Int) == 0) = false := by simp only [beq_eq_false_iff_ne, ne_eq]; omega
  have q2 : decide ((2000 : Int) < (n : Int)) = false := by simp only [decide_eq_false_iff_not]; omega
  have q3 : decide ((k.blocks : Int) - (k.used : Int) < ((n : Int) + 44 - 1) / 44) = true := by simp only [decide_eq_true_eq]; omega
  go_enter Try.func13, Try.ntmps13
  go_wp2_with (go_at_call 20; refine (jroom_any j J p k _ (HJ.out.upd0 ((Upd.refl _ _).alloc _))).mono ?_; rintro e w1 ⟨rfl, hu1⟩)
  go_ret
  exact ⟨rfl, ((Upd.refl _ _).alloc _).trans hu1⟩

end Go.Proofs.Ytfjmkdjbeoafjaa
