/- The disk's contracts, whatever is asked; the walks of All and awake. -/
import Derived.Test.YtpeboaoephkfhaaDiskE
namespace Go.Proofs.Ytpeboaoephkfhaa
open Go.ChangeShapes Go.WideShapes Go.ChangeAt Go.RowKit

/-- What a call may have made of a disk's blocks. -/
def Sub (w : World) (S S' : List Nat) : Prop := ∀ k ∈ S', k ∈ S ∨ w.heap.size ≤ k

theorem Sub.refl (w : World) (S : List Nat) : Sub w S S := fun _ h => .inl h

/-- A block beside a disk. -/
def Sep (w : World) (S : List Nat) (B : Nat) : Prop := B < w.heap.size ∧ B ∉ S

theorem Sep.step {w w' : World} {S S' T : List Nat} {B : Nat} (h : Sep w S B) (hu : Upd T w w') (hs : Sub w S S') : Sep w' S' B :=
  ⟨Nat.lt_of_lt_of_le h.1 hu.size, fun hb => by rcases hs B hb with h1 | h1; exact h.2 h1; have := h.1; omega⟩

theorem Sep.upd {w w' : World} {S T : List Nat} {B : Nat} (h : Sep w S B) (hu : Upd T w w') : Sep w' S B := ⟨Nat.lt_of_lt_of_le h.1 hu.size, h.2⟩

namespace DK
def rd (d : DK) (n : Int) : Blok := if d.code n = 0 then d.get n else zeros
theorem rd_len {d : DK} (h : d.WF) (n : Int) : (d.rd n).length = 64 := by
  unfold rd; split
  · rename_i hc; obtain ⟨_, h0, h1⟩ := code_zero hc; exact get_len h h0 h1
  · exact zeros_len
end DK

theorem write_any (b : Nat) (S : List Nat) (d : DK) (n : Int) (x : Blok) (w : World) (h : DiskAt w b S d) (hx : x.length = 64) :
    Calls Try.prog 13 #[.pointer (some ⟨b, 0, none⟩), .int .i64 n, .agg (U8 x)] w fun e w' => e = .returned (.int .i64 (d.code n)) ∧ ∃ S', DiskAt w' b S' (d.write n x) ∧ Upd S w w' ∧ Sub w S S' := by
  unfold DK.write
  by_cases hc : d.code n = 0
  · rw [if_pos hc, hc]
    exact write_yes b S d n x w h hc hx
  · rw [if_neg hc]
    refine (write_no b S d n (U8 x) w h hc).mono ?_
    rintro e w' ⟨rfl, hu⟩
    exact ⟨rfl, S, h.upd0 hu, hu.mono (by simp), Sub.refl _ _⟩

theorem write_nil (n : Int) (x : Array Value) (w : World) : Calls Try.prog 13 #[.pointer none, .int .i64 n, .agg x] w fun e w' => e = .returned (.int .i64 1) ∧ Upd [] w w' := by
  go_enter Try.func13, Try.ntmps13
  go_wp2_with (go_at_call 25; refine (is_nil _ _).mono ?_; rintro e w1 ⟨rfl, rfl⟩)
  go_ret
  exact ⟨rfl, (Upd.refl _ _).alloc _⟩

theorem read_any (b : Nat) (S : List Nat) (d : DK) (n : Int) (w : World) (h : DiskAt w b S d) :
    Calls Try.prog 21 #[.pointer (some ⟨b, 0, none⟩), .int .i64 n] w fun e w' => e = .returned (.tuple #[.agg (U8 (d.rd n)), .int .i64 (d.code n)]) ∧ DiskAt w' b S d ∧ Upd [] w w' := by
  unfold DK.rd
  by_cases hc : d.code n = 0
  · rw [if_pos hc, hc]
    refine (read_yes b S d n w h hc).mono ?_
    rintro e w' ⟨rfl, hu⟩
    exact ⟨rfl, h.upd0 hu, hu⟩
  · rw [if_neg hc]
    refine (read_no b S d n w h hc).mono ?_
    rintro e w' ⟨rfl, hu⟩
    exact ⟨rfl, h.upd0 hu, hu⟩

/-- A block of one byte. -/
def allB (x : Int) : Blok := List.replicate 64 x
theorem allB_len (x : Int) : (allB x).length = 64 := by simp [allB]

def partB (k : Nat) (x : Int) : Blok := List.replicate k x ++ List.replicate (64 - k) 0
theorem partB_set {k : Nat} (hk : k < 64) (x : Int) : (partB k x).set k x = partB (k + 1) x := by
  unfold partB
  obtain ⟨m, hm⟩ : ∃ m, 64 - k = m + 1 := ⟨63 - k, by omega⟩
  rw [List.set_append_right _ _ (by simp), List.length_replicate, Nat.sub_self, hm, List.replicate_succ, List.set_cons_zero, show 64 - (k + 1) = m by omega, List.replicate_succ']
  simp

theorem U8_set (l : Blok) (i : Nat) (x : Int) : (U8 l).setIfInBounds i (.int .u8 x) = U8 (l.set i x) := by
  unfold U8; rw [List.setIfInBounds_toArray, List.map_set]

theorem results_arr {fn : Func} {p : Tmp} (h : fn.results = #[.cell p 32]) {tmps : Array Value} {w : World} {g : Nat} {T : TypeId} {c : Blok} (hp : tmps.getD p undef = .pointer (some ⟨g, 0, none⟩)) (hb : Blk w g (U8 c) T) (hc : c.length = 64) :
    (results fn tmps).run Try.prog w = .ok (.agg (U8 c)) w :=
  results_cell_row h tmps w g T (U8 c) (0, 0) _ hp hb Try.underlying32 rfl (by rw [info_arr, U8_size, hc])

end Go.Proofs.Ytpeboaoephkfhaa
