/- The disk's contracts, whatever is asked; the walks of All and awake. -/
import Derived.Test.YtmdioojaaneacaaDiskE
namespace Go.Proofs.Ytmdioojaaneacaa
open Go.ChangeShapes Go.WideShapes Go.ChangeAt Go.RowKit

/-- What a call may have made of a disk's blocks. -/
def Sub (w : World) (S S' : List Nat) : Prop := ∀ k ∈ S', k ∈ S ∨ w.heap.size ≤ k

theorem Sub.refl (w : World) (S : List Nat) : Sub w S S := fun _ h => .inl h

/-- A block beside a disk. -/
def Sep (w : World) (S : List Nat) (B : Nat) : Prop := B < w.heap.size ∧ B ∉ S

theorem Sep.step {w w' : World} {S S' T : List Nat} {B : Nat} (h : Sep w S B) (hu : Upd T w w') (hs : Sub w S S') : Sep w' S' B :=
  ⟨Nat.lt_of_lt_of_le h.1 hu.size, fun hb => by rcases hs B hb with h1 | h1; exact h.2 h1; have := h.1; omega⟩

theorem Sep.upd {w w' : World} {S T : List Nat} {B : Nat} (h : Sep w S B) (hu : Upd T w w') : Sep w' S B := ⟨Nat.lt_of_lt_of_le h.1 hu.size, h.2⟩

namespace DK
def rd (d : DK) (n : Int) : Blok := if d.code n = 0 then d.get n else zeros
theorem rd_len {d : DK} (h : d.WF) (n : Int) : (d.rd n).length = 64 := by
  unfold rd; split
  · rename_i hc; obtain ⟨_, h0, h1⟩ := code_zero hc; exact get_len h h0 h1
  · exact zeros_len
end DK

theorem write_any (b : Nat) (S : List Nat) (d : DK) (n : Int) (x : Blok) (w : World) (h : DiskAt w b S d) (hx : x.length = 64) :
    Calls Try.prog 12 #[.pointer (some ⟨b, 0, none⟩), .int .i64 n, .agg (U8 x)] w fun e w' => e = .returned (.int .i64 (d.code n)) ∧ ∃ S', DiskAt w' b S' (d.write n x) ∧ Upd S w w' ∧ Sub w S S' := by
  unfold DK.write
  by_cases hc : d.code n = 0
  · rw [if_pos hc, hc]
    exact write_yes b S d n x w h hc hx
  · rw [if_neg hc]
    refine (write_no b S d n (U8 x) w h hc).mono ?_
    rintro e w' ⟨rfl, hu⟩
    exact ⟨rfl, S, h.upd0 hu, hu.mono (by simp), Sub.refl _ _⟩

theorem write_nil (n : Int) (x : Array Value) (w : World) : Calls Try.prog 12 #[.pointer none, .int .i64 n, .agg x] w fun e w' => e = .returned (.int .i64 1) ∧ Upd [] w w' := by
  go_enter Try.func12, Try.ntmps12
  go_wp2_with (go_at_call 25; refine (is_nil _ _).mono ?_; rintro e w1 ⟨rfl, rfl⟩)
  go_ret
  exact ⟨rfl, (Upd.refl _ _).alloc _⟩

theorem read_any (b : Nat) (S : List Nat) (d : DK) (n : Int) (w : World) (h : DiskAt w b S d) :
    Calls Try.prog 13 #[.pointer (some ⟨b, 0, none⟩), .int .i64 n] w fun e w' => e = .returned (.tuple #[.agg (U8 (d.rd n)), .int .i64 (d.code n)]) ∧ DiskAt w' b S d ∧ Upd [] w w' := by
  unfold DK.rd
  by_cases hc : d.code n = 0
  · rw [if_pos hc, hc]
    refine (read_yes b S d n w h hc).mono ?_
    rintro e w' ⟨rfl, hu⟩
    exact ⟨rfl, h.upd0 hu, hu⟩
  · rw [if_neg hc]
    refine (read_no b S d n w h hc).mono ?_
    rintro e w' ⟨rfl, hu⟩
    exact ⟨rfl, h.upd0 hu, hu⟩

/-- A block of one byte. -/
def allB (x : Int) : Blok := List.replicate 64 x
theorem allB_len (x : Int) : (allB x).length = 64 := by simp [allB]

def partB (k : Nat) (x : Int) : Blok := List.replicate k x ++ List.replicate (64 - k) 0
theorem partB_set {k : Nat} (hk : k < 64) (x : Int) : (partB k x).set k x = partB (k + 1) x := by
  unfold partB
  obtain ⟨m, hm⟩ : ∃ m, 64 - k = m + 1 := ⟨63 - k, by omega⟩
  rw [List.set_append_right _ _ (by simp), List.length_replicate, Nat.sub_self, hm, List.replicate_succ, List.set_cons_zero, show 64 - (k + 1) = m by omega, List.replicate_succ']
  simp

theorem U8_set (l : Blok) (i : Nat) (x : Int) : (U8 l).setIfInBounds i (.int .u8 x) = U8 (l.set i x) := by
  unfold U8; rw [List.setIfInBounds_toArray, List.map_set]

theorem results_arr {fn : Func} {p : Tmp} (h : fn.results = #[.cell p 23]) {tmps : Array Value} {w : World} {g : Nat} {T : TypeId} {c : Blok} (hp : tmps.getD p undef = .pointer (some ⟨g, 0, none⟩)) (hb : Blk w g (U8 c) T) (hc : c.length = 64) :
    (results fn tmps).run Try.prog w = .ok (.agg (U8 c)) w :=
  results_cell_row h tmps w g T (U8 c) (0, 0) _ hp hb Try.underlying23 rfl (by rw [info_arr, U8_size, hc])

set_option maxRecDepth 100000 in
theorem all_any (x : Int) (w : World) : Calls Try.prog 18 #[.int .u8 x] w fun e w' => e = .returned (.agg (U8 (allB x))) ∧ Upd [] w w' := by
  go_enter Try.func18, Try.ntmps18
  have tok : True := trivial
  go_wp2_with (first
    | (have tok2 := tok; refine wpList_alloc rfl 23 rfl zero_arr fun w1 hb1 hu1 hs1 => ?_; clear tok tok2)
    | (refine wpList_alloc rfl 23 rfl zero_arr fun w2 hb2 hu2 hs2 => ?_)
    | (refine wpList_run rfl (arr_zero rfl) ?_)
    | (refine wpList_store rfl (.tmp 3) (.tmp 5) rfl rfl rfl hb2 DK.zeros_len DK.zeros_len fun w3 hb3 hu3 hs3 => ?_))
  have hs : w3.heap.size = w.heap.size + 2 := by omega
  have hb0 : Blk w3 w.heap.size (U8 DK.zeros) 23 := (hb1.upd hu2 (by simp)).upd hu3 (by simp; omega)
  have hu : Upd [] w w3 := hu1.then (hu2.then hu3 (by simp)) (by simp)
  rw [hs1] at hb3
  have HB0 := Lib.hid hb0
  have HB3 := Lib.hid hb3
  have HU := Lib.hid hu
  clear hb1 hu1 hb2 hu2 hb3 hu3 hs3 hs2 hs1 hb0 hu hs
  go_loopw [4] (fun i wr => ∃ k : Nat, k ≤ 64 ∧ i = .int .i64 k ∧ Blk wr (w.heap.size + 1) (U8 (partB k x)) 23 ∧ Blk wr w.heap.size (U8 DK.zeros) 23 ∧ Upd [] w wr) (fun i _ => 64 - (intOf i).toNat)
  case atStart => exact ⟨0, Nat.zero_le _, rfl, HB3.out, HB0.out, HU.out⟩
  case round =>
    obtain ⟨k, hk, rfl, h1, h0, hu⟩ := hrel
    by_cases hk64 : k < 64
    · have hk' : (k : Int) < 64 := by omega
      obtain ⟨v, c1⟩ := h1.cell_lt (o := k) (by rw [U8_size]; unfold partB; simp; omega)
      have f1 := h1.free k
      have e1 := h1.set k (.int .u8 x)
      rw [U8_set, partB_set hk64] at e1
      have E1 := Lib.hid e1
      have E0 := Lib.hid (h0.set_other (p := ⟨w.heap.size + 1, k, none⟩) (by simp) (.int .u8 x))
      have EU := Lib.hid (hu.setCell (p := ⟨w.heap.size + 1, k, none⟩) (.inr (by simp)) (.int .u8 x))
      clear e1 h1 h0 hu
      go_wp2
      go_roundw
      case rel => exact ⟨k + 1, by omega, by go_num, E1.out, E0.out, EU.out⟩
      case measure => simp [intOf]; omega
    · obtain rfl : k = 64 := by omega
      have ep : partB 64 x = allB x := by unfold partB allB; simp
      rw [ep] at h1
      have E1 := Lib.hid h1
      have E0 := Lib.hid h0
      have EU := Lib.hid hu
      clear h1 h0 hu ep
      go_wp2_with (first
        | (refine wpList_run rfl (arr_load (.tmp 3) rfl rfl E1.out (allB_len x)) ?_)
        | (refine wpList_store rfl (.tmp 2) (.tmp 13) rfl rfl rfl E0.out DK.zeros_len (allB_len x) fun w5 hb5 hu5 hs5 => ?_))
      exact bodyPost_ret (results_arr rfl rfl hb5 (allB_len x)) rfl ⟨rfl, EU.out.then hu5 (by simp)⟩

end Go.Proofs.Ytmdioojaaneacaa
