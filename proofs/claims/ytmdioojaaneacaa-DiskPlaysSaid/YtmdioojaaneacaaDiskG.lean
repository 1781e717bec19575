/- The walk of awake. -/
import Derived.Test.YtmdioojaaneacaaDiskF
namespace Go.Proofs.Ytmdioojaaneacaa
open Go.ChangeShapes Go.WideShapes Go.ChangeAt Go.RowKit

/-- A disk of the call's own: w0 is the world in which the call began. -/
structure DInv (w0 w : World) (b : Nat) (S : List Nat) (d : DK) : Prop where
  disk : DiskAt w b S d
  upd : Upd [] w0 w
  base : ∀ k ∈ S, w0.heap.size ≤ k

/-- What lies beside the disk stays, and stays beside it. -/
def Keep (w : World) (S : List Nat) (w' : World) (S' : List Nat) : Prop := w.heap.size ≤ w'.heap.size ∧ ∀ B, B < w.heap.size → B ∉ S → B ∉ S' ∧ w'.heap[B]? = w.heap[B]?

theorem Keep.of {w w' : World} {S S' : List Nat} (hu : Upd S w w') (hs : Sub w S S') : Keep w S w' S' :=
  ⟨hu.size, fun B h1 h2 => ⟨fun hb => by rcases hs B hb with h | h; exact h2 h; omega, hu.block B h1 h2⟩⟩
theorem Keep.quiet {w w' : World} {S : List Nat} (hu : Upd [] w w') : Keep w S w' S := ⟨hu.size, fun B h1 h2 => ⟨h2, hu.block B h1 (by simp)⟩⟩
theorem Keep.trans {w w' w'' : World} {S S' S'' : List Nat} (h : Keep w S w' S') (k : Keep w' S' w'' S'') : Keep w S w'' S'' :=
  ⟨Nat.le_trans h.1 k.1, fun B h1 h2 => by
    obtain ⟨a1, a2⟩ := h.2 B h1 h2
    obtain ⟨b1, b2⟩ := k.2 B (Nat.lt_of_lt_of_le h1 h.1) a1
    exact ⟨b1, b2.trans a2⟩⟩
theorem Keep.refl (w : World) (S : List Nat) : Keep w S w S := Keep.quiet (Upd.refl _ _)

/-- A variable of the call's own beside the disk. -/
def Var (w : World) (S : List Nat) (B : Nat) (c : Array Value) (T : TypeId) : Prop := Blk w B c T ∧ B ∉ S

theorem Var.keep {w w' : World} {S S' : List Nat} {B : Nat} {c : Array Value} {T : TypeId} (h : Var w S B c T) (hk : Keep w S w' S') : Var w' S' B c T := by
  obtain ⟨h1, h2⟩ := h
  obtain ⟨k1, k2⟩ := hk.2 B h1.lt h2
  exact ⟨by unfold Blk at *; rw [k2]; exact h1, k1⟩

theorem DInv.quiet {w0 w w' : World} {b : Nat} {S : List Nat} {d : DK} (h : DInv w0 w b S d) (hu : Upd [] w w') : DInv w0 w' b S d :=
  ⟨h.disk.upd0 hu, h.upd.trans hu, h.base⟩

theorem DInv.step {w0 w w' : World} {b : Nat} {S S' : List Nat} {d d' : DK} (h : DInv w0 w b S d) (hd : DiskAt w' b S' d') (hu : Upd S w w') (hs : Sub w S S') : DInv w0 w' b S' d' :=
  ⟨hd, h.upd.then hu (fun k hk => .inr (h.base k hk)), fun k hk => by
    rcases hs k hk with h1 | h1
    · exact h.base k h1
    · exact Nat.le_trans h.upd.size h1⟩

/-- A new variable lies beside the disk. -/
theorem DInv.var {w0 w : World} {b : Nat} {S : List Nat} {d : DK} (h : DInv w0 w b S d) {w' : World} {c : Array Value} {T : TypeId} (hb : Blk w' w.heap.size c T) : Var w' S w.heap.size c T :=
  ⟨hb, fun hm => by have := h.disk.lt _ hm; omega⟩

theorem new_any (n : Int) (w : World) (h0 : 0 ≤ n) (h1 : n ≤ 4096) :
    Calls Try.prog 11 #[.int .i64 n] w fun e w' => ∃ b S, e = .returned (.tuple #[.pointer (some ⟨b, 0, none⟩), .int .i64 0]) ∧ DiskAt w' b S (DK.new n.toNat) ∧ Upd [] w w' ∧ ∀ k ∈ S, w.heap.size ≤ k := by
  obtain ⟨n, rfl⟩ := Int.eq_ofNat_of_zero_le h0
  exact new_yes n w (by omega)

namespace Awake
def D1 : DK := (DK.new (2 : Int).toNat).write 0 (allB 1)
def D2 : DK := D1.flush
def D3 : DK := D2.write 0 (allB 2)
def D4 : DK := D3.crash [3]
def D5 : DK := D4.start
theorem c0 : (DK.new (2 : Int).toNat).code 0 = 0 := by decide
theorem c1 : D1.fcode = 0 := by decide
theorem c2 : D2.code 0 = 0 := by decide +kernel
theorem c3 : D4.code 0 = 60 := by decide +kernel
theorem c4 : D5.code 0 = 0 := by decide +kernel
theorem c5 : D5.code 2 = 61 := by decide +kernel
theorem c6 : D5.last.length = 2 := by decide +kernel
theorem r2 : (D5.rd 0).getD 2 0 = 2 := by decide +kernel
theorem r3 : (D5.rd 0).getD 3 0 = 1 := by decide +kernel
end Awake

/-- A list of one number, in a block of its own. -/
theorem ints_one {w : World} {B : Nat} {x : Int} (h : Blk w B #[.int .i64 x] 3) : IntsAt w (.slice (some ⟨B, 0, none⟩) 1 1) [x] :=
  ⟨_, _, rfl, by simp [maxLen], fun _ => ⟨B, 0, rfl, h.lt, fun i hi => by
    have : i = 0 := by simpa using hi
    subst this; exact h.cell rfl⟩⟩


section
variable {w0 w : World} {b : Nat} {S : List Nat} {d : DK}

theorem write_law (h : DInv w0 w b S d) (n : Int) (x : Blok) (hx : x.length = 64) :
    Calls Try.prog 12 #[.pointer (some ⟨b, 0, none⟩), .int .i64 n, .agg (U8 x)] w fun e w' => e = .returned (.int .i64 (d.code n)) ∧ ∃ S', DInv w0 w' b S' (d.write n x) ∧ Keep w S w' S' :=
  (write_any b S d n x w h.disk hx).mono fun _ _ ⟨he, S', hd, hu, hs⟩ => ⟨he, S', h.step hd hu hs, Keep.of hu hs⟩

theorem read_law (h : DInv w0 w b S d) (n : Int) :
    Calls Try.prog 13 #[.pointer (some ⟨b, 0, none⟩), .int .i64 n] w fun e w' => e = .returned (.tuple #[.agg (U8 (d.rd n)), .int .i64 (d.code n)]) ∧ DInv w0 w' b S d ∧ Keep w S w' S :=
  (read_any b S d n w h.disk).mono fun _ _ ⟨he, _, hu⟩ => ⟨he, h.quiet hu, Keep.quiet hu⟩

theorem flush_law (h : DInv w0 w b S d) :
    Calls Try.prog 14 #[.pointer (some ⟨b, 0, none⟩)] w fun e w' => e = .returned (.int .i64 d.fcode) ∧ ∃ S', DInv w0 w' b S' d.flush ∧ Keep w S w' S' :=
  (flush_any b S d w h.disk).mono fun _ _ ⟨he, S', hd, hu, hs⟩ => ⟨he, S', h.step hd hu (fun k hk => .inl (hs k hk)), Keep.of hu (fun k hk => .inl (hs k hk))⟩

theorem crash_law (h : DInv w0 w b S d) (v : Value) (fs : List Int) (hv : IntsAt w v fs) (hvS : IntsOut v fs S) :
    Calls Try.prog 15 #[.pointer (some ⟨b, 0, none⟩), v] w fun e w' => e = .returned (.tuple #[]) ∧ ∃ S', DInv w0 w' b S' (d.crash fs) ∧ Keep w S w' S' :=
  (crash_any b S d v fs w h.disk hv hvS).mono fun _ _ ⟨he, S', hd, hu, hs⟩ => ⟨he, S', h.step hd hu (fun k hk => .inl (hs k hk)), Keep.of hu (fun k hk => .inl (hs k hk))⟩

theorem start_law (h : DInv w0 w b S d) :
    Calls Try.prog 16 #[.pointer (some ⟨b, 0, none⟩)] w fun e w' => e = .returned (.tuple #[]) ∧ DInv w0 w' b S d.start ∧ Keep w S w' S :=
  (start_any b S d w h.disk).mono fun _ _ ⟨he, hd, hu⟩ => ⟨he, h.step hd hu (Sub.refl _ _), Keep.of hu (Sub.refl _ _)⟩

theorem dirty_law (h : DInv w0 w b S d) :
    Calls Try.prog 17 #[.pointer (some ⟨b, 0, none⟩)] w fun e w' => ∃ a cap, e = .returned (.slice a d.fresh.length cap) ∧ IntsAt w' (.slice a d.fresh.length cap) d.dirty ∧ DInv w0 w' b S d ∧ Keep w S w' S :=
  (dirty_any b S d w h.disk).mono fun _ _ ⟨a, cap, he, hi, hu⟩ => ⟨a, cap, he, hi, h.quiet hu, Keep.quiet hu⟩

theorem new_law (n : Int) (w0 : World) (h0 : 0 ≤ n) (h1 : n ≤ 4096) (hu0 : Upd [] w0 w) :
    Calls Try.prog 11 #[.int .i64 n] w fun e w' => ∃ b S, e = .returned (.tuple #[.pointer (some ⟨b, 0, none⟩), .int .i64 0]) ∧ DInv w0 w' b S (DK.new n.toNat) ∧ Upd [] w w' ∧ ∀ k ∈ S, w.heap.size ≤ k :=
  (new_any n w h0 h1).mono fun _ _ ⟨b, S, he, hd, hu, hS⟩ => ⟨b, S, he, ⟨hd, hu0.trans hu, fun k hk => Nat.le_trans hu0.size (hS k hk)⟩, hu, hS⟩
end

set_option maxRecDepth 100000 in
set_option maxHeartbeats 1000000 in
theorem awake_any (w : World) : Calls Try.prog 10 #[] w fun e w' => e = .returned (.bool true) ∧ Upd [] w w' := by
  go_enter Try.func10, Try.ntmps10
  go_wp2_with fail
  refine (new_law 2 w (by omega) (by omega) (Upd.refl _ _)).mono ?_
  rintro e w1 ⟨b, S, rfl, hd, -, -⟩
  have HD := Lib.hid hd
  clear hd
  go_wp2_with fail
  refine (all_any 1 _).mono ?_
  rintro e w2 ⟨rfl, hu⟩
  have HD := Lib.hid (HD.out.quiet hu)
  clear hu
  go_wp2_with fail
  refine (write_law HD.out 0 (allB 1) (allB_len 1)).mono ?_
  rw [Awake.c0]
  rintro e w3 ⟨rfl, S, hd, -⟩
  have HD : Hid (DInv w w3 b S Awake.D1) := hd
  clear hd
  go_wp2_with fail
  refine (flush_law HD.out).mono ?_
  rw [Awake.c1]
  rintro e w4 ⟨rfl, S, hd, -⟩
  have HD : Hid (DInv w w4 b S Awake.D2) := hd
  clear hd
  go_wp2_with fail
  refine (all_any 2 _).mono ?_
  rintro e w5 ⟨rfl, hu⟩
  have HD := Lib.hid (HD.out.quiet hu)
  clear hu
  go_wp2_with fail
  refine (write_law HD.out 0 (allB 2) (allB_len 2)).mono ?_
  rw [Awake.c2]
  rintro e w6 ⟨rfl, S, hd, -⟩
  have HD : Hid (DInv w w6 b S Awake.D3) := hd
  clear hd
  go_wp2_with fail
  obtain ⟨w7, hw7⟩ : ∃ w7, w7 = w6.alloc (.cells #[.int .i64 3] 3) := ⟨_, rfl⟩
  have hb7 : Blk w7 w6.heap.size #[.int .i64 3] 3 := by rw [hw7]; exact Blk.new _ _ _
  have hu7 : Upd [] w6 w7 := by rw [hw7]; exact (Upd.refl _ _).alloc _
  rw [← hw7]
  clear hw7
  have hnS : w6.heap.size ∉ S := fun hm => by have := HD.out.disk.lt _ hm; omega
  refine (crash_law (HD.out.quiet hu7) _ [3] (ints_one hb7) (by intro g off n cap _ e; cases e; exact hnS)).mono ?_
  rintro e w8 ⟨rfl, S, hd, -⟩
  have HD : Hid (DInv w w8 b S Awake.D4) := hd
  clear hd hb7 hu7 hnS
  go_wp2_with fail
  refine (read_law HD.out 0).mono ?_
  rw [Awake.c3]
  rintro e w9 ⟨rfl, hd, -⟩
  have HD := Lib.hid hd
  clear hd
  have hrl := DK.rd_len HD.out.disk.wf 0
  go_wp2_with (first
    | (refine wpList_alloc rfl 23 rfl zero_arr fun w10 hb10 hu10 hs10 => ?_)
    | (refine wpList_store rfl (.tmp 6) (.tmp 28) rfl rfl rfl hb10 DK.zeros_len hrl fun w11 hb11 hu11 hs11 => ?_
       have HD11 := Lib.hid (HD.out.quiet (hu10.then hu11 (by simp))))
    | (go_at_call 16; refine (start_law HD11.out).mono ?_; rintro e w12 ⟨rfl, hd12, -⟩; have HD12 : Hid (DInv w w12 b S Awake.D5) := hd12; clear hb10 hu10 hs10 hb11 hu11 hs11 hd12))
  refine (read_law HD12.out 0).mono ?_
  rw [Awake.c4]
  rintro e w13 ⟨rfl, hd, -⟩
  have HD := Lib.hid hd
  clear hd
  have hrl2 := DK.rd_len HD.out.disk.wf 0
  have c5 := Awake.c5
  have c6 := Awake.c6
  go_wp2_with (first
    | (refine wpList_alloc rfl 23 rfl zero_arr fun w14 hb14 hu14 hs14 => ?_)
    | (refine wpList_store rfl (.tmp 8) (.tmp 35) rfl rfl rfl hb14 DK.zeros_len hrl2 fun w15 hb15 hu15 hs15 => ?_
       have HD15 := Lib.hid (HD.out.quiet (hu14.then hu15 (by simp)))
       have k2 := hb15.cell (U8_get _ 2 (by omega))
       have k3 := hb15.cell (U8_get _ 3 (by omega))
       rw [Awake.r2] at k2
       rw [Awake.r3] at k3
       clear hb14 hu14 hs14 hu15 hs15)
    | (refine wpList_runW rfl (arr_load (.tmp 8) rfl rfl hb15 hrl2) ?_)
    | (go_at_call 12; refine (write_law HD15.out 2 _ hrl2).mono ?_; rw [c5]; rintro e w16 ⟨rfl, S16, hd16, -⟩; have HD16 : Hid (DInv w w16 b S16 Awake.D5) := hd16; clear hd16)
    | (go_at_call 23; refine (blocks_any b S16 Awake.D5 _ HD16.out.disk).mono ?_; rw [c6]; rintro e w17 ⟨rfl, rfl⟩))
  go_ret
  exact ⟨rfl, HD16.out.upd⟩

end Go.Proofs.Ytmdioojaaneacaa
