/- A disk of the call's own. -/
import Derived.Test.YtpeboaoephkfhaaDiskF
namespace Go.Proofs.Ytpeboaoephkfhaa
open Go.ChangeShapes Go.WideShapes Go.ChangeAt Go.RowKit

/-- A disk of the call's own: w0 is the world in which the call began. -/
structure DInv (w0 w : World) (b : Nat) (S : List Nat) (d : DK) : Prop where
  disk : DiskAt w b S d
  upd : Upd [] w0 w
  base : ∀ k ∈ S, w0.heap.size ≤ k

/-- What lies beside the disk stays, and stays beside it. -/
def Keep (w : World) (S : List Nat) (w' : World) (S' : List Nat) : Prop := w.heap.size ≤ w'.heap.size ∧ ∀ B, B < w.heap.size → B ∉ S → B ∉ S' ∧ w'.heap[B]? = w.heap[B]?

theorem Keep.of {w w' : World} {S S' : List Nat} (hu : Upd S w w') (hs : Sub w S S') : Keep w S w' S' :=
  ⟨hu.size, fun B h1 h2 => ⟨fun hb => by rcases hs B hb with h | h; exact h2 h; omega, hu.block B h1 h2⟩⟩
theorem Keep.quiet {w w' : World} {S : List Nat} (hu : Upd [] w w') : Keep w S w' S := ⟨hu.size, fun B h1 h2 => ⟨h2, hu.block B h1 (by simp)⟩⟩
theorem Keep.trans {w w' w'' : World} {S S' S'' : List Nat} (h : Keep w S w' S') (k : Keep w' S' w'' S'') : Keep w S w'' S'' :=
  ⟨Nat.le_trans h.1 k.1, fun B h1 h2 => by
    obtain ⟨a1, a2⟩ := h.2 B h1 h2
    obtain ⟨b1, b2⟩ := k.2 B (Nat.lt_of_lt_of_le h1 h.1) a1
    exact ⟨b1, b2.trans a2⟩⟩
theorem Keep.refl (w : World) (S : List Nat) : Keep w S w S := Keep.quiet (Upd.refl _ _)

/-- A variable of the call's own beside the disk. -/
def Var (w : World) (S : List Nat) (B : Nat) (c : Array Value) (T : TypeId) : Prop := Blk w B c T ∧ B ∉ S

theorem Var.keep {w w' : World} {S S' : List Nat} {B : Nat} {c : Array Value} {T : TypeId} (h : Var w S B c T) (hk : Keep w S w' S') : Var w' S' B c T := by
  obtain ⟨h1, h2⟩ := h
  obtain ⟨k1, k2⟩ := hk.2 B h1.lt h2
  exact ⟨by unfold Blk at *; rw [k2]; exact h1, k1⟩

theorem DInv.quiet {w0 w w' : World} {b : Nat} {S : List Nat} {d : DK} (h : DInv w0 w b S d) (hu : Upd [] w w') : DInv w0 w' b S d :=
  ⟨h.disk.upd0 hu, h.upd.trans hu, h.base⟩

theorem DInv.step {w0 w w' : World} {b : Nat} {S S' : List Nat} {d d' : DK} (h : DInv w0 w b S d) (hd : DiskAt w' b S' d') (hu : Upd S w w') (hs : Sub w S S') : DInv w0 w' b S' d' :=
  ⟨hd, h.upd.then hu (fun k hk => .inr (h.base k hk)), fun k hk => by
    rcases hs k hk with h1 | h1
    · exact h.base k h1
    · exact Nat.le_trans h.upd.size h1⟩

/-- A new variable lies beside the disk. -/
theorem DInv.var {w0 w : World} {b : Nat} {S : List Nat} {d : DK} (h : DInv w0 w b S d) {w' : World} {c : Array Value} {T : TypeId} (hb : Blk w' w.heap.size c T) : Var w' S w.heap.size c T :=
  ⟨hb, fun hm => by have := h.disk.lt _ hm; omega⟩

theorem new_any (n : Int) (w : World) (h0 : 0 ≤ n) (h1 : n ≤ 4096) :
    Calls Try.prog 12 #[.int .i64 n] w fun e w' => ∃ b S, e = .returned (.tuple #[.pointer (some ⟨b, 0, none⟩), .int .i64 0]) ∧ DiskAt w' b S (DK.new n.toNat) ∧ Upd [] w w' ∧ ∀ k ∈ S, w.heap.size ≤ k := by
  obtain ⟨n, rfl⟩ := Int.eq_ofNat_of_zero_le h0
  exact new_yes n w (by omega)

/-- A list of one number, in a block of its own. -/
theorem ints_one {w : World} {B : Nat} {x : Int} (h : Blk w B #[.int .i64 x] 3) : IntsAt w (.slice (some ⟨B, 0, none⟩) 1 1) [x] :=
  ⟨_, _, rfl, by simp [maxLen], fun _ => ⟨B, 0, rfl, h.lt, fun i hi => by
    have : i = 0 := by simpa using hi
    subst this; exact h.cell rfl⟩⟩

section
variable {w0 w : World} {b : Nat} {S : List Nat} {d : DK}

theorem write_law (h : DInv w0 w b S d) (n : Int) (x : Blok) (hx : x.length = 64) :
    Calls Try.prog 13 #[.pointer (some ⟨b, 0, none⟩), .int .i64 n, .agg (U8 x)] w fun e w' => e = .returned (.int .i64 (d.code n)) ∧ ∃ S', DInv w0 w' b S' (d.write n x) ∧ Keep w S w' S' :=
  (write_any b S d n x w h.disk hx).mono fun _ _ ⟨he, S', hd, hu, hs⟩ => ⟨he, S', h.step hd hu hs, Keep.of hu hs⟩

theorem read_law (h : DInv w0 w b S d) (n : Int) :
    Calls Try.prog 21 #[.pointer (some ⟨b, 0, none⟩), .int .i64 n] w fun e w' => e = .returned (.tuple #[.agg (U8 (d.rd n)), .int .i64 (d.code n)]) ∧ DInv w0 w' b S d ∧ Keep w S w' S :=
  (read_any b S d n w h.disk).mono fun _ _ ⟨he, _, hu⟩ => ⟨he, h.quiet hu, Keep.quiet hu⟩

theorem flush_law (h : DInv w0 w b S d) :
    Calls Try.prog 22 #[.pointer (some ⟨b, 0, none⟩)] w fun e w' => e = .returned (.int .i64 d.fcode) ∧ ∃ S', DInv w0 w' b S' d.flush ∧ Keep w S w' S' :=
  (flush_any b S d w h.disk).mono fun _ _ ⟨he, S', hd, hu, hs⟩ => ⟨he, S', h.step hd hu (fun k hk => .inl (hs k hk)), Keep.of hu (fun k hk => .inl (hs k hk))⟩

theorem crash_law (h : DInv w0 w b S d) (v : Value) (fs : List Int) (hv : IntsAt w v fs) (hvS : IntsOut v fs S) :
    Calls Try.prog 23 #[.pointer (some ⟨b, 0, none⟩), v] w fun e w' => e = .returned (.tuple #[]) ∧ ∃ S', DInv w0 w' b S' (d.crash fs) ∧ Keep w S w' S' :=
  (crash_any b S d v fs w h.disk hv hvS).mono fun _ _ ⟨he, S', hd, hu, hs⟩ => ⟨he, S', h.step hd hu (fun k hk => .inl (hs k hk)), Keep.of hu (fun k hk => .inl (hs k hk))⟩

theorem start_law (h : DInv w0 w b S d) :
    Calls Try.prog 24 #[.pointer (some ⟨b, 0, none⟩)] w fun e w' => e = .returned (.tuple #[]) ∧ DInv w0 w' b S d.start ∧ Keep w S w' S :=
  (start_any b S d w h.disk).mono fun _ _ ⟨he, hd, hu⟩ => ⟨he, h.step hd hu (Sub.refl _ _), Keep.of hu (Sub.refl _ _)⟩

theorem new_law (n : Int) (w0 : World) (h0 : 0 ≤ n) (h1 : n ≤ 4096) (hu0 : Upd [] w0 w) :
    Calls Try.prog 12 #[.int .i64 n] w fun e w' => ∃ b S, e = .returned (.tuple #[.pointer (some ⟨b, 0, none⟩), .int .i64 0]) ∧ DInv w0 w' b S (DK.new n.toNat) ∧ Upd [] w w' ∧ ∀ k ∈ S, w.heap.size ≤ k :=
  (new_any n w h0 h1).mono fun _ _ ⟨b, S, he, hd, hu, hS⟩ => ⟨b, S, he, ⟨hd, hu0.trans hu, fun k hk => Nat.le_trans hu0.size (hS k hk)⟩, hu, hS⟩
end

end Go.Proofs.Ytpeboaoephkfhaa
