/- Both disks and both journals in memory, apart from each other; the contracts of their calls. -/
import Derived.Test.YtfjmkdjbeoafjaaPlayB
namespace Go.Proofs.Ytfjmkdjbeoafjaa
open Go.ChangeShapes Go.WideShapes Go.ChangeAt Go.RowKit

/-- What Append answers, on a disk that may be down. -/
def JK.code2 (k : JK) (d : DK) (b : List Int) : Int := if k.code b = 0 then (if d.down = true then 60 else 0) else k.code b
def JK.app2 (k : JK) (d : DK) (b : List Int) : JK := if d.down = true then k else k.app b
def DK.app2 (d : DK) (k : JK) (b : List Int) : DK := if d.down = true then d else d.app k b

theorem code2_up {k : JK} {d : DK} {b : List Int} (h : d.down = false) : k.code2 d b = k.code b := by
  unfold JK.code2
  rw [h]
  split
  · next h2 => rw [h2]; rfl
  · rfl

/-- A disk and its journal, the document's disk and its journal; all apart. -/
structure Two (w0 w : World) (p : Nat) (S : List Nat) (d : DK) (j : Nat) (J : List Nat) (k : JK) (q : Nat) (R : List Nat) (r : DK) (m : Nat) (M : List Nat) (l : JK) : Prop where
  left : JD w0 w p S d j J k
  ref : RefAt w q R r
  jrn : RJAt w m M q l
  sep : ∀ x ∈ M, x ∉ R
  apart : ∀ x ∈ R ++ M, x ∉ S ++ J
  base : ∀ x ∈ R ++ M, w0.heap.size ≤ x

section
variable {w0 w w' : World} {p : Nat} {S S' : List Nat} {d d' : DK} {j j' : Nat} {J J' : List Nat} {k k' : JK} {q : Nat} {R R' : List Nat} {r r' : DK} {m m' : Nat} {M M' : List Nat} {l l' : JK}

theorem JD.lt_all (h : JD w0 w p S d j J k) : ∀ x ∈ S ++ J, x < w.heap.size := fun x hx => by
  rcases List.mem_append.1 hx with hx | hx
  · exact h.disk.disk.lt x hx
  · exact h.jrn.lt x hx

theorem Two.lt_right (h : Two w0 w p S d j J k q R r m M l) : ∀ x ∈ R ++ M, x < w.heap.size := fun x hx => by
  rcases List.mem_append.1 hx with hx | hx
  · exact h.ref.lt x hx
  · exact h.jrn.lt x hx

theorem Two.upd (h : Two w0 w p S d j J k q R r m M l) : Upd [] w0 w := h.left.disk.upd

theorem Two.quiet (h : Two w0 w p S d j J k q R r m M l) (hu : Upd [] w w') : Two w0 w' p S d j J k q R r m M l :=
  ⟨h.left.quiet hu, h.ref.upd0 hu, h.jrn.upd0 hu, h.sep, h.apart, h.base⟩

/-- The left ones go on. -/
theorem Two.stepL (h : Two w0 w p S d j J k q R r m M l) (hl : JD w0 w' p S' d' j' J' k') (hu : Upd (S ++ J) w w') (hs : Sub w (S ++ J) (S' ++ J')) : Two w0 w' p S' d' j' J' k' q R r m M l :=
  ⟨hl, h.ref.upd hu (fun x hx => h.apart x (List.mem_append_left _ hx)), h.jrn.upd hu (fun x hx => h.apart x (List.mem_append_right _ hx)), h.sep, fun x hx hm => by
    rcases hs x hm with h1 | h1
    · exact h.apart x hx h1
    · have := h.lt_right x hx; omega, h.base⟩

/-- The right ones go on. -/
theorem Two.stepR (h : Two w0 w p S d j J k q R r m M l) (hr : RefAt w' q R' r') (hj : RJAt w' m' M' q l') (hsep : ∀ x ∈ M', x ∉ R') (hu : Upd (R ++ M) w w') (hs : Sub w (R ++ M) (R' ++ M')) : Two w0 w' p S d j J k q R' r' m' M' l' := by
  have hST : ∀ x ∈ S ++ J, x ∉ R ++ M := fun x hx hm => h.apart x hm hx
  refine ⟨⟨⟨h.left.disk.disk.upd hu (fun x hx => hST x (List.mem_append_left _ hx)), h.left.disk.upd.then hu (fun x hx => .inr (h.base x hx)), h.left.disk.base⟩, h.left.jrn.upd hu (fun x hx => hST x (List.mem_append_right _ hx)), h.left.sep, h.left.base⟩, hr, hj, hsep, fun x hx hm => ?_, fun x hx => ?_⟩
  · rcases hs x hx with h1 | h1
    · exact h.apart x h1 hm
    · have := h.left.lt_all x hm; omega
  · rcases hs x hx with h1 | h1
    · exact h.base x h1
    · exact Nat.le_trans h.left.disk.upd.size h1

/-- A variable beside them all. -/
def Bx (w : World) (A : List Nat) (B : Nat) (c : Array Value) (T : TypeId) : Prop := Blk w B c T ∧ B ∉ A

theorem Bx.left {B : Nat} {c : Array Value} {T : TypeId} {A A' C : List Nat} (h : Bx w (A ++ C) B c T) (hu : Upd A w w') (hs : Sub w A A') : Bx w' (A' ++ C) B c T :=
  ⟨h.1.upd hu (fun hm => h.2 (List.mem_append_left _ hm)), fun hm => by
    rcases List.mem_append.1 hm with hm | hm
    · rcases hs B hm with h1 | h1
      · exact h.2 (List.mem_append_left _ h1)
      · have := h.1.lt; omega
    · exact h.2 (List.mem_append_right _ hm)⟩

theorem Bx.right {B : Nat} {c : Array Value} {T : TypeId} {A C C' : List Nat} (h : Bx w (A ++ C) B c T) (hu : Upd C w w') (hs : Sub w C C') : Bx w' (A ++ C') B c T :=
  ⟨h.1.upd hu (fun hm => h.2 (List.mem_append_right _ hm)), fun hm => by
    rcases List.mem_append.1 hm with hm | hm
    · exact h.2 (List.mem_append_left _ hm)
    · rcases hs B hm with h1 | h1
      · exact h.2 (List.mem_append_right _ h1)
      · have := h.1.lt; omega⟩

theorem Bx.quiet {B : Nat} {c : Array Value} {T : TypeId} {A : List Nat} (h : Bx w A B c T) (hu : Upd [] w w') : Bx w' A B c T := ⟨h.1.upd hu (by simp), h.2⟩

theorem sub_app {A A' C C' : List Nat} (h1 : Sub w A A') (h2 : Sub w C C') : Sub w (A ++ C) (A' ++ C') := fun x hx => by
  rcases List.mem_append.1 hx with hx | hx
  · rcases h1 x hx with h | h
    · exact .inl (List.mem_append_left _ h)
    · exact .inr h
  · rcases h2 x hx with h | h
    · exact .inl (List.mem_append_right _ h)
    · exact .inr h

theorem two_appL (h : Two w0 w p S d j J k q R r m M l) (v : Value) (b : List Int) (hb : BytesAt w0 v b) (hu8 : U8L b) (hin : k.from_ + k.blocks ≤ d.last.length) :
    Calls Try.prog 13 #[.pointer (some ⟨j, 0, none⟩), v] w fun e w' => e = .returned (.int .i64 (k.code2 d b)) ∧
      ∃ S' J', Two w0 w' p S' (d.app2 k b) j J' (k.app2 d b) q R r m M l ∧ Upd (S ++ J) w w' ∧ Sub w (S ++ J) (S' ++ J') := by
  have hb' := hb.upd0 h.upd
  have q0 : ∀ w', Upd [] w w' → Upd (S ++ J) w w' := fun w' hu => hu.mono (by simp)
  cases hd : d.down with
  | true =>
    have e1 : d.app2 k b = d := by unfold DK.app2; rw [if_pos hd]
    have e2 : k.app2 d b = k := by unfold JK.app2; rw [if_pos hd]
    rw [e1, e2]
    rcases code_cases k b with ⟨hc, h1⟩ | ⟨hc, h0, h1, h2⟩ | ⟨hc, h0, h1, h2⟩
    · have e3 : k.code2 d b = 71 := by unfold JK.code2; rw [if_neg (by omega), hc]
      rw [e3]
      exact (append_bad v b j w hb' h1).mono fun _ _ ⟨he, hu⟩ => ⟨he, S, J, h.quiet hu, q0 _ hu, Sub.refl _ _⟩
    · have e3 : k.code2 d b = 70 := by unfold JK.code2; rw [if_neg (by omega), hc]
      rw [e3]
      exact (append_full v b j J p k w hb' h0 h1 h.left.jrn h2).mono fun _ _ ⟨he, hu⟩ => ⟨he, S, J, h.quiet hu, q0 _ hu, Sub.refl _ _⟩
    · have e3 : k.code2 d b = 60 := by unfold JK.code2; rw [if_pos hc, if_pos hd]
      rw [e3]
      exact (append_down v b j J p S d k w hb' h0 h1 h.left.jrn h.left.disk.disk h2 hd).mono fun _ _ ⟨he, hu⟩ => ⟨he, S, J, h.quiet hu, q0 _ hu, Sub.refl _ _⟩
  | false =>
    have e1 : d.app2 k b = d.app k b := by unfold DK.app2; rw [hd]; rfl
    have e2 : k.app2 d b = k.app b := by unfold JK.app2; rw [hd]; rfl
    rw [e1, e2, code2_up hd]
    rcases code_cases k b with ⟨hc, h1⟩ | ⟨hc, h0, h1, h2⟩ | ⟨hc, h0, h1, h2⟩
    · have e1 : d.app k b = d := by unfold DK.app; rw [hc]; rfl
      have e2 : k.app b = k := by unfold JK.app; rw [hc]; rfl
      rw [hc, e1, e2]
      exact (append_bad v b j w hb' h1).mono fun _ _ ⟨he, hu⟩ => ⟨he, S, J, h.quiet hu, q0 _ hu, Sub.refl _ _⟩
    · have e1 : d.app k b = d := by unfold DK.app; rw [hc]; rfl
      have e2 : k.app b = k := by unfold JK.app; rw [hc]; rfl
      rw [hc, e1, e2]
      exact (append_full v b j J p k w hb' h0 h1 h.left.jrn h2).mono fun _ _ ⟨he, hu⟩ => ⟨he, S, J, h.quiet hu, q0 _ hu, Sub.refl _ _⟩
    · have e1 : d.app k b = d.layRec (k.from_ + k.used) k.life b (needJ b) := by unfold DK.app; rw [hc]; rfl
      have e2 : k.app b = k.push b := by unfold JK.app; rw [hc]; rfl
      rw [hc, e1, e2]
      refine (append_yes v b j J p S d k w hb' (hb.out h.left.disk.base) h0 h1 hu8 h.left.jrn h.left.disk.disk h.left.sep h2 hd hin).mono fun _ _ ⟨he, S', J', hd', hj', hu, hs, hJ, hsep⟩ => ⟨he, S', J', h.stepL ⟨⟨hd', h.left.disk.upd.then hu (fun x hx => ?_), fun x hx => ?_⟩, hj', hsep, fun x hx => ?_⟩ hu (sub_app hs hJ), hu, sub_app hs hJ⟩
      · rcases List.mem_append.1 hx with hx | hx
        · exact .inr (h.left.disk.base x hx)
        · exact .inr (h.left.base x hx)
      · rcases hs x hx with h1 | h1
        · exact h.left.disk.base x h1
        · exact Nat.le_trans h.left.disk.upd.size h1
      · rcases hJ x hx with h1 | h1
        · exact h.left.base x h1
        · exact Nat.le_trans h.left.disk.upd.size h1

theorem two_appR (h : Two w0 w p S d j J k q R r m M l) (v : Value) (b : List Int) (hb : BytesAt w0 v b) (hu8 : U8L b) (hin : l.from_ + l.blocks ≤ r.last.length) :
    Calls Try.prog 23 #[.pointer (some ⟨m, 0, none⟩), v] w fun e w' => e = .returned (.int .i64 (l.code2 r b)) ∧
      ∃ R' M', Two w0 w' p S d j J k q R' (r.app2 l b) m M' (l.app2 r b) ∧ Upd (R ++ M) w w' ∧ Sub w (R ++ M) (R' ++ M') := by
  have hb' := hb.upd0 h.upd
  have q0 : ∀ w', Upd [] w w' → Upd (R ++ M) w w' := fun w' hu => hu.mono (by simp)
  cases hd : r.down with
  | true =>
    have e1 : r.app2 l b = r := by unfold DK.app2; rw [if_pos hd]
    have e2 : l.app2 r b = l := by unfold JK.app2; rw [if_pos hd]
    rw [e1, e2]
    rcases code_cases l b with ⟨hc, h1⟩ | ⟨hc, h0, h1, h2⟩ | ⟨hc, h0, h1, h2⟩
    · have e3 : l.code2 r b = 71 := by unfold JK.code2; rw [if_neg (by omega), hc]
      rw [e3]
      exact (rappend_bad v b m w hb' h1).mono fun _ _ ⟨he, hu⟩ => ⟨he, R, M, h.quiet hu, q0 _ hu, Sub.refl _ _⟩
    · have e3 : l.code2 r b = 70 := by unfold JK.code2; rw [if_neg (by omega), hc]
      rw [e3]
      exact (rappend_full v b m M q l w hb' h0 h1 h.jrn h2).mono fun _ _ ⟨he, hu⟩ => ⟨he, R, M, h.quiet hu, q0 _ hu, Sub.refl _ _⟩
    · have e3 : l.code2 r b = 60 := by unfold JK.code2; rw [if_pos hc, if_pos hd]
      rw [e3]
      exact (rappend_down v b m M q R r l w hb' h0 h1 h.jrn h.ref h2 hd).mono fun _ _ ⟨he, hu⟩ => ⟨he, R, M, h.quiet hu, q0 _ hu, Sub.refl _ _⟩
  | false =>
    have e1 : r.app2 l b = r.app l b := by unfold DK.app2; rw [hd]; rfl
    have e2 : l.app2 r b = l.app b := by unfold JK.app2; rw [hd]; rfl
    rw [e1, e2, code2_up hd]
    rcases code_cases l b with ⟨hc, h1⟩ | ⟨hc, h0, h1, h2⟩ | ⟨hc, h0, h1, h2⟩
    · have e1 : r.app l b = r := by unfold DK.app; rw [hc]; rfl
      have e2 : l.app b = l := by unfold JK.app; rw [hc]; rfl
      rw [hc, e1, e2]
      exact (rappend_bad v b m w hb' h1).mono fun _ _ ⟨he, hu⟩ => ⟨he, R, M, h.quiet hu, q0 _ hu, Sub.refl _ _⟩
    · have e1 : r.app l b = r := by unfold DK.app; rw [hc]; rfl
      have e2 : l.app b = l := by unfold JK.app; rw [hc]; rfl
      rw [hc, e1, e2]
      exact (rappend_full v b m M q l w hb' h0 h1 h.jrn h2).mono fun _ _ ⟨he, hu⟩ => ⟨he, R, M, h.quiet hu, q0 _ hu, Sub.refl _ _⟩
    · have e1 : r.app l b = r.layRec (l.from_ + l.used) l.life b (needJ b) := by unfold DK.app; rw [hc]; rfl
      have e2 : l.app b = l.push b := by unfold JK.app; rw [hc]; rfl
      rw [hc, e1, e2]
      exact (rappend_yes v b m M q R r l w hb' (hb.out (fun x hx => h.base x (List.mem_append_left _ hx))) (hb.out (fun x hx => h.base x (List.mem_append_right _ hx))) h0 h1 hu8 h.jrn h.ref h.sep h2 hd hin).mono fun _ _ ⟨he, R', M', hr', hj', hu, hs, hJ, hsep⟩ => ⟨he, R', M', h.stepR hr' hj' hsep hu (sub_app hs hJ), hu, sub_app hs hJ⟩

/-- What one step of the right disk alone gives. -/
theorem Two.diskR (h : Two w0 w p S d j J k q R r m M l) (hr : RefAt w' q R' r') (hu : Upd R w w') (hs : Sub w R R') : Two w0 w' p S d j J k q R' r' m M l ∧ Upd (R ++ M) w w' ∧ Sub w (R ++ M) (R' ++ M) := by
  have hu' : Upd (R ++ M) w w' := hu.mono (fun x hx => .inl (List.mem_append_left _ hx))
  refine ⟨h.stepR hr (h.jrn.upd hu h.sep) (fun x hx hm => ?_) hu' (sub_app hs (Sub.refl _ _)), hu', sub_app hs (Sub.refl _ _)⟩
  rcases hs x hm with h1 | h1
  · exact h.sep x hx h1
  · have := h.jrn.lt x hx; omega

theorem Two.diskL (h : Two w0 w p S d j J k q R r m M l) (hd : DiskAt w' p S' d') (hu : Upd S w w') (hs : Sub w S S') : Two w0 w' p S' d' j J k q R r m M l ∧ Upd (S ++ J) w w' ∧ Sub w (S ++ J) (S' ++ J) := by
  have hu' : Upd (S ++ J) w w' := hu.mono (fun x hx => .inl (List.mem_append_left _ hx))
  exact ⟨h.stepL (h.left.step hd hu hs) hu' (sub_app hs (Sub.refl _ _)), hu', sub_app hs (Sub.refl _ _)⟩

theorem two_forceL (h : Two w0 w p S d j J k q R r m M l) :
    Calls Try.prog 14 #[.pointer (some ⟨j, 0, none⟩)] w fun e w' => e = .returned (.int .i64 d.fcode) ∧ ∃ S', Two w0 w' p S' d.flush j J k q R r m M l ∧ Upd (S ++ J) w w' ∧ Sub w (S ++ J) (S' ++ J) :=
  (jforce_any h.left.jrn h.left.disk.disk).mono fun _ _ ⟨he, S', hd, hu, hs⟩ => ⟨he, S', h.diskL hd hu (fun x hx => .inl (hs x hx))⟩

theorem two_forceR (h : Two w0 w p S d j J k q R r m M l) :
    Calls Try.prog 24 #[.pointer (some ⟨q, 0, none⟩)] w fun e w' => e = .returned (.int .i64 r.fcode) ∧ ∃ R', Two w0 w' p S d j J k q R' r.flush m M l ∧ Upd (R ++ M) w w' ∧ Sub w (R ++ M) (R' ++ M) :=
  (rflush_any q R r w h.ref).mono fun _ _ ⟨he, R', hr, hu, hs⟩ => ⟨he, R', h.diskR hr hu hs⟩

theorem two_crashL (h : Two w0 w p S d j J k q R r m M l) (v : Value) (fs : List Int) (hv : IntsAt w0 v fs) :
    Calls Try.prog 17 #[.pointer (some ⟨p, 0, none⟩), v] w fun e w' => e = .returned (.tuple #[]) ∧ ∃ S', Two w0 w' p S' (d.crash fs) j J k q R r m M l ∧ Upd (S ++ J) w w' ∧ Sub w (S ++ J) (S' ++ J) :=
  (crash_any p S d v fs w h.left.disk.disk (hv.upd0 h.upd) (hv.out h.left.disk.base)).mono fun _ _ ⟨he, S', hd, hu, hs⟩ => ⟨he, S', h.diskL hd hu (fun x hx => .inl (hs x hx))⟩

theorem two_crashR (h : Two w0 w p S d j J k q R r m M l) (v : Value) (fs : List Int) (hv : IntsAt w0 v fs) :
    Calls Try.prog 25 #[.pointer (some ⟨q, 0, none⟩), v] w fun e w' => e = .returned (.tuple #[]) ∧ ∃ R', Two w0 w' p S d j J k q R' (r.crash fs) m M l ∧ Upd (R ++ M) w w' ∧ Sub w (R ++ M) (R' ++ M) :=
  (rcrash_any q R r v fs w h.ref (hv.upd0 h.upd) (hv.out (fun x hx => h.base x (List.mem_append_left _ hx)))).mono fun _ _ ⟨he, R', hr, hu, hs⟩ => ⟨he, R', h.diskR hr hu hs⟩

theorem two_startL (h : Two w0 w p S d j J k q R r m M l) :
    Calls Try.prog 18 #[.pointer (some ⟨p, 0, none⟩)] w fun e w' => e = .returned (.tuple #[]) ∧ Two w0 w' p S d.start j J k q R r m M l ∧ Upd (S ++ J) w w' ∧ Sub w (S ++ J) (S ++ J) :=
  (start_any p S d w h.left.disk.disk).mono fun _ _ ⟨he, hd, hu⟩ => ⟨he, h.diskL hd hu (Sub.refl _ _)⟩

theorem two_startR (h : Two w0 w p S d j J k q R r m M l) :
    Calls Try.prog 29 #[.pointer (some ⟨q, 0, none⟩)] w fun e w' => e = .returned (.tuple #[]) ∧ Two w0 w' p S d j J k q R r.start m M l ∧ Upd (R ++ M) w w' ∧ Sub w (R ++ M) (R ++ M) :=
  (rstart_any q R r w h.ref).mono fun _ _ ⟨he, hr, hu⟩ => ⟨he, h.diskR hr hu (Sub.refl _ _)⟩

theorem two_writeL (h : Two w0 w p S d j J k q R r m M l) (n : Int) (x : Blok) (hx : x.length = 64) :
    Calls Try.prog 26 #[.pointer (some ⟨p, 0, none⟩), .int .i64 n, .agg (U8 x)] w fun e w' => e = .returned (.int .i64 (d.code n)) ∧ ∃ S', Two w0 w' p S' (d.write n x) j J k q R r m M l ∧ Upd (S ++ J) w w' ∧ Sub w (S ++ J) (S' ++ J) :=
  (write_any p S d n x w h.left.disk.disk hx).mono fun _ _ ⟨he, S', hd, hu, hs⟩ => ⟨he, S', h.diskL hd hu hs⟩

theorem two_writeR (h : Two w0 w p S d j J k q R r m M l) (n : Int) (x : Blok) (hx : x.length = 64) :
    Calls Try.prog 28 #[.pointer (some ⟨q, 0, none⟩), .int .i64 n, .agg (U8 x)] w fun e w' => e = .returned (.int .i64 (r.code n)) ∧ ∃ R', Two w0 w' p S d j J k q R' (r.write n x) m M l ∧ Upd (R ++ M) w w' ∧ Sub w (R ++ M) (R' ++ M) :=
  (rwrite_any q R r n x w h.ref hx).mono fun _ _ ⟨he, R', hr, hu, hs⟩ => ⟨he, R', h.diskR hr hu hs⟩

/-- The left journal, opened anew; the right one comes behind it. -/
theorem two_openL (h : Two w0 w p S d j J k q R r m M l) (f n : Nat) (hf : f + n ≤ d.last.length) (hd : d.down = false) (hby : d.Byt) :
    Calls Try.prog 12 #[.pointer (some ⟨p, 0, none⟩), .int .i64 f, .int .i64 n] w fun e w' => ∃ j' J', e = .returned (.tuple #[.pointer (some ⟨j', 0, none⟩), .int .i64 0]) ∧ Two w0 w' p S d j' J' (d.openJ f n) q R r m M l ∧ Upd [] w w' ∧ Sub w (S ++ J) (S ++ J') := by
  refine (open_yes p S d f n w h.left.disk.disk hf hd hby).mono fun _ _ ⟨j', J', he, hj, hJ, hu⟩ => ⟨j', J', he, ?_, hu, sub_app (Sub.refl _ _) (fun x hx => .inr (hJ x hx))⟩
  exact h.stepL ⟨h.left.disk.quiet hu, hj, fun x hx hm => by have h1 := h.left.disk.disk.lt x hm; have h2 := hJ x hx; omega, fun x hx => Nat.le_trans h.left.disk.upd.size (hJ x hx)⟩ (hu.mono (by simp)) (sub_app (Sub.refl _ _) (fun x hx => .inr (hJ x hx)))

theorem two_openR (h : Two w0 w p S d j J k q R r m M l) (f n : Nat) (hf : f + n ≤ r.last.length) (hd : r.down = false) (hby : r.Byt) :
    Calls Try.prog 22 #[.pointer (some ⟨q, 0, none⟩), .int .i64 f, .int .i64 n] w fun e w' => ∃ m' M', e = .returned (.tuple #[.pointer (some ⟨m', 0, none⟩), .int .i64 0]) ∧ Two w0 w' p S d j J k q R r m' M' (r.openJ f n) ∧ Upd [] w w' ∧ Sub w (R ++ M) (R ++ M') := by
  refine (ropen_yes q R r f n w h.ref hf hd hby).mono fun _ _ ⟨m', M', he, hj, hJ, hu⟩ => ⟨m', M', he, ?_, hu, sub_app (Sub.refl _ _) (fun x hx => .inr (hJ x hx))⟩
  exact h.stepR (h.ref.upd0 hu) hj (fun x hx hm => by have h1 := h.ref.lt x hm; have h2 := hJ x hx; omega) (hu.mono (by simp)) (sub_app (Sub.refl _ _) (fun x hx => .inr (hJ x hx)))

set_option maxHeartbeats 1000000 in
theorem jroom_q (h : JAt w j J p k) :
    Calls Try.prog 20 #[.pointer (some ⟨j, 0, none⟩)] w fun e w' => e = .returned (.int .i64 ((k.blocks : Int) - (k.used : Int))) ∧ ∃ n, w' = w.drewN n := by
  obtain ⟨rv, rvs, T, rfl, h1, h2, h3, h4, h5, h6, h7⟩ := h
  have c2 := h5.cell (o := 2) rfl
  have c4 := h5.cell (o := 4) rfl
  have x1 := h4.used
  have x2 := h4.room
  clear h1 h2 h3 h4 h5 h6 h7
  go_enter Try.func20, Try.ntmps20
  go_upto_region 3 with fail
  go_quiet (fail)
  go_wp2
  go_ret
  exact ⟨rfl, _, rfl⟩

theorem jroom_quiet {n : Nat} (h : JAt (w.drewN n) j J p k) :
    Calls Try.prog 20 #[.pointer (some ⟨j, 0, none⟩)] (w.drewN n) fun e w' => e = .returned (.int .i64 ((k.blocks : Int) - (k.used : Int))) ∧ ∃ m, w' = w.drewN m :=
  (jroom_q h).mono fun _ _ ⟨he, m, hm⟩ => ⟨he, n + m, by rw [hm]; simp [World.drewN, Nat.add_assoc]⟩
end

end Go.Proofs.Ytfjmkdjbeoafjaa
