/- A journal and its disk, of the call's own; bytes as strings; the walk of shipwrightref07.Same. -/
import Derived.Test.YtfjmkdjbeoafjaaJrnH
import Derived.Laws.BytesArg
namespace Go.Proofs.Ytfjmkdjbeoafjaa
open Go.ChangeShapes Go.WideShapes Go.ChangeAt Go.RowKit

/-- A disk and a journal over it, apart from each other, made since w0. -/
structure JD (w0 w : World) (p : Nat) (S : List Nat) (d : DK) (j : Nat) (J : List Nat) (k : JK) : Prop where
  disk : DInv w0 w p S d
  jrn : JAt w j J p k
  sep : ∀ x ∈ J, x ∉ S
  base : ∀ x ∈ J, w0.heap.size ≤ x

theorem JD.quiet {w0 w w' : World} {p : Nat} {S : List Nat} {d : DK} {j : Nat} {J : List Nat} {k : JK} (h : JD w0 w p S d j J k) (hu : Upd [] w w') : JD w0 w' p S d j J k :=
  ⟨h.disk.quiet hu, h.jrn.upd0 hu, h.sep, h.base⟩

theorem JD.step {w0 w w' : World} {p : Nat} {S S' : List Nat} {d d' : DK} {j : Nat} {J : List Nat} {k : JK} (h : JD w0 w p S d j J k) (hd : DiskAt w' p S' d') (hu : Upd S w w') (hs : Sub w S S') : JD w0 w' p S' d' j J k :=
  ⟨h.disk.step hd hu hs, h.jrn.upd hu h.sep, fun x hx hm => by
    rcases hs x hm with h1 | h1
    · exact h.sep x hx h1
    · have := h.jrn.lt x hx; omega, h.base⟩

/-- What lies beside the disk and the journal stays beside them. -/
theorem JD.keep {w0 w w' : World} {p : Nat} {S S' : List Nat} {d : DK} {j : Nat} {J : List Nat} {k : JK} (_ : JD w0 w p S d j J k) (hu : Upd S w w') (hs : Sub w S S') : Keep w (S ++ J) w' (S' ++ J) :=
  ⟨hu.size, fun B h1 h2 => ⟨fun hm => by
    rcases List.mem_append.1 hm with hm | hm
    · rcases hs B hm with h | h
      · exact h2 (List.mem_append_left _ h)
      · omega
    · exact h2 (List.mem_append_right _ hm), hu.block B h1 (fun hm => h2 (List.mem_append_left _ hm))⟩⟩

def JK.code (k : JK) (b : List Int) : Int := if b.length = 0 ∨ 2000 < b.length then 71 else if k.blocks - k.used < needJ b then 70 else 0

def JK.app (k : JK) (b : List Int) : JK := if k.code b = 0 then k.push b else k
def DK.app (d : DK) (k : JK) (b : List Int) : DK := if k.code b = 0 then d.layRec (k.from_ + k.used) k.life b (needJ b) else d

theorem code_cases (k : JK) (b : List Int) : (k.code b = 71 ∧ (b.length = 0 ∨ 2000 < b.length)) ∨ (k.code b = 70 ∧ 0 < b.length ∧ b.length ≤ 2000 ∧ k.blocks - k.used < needJ b) ∨ (k.code b = 0 ∧ 0 < b.length ∧ b.length ≤ 2000 ∧ needJ b ≤ k.blocks - k.used) := by
  unfold JK.code
  by_cases h : b.length = 0 ∨ 2000 < b.length
  · rw [if_pos h]; exact .inl ⟨rfl, h⟩
  · rw [if_neg h]
    by_cases h2 : k.blocks - k.used < needJ b
    · rw [if_pos h2]; exact .inr (.inl ⟨rfl, by omega, by omega, h2⟩)
    · rw [if_neg h2]; exact .inr (.inr ⟨rfl, by omega, by omega, by omega⟩)

section
variable {w0 w : World} {p : Nat} {S : List Nat} {d : DK} {j : Nat} {J : List Nat} {k : JK}

theorem japp_law (h : JD w0 w p S d j J k) (v : Value) (b : List Int) (hb : BytesAt w v b) (hbS : BytesOut v b S) (hu8 : U8L b) (hup : d.down = false) (hin : k.from_ + k.blocks ≤ d.last.length) :
    Calls Try.prog 13 #[.pointer (some ⟨j, 0, none⟩), v] w fun e w' => e = .returned (.int .i64 (k.code b)) ∧
      ∃ S' J', JD w0 w' p S' (d.app k b) j J' (k.app b) ∧ Keep w (S ++ J) w' (S' ++ J') := by
  rcases code_cases k b with ⟨hc, h1⟩ | ⟨hc, h0, h1, h2⟩ | ⟨hc, h0, h1, h2⟩
  · have e1 : d.app k b = d := by unfold DK.app; rw [hc]; rfl
    have e2 : k.app b = k := by unfold JK.app; rw [hc]; rfl
    rw [hc, e1, e2]
    exact (append_bad v b j w hb h1).mono fun _ _ ⟨he, hu⟩ => ⟨he, S, J, h.quiet hu, Keep.quiet hu⟩
  · have e1 : d.app k b = d := by unfold DK.app; rw [hc]; rfl
    have e2 : k.app b = k := by unfold JK.app; rw [hc]; rfl
    rw [hc, e1, e2]
    exact (append_full v b j J p k w hb h0 h1 h.jrn h2).mono fun _ _ ⟨he, hu⟩ => ⟨he, S, J, h.quiet hu, Keep.quiet hu⟩
  · have e1 : d.app k b = d.layRec (k.from_ + k.used) k.life b (needJ b) := by unfold DK.app; rw [hc]; rfl
    have e2 : k.app b = k.push b := by unfold JK.app; rw [hc]; rfl
    rw [hc, e1, e2]
    refine (append_yes v b j J p S d k w hb hbS h0 h1 hu8 h.jrn h.disk.disk h.sep h2 hup hin).mono fun _ _ ⟨he, S', J', hd, hj, hu, hs, hJ, hsep⟩ => ⟨he, S', J', ⟨⟨hd, h.disk.upd.then hu (fun x hx => ?_), fun x hx => ?_⟩, hj, hsep, fun x hx => ?_⟩, hu.size, fun B h1 h2 => ⟨fun hm => ?_, hu.block B h1 h2⟩⟩
    · rcases List.mem_append.1 hx with hx | hx
      · exact .inr (h.disk.base x hx)
      · exact .inr (h.base x hx)
    · rcases hs x hx with h1 | h1
      · exact h.disk.base x h1
      · exact Nat.le_trans h.disk.upd.size h1
    · rcases hJ x hx with h1 | h1
      · exact h.base x h1
      · exact Nat.le_trans h.disk.upd.size h1
    · rcases List.mem_append.1 hm with hm | hm
      · rcases hs B hm with h3 | h3
        · exact h2 (List.mem_append_left _ h3)
        · omega
      · rcases hJ B hm with h3 | h3
        · exact h2 (List.mem_append_right _ h3)
        · omega

set_option maxHeartbeats 1000000 in
theorem jforce_any (h : JAt w j J p k) (hd : DiskAt w p S d) :
    Calls Try.prog 14 #[.pointer (some ⟨j, 0, none⟩)] w fun e w' => e = .returned (.int .i64 d.fcode) ∧ ∃ S', DiskAt w' p S' d.flush ∧ Upd S w w' ∧ ∀ x ∈ S', x ∈ S := by
  obtain ⟨rv, rvs, T, rfl, h1, h2, h3, h4, h5, h6, h7⟩ := h
  have c0 := h5.cell (o := 0) rfl
  have HD := Lib.hid hd
  clear h1 h2 h3 h4 h5 h6 h7 hd
  go_enter Try.func14, Try.ntmps14
  go_wp2_with (go_at_call 39; refine (flush_any p S d w HD.out).mono ?_; rintro e w1 ⟨rfl, S', hd', hu', hs'⟩)
  go_ret
  exact ⟨rfl, S', hd', hu', hs'⟩

theorem jforce_law (h : JD w0 w p S d j J k) :
    Calls Try.prog 14 #[.pointer (some ⟨j, 0, none⟩)] w fun e w' => e = .returned (.int .i64 d.fcode) ∧ ∃ S', JD w0 w' p S' d.flush j J k ∧ Keep w (S ++ J) w' (S' ++ J) :=
  (jforce_any h.jrn h.disk.disk).mono fun _ _ ⟨he, S', hd, hu, hs⟩ => ⟨he, S', h.step hd hu (fun x hx => .inl (hs x hx)), h.keep hu (fun x hx => .inl (hs x hx))⟩

theorem jcrash_law (h : JD w0 w p S d j J k) (v : Value) (fs : List Int) (hv : IntsAt w v fs) (hvS : IntsOut v fs S) :
    Calls Try.prog 17 #[.pointer (some ⟨p, 0, none⟩), v] w fun e w' => e = .returned (.tuple #[]) ∧ ∃ S', JD w0 w' p S' (d.crash fs) j J k ∧ Keep w (S ++ J) w' (S' ++ J) :=
  (crash_any p S d v fs w h.disk.disk hv hvS).mono fun _ _ ⟨he, S', hd, hu, hs⟩ => ⟨he, S', h.step hd hu (fun x hx => .inl (hs x hx)), h.keep hu (fun x hx => .inl (hs x hx))⟩

theorem jstart_law (h : JD w0 w p S d j J k) :
    Calls Try.prog 18 #[.pointer (some ⟨p, 0, none⟩)] w fun e w' => e = .returned (.tuple #[]) ∧ JD w0 w' p S d.start j J k ∧ Keep w (S ++ J) w' (S ++ J) :=
  (start_any p S d w h.disk.disk).mono fun _ _ ⟨he, hd, hu⟩ => ⟨he, h.step hd hu (Sub.refl _ _), h.keep hu (Sub.refl _ _)⟩

theorem jopen_law (h : DInv w0 w p S d) (f n : Int) (hf0 : 0 ≤ f) (hn0 : 0 ≤ n) (hf : f + n ≤ d.last.length) (hd : d.down = false) (hby : d.Byt) :
    Calls Try.prog 12 #[.pointer (some ⟨p, 0, none⟩), .int .i64 f, .int .i64 n] w fun e w' => ∃ j J, e = .returned (.tuple #[.pointer (some ⟨j, 0, none⟩), .int .i64 0]) ∧ JD w0 w' p S d j J (d.openJ f.toNat n.toNat) ∧ Upd [] w w' ∧ ∀ x ∈ J, w.heap.size ≤ x := by
  obtain ⟨f, rfl⟩ := Int.eq_ofNat_of_zero_le hf0
  obtain ⟨n, rfl⟩ := Int.eq_ofNat_of_zero_le hn0
  exact (open_yes p S d f n w h.disk (by omega) hd hby).mono fun _ _ ⟨j, J, he, hj, hJ, hu⟩ => ⟨j, J, he, ⟨h.quiet hu, hj, fun x hx hm => by have h1 := h.disk.lt x hm; have h2 := hJ x hx; omega, fun x hx => Nat.le_trans h.upd.size (hJ x hx)⟩, hu, hJ⟩
end

/-- 'string(b)'. -/
theorem exec_str {a : Act} {o : Oper} {w : World} {v : Value} {l : List Int} (x : Operand) (ho : o.op = .convert 31 9 x) (hx : a.eval x = v) (hv : BytesAt w v l) :
    (execOp a.eval o).run Try.prog w = .ok (.value (.string (strOfNums l))) w := by
  obtain ⟨ad, cap, rfl, -, -, hc⟩ := hv
  have key : (convert 31 9 (.slice ad l.length cap)).run Try.prog w = .ok (.string (strOfNums l)) w := by
    by_cases hl : l = []
    · subst hl
      cases ad with
      | none => exact run_convert_bytes_nil w _ _ Try.underlying31 Try.underlying5 _ _ _ Try.underlying9
      | some ad =>
        have hl : (loadCells ad 0).run Try.prog w = .ok (([] : List Int).map (Value.int .u8)).toArray w := by
          have := run_loadCells_list (P := Try.prog) w ad [] (fun j v hj => by simp at hj)
          simpa using this
        rw [List.length_nil, run_convert_bytes_string w _ _ _ _ _ _ Try.underlying31 Try.underlying5 Try.underlying9, run_bytesToString w _ 0 cap [] hl, foldl_push_bytes]
        rfl
    · obtain ⟨g, off, rfl, -, h⟩ := hc hl
      exact run_convert_bytes_arg w _ _ Try.underlying31 Try.underlying5 g off l.length cap l rfl h _ Try.underlying9
  unfold execOp
  simp [ho, hx, key]

end Go.Proofs.Ytfjmkdjbeoafjaa
