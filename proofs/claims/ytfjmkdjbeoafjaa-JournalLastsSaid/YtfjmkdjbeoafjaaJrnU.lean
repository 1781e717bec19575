/- A disk, its journal, and what a crash may leave: the contracts. -/
import Derived.Test.YtfjmkdjbeoafjaaJrnN
import Derived.Test.YtfjmkdjbeoafjaaJrnT
import Derived.Test.YtfjmkdjbeoafjaaRecs
namespace Go.Proofs.Ytfjmkdjbeoafjaa
open Go.ChangeShapes Go.WideShapes Go.ChangeAt Go.RowKit

/-- A disk, its journal, and what a crash may leave. -/
structure LInv (w0 w : World) (p : Nat) (S : List Nat) (d : DK) (j : Nat) (J : List Nat) (O : List Blok) (L : Int) (r0 : List (List Int)) (u0 : Nat) (F U : List (List Int)) : Prop where
  jd : JD w0 w p S d j J (kOf 3 50 L r0 u0 F U)
  ls : LS d 3 50 O L r0 u0 F U
  byt : d.Byt

theorem kOf_nil (f n : Nat) (L : Int) (r0 : List (List Int)) (u0 : Nat) : kOf f n L r0 u0 [] [] = ⟨f, n, L, u0, r0⟩ := by
  simp [kOf, recB]

section
variable {w0 w : World} {p : Nat} {S : List Nat} {d : DK} {j : Nat} {J : List Nat} {O : List Blok} {L : Int} {r0 : List (List Int)} {u0 : Nat} {F U : List (List Int)}

theorem LInv.quiet {w' : World} (h : LInv w0 w p S d j J O L r0 u0 F U) (hu : Upd [] w w') : LInv w0 w' p S d j J O L r0 u0 F U := ⟨h.jd.quiet hu, h.ls, h.byt⟩

theorem linv_app (h : LInv w0 w p S d j J O L r0 u0 F U) (v : Value) (b : List Int) (hb : BytesAt w0 v b) (hu8 : U8L b) :
    Calls Try.prog 13 #[.pointer (some ⟨j, 0, none⟩), v] w fun e w' => ∃ (c : Int) (S' J' : List Nat) (d' : DK) (U' : List (List Int)), e = .returned (.int .i64 c) ∧ LInv w0 w' p S' d' j J' O L r0 u0 F U' ∧ Keep w (S ++ J) w' (S' ++ J') := by
  obtain ⟨U', h1, h2⟩ := h.ls.app b
  refine (japp_law h.jd v b (hb.upd0 h.jd.disk.upd) (hb.out h.jd.disk.base) hu8 h.ls.up h.ls.room).mono fun _ _ ⟨he, S', J', hj, hk⟩ => ⟨_, S', J', _, U', he, ⟨?_, h1, h.byt.app _ hu8⟩, hk⟩
  rw [h2] at hj; exact hj

theorem linv_force (h : LInv w0 w p S d j J O L r0 u0 F U) :
    Calls Try.prog 14 #[.pointer (some ⟨j, 0, none⟩)] w fun e w' => ∃ (S' : List Nat) (d' : DK), e = .returned (.int .i64 0) ∧ LInv w0 w' p S' d' j J O L r0 u0 (F ++ U) [] ∧ Keep w (S ++ J) w' (S' ++ J) :=
  (jforce_law h.jd).mono fun _ _ ⟨he, S', hj, hk⟩ => ⟨S', _, by rw [he]; unfold DK.fcode; rw [h.ls.up]; rfl, ⟨by rw [LS.force]; exact hj, h.ls.flush h.jd.disk.disk.wf, h.byt.flush⟩, hk⟩

theorem linv_records (h : LInv w0 w p S d j J O L r0 u0 F U) :
    Calls Try.prog 15 #[.pointer (some ⟨j, 0, none⟩)] w fun e w' => ∃ (a : Option Addr) (cap : Nat) (T : List Nat), e = .returned (.slice a (r0 ++ F ++ U).length cap) ∧ (r0 ++ F ++ U).length ≤ cap ∧ (r0 ++ F ++ U).length ≤ 4096 ∧ ListsAt w' T (.slice a (r0 ++ F ++ U).length cap) (r0 ++ F ++ U) ∧ (∀ g ∈ T, w.heap.size ≤ g ∧ g < w'.heap.size) ∧ LInv w0 w' p S d j J O L r0 u0 F U ∧ Upd [] w w' := by
  have hlen : (r0 ++ F ++ U).length ≤ 4096 := by
    obtain ⟨rv, rvs, T, rfl, h1, h2, h3, h4, h5, h6, h7⟩ := h.jd.jrn
    have e1 : (kOf 3 50 L r0 u0 F U).recs.length ≤ (kOf 3 50 L r0 u0 F U).used := h4.recs
    have e2 : (kOf 3 50 L r0 u0 F U).used ≤ 50 := h4.used
    have e3 : (kOf 3 50 L r0 u0 F U).recs = r0 ++ F ++ U := rfl
    rw [e3] at e1
    omega
  exact (jrecords_cap j J p _ w h.jd.jrn).mono fun _ _ ⟨v, T, he, hl, hT, hu, a, cap, hv, hc⟩ => ⟨a, cap, T, by rw [he, hv]; rfl, hc, hlen, by rw [hv] at hl; exact hl, hT, h.quiet hu, hu⟩

theorem linv_life (h : LInv w0 w p S d j J O L r0 u0 F U) :
    Calls Try.prog 16 #[.pointer (some ⟨j, 0, none⟩)] w fun e w' => e = .returned (.int .i64 L) ∧ w = w' := jlife_any j J p _ w h.jd.jrn

theorem lcrash_law {k : JK} (h : JD w0 w p S d j J k) (v : Value) (fs : List Int) (hv : IntsAt w0 v fs) :
    Calls Try.prog 17 #[.pointer (some ⟨p, 0, none⟩), v] w fun e w' => e = .returned (.tuple #[]) ∧ ∃ S', JD w0 w' p S' (d.crash fs) j J k ∧ Upd S w w' ∧ ∀ x ∈ S', x ∈ S :=
  (crash_any p S d v fs w h.disk.disk (hv.upd0 h.disk.upd) (hv.out h.disk.base)).mono fun _ _ ⟨he, S', hd, hu, hs⟩ => ⟨he, S', h.step hd hu (fun x hx => .inl (hs x hx)), hu, hs⟩

theorem lstart_law {k : JK} (h : JD w0 w p S d j J k) :
    Calls Try.prog 18 #[.pointer (some ⟨p, 0, none⟩)] w fun e w' => e = .returned (.tuple #[]) ∧ JD w0 w' p S d.start j J k ∧ Upd S w w' :=
  (start_any p S d w h.disk.disk).mono fun _ _ ⟨he, hd, hu⟩ => ⟨he, h.step hd hu (Sub.refl _ _), hu⟩

theorem linv_open {S' : List Nat} {k : JK} {j' : Nat} {J' : List Nat} (hls : LS d 3 50 O L r0 u0 F U) (hw : d.WF) (hby : d.Byt) (hL : L + 1 < 256) (fs : List Int) (h : JD w0 w p S' ((d.crash fs).start) j' J' k) :
    Calls Try.prog 12 #[.pointer (some ⟨p, 0, none⟩), .int .i64 3, .int .i64 50] w fun e w' => ∃ (j2 : Nat) (J2 : List Nat) (O2 : List Blok) (L2 : Int) (r2 : List (List Int)) (u2 : Nat), e = .returned (.tuple #[.pointer (some ⟨j2, 0, none⟩), .int .i64 0]) ∧
      LInv w0 w' p S' ((d.crash fs).start) j2 J2 O2 L2 r2 u2 [] [] ∧ Upd [] w w' ∧ L ≤ L2 ∧ L2 ≤ L + 1 ∧ (r0 ++ F).length ≤ r2.length ∧ r2.length ≤ (r0 ++ F ++ U).length ∧ r2 = (r0 ++ F ++ U).take r2.length := by
  obtain ⟨m, L2, u2, O2, hm, hlo, hhi, hop, hls2⟩ := hls.crash hw hby hL fs
  have hroom := hls2.room
  refine (jopen_law h.disk 3 50 (by omega) (by omega) (by omega) rfl (hby.crash fs).start).mono fun _ _ ⟨j2, J2, he, hj, hu, _⟩ => ⟨j2, J2, O2, L2, _, u2, he, ⟨?_, hls2, (hby.crash fs).start⟩, hu, hlo, hhi, by simp, ?_, ?_⟩
  · rw [kOf_nil, ← hop]; exact hj
  · simp only [List.length_append, List.length_take]; omega
  · have e : (r0 ++ F ++ U.take m).length = (r0 ++ F).length + m := by rw [List.length_append, List.length_take]; omega
    rw [e, List.take_length_add_append]
end

end Go.Proofs.Ytfjmkdjbeoafjaa
