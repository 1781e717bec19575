/- A disk, a journal on it, and a list of what is wanted: for the statements of the journal. -/
import Derived.Test.YtfjmkdjbeoafjaaJrnM
import Derived.Test.YtfjmkdjbeoafjaaOpenB
namespace Go.Proofs.Ytfjmkdjbeoafjaa
open Go.ChangeShapes Go.WideShapes Go.ChangeAt Go.RowKit

/-- A journal of the call's own that lies on its disk. -/
structure BInv (w0 w : World) (p : Nat) (S : List Nat) (d : DK) (j : Nat) (J : List Nat) (k : JK) (L : Int) : Prop where
  jd : JD w0 w p S d j J k
  ji : JI d k L
  byt : d.Byt

theorem BInv.quiet {w0 w w' : World} {p : Nat} {S : List Nat} {d : DK} {j : Nat} {J : List Nat} {k : JK} {L : Int} (h : BInv w0 w p S d j J k L) (hu : Upd [] w w') : BInv w0 w' p S d j J k L := ⟨h.jd.quiet hu, h.ji, h.byt⟩

theorem JD.beside {w0 w w' : World} {p : Nat} {S T : List Nat} {d : DK} {j : Nat} {J : List Nat} {k : JK} (h : JD w0 w p S d j J k) (hu : Upd T w w') (hT : ∀ x ∈ T, x ∉ S ++ J ∧ w0.heap.size ≤ x) : JD w0 w' p S d j J k :=
  ⟨⟨h.disk.disk.upd hu (fun x hx hm => (hT x hm).1 (List.mem_append_left _ hx)), h.disk.upd.then hu (fun x hx => .inr (hT x hx).2), h.disk.base⟩, h.jrn.upd hu (fun x hx hm => (hT x hm).1 (List.mem_append_right _ hx)), h.sep, h.base⟩

theorem BInv.beside {w0 w w' : World} {p : Nat} {S T : List Nat} {d : DK} {j : Nat} {J : List Nat} {k : JK} {L : Int} (h : BInv w0 w p S d j J k L) (hu : Upd T w w') (hT : ∀ x ∈ T, x ∉ S ++ J ∧ w0.heap.size ≤ x) : BInv w0 w' p S d j J k L := ⟨h.jd.beside hu hT, h.ji, h.byt⟩

theorem JD.all_lt {w0 w : World} {p : Nat} {S : List Nat} {d : DK} {j : Nat} {J : List Nat} {k : JK} (h : JD w0 w p S d j J k) : ∀ x ∈ S ++ J, x < w.heap.size := fun x hx => by
  rcases List.mem_append.1 hx with hx | hx
  · exact h.disk.disk.lt x hx
  · exact h.jrn.lt x hx

theorem bapp_law {w0 w : World} {p : Nat} {S : List Nat} {d : DK} {j : Nat} {J : List Nat} {k : JK} {L : Int} (h : BInv w0 w p S d j J k L) (v : Value) (b : List Int) (hb : BytesAt w0 v b) (hu8 : U8L b) :
    Calls Try.prog 13 #[.pointer (some ⟨j, 0, none⟩), v] w fun e w' => e = .returned (.int .i64 (k.code b)) ∧
      ∃ S' J' L', BInv w0 w' p S' (d.app k b) j J' (k.app b) L' ∧ Keep w (S ++ J) w' (S' ++ J') :=
  (japp_law h.jd v b (hb.upd0 h.jd.disk.upd) (hb.out h.jd.disk.base) hu8 h.ji.1.up h.ji.1.room).mono fun _ _ ⟨he, S', J', hj, hk⟩ => ⟨he, S', J', _, ⟨hj, h.ji.app b, h.byt.app k hu8⟩, hk⟩

theorem own_keepQ {w w' : World} {S S' : List Nat} {base : Nat} {e : TypeId} {size n : Nat} {v : Value} {xs : List Value} (h : w.ownsRow base e size v n xs) (hk : Keep w S w' S') (hS : ∀ g, v.ownBlock = some g → g ∉ S) : w'.ownsRow base e size v n xs ∧ ∀ g, v.ownBlock = some g → g ∉ S' := by
  refine ⟨⟨h.1, ?_⟩, fun g hg => (hk.2 g (h.lt g hg).2 (hS g hg)).1⟩
  rcases h.2 with h2 | ⟨g, cap, cur, rfl, hb, hh, r⟩
  · exact .inl h2
  · exact .inr ⟨g, cap, cur, rfl, hb, by rw [(hk.2 g (lt_of_block hh) (hS g rfl)).2]; exact hh, r⟩

/-- The list of what is wanted: its row is the call's own, its elements came in. -/
structure WantAt (w0 w : World) (B : List Nat) (v : Value) (us : List Value) (L : List (List Int)) : Prop where
  own : w.ownsRow w0.heap.size 31 1 v L.length us
  recs : RecsAt w0 (List.range w0.heap.size) us L
  out : ∀ g, v.ownBlock = some g → g ∉ B

theorem WantAt.keep {w0 w w' : World} {B B' : List Nat} {v : Value} {us : List Value} {L : List (List Int)} (h : WantAt w0 w B v us L) (hk : Keep w B w' B') : WantAt w0 w' B' v us L :=
  ⟨(own_keepQ h.own hk h.out).1, h.recs, (own_keepQ h.own hk h.out).2⟩

theorem WantAt.lists {w0 w : World} {B : List Nat} {v : Value} {us : List Value} {L : List (List Int)} (h : WantAt w0 w B v us L) (hu : Upd [] w0 w) : ListsAt w (v.ownBlock.toList ++ List.range w0.heap.size) v L :=
  ListsAt.of_own h.own rfl (h.recs.upd hu (by simp))

theorem WantAt.push {w0 w w' : World} {B : List Nat} {v v' u : Value} {us : List Value} {L : List (List Int)} {b : List Int} {g : Nat} (h : WantAt w0 w B v us L) (hb : BytesAt w0 u b) (hu : ∀ k, u.ownBlock = some k → k ∈ List.range w0.heap.size)
    (ho : w'.ownsRow w0.heap.size 31 1 v' (L.length + 1) (us ++ [u])) (hv : v'.ownBlock = some g) (hB : ∀ x ∈ B, x < w.heap.size) (hg : v.ownBlock = some g ∨ w.heap.size < g) : WantAt w0 w' B v' (us ++ [u]) (L ++ [b]) :=
  ⟨by rw [List.length_append, List.length_singleton]; exact ho, h.recs.snoc hb hu, fun x hx hm => by
    rw [hv] at hx; cases hx
    rcases hg with hg | hg
    · exact h.out _ hg hm
    · have := hB _ hm; omega⟩

theorem app_last (d : DK) (k : JK) (b : List Int) : (d.app k b).last = d.last := by
  unfold DK.app; split
  · exact DK.layRec_last _ _ _ _ _
  · rfl

theorem code_small {k : JK} {b : List Int} (h0 : 0 < b.length) (h1 : b.length ≤ 300) (hr : k.used + 7 ≤ k.blocks) : k.code b = 0 := by
  have hn : needJ b ≤ 7 := by unfold needJ; omega
  unfold JK.code
  rw [if_neg (by omega), if_neg (by omega)]

theorem app_ok {k : JK} {b : List Int} (h : k.code b = 0) : k.app b = k.push b := by unfold JK.app; rw [if_pos h]
theorem app_no {k : JK} {b : List Int} (h : k.code b ≠ 0) : k.app b = k := by unfold JK.app; rw [if_neg h]

theorem bopen_law {w0 w : World} {p : Nat} {S : List Nat} {d : DK} {n used : Nat} {L : Int} {recs : List (List Int)} (h : DInv w0 w p S d) (hfr : Fr d 0 n L used recs) (hL : L + 1 ≤ 1099511627776) (hby : d.Byt) {n' : Int} (hn : n' = (n : Int)) :
    Calls Try.prog 12 #[.pointer (some ⟨p, 0, none⟩), .int .i64 0, .int .i64 n'] w fun e w' => ∃ j J, e = .returned (.tuple #[.pointer (some ⟨j, 0, none⟩), .int .i64 0]) ∧ BInv w0 w' p S d j J ⟨0, n, L + 1, used, recs⟩ L ∧ Upd [] w w' ∧ ∀ x ∈ J, w.heap.size ≤ x := by
  subst hn
  have hop := hfr.open_
  have hr := hfr.room
  have hp := hfr.pos
  refine (jopen_law h 0 (n : Int) (by omega) (by omega) (by omega) hfr.up hby).mono fun _ _ ⟨j, J, he, hj, hu, hJ⟩ => ⟨j, J, he, ⟨?_, ⟨hfr, ?_, ?_, hL⟩, hby⟩, hu, hJ⟩
  · rw [show (0 : Int).toNat = 0 from rfl, Int.toNat_natCast, hop] at hj; exact hj
  · show L ≤ L + 1; omega
  · show 1 ≤ L + 1; omega

theorem WantAt.nil {w0 w : World} {B : List Nat} : WantAt w0 w B (.slice none 0 0) [] [] := ⟨World.ownsRow_nil _ _ _ _, RecsAt.nil _ _, by simp [Value.ownBlock]⟩

/-- The i-th of a list of lists of bytes that came in. -/
theorem lists_elem {w0 : World} {L : List (List Int)} {T : List Nat} {a : Option Addr} (h : L ≠ [] → ∃ g off, a = some ⟨g, off, none⟩ ∧ g < w0.heap.size ∧ g ∈ T ∧ ∀ i, i < L.length → ∃ u, w0.cell? ⟨g, off + i, none⟩ = some u ∧ BytesAt w0 u (L.getD i []) ∧ (L.getD i [] ≠ [] → ∀ k, u.ownBlock = some k → k ∈ T)) {i : Nat} (hi : i < L.length) :
    ∃ g off ba bc, a = some ⟨g, off, none⟩ ∧ w0.cell? ⟨g, off + i, none⟩ = some (.slice ba (L.getD i []).length bc) ∧ BytesAt w0 (.slice ba (L.getD i []).length bc) (L.getD i []) ∧ (L.getD i [] ≠ [] → ∀ k, (Value.slice ba (L.getD i []).length bc).ownBlock = some k → k ∈ T) := by
  obtain ⟨g, off, rfl, -, -, h⟩ := h (by intro e; rw [e] at hi; simp at hi)
  obtain ⟨u, h1, h2, h3⟩ := h i hi
  obtain ⟨ba, bc, rfl⟩ := h2.form
  exact ⟨g, off, ba, bc, rfl, h1, h2, h3⟩

end Go.Proofs.Ytfjmkdjbeoafjaa
