/- The walk of slices.Clone at []int. -/
import Derived.Test.YtfjmkdjbeoafjaaSame
import Derived.Test.YtfjmkdjbeoafjaaOps
import Derived.WalkSpells
namespace Go.Proofs.Ytfjmkdjbeoafjaa
open Go.ChangeShapes Go.WideShapes Go.ChangeAt Go.RowKit

theorem info_int' : (Try.prog.info? 3).map (fun i => (i.zero, i.size, i.bytes)) = some (some (.int .i64 0), 1, 8) := by kernel_rfl

theorem clone_any (v : Value) (l : List Int) (w : World) (hv : IntsAt w v l) (hl : l.length ≤ 17592186044416) :
    Calls Try.prog 49 #[v] w fun e w' => ∃ a' cap', e = .returned (.slice a' l.length cap') ∧ IntsAt w' (.slice a' l.length cap') l ∧ Upd [] w w' := by
  obtain ⟨a, cap, rfl, hm, hc⟩ := hv
  obtain ⟨i0, hi, hz0, hz1, hz2⟩ := info_parts info_int'
  have hnil : ∀ (w : World) (a : Option Addr) (n c n' c' : Nat), (binOp .eql 32 (.slice a n c) (.slice none n' c')).run Try.prog w = .ok (.bool a.isNone) w := fun w a n c n' c' => Lib.run_eql_slice_nil w _ _ a n c n' c' Try.underlying32
  cases a with
  | none =>
    have hl0 : l = [] := Classical.byContradiction fun hne => by obtain ⟨_, _, h, _⟩ := hc hne; cases h
    subst hl0
    go_enter Try.func49, Try.ntmps49
    go_wp2
    go_ret
    exact ⟨none, 0, rfl, ⟨none, 0, rfl, by simp, fun h => absurd rfl h⟩, Upd.refl _ _⟩
  | some ad =>
    have hcs : ∀ j u, (l.map (Value.int .i64))[j]? = some u → w.cell? (ad.add j) = some u := by
      intro j u hj
      have hjl : j < l.length := by have := (List.getElem?_eq_some_iff.1 hj).1; simpa using this
      obtain ⟨g, off, e, -, h⟩ := hc (fun e => by rw [e] at hjl; simp at hjl)
      cases e
      have hadd : (⟨g, off, none⟩ : Addr).add j = ⟨g, off + j, none⟩ := by unfold Addr.add; split <;> simp_all
      rw [hadd, h j hjl, ← hj]
      simp [List.getElem?_map, List.getD_eq_getElem?_getD, List.getElem?_eq_getElem hjl]
    have hblk : l ≠ [] → ad.block < w.heap.size := fun hne => by obtain ⟨g, off, e, h, -⟩ := hc hne; cases e; exact h
    have hown : (w.alloc (.cells #[] 3)).ownsRow w.heap.size 3 1 (.slice (some ⟨w.heap.size, 0, none⟩) 0 0) 0 [] := World.ownsRow_made w #[] 0 (Nat.le_refl _) (by unfold maxLen; omega) rfl
    have hcs' : ∀ j u, (l.map (Value.int .i64))[j]? = some u → (w.alloc (.cells #[] 3)).cell? (ad.add j) = some u := by
      intro j u hj
      have hjl : l ≠ [] := by intro e; rw [e] at hj; simp at hj
      have hb := hblk hjl
      have e1 : (ad.add j).block = ad.block := by unfold Addr.add; split <;> rfl
      rw [World.cell?_alloc_old _ _ _ (by rw [e1]; omega)]
      exact hcs j u hj
    have HO := Lib.hid hown
    have HC := Lib.hid hcs'
    clear hcs hcs' hown hblk hc
    go_enter Try.func49, Try.ntmps49
    go_wp2_with (at_builtin; refine wpList_append_own _ rfl (.tmp 5) (.tmp 6) 32 rfl w.heap.size 3 i0 (.int .i64 0) 1 8 Try.underlying32 hi hz0 hz1 hz2 rfl (by decide) _ _ _ rfl HO.out ad l.length cap (l.map (Value.int .i64)) rfl (by simp) HC.out ?c1 ?c2 ?c3 ?c4 ?_)
    case c1 => intro u hu; obtain ⟨x, _, rfl⟩ := List.mem_map.1 hu; rfl
    case c2 => unfold maxLen; omega
    case c3 => omega
    case c4 => simp
    intro v' w1 ho' hg _
    obtain ⟨a', cap', rfl⟩ := own_slice ho'
    have HO' := Lib.hid ho'
    have HG := Lib.hid hg
    clear ho' hg
    go_wp2
    go_ret
    exact ⟨a', cap', rfl, IntsAt.of_own (by simpa using HO'.out) rfl, ((Upd.refl _ _).alloc _).grown HG.out (fun k hk => .inr (by simp [Value.ownBlock] at hk; omega))⟩

end Go.Proofs.Ytfjmkdjbeoafjaa
