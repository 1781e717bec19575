/- The walks of bytes.Clone and slices.Clone at []byte. -/
import Derived.Test.YtfjmkdjbeoafjaaBytes
import Derived.Test.YtfjmkdjbeoafjaaHeld
namespace Go.Proofs.Ytfjmkdjbeoafjaa
open Go.ChangeShapes Go.WideShapes Go.ChangeAt Go.RowKit

theorem info_u8' : (Try.prog.info? 5).map (fun i => (i.zero, i.size, i.bytes)) = some (some (.int .u8 0), 1, 1) := by kernel_rfl

theorem bclone_any (v : Value) (l : List Int) (w : World) (hv : BytesAt w v l) (hl : l.length ≤ 17592186044416) :
    Calls Try.prog 35 #[v] w fun e w' => ∃ v', e = .returned v' ∧ BytesAt w' v' l ∧ (∀ g, v'.ownBlock = some g → w.heap.size ≤ g ∧ g < w'.heap.size) ∧ Upd [] w w' := by
  obtain ⟨a, cap, rfl, hlc, hm, hc⟩ := hv
  obtain ⟨i0, hi, hz0, hz1, hz2⟩ := info_parts info_u8'
  have hnil : ∀ (w : World) (a : Option Addr) (n c n' c' : Nat), (binOp .eql 31 (.slice a n c) (.slice none n' c')).run Try.prog w = .ok (.bool a.isNone) w := fun w a n c n' c' => Lib.run_eql_slice_nil w _ _ a n c n' c' Try.underlying31
  cases a with
  | none =>
    have hl0 : l = [] := Classical.byContradiction fun hne => by obtain ⟨_, _, h, _⟩ := hc hne; cases h
    subst hl0
    go_enter Try.func35, Try.ntmps35
    go_wp2
    go_ret
    exact ⟨.slice none 0 0, rfl, ⟨none, 0, rfl, by simp, by unfold maxLen; omega, fun h => absurd rfl h⟩, by simp [Value.ownBlock], Upd.refl _ _⟩
  | some ad =>
    have hcs : ∀ j u, (l.map (Value.int .u8))[j]? = some u → w.cell? (ad.add j) = some u := by
      intro j u hj
      have hjl : j < l.length := by have := (List.getElem?_eq_some_iff.1 hj).1; simpa using this
      obtain ⟨g, off, e, -, h⟩ := hc (fun e => by rw [e] at hjl; simp at hjl)
      cases e
      have hadd : (⟨g, off, none⟩ : Addr).add j = ⟨g, off + j, none⟩ := by unfold Addr.add; split <;> simp_all
      rw [hadd, h j hjl, ← hj]
      simp [List.getElem?_map, List.getD_eq_getElem?_getD, List.getElem?_eq_getElem hjl]
    have hblk : l ≠ [] → ad.block < w.heap.size := fun hne => by obtain ⟨g, off, e, h, -⟩ := hc hne; cases e; exact h
    have hown : (w.alloc (.cells #[] 5)).ownsRow w.heap.size 5 1 (.slice (some ⟨w.heap.size, 0, none⟩) 0 0) 0 [] := World.ownsRow_made w #[] 0 (Nat.le_refl _) (by unfold maxLen; omega) rfl
    have hcs' : ∀ j u, (l.map (Value.int .u8))[j]? = some u → (w.alloc (.cells #[] 5)).cell? (ad.add j) = some u := by
      intro j u hj
      have hjl : l ≠ [] := by intro e; rw [e] at hj; simp at hj
      have hb := hblk hjl
      have e1 : (ad.add j).block = ad.block := by unfold Addr.add; split <;> rfl
      rw [World.cell?_alloc_old _ _ _ (by rw [e1]; omega)]
      exact hcs j u hj
    have HO := Lib.hid hown
    have HC := Lib.hid hcs'
    clear hcs hcs' hown hblk hc
    go_enter Try.func35, Try.ntmps35
    go_wp2_with (at_builtin; refine wpList_append_own _ rfl (.tmp 5) (.tmp 6) 31 rfl w.heap.size 5 i0 (.int .u8 0) 1 1 Try.underlying31 hi hz0 hz1 hz2 rfl (by decide) _ _ _ rfl HO.out ad l.length cap (l.map (Value.int .u8)) rfl (by simp) HC.out ?c1 ?c2 ?c3 ?c4 ?_)
    case c1 => intro u hu; obtain ⟨x, _, rfl⟩ := List.mem_map.1 hu; rfl
    case c2 => unfold maxLen; omega
    case c3 => omega
    case c4 => simp
    intro v' w1 ho' hg _
    have hob : ∀ g, v'.ownBlock = some g → w.heap.size ≤ g ∧ g < w1.heap.size := fun g hg => ho'.lt g hg
    obtain ⟨a', cap', rfl⟩ := own_slice ho'
    have HO' := Lib.hid ho'
    have HG := Lib.hid hg
    have HB := Lib.hid hob
    clear ho' hg hob
    go_wp2
    go_ret
    exact ⟨.slice a' l.length cap', rfl, BytesAt.of_own (by simpa using HO'.out) rfl, HB.out, ((Upd.refl _ _).alloc _).grown HG.out (fun k hk => .inr (by simp [Value.ownBlock] at hk; omega))⟩

theorem clone8_any (v : Value) (l : List Int) (w : World) (hv : BytesAt w v l) (hl : l.length ≤ 17592186044416) :
    Calls Try.prog 40 #[v] w fun e w' => ∃ v', e = .returned v' ∧ BytesAt w' v' l ∧ (∀ g, v'.ownBlock = some g → w.heap.size ≤ g ∧ g < w'.heap.size) ∧ Upd [] w w' := by
  obtain ⟨a, cap, rfl, hlc, hm, hc⟩ := hv
  obtain ⟨i0, hi, hz0, hz1, hz2⟩ := info_parts info_u8'
  have hnil : ∀ (w : World) (a : Option Addr) (n c n' c' : Nat), (binOp .eql 31 (.slice a n c) (.slice none n' c')).run Try.prog w = .ok (.bool a.isNone) w := fun w a n c n' c' => Lib.run_eql_slice_nil w _ _ a n c n' c' Try.underlying31
  cases a with
  | none =>
    have hl0 : l = [] := Classical.byContradiction fun hne => by obtain ⟨_, _, h, _⟩ := hc hne; cases h
    subst hl0
    go_enter Try.func40, Try.ntmps40
    go_wp2
    go_ret
    exact ⟨.slice none 0 0, rfl, ⟨none, 0, rfl, by simp, by unfold maxLen; omega, fun h => absurd rfl h⟩, by simp [Value.ownBlock], Upd.refl _ _⟩
  | some ad =>
    have hcs : ∀ j u, (l.map (Value.int .u8))[j]? = some u → w.cell? (ad.add j) = some u := by
      intro j u hj
      have hjl : j < l.length := by have := (List.getElem?_eq_some_iff.1 hj).1; simpa using this
      obtain ⟨g, off, e, -, h⟩ := hc (fun e => by rw [e] at hjl; simp at hjl)
      cases e
      have hadd : (⟨g, off, none⟩ : Addr).add j = ⟨g, off + j, none⟩ := by unfold Addr.add; split <;> simp_all
      rw [hadd, h j hjl, ← hj]
      simp [List.getElem?_map, List.getD_eq_getElem?_getD, List.getElem?_eq_getElem hjl]
    have hblk : l ≠ [] → ad.block < w.heap.size := fun hne => by obtain ⟨g, off, e, h, -⟩ := hc hne; cases e; exact h
    have hown : (w.alloc (.cells #[] 5)).ownsRow w.heap.size 5 1 (.slice (some ⟨w.heap.size, 0, none⟩) 0 0) 0 [] := World.ownsRow_made w #[] 0 (Nat.le_refl _) (by unfold maxLen; omega) rfl
    have hcs' : ∀ j u, (l.map (Value.int .u8))[j]? = some u → (w.alloc (.cells #[] 5)).cell? (ad.add j) = some u := by
      intro j u hj
      have hjl : l ≠ [] := by intro e; rw [e] at hj; simp at hj
      have hb := hblk hjl
      have e1 : (ad.add j).block = ad.block := by unfold Addr.add; split <;> rfl
      rw [World.cell?_alloc_old _ _ _ (by rw [e1]; omega)]
      exact hcs j u hj
    have HO := Lib.hid hown
    have HC := Lib.hid hcs'
    clear hcs hcs' hown hblk hc
    go_enter Try.func40, Try.ntmps40
    go_wp2_with (at_builtin; refine wpList_append_own _ rfl (.tmp 5) (.tmp 6) 31 rfl w.heap.size 5 i0 (.int .u8 0) 1 1 Try.underlying31 hi hz0 hz1 hz2 rfl (by decide) _ _ _ rfl HO.out ad l.length cap (l.map (Value.int .u8)) rfl (by simp) HC.out ?c1 ?c2 ?c3 ?c4 ?_)
    case c1 => intro u hu; obtain ⟨x, _, rfl⟩ := List.mem_map.1 hu; rfl
    case c2 => unfold maxLen; omega
    case c3 => omega
    case c4 => simp
    intro v' w1 ho' hg _
    have hob : ∀ g, v'.ownBlock = some g → w.heap.size ≤ g ∧ g < w1.heap.size := fun g hg => ho'.lt g hg
    obtain ⟨a', cap', rfl⟩ := own_slice ho'
    have HO' := Lib.hid ho'
    have HG := Lib.hid hg
    have HB := Lib.hid hob
    clear ho' hg hob
    go_wp2
    go_ret
    exact ⟨.slice a' l.length cap', rfl, BytesAt.of_own (by simpa using HO'.out) rfl, HB.out, ((Upd.refl _ _).alloc _).grown HG.out (fun k hk => .inr (by simp [Value.ownBlock] at hk; omega))⟩

end Go.Proofs.Ytfjmkdjbeoafjaa
