/- The walk of Write. -/
import Derived.Test.YtpeboaoephkfhaaDiskA
import Derived.Deep.RegionHeld3
import Derived.Deep.RegionLaw
import Derived.Deep.AppendLies
namespace Go.Proofs.Ytpeboaoephkfhaa
open Go.ChangeShapes Go.WideShapes Go.ChangeAt Go.RowKit

theorem write_no (b : Nat) (S : List Nat) (d : DK) (n : Int) (x : Array Value) (w : World) (h : DiskAt w b S d) (hc : d.code n ≠ 0) :
    Calls Try.prog 13 #[.pointer (some ⟨b, 0, none⟩), .int .i64 n, .agg x] w fun e w' => e = .returned (.int .i64 (d.code n)) ∧ Upd [] w w' := by
  have H := Lib.hid (h.upd0 ((Upd.refl [] w).alloc (.cells x 32)))
  obtain ⟨c, hcc⟩ : ∃ c, c = d.code n := ⟨_, rfl⟩
  have C := is_any b S d n _ H.out
  rw [← hcc] at C hc ⊢
  have HC := Lib.hid C
  have g : (c != 0) = true := by simp [hc]
  clear C h hcc hc
  go_enter Try.func13, Try.ntmps13
  go_wp2_with (go_at_call 25; refine HC.out.mono ?_; rintro e w1 ⟨rfl, rfl⟩)
  go_ret
  exact ⟨rfl, (Upd.refl _ _).alloc _⟩

/-- The disk behind a block that was written again. -/
theorem put_old {b lb mb : Nat} {ov : Value} {d : DK} {n : Int} {x : Blok} {w : World} (hn : (b :: lb :: mb :: ov.ownBlock.toList).Nodup) (hw : d.WF) (hc : d.code n = 0) (hi : (mget d.fresh n).isSome = true) (hx : x.length = 64)
    (h1 : Blk w b #[.slice (some ⟨lb, 0, none⟩) (d.last.length * 64) (d.last.length * 64), .map (some mb), ov, .bool d.down] 58) (h2 : Blk w lb (U8 d.last.flatten) 5) (h3 : MapAt w mb (freshV (mset d.fresh n x)))
    (h4 : w.ownsRow 0 3 1 ov d.fresh.length ((d.fresh.map (·.1)).map (Value.int .i64))) : DiskAt w b (b :: lb :: mb :: ov.ownBlock.toList) (d.put n x) := by
  obtain ⟨_, c0, c1⟩ := DK.code_zero hc
  have hk : (mset d.fresh n x).map (·.1) = d.fresh.map (·.1) := by rw [mset_keys, if_pos (mget_isSome.1 hi)]
  have hl : (mset d.fresh n x).length = d.fresh.length := by have := congrArg List.length hk; simpa using this
  refine ⟨lb, mb, ov, rfl, hn, hw.put c0 c1 hx, h1, h2, h3, ?_⟩
  show w.ownsRow 0 3 1 ov (mset d.fresh n x).length (((mset d.fresh n x).map (·.1)).map (Value.int .i64))
  rw [hk, hl]; exact h4

/-- The disk behind a block that is written anew. -/
theorem put_new {b lb mb g : Nat} {ov : Value} {d : DK} {n : Int} {x : Blok} {w : World} (hn : (b :: lb :: mb :: ov.ownBlock.toList).Nodup) (hg : ov.ownBlock = some g) (hw : d.WF) (hc : d.code n = 0) (hi : (mget d.fresh n).isSome = false) (hx : x.length = 64)
    (h1 : Blk w b #[.slice (some ⟨lb, 0, none⟩) (d.last.length * 64) (d.last.length * 64), .map (some mb), ov, .bool d.down] 58) (h2 : Blk w lb (U8 d.last.flatten) 5) (h3 : MapAt w mb (freshV (mset d.fresh n x)))
    (h4 : w.ownsRow 0 3 1 ov (d.fresh.length + 1) ((d.fresh.map (·.1)).map (Value.int .i64) ++ [.int .i64 n])) : DiskAt w b (b :: lb :: mb :: [g]) (d.put n x) := by
  obtain ⟨_, c0, c1⟩ := DK.code_zero hc
  have hni : n ∉ d.fresh.map (·.1) := fun h => by rw [mget_isSome.2 h] at hi; cases hi
  have hk : (mset d.fresh n x).map (·.1) = d.fresh.map (·.1) ++ [n] := by rw [mset_keys, if_neg hni]
  have hl : (mset d.fresh n x).length = d.fresh.length + 1 := by have := congrArg List.length hk; simpa using this
  refine ⟨lb, mb, ov, by rw [hg]; rfl, by rw [hg] at hn; exact hn, hw.put c0 c1 hx, h1, h2, h3, ?_⟩
  show w.ownsRow 0 3 1 ov (mset d.fresh n x).length (((mset d.fresh n x).map (·.1)).map (Value.int .i64))
  rw [hk, hl, List.map_append]; exact h4

set_option maxRecDepth 100000 in
set_option maxHeartbeats 1000000 in
theorem write_yes (b : Nat) (S : List Nat) (d : DK) (n : Int) (x : Blok) (w : World) (h : DiskAt w b S d) (hc : d.code n = 0) (hx : x.length = 64) :
    Calls Try.prog 13 #[.pointer (some ⟨b, 0, none⟩), .int .i64 n, .agg (U8 x)] w fun e w' => e = .returned (.int .i64 0) ∧
      ∃ S', DiskAt w' b S' (d.put n x) ∧ Upd S w w' ∧ ∀ k ∈ S', k ∈ S ∨ w.heap.size ≤ k := by
  have hu0 := (Upd.refl [] w).alloc (.cells (U8 x) 32)
  have H := h.upd0 hu0
  have hB : Blk (w.alloc (.cells (U8 x) 32)) w.heap.size (U8 x) 32 := Blk.new _ _ _
  have C := is_any b S d n _ H
  rw [hc] at C
  obtain ⟨w1, hw1⟩ : ∃ w1, w1 = w.alloc (.cells (U8 x) 32) := ⟨_, rfl⟩
  rw [← hw1] at hu0 H hB C
  have HC := Lib.hid C
  obtain ⟨lb, mb, ov, rfl, hn, hw, h1, h2, h3, h4⟩ := H
  have c1 := h1.cell (o := 1) rfl
  have HM := Lib.hid h3
  have Hw1 := Lib.hid hw1
  clear C hw1 h3
  have hz := zero_arr
  go_enter Try.func13, Try.ntmps13
  go_wp2_with fail
  rw [← Hw1.out]
  refine HC.out.mono ?_
  rintro e w1' ⟨rfl, rfl⟩
  have hne : b ≠ mb ∧ lb ≠ mb ∧ (∀ g, ov.ownBlock = some g → g ≠ mb) ∧ lb ≠ b ∧ (∀ g, ov.ownBlock = some g → g ≠ b ∧ g ≠ lb) := by
    simp only [List.nodup_cons, List.mem_cons, not_or, Option.mem_toList] at hn
    exact ⟨hn.1.2.1, hn.2.1.1, fun g hg e => hn.2.2.1 (e ▸ hg), fun e => hn.1.1 e.symm, fun g hg => ⟨fun e => hn.1.2.2 (e ▸ hg), fun e => hn.2.1.2 (e ▸ hg)⟩⟩
  have H1 := Lib.hid h1
  have H2 := Lib.hid h2
  have H4 := Lib.hid h4
  have HB := Lib.hid hB
  have HU0 := Lib.hid hu0
  have Hne := Lib.hid hne
  clear h1 h2 h4 hB hu0 hne
  cases hm : mget d.fresh n with
  | some old =>
    have hol : old.length = 64 := hw.size _ (mget_mem hm)
    have Hm := Lib.hid hm
    have hg : ((mget d.fresh n).getD DK.zeros) = old := by rw [hm]; rfl
    have hi : (mget d.fresh n).isSome = true := by rw [hm]; rfl
    clear hm
    go_wp2_with (first
      | (refine wpList_run rfl (disk_lookup2 (.tmp 20) (.tmp 21) rfl rfl rfl HM.out) ?_; rw [hg, hi])
      | (refine wpList_alloc rfl 32 rfl zero_arr fun w2 hb2 hu2 hs2 => ?_)
      | (refine wpList_store rfl (.tmp 8) (.tmp 23) rfl rfl rfl hb2 DK.zeros_len hol fun w3 hb3 hu3 hs3 => ?_
         have hu := hu2.then hu3 (by simp)
         have cc := (H1.out.upd hu (by simp)).cell (o := 1) rfl))
    have Hu := Lib.hid hu
    clear hb2 hu2 hb3 hu3 hu hs2 hs3
    refine wp_region_still_tail 6 mixed (by kernel_rfl) ?_
    simp only [List.take_succ_cons, List.take_zero, List.drop_succ_cons, List.drop_zero]
    iterate 5 still_step
    refine still_run rfl (arr_load (.tmp 5) rfl rfl (HB.out.upd Hu.out (by simp)).drew hx) ?_
    refine wpStill_nil ?_
    change wpList _ _ _ _ _ w3.drew
    refine wpList_update rfl (.tmp 40) (.tmp 41) (.tmp 42) rfl rfl rfl rfl (HM.out.upd Hu.out (by simp)).drew fun w4 hm4 hu4 => ?_
    go_wp2
    go_ret
    have hu5 : Upd [mb] w1 w4 := ((Hu.out.mono (by simp)).drew).trans hu4
    obtain ⟨n1, n2, n3, -, -⟩ := Hne.out
    refine ⟨rfl, b :: lb :: mb :: ov.ownBlock.toList, put_old hn hw hc (by rw [Hm.out]; rfl) hx (H1.out.upd hu5 (by simp; exact n1)) (H2.out.upd hu5 (by simp; exact n2)) hm4 (own_upd H4.out hu5 (by simp; exact n3)), (HU0.out.mono (by simp)).trans (hu5.mono (by simp)), fun k hk => .inl hk⟩
  | none =>
    have hi : (mget d.fresh n).isSome = false := by rw [hm]; rfl
    have hg : ((mget d.fresh n).getD DK.zeros) = DK.zeros := by rw [hm]; rfl
    have Hm := Lib.hid hm
    obtain ⟨i0, hi0, hz0, hz1, hz2⟩ := info_parts info_int
    obtain ⟨oa, oc, rfl⟩ := own_slice H4.out
    have hlen : d.fresh.length ≤ 4096 := by
      have h1 := hw.many
      have h2 := hw.len
      omega
    clear hm
    go_wp2_with (first
      | (refine wpList_run rfl (disk_lookup2 (.tmp 20) (.tmp 21) rfl rfl rfl HM.out) ?_; rw [hg, hi])
      | (refine wpList_alloc rfl 32 rfl zero_arr fun w2 hb2 hu2 hs2 => ?_)
      | (refine wpList_store rfl (.tmp 8) (.tmp 23) rfl rfl rfl hb2 DK.zeros_len DK.zeros_len fun w3 hb3 hu3 hs3 => ?_
         have hu := hu2.then hu3 (by simp)
         have HU3 := Lib.hid hu
         have cc := (H1.out.upd hu (by simp)).cell (o := 2) rfl
         clear hb2 hu2 hu hb3 hu3 hs2 hs3 hg hi c1)
      | (refine wpList_append_lies _ rfl (.tmp 31) (.tmp 33) 54 rfl 0 3 i0 (.int .i64 0) 1 8 Try.underlying54 hi0 hz0 hz1 hz2 rfl (by decide) _ _ _ rfl ((own_upd H4.out HU3.out (by simp)).alloc _) ⟨w3.heap.size, 0, none⟩ 1 1 [.int .i64 n] rfl rfl ?c1 ?c2 (by decide) ?c3 ?c4 (Nat.zero_le _) _ rfl ?_))
    case c1 =>
      intro j u hj
      match j, hj with
      | 0, hj => simp at hj; subst hj; simp [Addr.add]
    case c2 => intro u hu; simp at hu; subst hu; rfl
    case c3 => unfold maxLen; omega
    case c4 => omega
    intro g cap w4 ho4 hg4 hl4 hs4
    obtain ⟨n1, n2, n3, n4, n5⟩ := Hne.out
    have hgS : (Value.slice oa d.fresh.length oc).ownBlock = some g ∨ w1.heap.size ≤ g := by
      rcases hl4 with h | h
      · exact .inl h
      · right; rw [h]; have := HU3.out.size; simp; omega
    have hlt : b < w1.heap.size ∧ lb < w1.heap.size ∧ mb < w1.heap.size := ⟨H1.out.lt, H2.out.lt, HM.out.lt⟩
    have hg1 : g ≠ b ∧ g ≠ lb ∧ g ≠ mb := by
      rcases hgS with h | h
      · exact ⟨(n5 g h).1, (n5 g h).2, n3 g h⟩
      · omega
    have hu4 : Upd (Value.slice oa d.fresh.length oc).ownBlock.toList w1 w4 := ((HU3.out.mono (by simp)).alloc _).grown hg4 (fun k hk => .inl (by simp [hk]))
    have k1 := H1.out.upd hu4 (by simp only [Option.mem_toList]; intro h; exact (n5 b h).1 rfl)
    have c2 := k1.cell (o := 2) rfl
    have f2 := k1.free 2
    have HU4 := Lib.hid hu4
    have HO4 := Lib.hid ho4
    have HG := Lib.hid hg1
    have HGS := Lib.hid hgS
    clear hg4 hl4 ho4 hu4 k1 hg1 hgS n1 n2 n3 n4 n5 hlt
    go_wp2
    have hu5 : Upd (b :: (Value.slice oa d.fresh.length oc).ownBlock.toList) w1 (w4.setCell ⟨b, 2, none⟩ (.slice (some ⟨g, 0, none⟩) (d.fresh.length + 1) cap)) := (HU4.out.mono (by simp; exact fun x hx => .inl (.inr hx))).setCell (.inl (by simp)) _
    have hB : b < w1.heap.size ∧ lb < w1.heap.size ∧ mb < w1.heap.size ∧ w.heap.size < w1.heap.size := ⟨H1.out.lt, H2.out.lt, HM.out.lt, HB.out.lt⟩
    obtain ⟨n1, n2, n3, n4, n5⟩ := Hne.out
    have hS : ∀ k ∈ b :: (Value.slice oa d.fresh.length oc).ownBlock.toList, k ≠ lb ∧ k ≠ mb ∧ k ≠ w.heap.size := by
      have hlt := (HU0.out.size)
      have hS0 := h.lt
      intro k hk
      simp only [List.mem_cons, Option.mem_toList] at hk
      rcases hk with rfl | hk
      · exact ⟨fun e => n4 e.symm, n1, fun e => by have := hS0 k (by simp); omega⟩
      · exact ⟨(n5 k hk).2, n3 k hk, fun e => by have := hS0 k (by simp [hk]); omega⟩
    have k1 := (H1.out.upd HU4.out (by simp only [Option.mem_toList]; intro h; exact (n5 b h).1 rfl)).set 2 (.slice (some ⟨g, 0, none⟩) (d.fresh.length + 1) cap)
    have k2 := H2.out.upd hu5 (fun hk => (hS _ hk).1 rfl)
    have k3 := HM.out.upd hu5 (fun hk => (hS _ hk).2.1 rfl)
    have kB := HB.out.upd hu5 (fun hk => (hS _ hk).2.2 rfl)
    have k4 := ownsRow_setCell_other (a := ⟨b, 2, none⟩) HO4.out (fun e => by simp [Value.ownBlock] at e; exact HG.out.1 e) (.slice (some ⟨g, 0, none⟩) (d.fresh.length + 1) cap)
    obtain ⟨w5, hw5⟩ : ∃ w5, w5 = w4.setCell ⟨b, 2, none⟩ (.slice (some ⟨g, 0, none⟩) (d.fresh.length + 1) cap) := ⟨_, rfl⟩
    rw [← hw5] at hu5 k1 k2 k3 kB k4 ⊢
    have cm := k1.cell (o := 1) rfl
    have K1 := Lib.hid k1
    have K2 := Lib.hid k2
    have K3 := Lib.hid k3
    have K4 := Lib.hid k4
    have KB := Lib.hid kB
    have HU5 := Lib.hid hu5
    have HS := Lib.hid hS
    clear hw5 k1 k2 k3 k4 kB hu5 c2 f2 cc hB n1 n2 n3 n4 n5 hS
    refine wp_region_still_tail 6 mixed (by kernel_rfl) ?_
    simp only [List.take_succ_cons, List.take_zero, List.drop_succ_cons, List.drop_zero]
    iterate 5 still_step
    refine still_run rfl (arr_load (.tmp 5) rfl rfl KB.out.drew hx) ?_
    refine wpStill_nil ?_
    change wpList _ _ _ _ _ w5.drew
    refine wpList_update rfl (.tmp 40) (.tmp 41) (.tmp 42) rfl rfl rfl rfl K3.out.drew fun w6 hm6 hu6 => ?_
    go_wp2
    go_ret
    obtain ⟨n1, n2, n3, n4, n5⟩ := Hne.out
    obtain ⟨g1, g2, g3⟩ := HG.out
    have hu7 : Upd [mb] w5 w6 := ((Upd.refl _ _).drew).trans hu6
    refine ⟨rfl, b :: lb :: mb :: [g], put_new (ov := .slice (some ⟨g, 0, none⟩) (d.fresh.length + 1) cap) ?_ rfl hw hc (by rw [Hm.out]; rfl) hx (K1.out.upd hu7 (by simp; exact n1)) (K2.out.upd hu7 (by simp; exact n2)) hm6
      (own_upd (by rw [List.map_map]; exact K4.out) hu7 (by simp [Value.ownBlock]; exact g3)), ?_, ?_⟩
    · show (b :: lb :: mb :: [g]).Nodup
      simp; exact ⟨⟨fun e => n4 e.symm, n1, fun e => g1 e.symm⟩, ⟨n2, fun e => g2 e.symm⟩, fun e => g3 e.symm⟩
    · refine (HU0.out.mono (by simp)).trans ((HU5.out.mono ?_).trans (hu7.mono (by simp)))
      intro k hk
      simp only [List.mem_cons, Option.mem_toList] at hk ⊢
      rcases hk with rfl | hk
      · exact .inl (.inl rfl)
      · exact .inl (.inr (.inr (.inr hk)))
    · intro k hk
      simp only [List.mem_cons, List.not_mem_nil, or_false] at hk
      rcases hk with rfl | rfl | rfl | rfl
      · exact .inl (by simp)
      · exact .inl (by simp)
      · exact .inl (by simp)
      · rcases HGS.out with h1 | h1
        · exact .inl (by simp [h1])
        · have := HU0.out.size; exact .inr (by omega)

end Go.Proofs.Ytpeboaoephkfhaa
