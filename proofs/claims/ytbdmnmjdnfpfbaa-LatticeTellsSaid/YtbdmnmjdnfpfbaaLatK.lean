/- The walk of slices.Insert at facts, where there is no room; the roads joined. -/
import Derived.Test.YtbdmnmjdnfpfbaaLatJ
namespace Go.Proofs.Ytbdmnmjdnfpfbaa
open Go.ChangeShapes Go.WideShapes Go.ChangeAt Go.RowKit

theorem zeroCells_size (z : Array Value) (n : Nat) : (Builtin.zeroCells z n).size = n * z.size := by simp [Builtin.zeroCells]

theorem grow_run (w : World) (ty : TypeId) (g cap i n : Nat) (cur : Array Value) (olds : List Value) (hg : Blk w g cur 31) (ho : olds = cur.toList.take (i * 38)) (hs : cur.size = cap * 38) (hi : i < n) (hn : n ≤ 1000) (hnc : n ≤ cap) (hc : cap < n + 1) {k' : Int} (hk : k' = ((n + 1 - i : Nat) : Int)) :
    ∃ gc c0 rest, (Builtin.append_ #[23, 3] ty #[.slice (some ⟨g, 0, none⟩) i cap, .int .i64 k']).run Try.prog w = .ok (.slice (some ⟨w.heap.size, 0, none⟩) (n + 1) gc) (w.drew.alloc (.cells (c0 : List Value).toArray 31)) ∧ n + 1 ≤ gc ∧ gc ≤ maxLen ∧ c0 = olds ++ rest ∧ c0.length = gc * 38 := by
  subst hk
  obtain ⟨i0, hi0, hz0, hz1, hz2⟩ := info_parts info_factB
  have hol : olds.length = i * 38 := by rw [ho, List.length_take, Array.length_toList, hs]; omega
  have hold : (Builtin.firstCells i0.size i (.slice (some ⟨g, 0, none⟩) i cap)).run Try.prog w.drew = .ok olds.toArray w.drew := by
    have := run_loadCells_list (P := Try.prog) w.drew ⟨g, 0, none⟩ olds (fun j v hj => by
      have hadd : (⟨g, 0, none⟩ : Addr).add j = ⟨g, j, none⟩ := by unfold Addr.add; split <;> simp_all
      rw [hadd]
      rw [ho, List.getElem?_take] at hj
      split at hj
      · rw [Array.getElem?_toList] at hj; exact hg.drew.cell hj
      · cases hj)
    rw [hol] at this
    simp only [Builtin.firstCells, hz1]; exact this
  have e1 : i + (n + 1 - i) = n + 1 := by omega
  have hr := Lib.run_append_grow_zeros (P := Try.prog) w 23 3 ty 31 i0 (.agg (encF FK.zero (.slice none 0 0)).toArray) .i64 .i64 Try.underlying23 Try.underlying3 hi0 hz0 (some ⟨g, 0, none⟩) i cap olds hold (n + 1 - i) (by omega) (by rw [hz1]; decide) (by omega) (by omega) (by rw [hz2]; omega) (by rw [hz2, e1]; exact growslice_fits (by omega) (by omega))
  rw [e1] at hr
  have hge := grownCap_ge w (n + 1) cap 31
  have hle := grownCap_le_maxLen w (n + 1) cap 31 (by unfold maxLen; omega)
  obtain ⟨gc, hgc⟩ : ∃ c, c = grownCap w (n + 1) cap 31 := ⟨_, rfl⟩
  rw [← hgc] at hr hge hle
  have hzc : (Value.agg (encF FK.zero (.slice none 0 0)).toArray).cells.size = 38 := encF_size FK.zero_wf _
  refine ⟨gc, olds ++ ((Builtin.zeroCells (Value.agg (encF FK.zero (.slice none 0 0)).toArray).cells (n + 1 - i)).toList ++ (Builtin.zeroCells (Value.agg (encF FK.zero (.slice none 0 0)).toArray).cells (gc - (n + 1))).toList), _, ?_, hge, hle, rfl, ?_⟩
  · rw [hr]; congr 3
    apply Array.ext'
    simp
  · simp only [List.length_append, Array.length_toList, zeroCells_size, hzc, hol]; omega

set_option maxRecDepth 100000 in
set_option maxHeartbeats 4000000 in
theorem insert_grow (lo n cap i g vb : Nat) (cur : Array Value) (xs es : List Value) (w : World) (hg : Blk w g cur 31) (hlo : lo ≤ w.heap.size) (hsz : cur.size = cap * 38) (hxs : cur.toList.take (n * 38) = xs) (hx1 : ∀ u ∈ xs, u.oneCell' = true) (hn : n ≤ 1000) (hi : i < n) (hnc : n ≤ cap) (hroom : cap < n + 1)
    (hb : Blk w vb es.toArray 31) (he : es.length = 38) (h1 : ∀ u ∈ es, u.oneCell' = true) :
    Calls Try.prog 42 #[.slice (some ⟨g, 0, none⟩) n cap, .int .i64 i, .slice (some ⟨vb, 0, none⟩) 1 1] w fun e w' => ∃ v', e = .returned v' ∧ w'.ownsRow lo 31 38 v' (n + 1) (xs.take (i * 38) ++ es ++ xs.drop (i * 38)) ∧ Upd [] w w' := by
  have q1 : ((i : Int) == (n : Int)) = false := by simp; omega
  have q2 : decide ((cap : Int) < (n : Int) + 1) = true := by simp; omega
  have q3 : decide (cap < n + 1) = true := by simp; omega
  have hcur : cur.toList.length = cap * 38 := by rw [Array.length_toList]; exact hsz
  have hol : cur.toList.take (i * 38) = xs.take (i * 38) := by rw [← hxs, List.take_take, Nat.min_eq_left (by omega)]
  have hcs : (cur.toList.drop (i * 38)).take ((n - i) * 38) = xs.drop (i * 38) := by
    rw [← hxs, List.drop_take]; congr 1; omega
  have hcsl : (xs.drop (i * 38)).length = (n - i) * 38 := by rw [← hcs, List.length_take, List.length_drop, hcur]; omega
  have holl : (xs.take (i * 38)).length = i * 38 := by rw [← hol, List.length_take, hcur]; omega
  have HGR := Lib.hid (fun (ty : TypeId) (k' : Int) (hk : k' = ((n + 1 - i : Nat) : Int)) => grow_run w ty g cap i n cur (xs.take (i * 38)) hg hol.symm hsz hi hn hnc hroom hk)
  obtain ⟨sv, hsv⟩ : ∃ s, sliced (some ⟨g, 0, none⟩) i n cap 38 = s := ⟨_, rfl⟩
  have hsrc : ∀ j v, (xs.drop (i * 38))[j]? = some v → w.cell? ⟨g, i * 38 + j, none⟩ = some v := by
    intro j v hj
    rw [← hcs, List.getElem?_take] at hj
    split at hj
    · rw [List.getElem?_drop, Array.getElem?_toList] at hj
      exact hg.cell hj
    · cases hj
  have hgl := hg.lt
  have HSRC := Lib.hid hsrc
  have HCSL := Lib.hid hcsl
  have HOLL := Lib.hid holl
  have HSV := Lib.hid hsv
  have HB := Lib.hid hb
  have HE := Lib.hid he
  have H1 := Lib.hid h1
  have HX1 := Lib.hid hx1
  have HWI : Hid (IntKind.i64.wrap ((i : Int) + 1) = ((i + 1 : Nat) : Int)) := Lib.hid (by rw [IntWalk.i64_in _ (by omega)]; omega)
  have hmaxn : (n : Int) ≤ 1000 := by omega
  have hin : (i : Int) < (n : Int) := by omega
  clear hg hb he h1 hxs hx1 hsz hsv hcur hol hcs hcsl holl hsrc
  go_enter Try.func42, Try.ntmps42
  go_upto_region 10 with (first
    | ((with_reducible show wpList _ _ _ (⟨some 12, _, _, _, _, _⟩ :: _) _ _); refine wpList_run rfl (exec_sliceL0 23 (.tmp 10) (.tmp 11) rfl Try.underlying23 info_fact rfl rfl (by omega) HSV.out) ?_)
    | ((with_reducible show wpList _ _ _ (⟨some 34, _, _, _, _, _⟩ :: _) _ _); refine wpList_run rfl (exec_sliceHK 23 (.tmp 32) (.tmp 33) rfl Try.underlying23 info_fact (h := i) rfl rfl rfl (by omega)) ?_)
    | ((with_reducible show wpList _ _ _ (⟨some 40, _, _, _, _, _⟩ :: _) _ _)
       obtain ⟨gc, c0, rest, hr, h2, h3, h4, h5⟩ := HGR.out 23 ((n : Int) + 1 - (i : Int)) (by omega)
       go_loud (refine Lib.wpList_append_run _ rfl (.tmp 34) (.tmp 39) 23 3 rfl _ _ rfl rfl _ _ hr ?_)
       have hgc := h2
       have HC0 := Lib.hid h4
       have HL0 := Lib.hid h5
       have HGM := Lib.hid h3
       clear hr h2 h3 h4 h5))
  obtain ⟨wA, hwA⟩ : ∃ x, x = (w.alloc (.cells c0.toArray 31)).drew := ⟨_, rfl⟩
  obtain ⟨h, hh⟩ : ∃ x, x = w.heap.size := ⟨_, rfl⟩
  have hbA : Blk wA h c0.toArray 31 := by rw [hwA, hh]; exact (Blk.new w _ _).drew
  have huA : Upd [] w wA := by rw [hwA]; exact ((Upd.refl _ _).alloc _).drew
  have hgh : g ≠ h := by omega
  have hBl := HB.out.lt
  have hvh : vb ≠ h := by omega
  have hwh : w.heap.size ≤ h := by omega
  have HHE := Lib.hid hh
  rw [← hwA, ← hh]
  obtain ⟨c1, hc1⟩ : ∃ c, c = c0.take (i * 38) ++ es ++ c0.drop (i * 38 + es.length) := ⟨_, rfl⟩
  obtain ⟨c2, hc2⟩ : ∃ c, c = c1.take ((i + 1) * 38) ++ xs.drop (i * 38) ++ c1.drop ((i + 1) * 38 + (xs.drop (i * 38)).length) := ⟨_, rfl⟩
  have hcl0 := HL0.out
  obtain ⟨hl2, ht2⟩ := grow_list c0 (xs.take (i * 38)) es (xs.drop (i * 38)) rest c1 c2 i n 38 HOLL.out HE.out (by omega) HCSL.out HC0.out (by omega) hc1 hc2
  have hc1l : c1.length = gc * 38 := by rw [hc1]; simp only [List.length_append, List.length_take, List.length_drop, HE.out, hcl0]; omega
  have HBA := Lib.hid hbA
  have HUA := Lib.hid huA
  have HB1 := Lib.hid (HB.out.upd huA (by simp))
  have HN3 : Hid (∀ j u, es[j]? = some u → wA.cell? ((⟨vb, 0, none⟩ : Addr).add j) = some u) := Lib.hid (World.news_of_block (cs := es.toArray) HB1.out)
  have HF1 : Hid (i * 38 + es.length ≤ c0.toArray.size) := Lib.hid (by rw [List.size_toArray, hcl0, HE.out]; omega)
  have HF2 : Hid ((i + 1) * 38 + (xs.drop (i * 38)).length ≤ c1.toArray.size) := Lib.hid (by rw [List.size_toArray, hc1l, HCSL.out]; omega)
  have HC1 := Lib.hid hc1
  have HC2 := Lib.hid hc2
  have HL2 := Lib.hid hl2
  have HT2 := Lib.hid ht2
  clear hwA hh hbA huA hc1 hc2 hl2 ht2 hcl0 hc1l
  go_upto_region 11 with (first
    | ((with_reducible show wpList _ _ _ (⟨some 43, _, _, _, _, _⟩ :: _) _ _); refine wpList_run rfl (exec_sliceLK 23 (.tmp 41) (.tmp 42) rfl Try.underlying23 info_fact (l := i) (m := n + 1 - i) (q := i * 38) rfl rfl rfl (by omega) (by omega) rfl (by omega)) ?_)
    | ((with_reducible show wpList _ _ _ (⟨some 45, _, _, _, _, _⟩ :: _) _ _)
       go_loud (refine wpList_copyK rfl (.tmp 43) (.tmp 44) 23 23 rfl (n := 1) es rfl rfl Try.underlying23 info_fact HBA.out (by show Nat.min 1 (n + 1 - i) = 1; exact Nat.min_eq_left (by omega)) (by rw [HE.out]) HN3.out HF1.out H1.out fun w3 hb3 hu3 => ?_)
       have hb3' : Blk w3 h c1.toArray 31 := by rw [HC1.out]; exact hb3
       have HB3 := Lib.hid hb3'
       have HU3 := Lib.hid (HUA.out.then hu3 (by simp; omega))
       clear hb3 hu3 hb3'))
  have HSR3 : Hid (∀ j v, (xs.drop (i * 38))[j]? = some v → w3.drew.cell? ((⟨g, i * 38, none⟩ : Addr).add j) = some v) := Lib.hid (fun j v hj => by
    have hadd : (⟨g, i * 38, none⟩ : Addr).add j = ⟨g, i * 38 + j, none⟩ := by unfold Addr.add; split <;> simp_all
    rw [hadd]
    exact (World.cell?_of_block (a := ⟨g, i * 38 + j, none⟩) (HU3.out.drew.block g hgl (by simp))).trans (HSRC.out j v hj))
  simp only [Act.put, List.setIfInBounds_toArray, List.set_cons_zero, List.set_cons_succ]
  refine wp_region_still_tail 8 mixed (by kernel_rfl) ?_
  simp only [List.take_succ_cons, List.take_zero, List.drop_succ_cons, List.drop_zero]
  still_step
  still_step
  still_step
  still_step
  refine still_run rfl (exec_sliceLK 23 (.tmp 46) (.tmp 49) rfl Try.underlying23 info_fact (l := i + 1) (m := n - i) (q := (i + 1) * 38) rfl rfl HWI.out (by omega) (by omega) (by omega) (by omega)) ?_
  still_step
  still_step
  refine still_run rfl (exec_sliceLK 23 (.tmp 51) (.tmp 52) rfl Try.underlying23 info_fact (l := i) (m := n - i) (q := i * 38) rfl rfl rfl (by omega) (by omega) rfl (by omega)) ?_
  refine wpStill_nil ?_
  change wpList _ _ _ _ _ w3.drew
  refine wpList_copyK rfl (.tmp 50) (.tmp 53) 23 23 rfl (n := n - i) (xs.drop (i * 38)) rfl rfl Try.underlying23 info_fact HB3.out.drew (by show Nat.min (n - i) (n - i) = n - i; exact Nat.min_self _) HCSL.out HSR3.out HF2.out (fun u hu => HX1.out u (List.mem_of_mem_drop hu)) fun w4 hb4 hu4 => ?_
  have hb4' : Blk w4 h c2.toArray 31 := by rw [HC2.out]; exact hb4
  have HB4 := Lib.hid hb4'
  have HU4 := Lib.hid ((HU3.out.drew).then hu4 (by simp; omega))
  clear hb4 hu4 hb4'
  go_wp2_with fail
  go_ret
  refine ⟨_, rfl, ⟨?_, .inr ⟨h, gc, c2.toArray, rfl, by omega, HB4.out, hgc, HGM.out, by rw [List.size_toArray, HL2.out, HL0.out], HT2.out⟩⟩, HU4.out⟩
  simp only [List.length_append, HOLL.out, HE.out, HCSL.out]; omega

end Go.Proofs.Ytbdmnmjdnfpfbaa
