/- The walk of slices.Insert at facts. -/
import Derived.Test.YtbdmnmjdnfpfbaaLatI
import Derived.IntWalk
namespace Go.Proofs.Ytbdmnmjdnfpfbaa
open Go.ChangeShapes Go.WideShapes Go.ChangeAt Go.RowKit

set_option maxHeartbeats 2000000 in
theorem insert_end (lo n vb : Nat) (v : Value) (xs es : List Value) (w : World) (ho : w.ownsRow lo 31 38 v n xs) (hn : n ≤ 1000) (hb : Blk w vb es.toArray 31) (he : es.length = 38) (h1 : ∀ u ∈ es, u.oneCell' = true) (hlo : lo ≤ w.heap.size) :
    Calls Try.prog 42 #[v, .int .i64 n, .slice (some ⟨vb, 0, none⟩) 1 1] w fun e w' => ∃ v', e = .returned v' ∧ w'.ownsRow lo 31 38 v' (n + 1) (xs ++ es) ∧ Upd v.ownBlock.toList w w' := by
  obtain ⟨i0, hi0, hz0, hz1, hz2⟩ := info_parts info_factB
  obtain ⟨a, cap, rfl⟩ := own_slice ho
  have hnews : ∀ j u, es[j]? = some u → w.cell? ((⟨vb, 0, none⟩ : Addr).add j) = some u := World.news_of_block (cs := es.toArray) hb
  obtain ⟨sv, hsv⟩ : ∃ s, sliced a n n cap 38 = s := ⟨_, rfl⟩
  have HSV := Lib.hid hsv
  have HO := Lib.hid ho
  have HN := Lib.hid hnews
  have HE := Lib.hid he
  have H1 := Lib.hid h1
  clear ho hnews he h1 hb hsv
  go_enter Try.func42, Try.ntmps42
  go_wp2_with (first
    | ((with_reducible show wpList _ _ _ (⟨some 12, _, _, _, _, _⟩ :: _) _ _); refine wpList_run rfl (exec_sliceL0 23 (.tmp 10) (.tmp 11) rfl Try.underlying23 info_fact rfl rfl (Nat.le_refl _) HSV.out) ?_)
    | ((with_reducible show wpList _ _ _ (⟨some 25, _, _, _, _, _⟩ :: _) _ _)
       go_loud (refine wpList_append_lies _ rfl (.tmp 23) (.tmp 24) 23 rfl lo 31 i0 (.agg (encF FK.zero (.slice none 0 0)).toArray) 38 96 Try.underlying23 hi0 hz0 hz1 hz2 rfl (by decide) (.slice a n cap) n xs rfl HO.out ⟨vb, 0, none⟩ 1 1 es rfl (by rw [HE.out]) HN.out H1.out (by decide) (by unfold maxLen; omega) (by omega) hlo _ rfl fun g2 cap2 w2 ho2 hg2 hat2 hlt2 => ?_)
       have HO2 := Lib.hid ho2
       have HU2 := Lib.hid ((Upd.refl (Value.slice a n cap).ownBlock.toList w).grown hg2 (fun k hk => .inl (by simp [hk])))
       clear ho2 hg2 hat2 hlt2))
  go_ret
  exact ⟨_, rfl, HO2.out, HU2.out⟩

theorem mixed : Try.prog.follows .mixedOrders = true := by kernel_rfl

theorem overlaps_no (w : World) (vb g off lb cb : Nat) (ca cb' : Array Value) (hne : vb ≠ g) (ha : Blk w vb ca 31) (hb : Blk w g cb' 31) (h0 : cb'.size ≠ 0) :
    (callFunc 55 #[.slice (some ⟨vb, 0, none⟩) 1 1, .slice (some ⟨g, off, none⟩) lb cb]).run Try.prog w = .ok (.value (.bool false)) w := by
  have hsa : w.shape? vb = some (31, ca.size) := by unfold World.shape?; rw [ha]
  have hsb : w.shape? g = some (31, cb'.size) := by unfold World.shape?; rw [hb]
  rw [run_callFunc_extern Try.func55 (by kernel_rfl) (by kernel_rfl) (by kernel_rfl) (e := Extern.SlicesOverlaps.overlaps #[23, 23] #[4]) (by kernel_rfl),
    Lib.run_overlaps_apart w 23 4 31 Try.underlying23 38 (size_run info_fact) ⟨vb, 0, none⟩ ⟨g, off, none⟩ 1 1 lb cb hne 31 31 ca.size cb'.size hsa hsb h0 (ha.free 0) (ha.free ca.size)]
  rfl

set_option maxRecDepth 100000 in
set_option maxHeartbeats 4000000 in
theorem insert_room (lo n cap i g vb : Nat) (cur : Array Value) (xs es : List Value) (w : World) (hg : Blk w g cur 31) (hlg : lo ≤ g) (hcap : cap ≤ maxLen) (hsz : cur.size = cap * 38) (hxs : cur.toList.take (n * 38) = xs) (hx1 : ∀ u ∈ xs, u.oneCell' = true) (hn : n ≤ 1000) (hi : i < n) (hroom : n + 1 ≤ cap)
    (hb : Blk w vb es.toArray 31) (hne : vb ≠ g) (he : es.length = 38) (h1 : ∀ u ∈ es, u.oneCell' = true) :
    Calls Try.prog 42 #[.slice (some ⟨g, 0, none⟩) n cap, .int .i64 i, .slice (some ⟨vb, 0, none⟩) 1 1] w fun e w' => ∃ v', e = .returned v' ∧ w'.ownsRow lo 31 38 v' (n + 1) (xs.take (i * 38) ++ es ++ xs.drop (i * 38)) ∧ Upd [g] w w' := by
  have q1 : ((i : Int) == (n : Int)) = false := by simp; omega
  have q2 : decide ((cap : Int) < (n : Int) + 1) = false := by simp; omega
  have q3 : decide (cap < n + 1) = false := by simp; omega
  have hov : ∀ lb cb, (callFunc 55 #[.slice (some ⟨vb, 0, none⟩) 1 1, .slice (some ⟨g, (i + 1) * 38, none⟩) lb cb]).run Try.prog w = .ok (.value (.bool false)) w := fun lb cb => overlaps_no w vb g _ lb cb _ _ hne hb hg (by omega)
  obtain ⟨sv, hsv⟩ : ∃ s, sliced (some ⟨g, 0, none⟩) i n cap 38 = s := ⟨_, rfl⟩
  have HSV := Lib.hid hsv
  have HG := Lib.hid hg
  have HB := Lib.hid hb
  have HE := Lib.hid he
  have H1 := Lib.hid h1
  have HX := Lib.hid hxs
  have HX1 := Lib.hid hx1
  have HS := Lib.hid hsz
  have hmaxn : (n : Int) ≤ 1000 := by omega
  have HWI : Hid (IntKind.i64.wrap ((i : Int) + 1) = ((i + 1 : Nat) : Int)) := Lib.hid (by rw [IntWalk.i64_in _ (by omega)]; omega)
  unfold maxLen at hcap
  clear hg hb he h1 hxs hx1 hsz hsv
  go_enter Try.func42, Try.ntmps42
  go_upto_region 15 with (first
    | ((with_reducible show wpList _ _ _ (⟨some 12, _, _, _, _, _⟩ :: _) _ _); refine wpList_run rfl (exec_sliceL0 23 (.tmp 10) (.tmp 11) rfl Try.underlying23 info_fact rfl rfl (by omega) HSV.out) ?_)
    | ((with_reducible show wpList _ _ _ (⟨some 60, _, _, _, _, _⟩ :: _) _ _); refine wpList_run rfl (exec_sliceHK 23 (.tmp 56) (.tmp 59) rfl Try.underlying23 info_fact (h := n + 1) rfl rfl (by omega) hroom) ?_)
    | ((with_reducible show wpList _ _ _ (⟨some 66, _, _, _, _, _⟩ :: _) _ _); refine wpList_run rfl (exec_sliceLK 23 (.tmp 62) (.tmp 65) rfl Try.underlying23 info_fact (l := i + 1) (m := n - i) (q := (i + 1) * 38) rfl rfl (by omega) (by omega) (by omega) (by omega) (by omega)) ?_)
    | simp only [hov])
  have hcs : (cur.toList.drop (i * 38)).take ((n - i) * 38) = xs.drop (i * 38) := by
    rw [← HX.out, List.drop_take]; congr 1; omega
  have hcl : cur.toList.length = cap * 38 := by rw [Array.length_toList]; exact HS.out
  have hcsl : (xs.drop (i * 38)).length = (n - i) * 38 := by rw [← hcs, List.length_take, List.length_drop, hcl]; omega
  have hsrc : ∀ j v, (xs.drop (i * 38))[j]? = some v → w.drew.cell? ((⟨g, i * 38, none⟩ : Addr).add j) = some v := by
    intro j v hj
    rw [← hcs, List.getElem?_take] at hj
    split at hj
    · rw [List.getElem?_drop, Array.getElem?_toList] at hj
      have hadd : (⟨g, i * 38, none⟩ : Addr).add j = ⟨g, i * 38 + j, none⟩ := by unfold Addr.add; split <;> simp_all
      rw [hadd]; exact HG.out.drew.cell hj
    · cases hj
  have HFIT : Hid ((i + 1) * 38 + (xs.drop (i * 38)).length ≤ cur.size) := Lib.hid (by rw [hcsl, HS.out]; omega)
  have HCS := Lib.hid hcs
  have HCL := Lib.hid hcl
  have HCSL := Lib.hid hcsl
  have HSRC := Lib.hid hsrc
  clear hcs hcl hcsl hsrc hov
  refine wp_region_still_tail 8 mixed (by kernel_rfl) ?_
  simp only [List.take_succ_cons, List.take_zero, List.drop_succ_cons, List.drop_zero]
  still_step
  still_step
  still_step
  still_step
  refine still_run rfl (exec_sliceLK 23 (.tmp 69) (.tmp 72) rfl Try.underlying23 info_fact (l := i + 1) (m := n - i) (q := (i + 1) * 38) rfl rfl HWI.out (by omega) (by omega) (by omega) (by omega)) ?_
  still_step
  still_step
  refine still_run rfl (exec_sliceLK 23 (.tmp 74) (.tmp 75) rfl Try.underlying23 info_fact (l := i) (m := n + 1 - i) (q := i * 38) rfl rfl rfl (by omega) (by omega) rfl (by omega)) ?_
  refine wpStill_nil ?_
  change wpList _ _ _ _ _ w.drew
  refine wpList_copyK rfl (.tmp 73) (.tmp 76) 23 23 rfl (n := n - i) (xs.drop (i * 38)) rfl rfl Try.underlying23 info_fact HG.out.drew (by show Nat.min (n + 1 - i) (n - i) = n - i; exact Nat.min_eq_right (by omega)) HCSL.out HSRC.out HFIT.out (fun u hu => HX1.out u (List.mem_of_mem_drop hu)) fun w2 hb2 hu2 => ?_
  obtain ⟨c1, hc1⟩ : ∃ c, c = cur.toList.take ((i + 1) * 38) ++ xs.drop (i * 38) ++ cur.toList.drop ((i + 1) * 38 + (xs.drop (i * 38)).length) := ⟨_, rfl⟩
  rw [← hc1] at hb2
  obtain ⟨c2, hc2⟩ : ∃ c, c = c1.take (i * 38) ++ es ++ c1.drop (i * 38 + es.length) := ⟨_, rfl⟩
  obtain ⟨hl2, ht2⟩ := shift_list cur.toList es i n 38 HE.out (by rw [HCL.out]; omega) (by omega) _ c1 c2 HCS.out.symm hc1 hc2
  have hc1l : c1.length = cap * 38 := by rw [hc1]; simp only [List.length_append, List.length_take, List.length_drop, HCSL.out, HCL.out]; omega
  have HB2 := Lib.hid hb2
  have HU2 := Lib.hid ((Upd.refl [g] w).drew.trans hu2)
  have HB3 := Lib.hid (HB.out.drew.upd hu2 (by simp; exact hne))
  have HC2 := Lib.hid hc2
  have HL2 := Lib.hid hl2
  have HT2 := Lib.hid ht2
  have HN3 : Hid (∀ j u, es[j]? = some u → w2.cell? ((⟨vb, 0, none⟩ : Addr).add j) = some u) := Lib.hid (World.news_of_block (cs := es.toArray) HB3.out)
  have HFIT2 : Hid (i * 38 + es.length ≤ c1.toArray.size) := Lib.hid (by rw [List.size_toArray, hc1l, HE.out]; omega)
  clear hb2 hu2 hc1 hc2 hl2 ht2
  go_wp2_with (first
    | ((with_reducible show wpList _ _ _ (⟨some 80, _, _, _, _, _⟩ :: _) _ _); refine wpList_run rfl (exec_sliceLK 23 (.tmp 78) (.tmp 79) rfl Try.underlying23 info_fact (l := i) (m := n + 1 - i) (q := i * 38) rfl rfl rfl (by omega) (by omega) rfl (by omega)) ?_)
    | ((with_reducible show wpList _ _ _ (⟨some 82, _, _, _, _, _⟩ :: _) _ _)
       go_loud (refine wpList_copyK rfl (.tmp 80) (.tmp 81) 23 23 rfl (n := 1) es rfl rfl Try.underlying23 info_fact HB2.out (by show Nat.min 1 (n + 1 - i) = 1; exact Nat.min_eq_left (by omega)) (by rw [HE.out]) HN3.out HFIT2.out H1.out fun w3 hb3 hu3 => ?_)
       rw [← HC2.out] at hb3
       have HB4 := Lib.hid hb3
       have HU4 := Lib.hid (HU2.out.trans hu3)
       clear hb3 hu3))
  go_ret
  refine ⟨_, rfl, ⟨?_, .inr ⟨g, cap, c2.toArray, rfl, hlg, HB4.out, hroom, by unfold maxLen; omega, by rw [List.size_toArray, HL2.out, HCL.out], ?_⟩⟩, HU4.out⟩
  · have : (xs.take (i * 38)).length = i * 38 := by rw [← HX.out, List.take_take, List.length_take, HCL.out]; omega
    simp only [List.length_append, this, HE.out, HCSL.out]; omega
  · show c2.take ((n + 1) * 38) = _
    rw [HT2.out]; congr 2
    rw [← HX.out, List.take_take, Nat.min_eq_left (by omega)]

end Go.Proofs.Ytbdmnmjdnfpfbaa
