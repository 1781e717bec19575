/- The document's disk: Write. -/
import Derived.Test.YtfjmkdjbeoafjaaRefE
namespace Go.Proofs.Ytfjmkdjbeoafjaa
open Go.ChangeShapes Go.WideShapes Go.ChangeAt Go.RowKit

section
variable {P : Program} {a : Act} {o : Oper} {w : World}

/-- A row that is owned, appended to another one that is owned. -/
theorem wpList_append_row {ops : Array Oper} {Q : Exit → Act → World → Prop} {rest : List Oper} (hgd : o.guard = none) (s x : Operand) (t : TypeId)
    (ho : o.op = .call { callee := .builtin .append, args := #[s, x], argTypes := #[t, t] })
    (base base2 : Nat) (e : TypeId) (i : TypeInfo) (z : Value) (size bytes : Nat) (ht : P.underlying t = some (.slice e)) (hi : P.info? e = some i) (hz : i.zero = some z)
    (hsize : i.size = size) (hby : i.bytes = bytes) (hzs : z.cells.size = size) (hsz : 0 < size)
    (g0 c0 n : Nat) (xs : List Value) (hs : a.eval s = .slice (some ⟨g0, 0, none⟩) n c0) (hown : w.ownsRow base e size (.slice (some ⟨g0, 0, none⟩) n c0) n xs)
    (ov : Value) (m : Nat) (news : List Value) (hx : a.eval x = ov) (hnews : w.ownsRow base2 e size ov m news) (h1 : ∀ u ∈ news, u.oneCell' = true)
    (h63 : n + m ≤ maxLen) (hbytes : (n + m) * bytes ≤ 140737488355328) (hbase : base ≤ w.heap.size)
    (h : ∀ g cap w', w'.ownsRow base e size (.slice (some ⟨g, 0, none⟩) (n + m) cap) (n + m) (xs ++ news) → w.grownBy w' (some g0) → wpList P ops Q rest (a.put o.dst (.slice (some ⟨g, 0, none⟩) (n + m) cap)) w') : wpList P ops Q (o :: rest) a w := by
  rcases hnews.2 with ⟨rfl, rfl⟩ | ⟨g2, cap2, cur2, rfl, -, -, -⟩
  · have hn0 : news = [] := List.eq_nil_of_length_eq_zero (by rw [hnews.1]; omega)
    subst hn0
    have hr := run_append_owned_none (P := P) w base t o.type e i size ht hi _ n xs hown
    have hrun : (execOp a.eval o).run P w = .ok (.value (.slice (some ⟨g0, 0, none⟩) n c0)) w := by
      unfold execOp
      simp [ho, resolve, invoke, builtin, hs, hx, hr, Result.andThen]
    refine wpList_run hgd hrun ?_
    have := h g0 c0 w (by simpa using hown) ⟨rfl, rfl, rfl, Nat.le_refl _, fun _ _ _ => rfl⟩
    simpa using this
  · refine wpList_append_own w hgd s x t ho base e i z size bytes ht hi hz hsize hby hzs hsz _ n xs hs hown ⟨g2, 0, none⟩ m cap2 news hx hnews.1 (hnews.cells rfl) h1 h63 hbytes hbase fun v' w' h2 h3 h4 => ?_
    rcases h2.2 with ⟨e0, -⟩ | ⟨g, cap, cur, rfl, -⟩
    · exact absurd (h4.1 e0).1 (by simp)
    · exact h g cap w' h2 h3
end

theorem rwrite_no (b : Nat) (R : List Nat) (d : DK) (n : Int) (x : Array Value) (w : World) (h : RefAt w b R d) (hc : d.code n ≠ 0) :
    Calls Try.prog 28 #[.pointer (some ⟨b, 0, none⟩), .int .i64 n, .agg x] w fun e w' => e = .returned (.int .i64 (d.code n)) ∧ Upd [] w w' := by
  have H := Lib.hid (h.upd0 ((Upd.refl [] w).alloc (.cells x 54)))
  obtain ⟨c, hcc⟩ : ∃ c, c = d.code n := ⟨_, rfl⟩
  have C := wrong_any b R d n _ H.out
  rw [← hcc] at C hc ⊢
  have HC := Lib.hid C
  have g : (c != 0) = true := by simp [hc]
  clear C h hcc hc
  go_enter Try.func28, Try.ntmps28
  go_wp2_with (go_at_call 48; refine HC.out.mono ?_; rintro e w1 ⟨rfl, rfl⟩)
  go_ret
  exact ⟨rfl, (Upd.refl _ _).alloc _⟩

theorem own_base {w : World} {base e size n : Nat} {v : Value} {xs : List Value} (h : w.ownsRow base e size v n xs) : w.ownsRow 0 e size v n xs := by
  refine ⟨h.1, ?_⟩
  rcases h.2 with h2 | ⟨g, cap, cur, rfl, -, r⟩
  · exact .inl h2
  · exact .inr ⟨g, cap, cur, rfl, Nat.zero_le _, r⟩

theorem toList_nodup {α : Type} (o : Option α) : o.toList.Nodup := by cases o <;> simp

theorem mem_getD {l : List Int} {n : Int} (h : n ∈ l) : ∃ j, j < l.length ∧ l.getD j 0 = n := by
  obtain ⟨j, hj, e⟩ := List.getElem_of_mem h
  exact ⟨j, hj, by rw [List.getD_eq_getElem?_getD, List.getElem?_eq_getElem hj]; exact e⟩

theorem ref_put {b lg lc ng nc : Nat} {ov : Value} {d : DK} {n : Nat} {x : Blok} {w : World} (hnd : (b :: lg :: ng :: ov.ownBlock.toList).Nodup) (hw : d.WF) (hn : n < d.last.length) (hx : x.length = 64)
    (h1 : Blk w b #[.slice (some ⟨lg, 0, none⟩) d.last.length lc, .slice (some ⟨ng, 0, none⟩) d.now.length nc, ov, .bool d.down] 62)
    (h2 : RowAt w (.slice (some ⟨lg, 0, none⟩) d.last.length lc) d.last) (h3 : RowAt w (.slice (some ⟨ng, 0, none⟩) d.now.length nc) (d.now.set n x))
    (h4 : w.ownsRow 0 3 1 ov (d.put n x).dirty.length ((d.put n x).dirty.map (Value.int .i64))) : RefAt w b (b :: lg :: ng :: ov.ownBlock.toList) (d.put n x) := by
  have e1 : (d.put n x).now = d.now.set n x := DK.now_put d n x
  have e2 : (d.put n x).now.length = d.now.length := by rw [e1, List.length_set]
  refine ⟨lg, lc, ng, nc, ov, rfl, hnd, hw.put (by omega) (by omega) hx, ?_, h2, ?_, ?_⟩
  · rw [e2]; exact h1
  · rw [e2, e1]; exact h3
  · rw [dirty_len] at h4; exact h4

set_option maxRecDepth 100000 in
set_option maxHeartbeats 2000000 in
theorem rwrite_yes (b : Nat) (R : List Nat) (d : DK) (n : Int) (x : Blok) (w : World) (h : RefAt w b R d) (hc : d.code n = 0) (hx : x.length = 64) :
    Calls Try.prog 28 #[.pointer (some ⟨b, 0, none⟩), .int .i64 n, .agg (U8 x)] w fun e w' => e = .returned (.int .i64 0) ∧
      ∃ R', RefAt w' b R' (d.put n x) ∧ Upd R w w' ∧ ∀ k ∈ R', k ∈ R ∨ w.heap.size ≤ k := by
  obtain ⟨_, c0, c1⟩ := DK.code_zero hc
  obtain ⟨n, rfl⟩ := Int.eq_ofNat_of_zero_le c0
  have hn : n < d.last.length := by omega
  have hu0 := (Upd.refl [] w).alloc (.cells (U8 x) 54)
  have H := h.upd0 hu0
  have hB : Blk (w.alloc (.cells (U8 x) 54)) w.heap.size (U8 x) 54 := Blk.new _ _ _
  have C := wrong_any b R d n _ H
  rw [hc] at C
  obtain ⟨w1, hw1⟩ : ∃ w1, w1 = w.alloc (.cells (U8 x) 54) := ⟨_, rfl⟩
  rw [← hw1] at hu0 H hB C
  have HC := Lib.hid C
  have hlt := H.lt
  obtain ⟨lg, lc, ng, nc, ov, rfl, hnd, hw, h1, h2, h3, h4⟩ := H
  have k1 := h1.cell (o := 1) rfl
  have hnn : (n : Int) < (d.now.length : Int) := by rw [DK.now_len]; omega
  have hnn' : n < d.now.length := by rw [DK.now_len]; exact hn
  have H1 := Lib.hid h1
  have H2 := Lib.hid h2
  have H3 := Lib.hid h3
  have H4 := Lib.hid h4
  have HB := Lib.hid hB
  have HU0 := Lib.hid hu0
  have Hw1 := Lib.hid hw1
  have HLT := Lib.hid hlt
  clear C hw1 h1 h2 h3 h4 hB hu0 hlt
  simp only [List.nodup_cons, List.mem_cons, not_or, Option.mem_toList] at hnd
  obtain ⟨⟨d1, d2, d3⟩, ⟨d4, d5⟩, d6, -⟩ := hnd
  go_enter Try.func28, Try.ntmps28
  go_wp2_with fail
  rw [← Hw1.out]
  refine HC.out.mono ?_
  rintro e w1' ⟨rfl, rfl⟩
  go_upto_region 4 with fail
  refine wp_region_still_tail 7 mixed (by kernel_rfl) ?_
  simp only [List.take_succ_cons, List.take_zero, List.drop_succ_cons, List.drop_zero]
  iterate 5 still_step
  refine still_run rfl (arr_load (.tmp 5) rfl rfl HB.out.drew hx) ?_
  still_step
  refine wpStill_nil ?_
  change wpList _ _ _ _ _ w1.drew
  refine wpList_storeRow (n := n) (.tmp 21) (.tmp 20) rfl rfl rfl rfl H3.out.drew (DK.now_64 hw) hnn' hx fun w2 hr2 hu2' hs2 => ?_
  have hu2 : Upd [ng] w1 w2 := ((Upd.refl [ng] w1).drew).trans hu2'
  have j1 := H1.out.upd hu2 (by simp; exact d2)
  have j2 := H2.out.upd hu2 (fun g hg => by simp [Value.ownBlock] at hg; subst hg; simp; exact d4)
  have j4 := own_upd H4.out hu2 (fun g hg => by simp; intro e; subst e; exact d6 hg)
  have hi2 := IntsAt.of_own (l := d.dirty) j4 (dirty_len d)
  obtain ⟨oa, oc, hov⟩ := own_slice j4
  subst hov
  have k2 := j1.cell (o := 2) rfl
  have f2 := j1.free 2
  have J1 := Lib.hid j1
  have J2 := Lib.hid j2
  have J3 := Lib.hid hr2
  have J4 := Lib.hid j4
  have HU2 := Lib.hid hu2
  have HI2 := Lib.hid hi2
  clear hr2 hu2' hu2 j1 j2 j4 hi2 k1 H1 H2 H3 H4 hs2
  have hlen := hw.len
  have hmany := hw.many
  go_wp2_with fail
  go_loopw [8] (fun i wx => ∃ k : Nat, k ≤ d.fresh.length ∧ i = .int .i64 k ∧ (∀ j, j < k → d.dirty.getD j 0 ≠ (n : Int)) ∧ w2 = wx) (fun i _ => d.fresh.length - (intOf i).toNat)
  case atStart => exact ⟨0, Nat.zero_le _, rfl, fun j hj => by omega, rfl⟩
  case round =>
    obtain ⟨k, hk, rfl, hd, rfl⟩ := hrel
    have HD := Lib.hid hd
    clear hd
    by_cases hkl : k < d.fresh.length
    · obtain ⟨a', cap', hs, -, hcell⟩ := HI2.out
      obtain ⟨g, off, rfl, hgl, hcell⟩ := hcell (fun e => by rw [← dirty_len, e] at hkl; simp at hkl)
      simp only [Value.slice.injEq] at hs
      obtain ⟨rfl, -, rfl⟩ := hs
      have ck := hcell k (by rw [dirty_len]; exact hkl)
      obtain ⟨y, hy⟩ : ∃ y, y = d.dirty.getD k 0 := ⟨_, rfl⟩
      rw [← hy] at ck
      have HY := Lib.hid hy
      clear hcell hy
      have hkl' : (k : Int) < (d.fresh.length : Int) := by omega
      by_cases hyn : y = (n : Int)
      · have hmem : (n : Int) ∈ d.fresh.map (·.1) := by
          have h1 : d.dirty.getD k 0 = d.dirty[k]'(by rw [dirty_len]; exact hkl) := by rw [List.getD_eq_getElem?_getD, List.getElem?_eq_getElem (by rw [dirty_len]; exact hkl)]; rfl
          rw [← hyn, HY.out, h1]
          exact List.getElem_mem _
        have Hm := Lib.hid hmem
        clear hmem HY
        subst hyn
        have q : ((n : Int) == (n : Int)) = true := by simp
        go_wp2_with fail
        go_ret
        refine ⟨rfl, _, ref_put ?_ hw hn hx J1.out J2.out J3.out ?_, (HU0.out.mono (by simp)).trans (HU2.out.mono (fun k hk => .inl (by simp at hk; simp [hk]))), fun k hk => .inl hk⟩
        · simp only [List.nodup_cons, List.mem_cons, not_or, Option.mem_toList]
          exact ⟨⟨d1, d2, d3⟩, ⟨d4, d5⟩, d6, toList_nodup _⟩
        · rw [dirty_old d n x (mget_isSome.2 Hm.out), dirty_len]; exact J4.out
      · have q : (y == (n : Int)) = false := by simp [hyn]
        have hd2 : ∀ j, j < k + 1 → d.dirty.getD j 0 ≠ (n : Int) := fun j hj => by
          by_cases e : j = k
          · subst e; rw [← HY.out]; exact hyn
          · exact HD.out j (by omega)
        have HD2 := Lib.hid hd2
        clear hd2 HY hyn
        go_wp2_with fail
        go_roundw
        case rel => exact ⟨k + 1, by omega, by go_num, HD2.out, trivial⟩
        case measure => simp [intOf]; omega
    · have hend : k = d.fresh.length := by omega
      subst hend
      have hnm : (mget d.fresh (n : Int)).isSome = false := by
        cases hm : (mget d.fresh (n : Int)).isSome with
        | false => rfl
        | true =>
          obtain ⟨j, hj, e⟩ := mem_getD (mget_isSome.1 hm)
          exact absurd e (HD.out j (by simpa using hj))
      have HNM := Lib.hid hnm
      clear hnm HD hkl hk
      have k3 := (J1.out.upd ((Upd.refl [] w2).alloc (.cells #[] 3)) (by simp)).cell (o := 2) rfl
      obtain ⟨i0, hi0, hz0, hz1, hz2⟩ := info_parts info_int
      go_wp2_with (first
        | ((with_reducible show wpList _ _ _ (⟨_, .call { callee := .builtin .append, args := #[.tmp 41, .tmp 45], argTypes := _ }, _, _, _, _⟩ :: _) _ _)
           refine wpList_append_row rfl (.tmp 41) (.tmp 45) 32 rfl w2.heap.size 0 3 i0 (.int .i64 0) 1 8 Try.underlying32 hi0 hz0 hz1 hz2 rfl (by decide) w2.heap.size 0 0 [] rfl (World.ownsRow_lit w2 #[] 0 (Nat.le_refl _) (by unfold maxLen; omega) rfl) _ d.fresh.length _ rfl (J4.out.alloc _)
             (fun u hu => by obtain ⟨y, -, rfl⟩ := List.mem_map.1 hu; rfl) (by unfold maxLen; omega) (by omega) (by simp) fun g3 c3 w3 ho3 hg3 => ?_
           have hu3 : Upd [] w2 w3 := ((Upd.refl [] w2).alloc _).grown hg3 (fun k hk => .inr (by simp at hk; omega))
           have hgb3 := (ho3.lt g3 rfl).1
           have ho3' : w3.ownsRow w2.heap.size 3 1 (.slice (some ⟨g3, 0, none⟩) d.fresh.length c3) d.fresh.length ((d.fresh.map (·.1)).map (Value.int .i64)) := by rw [Nat.zero_add] at ho3; exact ho3)
        | ((with_reducible show wpList _ _ _ (⟨_, .call { callee := .builtin .append, args := #[.tmp 46, .tmp 48], argTypes := _ }, _, _, _, _⟩ :: _) _ _)
           refine wpList_append_row rfl (.tmp 46) (.tmp 48) 32 rfl w2.heap.size 0 3 i0 (.int .i64 0) 1 8 Try.underlying32 hi0 hz0 hz1 hz2 rfl (by decide) g3 c3 d.fresh.length _ rfl (ho3'.alloc _) _ 1 [.int .i64 (n : Int)] rfl (World.ownsRow_lit w3 #[.int .i64 (n : Int)] 1 (Nat.zero_le _) (by unfold maxLen; omega) rfl)
             (fun u hu => by simp at hu; subst hu; rfl) (by unfold maxLen; omega) (by omega) (by have := hu3.size; simp; omega) fun g4 c4 w4 ho4 hg4 => ?_
           have hu4 : Upd [] w2 w4 := (hu3.alloc _).grown hg4 (fun k hk => .inr (by simp at hk; omega))
           have j1 := J1.out.upd hu4 (by simp)
           have f4 := j1.free 2
           have k4 := j1.cell (o := 2) rfl))
      go_ret
      have hgb4 := (ho4.lt g4 rfl).1
      have s2 := HU2.out.size
      have lb := HLT.out b (by simp)
      have ll := HLT.out lg (by simp)
      have ln := HLT.out ng (by simp)
      have hu5 : Upd [b] w2 (w4.setCell ⟨b, 2, none⟩ (.slice (some ⟨g4, 0, none⟩) (d.fresh.length + 1) c4)) := (hu4.mono (by simp)).setCell (.inl (by simp)) _
      have e2 := dirty_new d n x HNM.out
      refine ⟨rfl, _, ref_put (ov := .slice (some ⟨g4, 0, none⟩) (d.fresh.length + 1) c4) ?_ hw hn hx (j1.set 2 _) (J2.out.upd hu5 (fun g hg => ?_)) (J3.out.upd hu5 (fun g hg => ?_)) ?_, ?_, ?_⟩
      · show (b :: lg :: ng :: [g4]).Nodup
        simp; omega
      · simp [Value.ownBlock] at hg; subst hg; simp; exact fun e => d1 e.symm
      · simp [Value.ownBlock] at hg; subst hg; simp; exact fun e => d2 e.symm
      · rw [e2, List.length_append, dirty_len, List.map_append]
        exact own_base (ownsRow_setCell_other (a := ⟨b, 2, none⟩) ho4 (fun e => by simp [Value.ownBlock] at e; omega) _)
      · refine (HU0.out.mono (by simp)).trans ((HU2.out.mono (by simp)).trans (hu5.mono (by simp)))
      · intro k hk
        simp only [Value.ownBlock, Option.toList_some, List.mem_cons, List.not_mem_nil, or_false] at hk
        rcases hk with rfl | rfl | rfl | rfl
        · exact .inl (by simp)
        · exact .inl (by simp)
        · exact .inl (by simp)
        · have := HU0.out.size; exact .inr (by omega)

theorem rwrite_any (b : Nat) (R : List Nat) (d : DK) (n : Int) (x : Blok) (w : World) (h : RefAt w b R d) (hx : x.length = 64) :
    Calls Try.prog 28 #[.pointer (some ⟨b, 0, none⟩), .int .i64 n, .agg (U8 x)] w fun e w' => e = .returned (.int .i64 (d.code n)) ∧ ∃ R', RefAt w' b R' (d.write n x) ∧ Upd R w w' ∧ Sub w R R' := by
  unfold DK.write
  by_cases hc : d.code n = 0
  · rw [if_pos hc, hc]
    exact rwrite_yes b R d n x w h hc hx
  · rw [if_neg hc]
    refine (rwrite_no b R d n (U8 x) w h hc).mono ?_
    rintro e w' ⟨rfl, hu⟩
    exact ⟨rfl, R, h.upd0 hu, hu.mono (by simp), Sub.refl _ _⟩

end Go.Proofs.Ytfjmkdjbeoafjaa
