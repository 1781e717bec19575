/- The document's disk: Crash. -/
import Derived.Test.YtfjmkdjbeoafjaaRefG
namespace Go.Proofs.Ytfjmkdjbeoafjaa
open Go.ChangeShapes Go.WideShapes Go.ChangeAt Go.RowKit

/-- The blocks that last, while the document's disk goes down: k blocks are done. -/
def partL (fs : List Int) (d : DK) (k : Nat) : List Blok := DK.settleL (DK.fate fs) 0 (d.fresh.take k) d.last

theorem partL_len (fs : List Int) (d : DK) (k : Nat) : (partL fs d k).length = d.last.length := DK.settleL_len _ _ _ _

theorem partL_64 {fs : List Int} {d : DK} (h : d.WF) (k : Nat) : ∀ b ∈ partL fs d k, b.length = 64 :=
  DK.settleL_wf (DK.fate fs) (d.fresh.take k) 0 d.last h.last (fun p hp => h.size p (List.mem_of_mem_take hp)) (fun p hp => ⟨h.lo p (List.mem_of_mem_take hp), h.hi p (List.mem_of_mem_take hp)⟩)

theorem partL_succ (fs : List Int) (d : DK) (k : Nat) (hk : k < d.fresh.length) :
    partL fs d (k + 1) = (partL fs d k).set (d.fresh[k]).1.toNat (DK.lay (DK.kOf (DK.fate fs k)) (d.fresh[k]).2 ((partL fs d k).getD (d.fresh[k]).1.toNat [])) := by
  unfold partL
  rw [List.take_succ_eq_append_getElem hk, settleL_snoc, List.length_take, Nat.min_eq_left (by omega), Nat.zero_add]

theorem mget_at {α : Type} : ∀ {L : List (Int × α)} (_ : (L.map (·.1)).Nodup) (k : Nat) (hk : k < L.length), mget L (L[k]).1 = some (L[k]).2 := by
  intro L
  induction L with
  | nil => intro _ k hk; simp at hk
  | cons p t ih =>
    intro hn k hk
    simp only [List.map_cons, List.nodup_cons] at hn
    rcases k with _ | k
    · rw [mget_cons]; simp
    · have h1 := ih hn.2 k (by simpa using hk)
      rw [mget_cons]
      simp only [List.getElem_cons_succ]
      rw [if_neg (fun e => hn.1 (by rw [e]; exact List.mem_map.2 ⟨_, List.getElem_mem _, rfl⟩))]
      exact h1

theorem kOf_lt {y : Int} {j : Nat} : j < DK.kOf y ↔ j < 64 ∧ (j : Int) < y := by unfold DK.kOf; omega

/-- Blocks that last in their row, under way. -/
structure RowL (w : World) (g cap n : Nat) (L : List Blok) : Prop where
  len : L.length = n
  row : RowAt w (.slice (some ⟨g, 0, none⟩) L.length cap) L

theorem RowL.upd {S : List Nat} {w w' : World} {g cap n : Nat} {L : List Blok} (h : RowL w g cap n L) (hu : Upd S w w') (hS : g ∉ S) : RowL w' g cap n L :=
  ⟨h.len, h.row.upd hu (fun k hk => by simp [Value.ownBlock] at hk; subst hk; exact hS)⟩

set_option maxRecDepth 100000 in
set_option maxHeartbeats 4000000 in
theorem rcrash_any (b : Nat) (R : List Nat) (d : DK) (v : Value) (fs : List Int) (w : World) (h : RefAt w b R d) (hv : IntsAt w v fs) (hvR : IntsOut v fs R) :
    Calls Try.prog 25 #[.pointer (some ⟨b, 0, none⟩), v] w fun e w' => e = .returned (.tuple #[]) ∧ ∃ R', RefAt w' b R' (d.crash fs) ∧ Upd R w w' ∧ Sub w R R' := by
  have H := Lib.hid h
  have hlt := h.lt
  obtain ⟨lg, lc, ng, nc, ov, rfl, hnd, hw, h1, h2, h3, h4⟩ := h
  simp only [List.nodup_cons, List.mem_cons, not_or, Option.mem_toList] at hnd
  obtain ⟨⟨d1, d2, d3⟩, ⟨d4, d5⟩, d6, -⟩ := hnd
  cases hd : d.down with
  | true =>
    have c3 := h1.cell (o := 3) rfl
    rw [hd] at c3
    rw [show d.crash fs = d from by unfold DK.crash; rw [hd]; rfl]
    obtain ⟨fa, fc, rfl, -, -⟩ := hv
    clear h1 h2 h3 h4 hd hlt hvR
    go_enter Try.func25, Try.ntmps25
    go_wp2_with fail
    exact bodyPost_ret (results_none rfl _ _ _) rfl ⟨rfl, _, H.out, Upd.refl _ _, Sub.refl _ _⟩
  | false =>
    have c3 := h1.cell (o := 3) rfl
    rw [hd] at c3
    have HV := Lib.hid hv
    have HVR := Lib.hid hvR
    obtain ⟨fa, fc, rfl, -, -⟩ := hv
    have H1 := Lib.hid h1
    have H2 := Lib.hid h2
    have H3 := Lib.hid h3
    have H4 := Lib.hid h4
    have HLT := Lib.hid hlt
    have HD := Lib.hid hd
    have hlen := hw.len
    have hmany := hw.many
    have hnl := DK.now_len d
    obtain ⟨oa, oc, rfl⟩ := own_slice h4
    clear h1 h2 h3 h4 hlt hvR hd
    go_enter Try.func25, Try.ntmps25
    go_upto_block 0 with fail
    go_cut [] (fun wx => RowL wx lg lc d.last.length (partL fs d d.fresh.length) ∧ Upd [lg] w wx)
    case first =>
      clear c3
      go_wp2_with fail
      go_loopw [4] (fun i wx => ∃ k : Nat, k ≤ d.fresh.length ∧ i = .int .i64 k ∧ RowL wx lg lc d.last.length (partL fs d k) ∧ Upd [lg] w wx) (fun i _ => d.fresh.length - (intOf i).toNat)
      case atStart => exact ⟨0, Nat.zero_le _, rfl, ⟨partL_len _ _ _, by rw [show partL fs d 0 = d.last from by unfold partL; rw [List.take_zero]; rfl]; exact H2.out⟩, Upd.refl _ _⟩
      case round =>
        obtain ⟨k, hk, rfl, hr, hu⟩ := hrel
        have k1 := H1.out.upd hu (by simp; exact d1)
        have c0 := k1.cell (o := 0) rfl
        have c1 := k1.cell (o := 1) rfl
        have c2 := k1.cell (o := 2) rfl
        have HR := Lib.hid hr
        have HU := Lib.hid hu
        clear hr k1
        by_cases hend : k < d.fresh.length ∧ k < fs.length
        · obtain ⟨hkl, hkf⟩ := hend
          have hkl' : (k : Int) < (d.fresh.length : Int) := by omega
          have hkf' : (k : Int) < (fs.length : Int) := by omega
          obtain ⟨pk, hpk⟩ : ∃ pk, pk = d.fresh[k] := ⟨_, rfl⟩
          have hmem : pk ∈ d.fresh := hpk ▸ List.getElem_mem _
          have n0 := hw.lo pk hmem
          have n1 := hw.hi pk hmem
          have x64 := hw.size pk hmem
          have hget : mget d.fresh pk.1 = some pk.2 := hpk ▸ mget_at hw.keys k hkl
          have hsucc := partL_succ fs d k hkl
          obtain ⟨N, hN⟩ := Int.eq_ofNat_of_zero_le n0
          have hNl : N < d.last.length := by omega
          obtain ⟨x, hx⟩ : ∃ x, x = pk.2 := ⟨_, rfl⟩
          have hnow : d.now.getD N [] = x := by rw [DK.now_get d hNl]; unfold DK.get; rw [← hN, hget, hx]; rfl
          have hdk : d.dirty.getD k 0 = (N : Int) := by
            rw [List.getD_eq_getElem?_getD, List.getElem?_eq_getElem (by rw [dirty_len]; exact hkl), ← hN, hpk]
            simp [DK.dirty]
          rw [← hpk, hN, Int.toNat_natCast, ← hx] at hsucc
          rw [← hx] at x64
          obtain ⟨a', cap', hs, -, hcell⟩ := IntsAt.of_own (l := d.dirty) (own_upd H4.out hu (fun g hg => by simp; intro e; subst e; exact d5 hg)) (dirty_len d)
          obtain ⟨g, off, rfl, hgl, hcell⟩ := hcell (fun e => by rw [← dirty_len, e] at hkl; simp at hkl)
          simp only [Value.slice.injEq] at hs
          obtain ⟨rfl, -, rfl⟩ := hs
          have ck := hcell k (by rw [dirty_len]; exact hkl)
          rw [hdk] at ck
          obtain ⟨a2, cap2, hs2, -, hf⟩ := HV.out
          obtain ⟨gf, of, rfl, hgf, hfc⟩ := hf (fun e => by rw [e] at hkf; simp at hkf)
          simp only [Value.slice.injEq] at hs2
          obtain ⟨rfl, -, rfl⟩ := hs2
          have hglg : gf ≠ lg := fun e => HVR.out gf of _ _ (fun e => by rw [e] at hkf; simp at hkf) rfl (by rw [e]; simp)
          obtain ⟨y, hy⟩ : ∃ y, y = fs.getD k 0 := ⟨_, rfl⟩
          have cf0 := hfc k hkf
          rw [← hy] at cf0
          have hfate : DK.fate fs k = y := by unfold DK.fate; rw [if_pos hkf, hy]
          rw [hfate] at hsucc
          obtain ⟨T, hT⟩ : ∃ T, T = partL fs d k := ⟨_, rfl⟩
          have hT64 : ∀ b ∈ T, b.length = 64 := by rw [hT]; exact partL_64 hw k
          have hTl : T.length = d.last.length := by rw [hT]; exact partL_len _ _ _
          rw [← hT] at hsucc HR
          have hold : (T.getD N []).length = 64 := hT64 _ (DK.getD_mem (by omega))
          have hNl' : (N : Int) < (d.last.length : Int) := by omega
          have hNn' : (N : Int) < (d.now.length : Int) := by omega
          have CF : Hid (∀ {w' : World}, Upd [lg] w w' → w'.cell? ⟨gf, of + k, none⟩ = some (.int .i64 y)) := fun hu => (World.cell?_of_block (a := ⟨gf, of + k, none⟩) (hu.block gf hgf (by simp; exact hglg))).trans cf0
          have HT64 := Lib.hid hT64
          have HS := Lib.hid hsucc
          have HNOW := Lib.hid hnow
          clear hcell hfc hf cf0 hy hfate hT hsucc hT64 hnow hdk hget hmem hpk hx n0 n1 hN hu
          go_wp2_with fail
          go_loopw [6] (fun i wx => ∃ j : Nat, j ≤ DK.kOf y ∧ i = .int .i64 j ∧ RowL wx lg lc d.last.length (T.set N (DK.lay j x (T.getD N []))) ∧ Upd [lg] w wx) (fun i _ => DK.kOf y - (intOf i).toNat)
          case atStart => exact ⟨0, Nat.zero_le _, rfl, by rw [lay_zero, set_self]; exact HR.out, HU.out⟩
          case round =>
            obtain ⟨j, hj, rfl, hr2, hu2⟩ := hrel
            have k1 := H1.out.upd hu2 (by simp; exact d1)
            have c0 := k1.cell (o := 0) rfl
            have c1 := k1.cell (o := 1) rfl
            have cf := CF.out hu2
            have HR2 := Lib.hid hr2
            have HU2 := Lib.hid hu2
            clear k1
            by_cases hjK : j < DK.kOf y
            · obtain ⟨j64, jy⟩ := kOf_lt.1 hjK
              have j64' : (j : Int) < 64 := by omega
              have hLl : (T.set N (DK.lay j x (T.getD N []))).length = d.last.length := by rw [List.length_set]; exact hTl
              have hlay64 : (DK.lay j x (T.getD N [])).length = 64 := DK.lay_len (by omega) x64 hold
              have hL64 := set_len64 HT64.out hlay64 N
              have cN := row_cell (H3.out.upd hu2 (fun g hg => by simp [Value.ownBlock] at hg; subst hg; simp; exact fun e => d4 e.symm)) (DK.now_64 hw) (n := N) (by omega) j j64
              rw [HNOW.out] at cN
              have cL := row_cell hr2.row hL64 (n := N) (by omega) j j64
              have fL := World.ownsRow.frozenAt hr2.row (N * 64 + j)
              have hnew := row_set hr2.row hL64 (n := N) (by omega) j j64 (x.getD j 0)
              have hgN : (T.set N (DK.lay j x (T.getD N []))).getD N [] = DK.lay j x (T.getD N []) := by
                rw [List.getD_eq_getElem?_getD, List.getElem?_set_self (by omega)]; rfl
              rw [hgN, lay_step j64 x64 hold, List.set_set, List.length_set] at hnew
              obtain ⟨z, hz⟩ : ∃ z, z = x.getD j 0 := ⟨_, rfl⟩
              rw [← hz] at cN hnew
              have HNEW := Lib.hid hnew
              clear hr2 hu2 hz hnew hgN hL64 hlay64 hLl
              go_upto_region 8 with fail
              refine wp_region_still_tail 17 mixed (by kernel_rfl) ?_
              simp only [List.take_succ_cons, List.take_zero, List.drop_succ_cons, List.drop_zero]
              iterate 17 still_step
              refine wpStill_nil ?_
              change wpList _ _ _ _ _ wr.drew
              go_wp2_with fail
              go_roundw
              case rel => exact ⟨j + 1, by omega, by go_num, ⟨by rw [List.length_set]; exact hTl, by rw [List.length_set]; exact HNEW.out⟩, (HU2.out.setCell (.inl (by simp)) _).drew⟩
              case measure => simp [intOf]; omega
            · have hjK2 : j = DK.kOf y := by omega
              have key : (j = 64) ∨ (j < 64 ∧ decide ((j : Int) < y) = false) := by
                have : ¬ (j < 64 ∧ (j : Int) < y) := fun h => hjK ((kOf_lt (y := y) (j := j)).2 h)
                have h64 := DK.kOf_le y
                simp only [decide_eq_false_iff_not]; omega
              rw [← hjK2] at HS
              clear hr2 hu2 hjK hjK2 hj
              rcases key with rfl | ⟨j64, q2⟩
              · rw [show (((64 : Nat)) : Int) = 64 from rfl]
                go_wp2_with fail
                go_roundw
                case rel => exact ⟨k + 1, by omega, by go_num, by rw [HS.out]; exact HR2.out, HU2.out⟩
                case measure => simp [intOf]; omega
              · have j64' : (j : Int) < 64 := by omega
                go_wp2_with fail
                go_roundw
                case rel => exact ⟨k + 1, by omega, by go_num, by rw [HS.out]; exact HR2.out, HU2.out⟩
                case measure => simp [intOf]; omega
        · have key : decide (k < d.fresh.length) = false ∨ (decide (k < d.fresh.length) = true ∧ decide (k < fs.length) = false) := by
            simp only [decide_eq_true_eq, decide_eq_false_iff_not]; omega
          have he : partL fs d d.fresh.length = partL fs d k := by
            unfold partL
            rw [settle_take fs d.fresh d.last k (by omega), List.take_of_length_le (Nat.le_refl _)]
          have HE := Lib.hid he
          clear hend he hu
          rcases key with q1 | ⟨q1, q2⟩
          all_goals
            go_wp2_with fail
            go_meet
            exact ⟨by rw [HE.out]; exact HR.out, HU.out⟩
    case rest =>
      obtain ⟨hr, hu⟩ := hcut
      have hlenP := partL_len fs d d.fresh.length
      have e1 : (d.crash fs).last = partL fs d d.fresh.length := by
        unfold DK.crash partL; rw [HD.out, List.take_of_length_le (Nat.le_refl _)]; rfl
      have e2 : (d.crash fs).fresh = [] := by unfold DK.crash; rw [HD.out]; rfl
      have e3 := now_clean e2
      have e4 : (d.crash fs).down = true := by unfold DK.crash; rw [HD.out]; rfl
      obtain ⟨T, hT⟩ : ∃ T, T = partL fs d d.fresh.length := ⟨_, rfl⟩
      rw [← hT] at hr hlenP e1
      have hrow : RowAt wc (.slice (some ⟨lg, 0, none⟩) d.last.length lc) T := by have := hr.row; rw [hlenP] at this; exact this
      have hown : wc.ownsRow 0 54 64 (.slice (some ⟨lg, 0, none⟩) d.last.length lc) d.last.length (rowC T) := by have := hrow; unfold RowAt at this; rw [hlenP] at this; exact this
      have k1 := H1.out.upd hu (by simp; exact d1)
      have c0 := (k1.upd ((Upd.refl [] wc).alloc (.cells #[] 54)) (by simp)).cell (o := 0) rfl
      obtain ⟨i0, hi0, hz0, hz1, hz2⟩ := info_parts info_arr'
      have K1 := Lib.hid k1
      have HU := Lib.hid hu
      have HO := Lib.hid hown
      have HRW := Lib.hid hrow
      have HLP := Lib.hid hlenP
      have E := Lib.hid (And.intro e1 (And.intro e2 (And.intro e3 e4)))
      clear hT hr hu hrow hown k1 hlenP e1 e2 e3 e4 c3
      go_wp2_with (first
        | ((with_reducible show wpList _ _ _ (⟨_, .call { callee := .builtin .append, args := #[.tmp 63, .tmp 67], argTypes := _ }, _, _, _, _⟩ :: _) _ _)
           refine wpList_append_row rfl (.tmp 63) (.tmp 67) 60 rfl wc.heap.size 0 54 i0 (.agg (U8 DK.zeros)) 64 64 Try.underlying60 hi0 hz0 hz1 hz2 (by rfl) (by decide) wc.heap.size 0 0 [] rfl (World.ownsRow_lit wc #[] 0 (Nat.le_refl _) (by unfold maxLen; omega) rfl) _ d.last.length _ rfl (HO.out.alloc _)
             (rowC_one _) (by unfold maxLen; omega) (by omega) (by simp) fun g3 lc3 w3 ho3 hg3 => ?_
           have hu3 : Upd [] wc w3 := ((Upd.refl [] wc).alloc _).grown hg3 (fun k hk => .inr (by simp at hk; omega))
           have hgb3 := (ho3.lt g3 rfl).1
           have ho3' : w3.ownsRow 0 54 64 (.slice (some ⟨g3, 0, none⟩) d.last.length lc3) d.last.length (rowC T) := by rw [Nat.zero_add] at ho3; exact own_base ho3
           have j1 := K1.out.upd hu3 (by simp)
           have f1 := j1.free 1
           have k1 := j1.cell (o := 1) rfl
           have j2 := j1.set 1 (.slice (some ⟨g3, 0, none⟩) d.last.length lc3)
           have f2 := j2.free 2
           have k2 := j2.cell (o := 2) rfl
           have j3 := j2.set 2 (.slice none 0 0)
           have f3 := j3.free 3
           have k3 := j3.cell (o := 3) rfl))
      go_end0
      have lb := HLT.out b (by simp)
      have ll := HLT.out lg (by simp)
      have ln := HLT.out ng (by simp)
      have sw := HU.out.size
      have j4 := j3.set 3 (.bool true)
      have hu6 : Upd [b] w3 ((((w3.setCell ⟨b, 1, none⟩ (.slice (some ⟨g3, 0, none⟩) d.last.length lc3)).setCell ⟨b, 2, none⟩ (.slice none 0 0)).setCell ⟨b, 3, none⟩ (.bool true))) := (((Upd.refl [b] w3).setCell (.inl (by simp)) _).setCell (.inl (by simp)) _).setCell (.inl (by simp)) _
      have hu7 := (hu3.mono (T := [b]) (by simp)).trans hu6
      obtain ⟨e1, e2, e3, e4⟩ := E.out
      have hlP := HLP.out
      refine ⟨rfl, [b, lg, g3], ⟨lg, lc, g3, lc3, .slice none 0 0, rfl, by simp; omega, hw.crash fs, ?_, ?_, ?_, ?_⟩, (HU.out.mono (by simp)).trans (hu7.mono (by simp)), ?_⟩
      · rw [e3, e1, e4, hlP]; exact j4
      · rw [e1, hlP]; exact HRW.out.upd hu7 (fun g hg => by simp [Value.ownBlock] at hg; subst hg; simp; omega)
      · rw [e3, e1, hlP]
        have := own_upd ho3' hu6 (fun g hg => by simp [Value.ownBlock] at hg; subst hg; simp; omega)
        unfold RowAt; rw [hlP]; exact this
      · rw [e2]; exact World.ownsRow_nil _ _ _ _
      · intro k hk
        simp only [List.mem_cons, List.not_mem_nil, or_false] at hk
        rcases hk with rfl | rfl | rfl
        · exact .inl (by simp)
        · exact .inl (by simp)
        · exact .inr (by omega)

end Go.Proofs.Ytfjmkdjbeoafjaa
