/- The walk of Records, with the room of what it gives; a beginning of a list of lists of bytes. -/
import Derived.Test.YtfjmkdjbeoafjaaJrnC
namespace Go.Proofs.Ytfjmkdjbeoafjaa
open Go.ChangeShapes Go.WideShapes Go.ChangeAt Go.RowKit

set_option maxHeartbeats 1000000 in
theorem jrecords_cap (j : Nat) (J : List Nat) (p : Nat) (k : JK) (w : World) (h : JAt w j J p k) :
    Calls Try.prog 15 #[.pointer (some ⟨j, 0, none⟩)] w fun e w' => ∃ v T, e = .returned v ∧ ListsAt w' T v k.recs ∧ (∀ g ∈ T, w.heap.size ≤ g ∧ g < w'.heap.size) ∧ Upd [] w w' ∧ ∃ a cap, v = .slice a k.recs.length cap ∧ k.recs.length ≤ cap := by
  have hJ := h.lt
  have HJ := Lib.hid h
  obtain ⟨rv, rvs, T, rfl, h1, h2, h3, h4, h5, h6, h7⟩ := h
  have c5 := h5.cell (o := 5) rfl
  obtain ⟨a, cap, rfl⟩ := own_slice h6
  have hlen : k.recs.length ≤ 4096 := by have := h4.recs; have := h4.used; have := h4.room; omega
  have H6 := Lib.hid h6
  have H7 := Lib.hid h7
  have HS := Lib.hid h4.small
  have hcl : ∀ i, i < k.recs.length → ∃ g, a = some ⟨g, 0, none⟩ ∧ w.cell? ⟨g, i, none⟩ = some (rvs.getD i undef) := by
    intro i hi
    rcases h6.2 with ⟨e, hn⟩ | ⟨g, cap', cur, e, hb, hg, hnc, hcm, hcs, htk⟩
    · omega
    · cases e
      refine ⟨g, rfl, Blk.cell hg ?_⟩
      rw [Nat.mul_one] at htk
      have hlt : i < rvs.length := by rw [h7.1]; exact hi
      have h1 : (cur.toList.take k.recs.length)[i]? = some (rvs.getD i undef) := by
        rw [htk, List.getD_eq_getElem?_getD, List.getElem?_eq_getElem hlt]; rfl
      rw [List.getElem?_take, if_pos hi] at h1
      simpa using h1
  have HCL := Lib.hid hcl
  obtain ⟨n, hn⟩ : ∃ n, n = k.recs.length := ⟨_, rfl⟩
  rw [← hn] at c5 hlen
  have HN := Lib.hid hn
  clear h1 h2 h3 h4 h5 h6 h7 hcl hn hJ
  go_enter Try.func15, Try.ntmps15
  go_wp2
  go_loopw [2, 12] (fun ov i wx => ∃ (m : Nat) (us : List Value) (U : List Nat), m ≤ n ∧ i = .int .i64 m ∧ wx.ownsRow w.heap.size 31 1 ov m us ∧ RecsAt wx U us (k.recs.take m) ∧ (∀ g, ov.ownBlock = some g → g ∉ U) ∧ (∀ g ∈ U, w.heap.size ≤ g ∧ g < wx.heap.size) ∧ Upd [] w wx) (fun _ i _ => n - (intOf i).toNat)
  case atStart => exact ⟨0, [], [], Nat.zero_le _, rfl, World.ownsRow_nil _ _ _ _, RecsAt.nil _ _, by simp, by simp, Upd.refl _ _⟩
  case round =>
    obtain ⟨m, us, U, hm, rfl, ho, hr, hd, hU, hu⟩ := hrel
    have HO := Lib.hid ho
    have HR := Lib.hid hr
    have HD := Lib.hid hd
    have HU := Lib.hid hU
    have HW := Lib.hid hu
    by_cases hlt : m < n
    · have hlt2 : m < k.recs.length := by rw [← HN.out]; exact hlt
      obtain ⟨g, rfl, hc⟩ := HCL.out m hlt2
      have hgw : g < w.heap.size := World.block_lt_of_cell? w _ hc
      have hc' := (World.cell?_of_block (a := ⟨g, m, none⟩) (hu.block g hgw (by simp))).trans hc
      have hb := ((H7.out.2 m hlt2).1).upd0 hu
      have hsm := HS.out (k.recs.getD m []) (by rw [List.getD_eq_getElem?_getD, List.getElem?_eq_getElem hlt2]; exact List.getElem_mem hlt2)
      obtain ⟨bv, hbv⟩ : ∃ bv, bv = rvs.getD m undef := ⟨_, rfl⟩
      rw [← hbv] at hc' hb
      obtain ⟨rc, hrc⟩ : ∃ rc, rc = k.recs.getD m [] := ⟨_, rfl⟩
      rw [← hrc] at hb hsm
      have HRC := Lib.hid hrc
      clear hrc
      have HB := Lib.hid hb
      have hx0 : (0 : Int) ≤ (m : Int) := by omega
      have hx1 : (m : Int) < (n : Int) := by omega
      obtain ⟨oa, oc, rfl⟩ := own_slice ho
      clear ho hr hd hU hu hc hb hbv
      go_upto_region 6 with fail
      go_wp2_with (first
        | (go_at_call 40; refine (clone8_any bv rc _ HB.out (by omega)).mono ?_; rintro e w2 ⟨cv, rfl, hcb, hcn, hu2⟩
           obtain ⟨ca, cc, rfl⟩ := hcb.form
           have HCB := Lib.hid hcb
           have HCN := Lib.hid hcn
           have HU2 := Lib.hid hu2
           have hz := HW.out.size
           have hz2 := hu2.size
           clear hcb hcn hu2)
        | ((with_reducible show wpList _ _ _ (⟨some 19, _, _, _, _, _⟩ :: _) _ _)
           go_loud (refine wpList_push 19 20 37 31 (.tmp 16) (.tmp 18) (.slice none 0 0) 1 24 Try.underlying37 info_row rfl (by omega) (by omega) w.heap.size (.slice oa m oc) m us _ rfl rfl rfl rfl rfl rfl (by simp) (by simp) rfl rfl (own_upd HO.out HU2.out (by simp)) rfl (one_slice _ _ _) (by unfold maxLen; omega) (by omega) (by omega) ?_)
           intro g' cap' w3 ho3 hu3 hat3 hlt3 hb3
           have HU3 := Lib.hid hu3
           have HAT3 := Lib.hid hat3
           have HO3 := Lib.hid ho3
           clear hu3 hat3 ho3 hlt3 hb3))
      have hst := rec_step (lo := w.heap.size) (HR.out.upd HU2.out (by simp)) HCB.out (fun x hx => ⟨Nat.le_trans hz (HCN.out x hx).1, (HCN.out x hx).2⟩) (fun x hx => ⟨HD.out x hx, fun e => by have h1 := (HCN.out x e).1; have h2 := (HO.out.lt x hx).2; omega⟩) (fun x hx => ⟨(HU.out x hx).1, by have := (HU.out x hx).2; omega⟩) HU3.out HAT3.out
      have hu4 : Upd [] w w3 := (HW.out.trans HU2.out).then HU3.out (fun x hx => .inr (HO.out.lt x (by simpa using hx)).1)
      have htk : k.recs.take m ++ [rc] = k.recs.take (m + 1) := by rw [HRC.out, List.take_succ_eq_append_getElem hlt2, List.getD_eq_getElem?_getD, List.getElem?_eq_getElem hlt2]; rfl
      rw [htk] at hst
      have HST := Lib.hid hst
      have HU4 := Lib.hid hu4
      clear hst hu4 htk
      go_roundw
      case rel => exact ⟨m + 1, _, _, by omega, by go_num, HO3.out, HST.out.1, fun x hx => by simp [Value.ownBlock] at hx; subst hx; exact HST.out.2.1, HST.out.2.2, HU4.out⟩
      case measure => simp [intOf]; omega
    · obtain rfl : m = n := by omega
      clear ho hr hd hU hu hlt
      go_wp2
      go_ret
      refine ⟨_, _, rfl, ListsAt.of_own HO.out HN.out (by rw [List.take_of_length_le (by rw [HN.out]; exact Nat.le_refl _)] at HR; exact HR.out), fun x hx => ?_, HW.out, ?_⟩
      rcases List.mem_append.1 hx with hx | hx
      · exact HO.out.lt x (by simpa using hx)
      · exact HU.out x hx
      · obtain ⟨oa, oc, rfl⟩ := own_slice HO.out
        refine ⟨oa, oc, by rw [← HN.out]; rfl, ?_⟩
        rw [← HN.out]
        rcases HO.out.2 with ⟨-, hn⟩ | ⟨g, cap', cur, e, hb, hg, hnc, -⟩
        · omega
        · cases e; exact hnc

/-- 's[:h]' of a slice of one-cell elements. -/
theorem exec_slice_h {P : Program} {a : Act} {w : World} {o : Oper} (t : TypeId) (x z : Operand) (ho : o.op = .slice t x none (some z) none) (ht : P.underlying t = some (.slice (P.elem t))) (hs : (P.info? (P.elem t)).map (·.size) = some 1)
    {b : Option Addr} {n cap h : Nat} {kh : IntKind} (hx : a.eval x = .slice b n cap) (hz : a.eval z = .int kh h) (h2 : h ≤ cap) :
    ∃ b', (execOp a.eval o).run P w = .ok (.value (.slice b' h cap)) w ∧ (b' = b ∨ b' = b.map (fun x => x.add 0)) := by
  have hz' : ∀ w, (sizeOf (P.elem t)).run P w = .ok 1 w := by
    intro w
    cases hq : P.info? (P.elem t) with
    | none => simp [hq] at hs
    | some i => simp [hq] at hs; simp [sizeOf, typeInfo, hq, hs]
  have e1 := run_slice_h (P := P) (w := w) t b n cap ht kh (h : Int) (by omega) (by omega)
  rw [hz', Result.andThen_ok] at e1
  refine ⟨if cap = 0 then b else b.map (fun x => x.add 0), ?_, ?_⟩
  · have e2 : sliced b 0 (h : Int).toNat cap 1 = .slice (if cap = 0 then b else b.map (fun x => x.add 0)) h cap := by
      unfold sliced
      rw [Int.toNat_natCast, Nat.sub_zero, Nat.sub_zero]
    rw [e2] at e1
    unfold execOp
    simp only [ho, hx, hz, Option.map_some, Option.map_none, Sem.run_bind, run_sliceAt_slice _ t _ _ _ _ ht, e1, Result.andThen_ok, Sem.run_pure]
  · split
    · exact .inl rfl
    · exact .inr rfl

theorem wpList_sliceH {P : Program} {a : Act} {w : World} {o : Oper} {ops : Array Oper} {Q : Exit → Act → World → Prop} {rest : List Oper} (hgd : o.guard = none) (t : TypeId) (x z : Operand) (ho : o.op = .slice t x none (some z) none) (ht : P.underlying t = some (.slice (P.elem t))) (hs : (P.info? (P.elem t)).map (·.size) = some 1)
    {b : Option Addr} {n cap h : Nat} {kh : IntKind} (hx : a.eval x = .slice b n cap) (hz : a.eval z = .int kh h) (h2 : h ≤ cap)
    (k : ∀ b', (b' = b ∨ b' = b.map (fun x => x.add 0)) → wpList P ops Q rest (a.put o.dst (.slice b' h cap)) w) : wpList P ops Q (o :: rest) a w := by
  obtain ⟨b', e, hb⟩ := exec_slice_h (w := w) t x z ho ht hs hx hz h2
  exact wpList_run hgd e (k b' hb)

/-- A beginning of such a list. -/
theorem ListsAt.begin {w : World} {T : List Nat} {b b' : Option Addr} {n cap : Nat} {L : List (List Int)} (h : ListsAt w T (.slice b n cap) L) (hb : b' = b ∨ b' = b.map (fun x => x.add 0)) {m : Nat} (hm : m ≤ L.length) : ListsAt w T (.slice b' m cap) (L.take m) := by
  obtain ⟨a, cap', e, hm2, hc⟩ := h
  cases e
  have hl : (L.take m).length = m := by rw [List.length_take]; omega
  refine ⟨b', cap, by rw [hl], by omega, fun hne => ?_⟩
  have hne2 : L ≠ [] := by intro e; apply hne; rw [e]; simp
  obtain ⟨g, off, rfl, h1, h2, h3⟩ := hc hne2
  have e : b' = some ⟨g, off, none⟩ := by
    have hadd : (⟨g, off, none⟩ : Addr).add 0 = ⟨g, off, none⟩ := by unfold Addr.add; split <;> simp_all
    rcases hb with rfl | rfl
    · rfl
    · simp [hadd]
  refine ⟨g, off, e, h1, h2, fun i hi => ?_⟩
  rw [hl] at hi
  obtain ⟨u, h4, h5, h6⟩ := h3 i (by omega)
  have eg : (L.take m).getD i [] = L.getD i [] := by rw [List.getD_eq_getElem?_getD, List.getElem?_take, if_pos hi, ← List.getD_eq_getElem?_getD]
  exact ⟨u, h4, by rw [eg]; exact h5, by rw [eg]; exact h6⟩

end Go.Proofs.Ytfjmkdjbeoafjaa
