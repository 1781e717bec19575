/- The walk of LatticeJoins. -/
import Derived.Test.YtbdmnmjdnfpfbaaLatZB
import Derived.Test.YtbdmnmjdnfpfbaaLatS
import Derived.Test.YtbdmnmjdnfpfbaaLatT
namespace Go.Proofs.Ytbdmnmjdnfpfbaa
open Go.ChangeShapes Go.WideShapes Go.ChangeAt Go.RowKit

set_option maxRecDepth 100000 in
set_option maxHeartbeats 4000000 in
theorem LatticeJoins.walk (nodes : Int) (v1 : Value) (L1 : List FK) (v2 : Value) (L2 : List FK) (v3 : Value) (L3 : List FK) (w : World) (_ : (Lit.int .i64 nodes).wf = true) (h1 : FI w v1 L1) (h2 : FI w v2 L2) (h3 : FI w v3 L3) :
    Calls Try.prog 5 #[.int .i64 nodes, v1, v2, v3] w fun e w' => e = .returned (.bool true) ∧ Below w.heap.size w w' := by
  obtain ⟨X, hX⟩ : ∃ X, X = grownL nodes (plainL L1 40) 40 := ⟨_, rfl⟩
  obtain ⟨Y, hY⟩ : ∃ X, X = grownL nodes (plainL L2 40) 40 := ⟨_, rfl⟩
  obtain ⟨Z, hZ⟩ : ∃ X, X = grownL nodes (plainL L3 40) 40 := ⟨_, rfl⟩
  have px : Plain nodes X := by rw [hX]; exact plain_grown _ _ _ _
  have py : Plain nodes Y := by rw [hY]; exact plain_grown _ _ _ _
  have pz : Plain nodes Z := by rw [hZ]; exact plain_grown _ _ _ _
  have lx : X.length ≤ 40 := by rw [hX]; exact grownL_len _ _ _
  have ly : Y.length ≤ 40 := by rw [hY]; exact grownL_len _ _ _
  have lz : Z.length ≤ 40 := by rw [hZ]; exact grownL_len _ _ _
  obtain ⟨P, hP⟩ : ∃ P, P = mergeL nodes X Y := ⟨_, rfl⟩
  have pp : Plain nodes P := by rw [hP]; exact px.merged py
  have lp : P.length ≤ X.length + Y.length := by rw [hP]; exact mergeL_len2 _ _ _
  obtain ⟨M, hM⟩ : ∃ M, M = mergeL nodes P Z := ⟨_, rfl⟩
  have pm : Plain nodes M := by rw [hM]; exact pp.merged pz
  obtain ⟨R, hR⟩ : ∃ R, R = mergeL nodes Y Z := ⟨_, rfl⟩
  have e1 : mergeL nodes Y X = P := by rw [hP]; exact merge_comm px py (by omega)
  have e2 : mergeL nodes X R = M := by rw [hM, hP, hR]; exact merge_assoc px py pz (by omega)
  have e3 : mergeL nodes P Y = P := merge_again pp py (by omega) fun f hf => by rw [hP, merge_mem px py (by omega)]; exact .inr hf
  have e4 : mergeL nodes X X = X := merge_again px px (by omega) fun f hf => hf
  have HEX := Lib.hid hX
  have HEY := Lib.hid hY
  have HEZ := Lib.hid hZ
  have HEP := Lib.hid hP
  have HEM := Lib.hid hM
  have HER := Lib.hid hR
  have HE1 := Lib.hid e1
  have HE2 := Lib.hid e2
  have HE3 := Lib.hid e3
  have HE4 := Lib.hid e4
  have HCX := Lib.hid (ok_less_1000 px.good)
  have HCP := Lib.hid (ok_less_1000 pp.good)
  have HCM := Lib.hid (ok_less_1000 pm.good)
  have HLX : Hid (X.length ≤ 1000) := Lib.hid (by omega)
  have HLY : Hid (Y.length ≤ 1000) := Lib.hid (by omega)
  have HLP : Hid (P.length ≤ 1000) := Lib.hid (by omega)
  have H1 := Lib.hid h1
  have H2 := Lib.hid h2
  have H3 := Lib.hid h3
  obtain ⟨a1, c1, rfl⟩ := h1.form
  obtain ⟨a2, c2, rfl⟩ := h2.form
  obtain ⟨a3, c3, rfl⟩ := h3.form
  clear hX hY hZ px py pz lx ly lz hP pp lp hM pm hR e1 e2 e3 e4 h1 h2 h3
  go_enter Try.func5, Try.ntmps5
  go_upto_region 4 with (go_at_call 12; refine (awake_any _).mono ?_; rintro e w2 ⟨rfl, hu2⟩
                         have HU := Lib.hid hu2
                         clear hu2)
  go_upto_region 5 with (first
    | (go_at_call 18; refine (plain_fi 40 (by omega) (H1.out.upd0 HU.out)).mono ?_; rintro e w3 ⟨pv, rfl, hp, hu3⟩
       have HP1 := Lib.hid hp
       have HU := Lib.hid (HU.out.trans hu3)
       clear hp hu3)
    | (go_at_call 13; refine (grown_fi nodes 40 HP1.out).mono ?_; rw [← HEX.out]; rintro e w4 ⟨xv, rfl, hx, hu4⟩
       have HX := Lib.hid hx
       obtain ⟨xa, xc, rfl⟩ := hx.form
       have HU := Lib.hid (HU.out.trans hu4)
       clear hx hu4))
  clear HP1
  go_upto_region 6 with (first
    | (go_at_call 18; refine (plain_fi 40 (by omega) (H2.out.upd0 HU.out)).mono ?_; rintro e w3 ⟨pv, rfl, hp, hu3⟩
       have HP1 := Lib.hid hp
       have HX := Lib.hid (HX.out.upd0 hu3)
       have HU := Lib.hid (HU.out.trans hu3)
       clear hp hu3)
    | (go_at_call 13; refine (grown_fi nodes 40 HP1.out).mono ?_; rw [← HEY.out]; rintro e w4 ⟨yv, rfl, hy, hu4⟩
       have HY := Lib.hid hy
       obtain ⟨ya, yc, rfl⟩ := hy.form
       have HX := Lib.hid (HX.out.upd0 hu4)
       have HU := Lib.hid (HU.out.trans hu4)
       clear hy hu4))
  clear HP1
  go_upto_region 7 with (first
    | (go_at_call 18; refine (plain_fi 40 (by omega) (H3.out.upd0 HU.out)).mono ?_; rintro e w3 ⟨pv, rfl, hp, hu3⟩
       have HP1 := Lib.hid hp
       have HX := Lib.hid (HX.out.upd0 hu3)
       have HY := Lib.hid (HY.out.upd0 hu3)
       have HU := Lib.hid (HU.out.trans hu3)
       clear hp hu3)
    | (go_at_call 13; refine (grown_fi nodes 40 HP1.out).mono ?_; rw [← HEZ.out]; rintro e w4 ⟨zv, rfl, hz, hu4⟩
       have HZ := Lib.hid hz
       obtain ⟨za, zc, rfl⟩ := hz.form
       have HX := Lib.hid (HX.out.upd0 hu4)
       have HY := Lib.hid (HY.out.upd0 hu4)
       have HU := Lib.hid (HU.out.trans hu4)
       clear hz hu4))
  clear HP1 H1 H2 H3 HEX HEY HEZ
  go_upto_region 8 with (go_at_call 16; refine (merge_fi nodes HX.out HY.out HLX.out).mono ?_; rw [← HEP.out]; rintro e w5 ⟨pv, rfl, hp, hu5⟩
                         have HP := Lib.hid hp
                         obtain ⟨pa, pc, rfl⟩ := hp.form
                         have HX := Lib.hid (HX.out.upd0 hu5)
                         have HY := Lib.hid (HY.out.upd0 hu5)
                         have HZ := Lib.hid (HZ.out.upd0 hu5)
                         have HU := Lib.hid (HU.out.trans hu5)
                         clear hp hu5)
  go_upto_region 9 with (first
    | (go_at_call 15; refine (same11_yes HP.out HQ.out HCP.out).mono ?_; rintro e w6 ⟨rfl, hu6⟩
       have HP := Lib.hid (HP.out.upd0 hu6)
       have HX := Lib.hid (HX.out.upd0 hu6)
       have HY := Lib.hid (HY.out.upd0 hu6)
       have HZ := Lib.hid (HZ.out.upd0 hu6)
       have HU := Lib.hid (HU.out.trans hu6)
       clear hu6)
    | (go_at_call 16; refine (merge_fi nodes HY.out HX.out HLY.out).mono ?_; rw [HE1.out]; rintro e w5 ⟨qv, rfl, hq, hu5⟩
       have HQ := Lib.hid hq
       have HP := Lib.hid (HP.out.upd0 hu5)
       have HX := Lib.hid (HX.out.upd0 hu5)
       have HY := Lib.hid (HY.out.upd0 hu5)
       have HZ := Lib.hid (HZ.out.upd0 hu5)
       have HU := Lib.hid (HU.out.trans hu5)
       clear hq hu5))
  clear HQ
  go_upto_region 10 with (first
    | (go_at_call 15; refine (same11_yes HM1.out HM2.out HCM.out).mono ?_; rintro e w6 ⟨rfl, hu6⟩
       have HP := Lib.hid (HP.out.upd0 hu6)
       have HX := Lib.hid (HX.out.upd0 hu6)
       have HY := Lib.hid (HY.out.upd0 hu6)
       have HU := Lib.hid (HU.out.trans hu6)
       clear hu6)
    | (go_at_call 16; refine (merge_fi nodes HX.out HR.out HLX.out).mono ?_; rw [HE2.out]; rintro e w7 ⟨mv, rfl, hm, hu7⟩
       have HM2 := Lib.hid hm
       have HM1 := Lib.hid (HM1.out.upd0 hu7)
       have HP := Lib.hid (HP.out.upd0 hu7)
       have HX := Lib.hid (HX.out.upd0 hu7)
       have HY := Lib.hid (HY.out.upd0 hu7)
       have HU := Lib.hid (HU.out.trans hu7)
       clear hm hu7)
    | (go_at_call 16; refine (merge_fi nodes HY.out (HM1.out.elimZ HZ.out) HLY.out).mono ?_; rw [← HER.out]; rintro e w8 ⟨rv, rfl, hr, hu8⟩
       have HR := Lib.hid hr
       have HM1 := Lib.hid (HM1.out.upd0 hu8)
       have HP := Lib.hid (HP.out.upd0 hu8)
       have HX := Lib.hid (HX.out.upd0 hu8)
       have HY := Lib.hid (HY.out.upd0 hu8)
       have HU := Lib.hid (HU.out.trans hu8)
       clear hr hu8)
    | (go_at_call 16; refine (merge_fi nodes HP.out HZ.out HLP.out).mono ?_; rw [← HEM.out]; rintro e w9 ⟨mv, rfl, hm, hu9⟩
       have HM1 := Lib.hid hm
       have HP := Lib.hid (HP.out.upd0 hu9)
       have HX := Lib.hid (HX.out.upd0 hu9)
       have HY := Lib.hid (HY.out.upd0 hu9)
       have HZ := Lib.hid (HZ.out.upd0 hu9)
       have HU := Lib.hid (HU.out.trans hu9)
       clear hm hu9))
  clear HM1 HM2 HR
  go_upto_region 11 with (first
    | (go_at_call 15; refine (same11_yes HN2.out HX.out HCX.out).mono ?_; rintro e w6 ⟨rfl, hu6⟩
       have HU := Lib.hid (HU.out.trans hu6)
       clear hu6)
    | (go_at_call 16; refine (merge_fi nodes (FI.elimT HDONE.out HX.out) HX.out HLX.out).mono ?_; rw [HE4.out]; rintro e w7 ⟨nv, rfl, hn, hu7⟩
       have HN2 := Lib.hid hn
       have HX := Lib.hid (HX.out.upd0 hu7)
       have HU := Lib.hid (HU.out.trans hu7)
       clear hn hu7)
    | (go_at_call 15; refine (same11_yes HN1.out HP.out HCP.out).mono ?_; rintro e w6 ⟨rfl, hu6⟩
       have HX := Lib.hid (HX.out.upd0 hu6)
       have HU := Lib.hid (HU.out.trans hu6)
       have HDONE : Hid True := Lib.hid trivial
       clear hu6)
    | (go_at_call 16; refine (merge_fi nodes HP.out HY.out HLP.out).mono ?_; rw [HE3.out]; rintro e w7 ⟨nv, rfl, hn, hu7⟩
       have HN1 := Lib.hid hn
       have HP := Lib.hid (HP.out.upd0 hu7)
       have HX := Lib.hid (HX.out.upd0 hu7)
       have HU := Lib.hid (HU.out.trans hu7)
       clear hn hu7))
  go_wp2_with fail
  go_ret
  exact ⟨rfl, HU.out.toBelow⟩

end Go.Proofs.Ytbdmnmjdnfpfbaa
