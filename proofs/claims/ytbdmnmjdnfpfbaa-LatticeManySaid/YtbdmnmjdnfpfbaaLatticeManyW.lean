/- The walk of LatticeMany. -/
import Derived.Test.YtbdmnmjdnfpfbaaLatX
namespace Go.Proofs.Ytbdmnmjdnfpfbaa
open Go.ChangeShapes Go.WideShapes Go.ChangeAt Go.RowKit

set_option maxRecDepth 100000 in
set_option maxHeartbeats 4000000 in
theorem LatticeMany.walk (many : Int) (fv : Value) (f : FK × Value) (w : World) (hmw : (Lit.int .u16 many).wf = true) (hfe : fv = .agg (encF f.1 f.2).toArray) (hf : f.1.WF) (hc : CI w f.2 f.1.chunks) :
    Calls Try.prog 7 #[.int .u16 many, fv] w fun e w' => e = .returned (.bool true) ∧ Below w.heap.size w w' := by
  subst hfe
  obtain ⟨f, fv⟩ := f
  have hf : f.WF := hf
  have hc : CI w fv f.chunks := hc
  have hmr : 0 ≤ many ∧ many ≤ 65535 := by
    have e1 : IntKind.u16.min = 0 := by decide
    have e2 : IntKind.u16.max = 65535 := by decide
    simp [Lit.wf, e1, e2] at hmw
    omega
  obtain ⟨hm1, hm2⟩ := hmr
  have hcv : IntKind.i64.wrap many = many := IntWalk.i64_in _ (by omega)
  obtain ⟨n, hn⟩ : ∃ n : Nat, 150 + many % 60 = (n : Int) := ⟨(150 + many % 60).toNat, by omega⟩
  have hn2 : n ≤ 209 := by omega
  have hn1 : 150 ≤ n := by omega
  have HF := Lib.hid hf
  have HC := Lib.hid hc
  obtain ⟨w1, hw1⟩ : ∃ w1, w1 = w.alloc (.cells (encF f fv).toArray 31) := ⟨_, rfl⟩
  obtain ⟨hb, hu⟩ := boxed w (encF f fv).toArray 31
  rw [← hw1] at hb hu
  obtain ⟨tb, htb⟩ : ∃ x, x = w.heap.size := ⟨_, rfl⟩
  rw [← htb] at hb
  have HB1 := Lib.hid hb
  have HU1 := Lib.hid hu
  have HW1 := Lib.hid hw1
  have HTB := Lib.hid htb
  clear hw1 hb hu htb hf hc hmw
  go_enter Try.func7, Try.ntmps7
  go_upto_region 1 with fail
  rw [← HW1.out, ← HTB.out]
  go_upto_region 4 with (go_at_call 12; refine (awake_any _).mono ?_; rintro e w2 ⟨rfl, hu2⟩
                         have HB2 := Lib.hid (HB1.out.upd hu2 (by simp))
                         have HU2 := Lib.hid (HU1.out.trans hu2)
                         have HL2 := Lib.hid (CellsAt.of_blk HB2.out)
                         clear hu2)
  clear HB1 HU1 HW1 HTB
  obtain ⟨fw, hfw⟩ : ∃ x, x = f.few := ⟨_, rfl⟩
  have HFW := Lib.hid hfw
  clear hfw
  go_upto_if 20 with (first
    | ((with_reducible show wpList _ _ _ (⟨some 18, _, _, _, _, _⟩ :: _) _ _); refine wpList_run rfl (fact_load (.tmp 3) rfl rfl HL2.out HF.out) ?_)
    | (go_at_call 14; refine (few_any f fv _ (HC.out.upd0 HU2.out)).mono ?_; rw [← HFW.out]; rintro e w3 ⟨rfl, hu3⟩
       have HB3 := Lib.hid (HB2.out.upd hu3 (by simp))
       have HU3 := Lib.hid (HU2.out.trans hu3)
       have HL3 := Lib.hid (CellsAt.of_blk HB3.out)
       clear hu3))
  clear HB2 HU2 HL2 HFW
  cases fw with
  | false =>
    go_wp2_with fail
    go_ret
    exact ⟨rfl, HU3.out.toBelow⟩
  | true =>
    simp only [Bool.not_true]
    go_upto_region 9 with fail
    go_loopw [6, 8] (fun lv i wx => ∃ (m : Nat), m ≤ n ∧ i = .int .i64 m ∧ FI wx lv (manyL m) ∧ Upd [] w3 wx) (fun _ i _ => n - (intOf i).toNat)
    case atStart => exact ⟨0, Nat.zero_le _, rfl, FI.nil _, Upd.refl _ _⟩
    case round =>
      obtain ⟨m, hm, rfl, hl, hu⟩ := hrel
      have HU := Lib.hid hu
      have HL := Lib.hid hl
      obtain ⟨la, lc, rfl⟩ := hl.form
      clear hl hu
      obtain ⟨ln, hln⟩ : ∃ x, x = (manyL m).length := ⟨_, rfl⟩
      have hinv : ln = min m 200 := by rw [hln]; exact (many_inv m (by omega)).1
      have HLN := Lib.hid hln
      have HINV := Lib.hid hinv
      have hln200 : ln ≤ 200 := by omega
      have HLEN : Hid ((manyL m).length ≤ 1000) := Lib.hid (by omega)
      rw [← hln] at HL ⊢
      clear hln hinv
      by_cases hlt : m < n
      · have HCODE := Lib.hid (many_code (i := m) (by omega))
        have HST : Hid (FK.bare 2 (1600 + 16 * ((m : Int) / 9)) ((m : Int) % 9) = stepF m) := Lib.hid (by unfold stepF; simp)
        by_cases h2 : m < 200
        · go_upto_region 12 with (first
            | ((with_reducible show wpList _ _ _ (⟨some 38, _, _, _, _, _⟩ :: _) _ _); refine wpList_run rfl (exec_bare rfl rfl rfl rfl) ?_)
            | (go_at_call 19; rw [HST.out]; refine (add_fi (f := stepF m) (cv := .slice none 0 0) 9 HL.out (stepF_wf m) (stepF_ci _ m) HLEN.out).mono ?_; rw [HCODE.out, if_pos h2]; rintro e w5 ⟨bv, rfl, hb5, hu5⟩
               have HL5 : Hid (FI w5 bv (manyL (m + 1))) := Lib.hid hb5
               have HU5 := Lib.hid (HU.out.trans hu5)
               clear hb5 hu5))
          have h2' : (m : Int) < 200 := by omega
          go_wp2_with fail
          go_roundw
          case rel => exact ⟨m + 1, by omega, by go_num, HL5.out, HU5.out⟩
          case measure => simp [intOf]; omega
        · go_upto_region 12 with (first
            | ((with_reducible show wpList _ _ _ (⟨some 38, _, _, _, _, _⟩ :: _) _ _); refine wpList_run rfl (exec_bare rfl rfl rfl rfl) ?_)
            | (go_at_call 19; rw [HST.out]; refine (add_fi (f := stepF m) (cv := .slice none 0 0) 9 HL.out (stepF_wf m) (stepF_ci _ m) HLEN.out).mono ?_; rw [HCODE.out, if_neg h2]; rintro e w5 ⟨bv, rfl, hb5, hu5⟩
               have HL5 : Hid (FI w5 bv (manyL (m + 1))) := Lib.hid hb5
               have HU5 := Lib.hid (HU.out.trans hu5)
               clear hb5 hu5))
          have h2' : (200 : Int) ≤ (m : Int) := by omega
          go_wp2_with fail
          go_roundw
          case rel => exact ⟨m + 1, by omega, by go_num, HL5.out, HU5.out⟩
          case measure => simp [intOf]; omega
      · obtain rfl : n = m := by omega
        clear hlt hm
        have HB4 := Lib.hid (HB3.out.upd HU.out (by simp))
        have HU4 := Lib.hid (HU3.out.trans HU.out)
        have HC4 := Lib.hid (HC.out.upd0 HU4.out)
        have HL4 := Lib.hid (CellsAt.of_blk HB4.out)
        obtain ⟨L, hL⟩ : ∃ L, L = manyL n := ⟨_, rfl⟩
        rw [← hL] at HL HLN HLEN
        obtain ⟨B, hB⟩ : ∃ B, B = addL 9 L f := ⟨_, rfl⟩
        obtain ⟨bn, hbn⟩ : ∃ x, x = B.length := ⟨_, rfl⟩
        have hbn2 : bn ≤ 200 := by rw [hbn, hB]; exact many_last _ _ (by rw [← HLN.out]; omega)
        obtain ⟨cd, hcd⟩ : ∃ x, x = addCode 9 L f := ⟨_, rfl⟩
        obtain ⟨ck, hck⟩ : ∃ x, x = f.chk 9 := ⟨_, rfl⟩
        obtain ⟨hs, hhs⟩ : ∃ x, x = hasL L f.kind f.epoch f.node := ⟨_, rfl⟩
        have key : (ck = 100 ∧ cd = 100) ∨ (ck = 0 ∧ hs = true ∧ cd = 0) ∨ (ck = 0 ∧ hs = false ∧ ((cd = 110 ∧ 200 ≤ ln) ∨ (cd = 0 ∧ ln < 200))) := by
          rw [hck, hcd, hhs, HLN.out]
          unfold FK.chk addCode
          cases h1 : f.ok 9 with
          | false => left; simp
          | true =>
            right
            cases h2 : hasL L f.kind f.epoch f.node with
            | true => left; simp
            | false =>
              right
              by_cases h3 : 200 ≤ L.length
              · simp [h3]
              · simp [h3]; omega
        have HKEY := Lib.hid key
        have HEB := Lib.hid hB
        have HBN := Lib.hid hbn
        have HECD := Lib.hid hcd
        have HECK := Lib.hid hck
        have HEHS := Lib.hid hhs
        clear hL hB hbn hcd hck hhs key
        go_upto_region 16 with (first
          | ((with_reducible show wpList _ _ _ (⟨some 57, _, _, _, _, _⟩ :: _) _ _); refine wpList_run rfl (fact_load (.tmp 3) rfl rfl HL4.out HF.out) ?_)
          | (go_at_call 19; refine (add_fi 9 HL.out HF.out HC4.out HLEN.out).mono ?_; rw [← HECD.out, ← HEB.out]; rintro e w5 ⟨bv, rfl, hb5, hu5⟩
             have HBL := Lib.hid hb5
             obtain ⟨ba, bc, rfl⟩ := hb5.form
             have HL5 := Lib.hid (HL.out.upd0 hu5)
             have HB5 := Lib.hid (HB4.out.upd hu5 (by simp))
             have HU5 := Lib.hid (HU4.out.trans hu5)
             have HC5 := Lib.hid (HC4.out.upd0 hu5)
             have HCL5 := Lib.hid (CellsAt.of_blk HB5.out)
             clear hb5 hu5))
        rw [← HBN.out]
        have c0 : w5.cell? ⟨tb, 0, none⟩ = some (.int .i64 f.kind) := HB5.out.cell (o := 0) rfl
        have c1 : w5.cell? ⟨tb, 1, none⟩ = some (.int .i64 f.epoch) := HB5.out.cell (o := 1) rfl
        have c2 : w5.cell? ⟨tb, 2, none⟩ = some (.int .i64 f.node) := HB5.out.cell (o := 2) rfl
        go_upto_region 17 with (go_at_call 22; refine (has_fi f.kind f.epoch f.node HL5.out HLEN.out).mono ?_; rw [← HEHS.out]; rintro e w6 ⟨rfl, hu6⟩
                                have HB6 := Lib.hid (HB5.out.upd hu6 (by simp))
                                have HL6 := Lib.hid (CellsAt.of_blk HB6.out)
                                have HC6 := Lib.hid (HC5.out.upd0 hu6)
                                have HU6 := Lib.hid (HU5.out.trans hu6)
                                clear hu6)
        clear c0 c1 c2
        go_upto_region 18 with (first
          | ((with_reducible show wpList _ _ _ (⟨some 69, _, _, _, _, _⟩ :: _) _ _); refine wpList_run rfl (fact_load (.tmp 3) rfl rfl HL6.out HF.out) ?_)
          | (go_at_call 20; refine (check_fi 9 HF.out HC6.out).mono ?_; rw [← HECK.out]; rintro e w7 ⟨rfl, hu7⟩
             have HU7 := Lib.hid (HU6.out.trans hu7)
             clear hu7))
        have hb2 : (bn : Int) ≤ 200 := by omega
        have hinv := HINV.out
        rcases Nat.lt_or_ge n 200 with h5 | h5
        · obtain rfl : ln = n := by omega
          clear hinv
          have h6 : (ln : Int) < 200 := by omega
          rcases HKEY.out with ⟨rfl, rfl⟩ | ⟨rfl, rfl, rfl⟩ | ⟨rfl, rfl, ⟨rfl, h3⟩ | ⟨rfl, h3⟩⟩
          · go_wp2_with fail
            all_goals (go_ret; exact ⟨rfl, HU7.out.toBelow⟩)
          · go_wp2_with fail
            all_goals (go_ret; exact ⟨rfl, HU7.out.toBelow⟩)
          · omega
          · go_wp2_with fail
            all_goals (go_ret; exact ⟨rfl, HU7.out.toBelow⟩)
        · obtain rfl : ln = 200 := by omega
          clear hinv
          have h6 : ¬ (n : Int) < 200 := by omega
          rcases HKEY.out with ⟨rfl, rfl⟩ | ⟨rfl, rfl, rfl⟩ | ⟨rfl, rfl, ⟨rfl, h3⟩ | ⟨rfl, h3⟩⟩
          · go_wp2_with fail
            all_goals (go_ret; exact ⟨rfl, HU7.out.toBelow⟩)
          · go_wp2_with fail
            all_goals (go_ret; exact ⟨rfl, HU7.out.toBelow⟩)
          · go_wp2_with fail
            all_goals (go_ret; exact ⟨rfl, HU7.out.toBelow⟩)
          · omega

end Go.Proofs.Ytbdmnmjdnfpfbaa
