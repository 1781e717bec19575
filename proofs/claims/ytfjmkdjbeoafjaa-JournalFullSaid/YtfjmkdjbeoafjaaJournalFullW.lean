/- The walk of JournalFull. -/
import Derived.Test.YtfjmkdjbeoafjaaJrnN
namespace Go.Proofs.Ytfjmkdjbeoafjaa
open Go.ChangeShapes Go.WideShapes Go.ChangeAt Go.RowKit

set_option maxRecDepth 100000 in
set_option maxHeartbeats 4000000 in
theorem JournalFull.walk (a0 : Int) (v0 : Value) (l : List (List Int)) (w : World) (ha0 : (Lit.int .u8 a0).wf = true) (hl : ListsAt w (List.range w.heap.size) v0 l) (hu8 : ∀ b ∈ l, U8L b) :
    Calls Try.prog 8 #[.int .u8 a0, v0] w fun e w' => e = .returned (.bool true) ∧ Below w.heap.size w w' := by
  have ha : 0 ≤ a0 ∧ a0 ≤ 255 := by
    have e1 : IntKind.u8.min = 0 := by decide
    have e2 : IntKind.u8.max = 255 := by decide
    simp [Lit.wf, e1, e2] at ha0
    omega
  obtain ⟨ha1, ha2⟩ := ha
  obtain ⟨n, hn⟩ : ∃ n : Nat, a0 % 31 = (n : Int) := ⟨(a0 % 31).toNat, by omega⟩
  have hn30 : n ≤ 30 := by omega
  obtain ⟨la, lc, rfl, hlm, hlb⟩ := hl
  have HLB := Lib.hid hlb
  have HU8 := Lib.hid hu8
  clear hlb hu8 ha0
  unfold maxLen at hlm
  go_enter Try.func8, Try.ntmps8
  go_wp2_with fail
  refine (awake_any _).mono ?_
  rintro e w1 ⟨rfl, hu1⟩
  go_wp2_with fail
  refine (new_law 30 w (by omega) (by omega) hu1).mono ?_
  rintro e w2 ⟨p, S, rfl, hd, hu2, hS⟩
  have HD := Lib.hid hd
  clear hd hu1 hu2 hS
  go_wp2_with fail
  refine (bopen_law (n := n) HD.out (Fr.new (by omega)) (by decide) (DK.Byt.new _) rfl).mono ?_
  rintro e w3 ⟨j, J, rfl, hb, -, -⟩
  have HB3 := Lib.hid hb
  have HW3 : Hid (WantAt w w3 (S ++ J) (.slice none 0 0) [] []) := Lib.hid WantAt.nil
  have HN := Lib.hid hn
  clear hb HD hn
  go_upto_block 0 with fail
  go_cut [11] (fun wv wx => ∃ (us : List Value) (S J : List Nat) (d : DK) (k : JK) (L : Int), BInv w wx p S d j J k L ∧ WantAt w wx (S ++ J) wv us k.recs ∧ k.from_ = 0 ∧ k.blocks = n ∧ k.life = 1)
  case first =>
    go_wp2_with fail
    go_loopw [11, 12] (fun wv i wx => ∃ (m : Nat) (us : List Value) (S J : List Nat) (d : DK) (k : JK) (L : Int), m ≤ 20 ∧ m ≤ l.length ∧ i = .int .i64 m ∧ BInv w wx p S d j J k L ∧ WantAt w wx (S ++ J) wv us k.recs ∧ k.from_ = 0 ∧ k.blocks = n ∧ k.life = 1 ∧ k.used ≤ n ∧ k.recs.length ≤ m) (fun _ i _ => 20 - (intOf i).toNat)
    case atStart => exact ⟨0, [], S, J, _, _, _, by omega, Nat.zero_le _, rfl, HB3.out, HW3.out, rfl, rfl, rfl, Nat.zero_le _, by simp⟩
    case round =>
      obtain ⟨m, us, S5, J5, d, k, L, hm10, hml, rfl, hb5, hw5, hk0, hk1, hk2, hk3, hk4⟩ := hrel
      have HB5 := Lib.hid hb5
      have HK := Lib.hid (show k.from_ = 0 ∧ k.blocks = n ∧ k.life = 1 ∧ k.used ≤ n ∧ k.recs.length ≤ m from ⟨hk0, hk1, hk2, hk3, hk4⟩)
      obtain ⟨wa, wc, rfl⟩ := own_slice hw5.own
      obtain ⟨rl, hrl⟩ : ∃ rl, rl = k.recs.length := ⟨_, rfl⟩
      rw [← hrl] at hw5 hk4 ⊢
      have HW5 := Lib.hid hw5
      have HRL := Lib.hid hrl
      clear hb5 hw5 hk0 hk1 hk2 hk3 hrl HB3 HW3
      by_cases hend : m < 20 ∧ m < l.length
      · obtain ⟨h10, hlt⟩ := hend
        obtain ⟨g, off, ba, bc, rfl, hcell, hbat, hbT⟩ := lists_elem HLB.out hlt
        obtain ⟨b, hb⟩ : ∃ b, b = l.getD m [] := ⟨_, rfl⟩
        rw [← hb] at hcell hbat hbT
        have hbu : U8L b := HU8.out b (by rw [hb, List.getD_eq_getElem?_getD, List.getElem?_eq_getElem hlt]; exact List.getElem_mem hlt)
        obtain ⟨n1, hn1⟩ : ∃ n1, n1 = b.length := ⟨_, rfl⟩
        rw [← hn1] at hcell hbat hbT
        have hgl : g < w.heap.size := World.block_lt_of_cell? w _ hcell
        have hc5 := (World.cell?_of_block (a := ⟨g, off + m, none⟩) (HB5.out.jd.disk.upd.block g hgl (by simp))).trans hcell
        have hnd : ((n1 : Int) + 43) / 44 = ((needJ b : Nat) : Int) := by unfold needJ; omega
        obtain ⟨nd, hndx⟩ : ∃ nd, nd = needJ b := ⟨_, rfl⟩
        obtain ⟨rm, hrm⟩ : ∃ rm, rm = n - k.used := ⟨_, rfl⟩
        rw [← hndx] at hnd
        have hroom : Hid (∀ J w, JAt w j J p k → Calls Try.prog 20 #[.pointer (some ⟨j, 0, none⟩)] w fun e w' => e = .returned (.int .i64 (rm : Int)) ∧ Upd [] w w') := Lib.hid (fun J w h => by
          have h1 := jroom_any j J p k w h
          have h2 := HK.out.2.1
          have h3 := HK.out.2.2.2.1
          rw [show (k.blocks : Int) - (k.used : Int) = (rm : Int) by omega] at h1; exact h1)
        have hrm30 : rm ≤ 30 := by omega
        have HCELL := Lib.hid hcell
        have HBA := Lib.hid hbat
        have HBT := Lib.hid hbT
        have HBU := Lib.hid hbu
        have HN1 := Lib.hid hn1
        have HNDX := Lib.hid hndx
        have HRM := Lib.hid hrm
        have h10' : (m : Int) < 20 := by omega
        have hlt' : (m : Int) < (l.length : Int) := by omega
        have hx0 : (0 : Int) ≤ (m : Int) := by omega
        have key : (decide ((300 : Int) < (n1 : Int)) = true) ∨ n1 = 0 ∨
            (decide ((300 : Int) < (n1 : Int)) = false ∧ ((n1 : Int) == 0) = false ∧ 0 < n1 ∧ n1 ≤ 300 ∧ decide (rm < nd) = true ∧ decide (nd ≤ rm) = false ∧ rm < nd) ∨
            (decide ((300 : Int) < (n1 : Int)) = false ∧ ((n1 : Int) == 0) = false ∧ 0 < n1 ∧ n1 ≤ 300 ∧ decide (rm < nd) = false ∧ decide (nd ≤ rm) = true ∧ nd ≤ rm) := by
          simp only [decide_eq_true_eq, decide_eq_false_iff_not, beq_eq_false_iff_ne, ne_eq]; omega
        have HND := Lib.hid hnd
        clear hcell hbat hbT hbu hn1 hb hndx hrm hnd
        rcases key with q1 | rfl | ⟨q1, q2, q3, q4, q5, q6, q7⟩ | ⟨q1, q2, q3, q4, q5, q6, q7⟩
        · go_wp2_with fail
          go_roundw
          case rel => exact ⟨m + 1, us, S5, J5, d, k, L, by omega, by omega, by go_num, HB5.out, HW5.out, HK.out.1, HK.out.2.1, HK.out.2.2.1, HK.out.2.2.2.1, by have h1 := HK.out.2.2.2.2; omega⟩
          case measure => simp [intOf]; omega
        · have hcd : k.code b = 71 := by unfold JK.code; rw [if_pos (.inl HN1.out.symm)]
          have HCD := Lib.hid hcd
          have HAP := Lib.hid (app_no (k := k) (b := b) (by rw [hcd]; decide))
          clear hcd
          go_wp2_with (first
            | (go_at_call 20; refine (hroom.out J5 _ HB5.out.jd.jrn).mono ?_; rintro e w6 ⟨rfl, hu6⟩
               have hc6 := (World.cell?_of_block (a := ⟨g, off + m, none⟩) (hu6.block g (Nat.lt_of_lt_of_le hgl HB5.out.jd.disk.upd.size) (by simp))).trans hc5
               have HB6 := Lib.hid (HB5.out.quiet hu6)
               have HW6 := Lib.hid (HW5.out.keep (Keep.quiet hu6))
               clear hu6 hc5)
            | (go_at_call 13; refine (bapp_law HB6.out _ b HBA.out HBU.out).mono ?_; rw [HCD.out, HAP.out]; rintro e w7 ⟨rfl, S7, J7, L7, hb7, hk7⟩
               have hc7 := (World.cell?_of_block (a := ⟨g, off + m, none⟩) (hb7.jd.disk.upd.block g hgl (by simp))).trans HCELL.out
               have HB7 := Lib.hid hb7
               have HW7 := Lib.hid (HW6.out.keep hk7)
               clear hb7 hk7 hc6)
            | (go_at_call 15; refine (jrecords_any j J7 p k _ HB7.out.jd.jrn).mono ?_; rintro e w8 ⟨rv, T, rfl, hl8, -, hu8⟩
               have HL8 := Lib.hid hl8
               have HB8 := Lib.hid (HB7.out.quiet hu8)
               have HW8 := Lib.hid (HW7.out.keep (Keep.quiet hu8))
               clear hl8 hu8)
            | (go_at_call 19; refine (bsame_any rv _ k.recs T _ _ HL8.out (HW8.out.lists HB8.out.jd.disk.upd)).mono ?_; rintro e w9 ⟨rfl, hu9⟩
               have HB9 := Lib.hid (HB8.out.quiet hu9)
               have HW9 := Lib.hid (HW8.out.keep (Keep.quiet hu9))
               clear hu9))
          refine (hroom.out J7 _ HB9.out.jd.jrn).mono ?_
          rintro e w10 ⟨rfl, hu10⟩
          have HB10 := Lib.hid (HB9.out.quiet hu10)
          have HW10 := Lib.hid (HW9.out.keep (Keep.quiet hu10))
          clear hu10
          go_wp2_with fail
          go_roundw
          case rel => exact ⟨m + 1, us, S7, J7, _, k, L7, by omega, by omega, by go_num, HB10.out, HW10.out, HK.out.1, HK.out.2.1, HK.out.2.2.1, HK.out.2.2.2.1, by have h1 := HK.out.2.2.2.2; omega⟩
          case measure => simp [intOf]; omega
        · have hcd : k.code b = 70 := by
            have h1 := HN1.out
            have h2 := HRM.out
            have h3 := HNDX.out
            have h4 := HK.out.2.1
            unfold JK.code; rw [if_neg (by omega), if_pos (by omega)]
          have HCD := Lib.hid hcd
          have HAP := Lib.hid (app_no (k := k) (b := b) (by rw [hcd]; decide))
          clear hcd
          have hnd := HND.out
          go_wp2_with (first
            | (go_at_call 20; refine (hroom.out J5 _ HB5.out.jd.jrn).mono ?_; rintro e w6 ⟨rfl, hu6⟩
               have hc6 := (World.cell?_of_block (a := ⟨g, off + m, none⟩) (hu6.block g (Nat.lt_of_lt_of_le hgl HB5.out.jd.disk.upd.size) (by simp))).trans hc5
               have HB6 := Lib.hid (HB5.out.quiet hu6)
               have HW6 := Lib.hid (HW5.out.keep (Keep.quiet hu6))
               clear hu6 hc5)
            | (go_at_call 13; refine (bapp_law HB6.out _ b HBA.out HBU.out).mono ?_; rw [HCD.out, HAP.out]; rintro e w7 ⟨rfl, S7, J7, L7, hb7, hk7⟩
               have hc7 := (World.cell?_of_block (a := ⟨g, off + m, none⟩) (hb7.jd.disk.upd.block g hgl (by simp))).trans HCELL.out
               have HB7 := Lib.hid hb7
               have HW7 := Lib.hid (HW6.out.keep hk7)
               clear hb7 hk7 hc6)
            | (go_at_call 15; refine (jrecords_any j J7 p k _ HB7.out.jd.jrn).mono ?_; rintro e w8 ⟨rv, T, rfl, hl8, -, hu8⟩
               have HL8 := Lib.hid hl8
               have HB8 := Lib.hid (HB7.out.quiet hu8)
               have HW8 := Lib.hid (HW7.out.keep (Keep.quiet hu8))
               clear hl8 hu8)
            | (go_at_call 19; refine (bsame_any rv _ k.recs T _ _ HL8.out (HW8.out.lists HB8.out.jd.disk.upd)).mono ?_; rintro e w9 ⟨rfl, hu9⟩
               have HB9 := Lib.hid (HB8.out.quiet hu9)
               have HW9 := Lib.hid (HW8.out.keep (Keep.quiet hu9))
               clear hu9))
          refine (hroom.out J7 _ HB9.out.jd.jrn).mono ?_
          rintro e w10 ⟨rfl, hu10⟩
          have HB10 := Lib.hid (HB9.out.quiet hu10)
          have HW10 := Lib.hid (HW9.out.keep (Keep.quiet hu10))
          clear hu10
          go_wp2_with fail
          go_roundw
          case rel => exact ⟨m + 1, us, S7, J7, _, k, L7, by omega, by omega, by go_num, HB10.out, HW10.out, HK.out.1, HK.out.2.1, HK.out.2.2.1, HK.out.2.2.2.1, by have h1 := HK.out.2.2.2.2; omega⟩
          case measure => simp [intOf]; omega
        · have hcd : k.code b = 0 := by
            have h1 := HN1.out
            have h2 := HRM.out
            have h3 := HNDX.out
            have h4 := HK.out.2.1
            unfold JK.code; rw [if_neg (by omega), if_neg (by omega)]
          have HCD := Lib.hid hcd
          have HAP := Lib.hid (app_ok hcd)
          have hroom2 : Hid (∀ J w, JAt w j J p (k.push b) → Calls Try.prog 20 #[.pointer (some ⟨j, 0, none⟩)] w fun e w' => e = .returned (.int .i64 ((rm : Int) - (nd : Int))) ∧ Upd [] w w') := Lib.hid (fun J w h => by
            have h1 := jroom_any j J p (k.push b) w h
            have h2 := HK.out.2.1
            have h3 := HK.out.2.2.2.1
            have h4 := HRM.out
            have h5 := HNDX.out
            have h6 : (k.push b).used = k.used + needJ b := rfl
            have h7 : (k.push b).blocks = k.blocks := rfl
            rw [show ((k.push b).blocks : Int) - ((k.push b).used : Int) = (rm : Int) - (nd : Int) by omega] at h1; exact h1)
          clear hcd
          have hnd := HND.out
          go_wp2_with (first
            | (go_at_call 20; refine (hroom.out J5 _ HB5.out.jd.jrn).mono ?_; rintro e w6 ⟨rfl, hu6⟩
               have hc6 := (World.cell?_of_block (a := ⟨g, off + m, none⟩) (hu6.block g (Nat.lt_of_lt_of_le hgl HB5.out.jd.disk.upd.size) (by simp))).trans hc5
               have HB6 := Lib.hid (HB5.out.quiet hu6)
               have HW6 := Lib.hid (HW5.out.keep (Keep.quiet hu6))
               clear hu6 hc5)
            | (go_at_call 13; refine (bapp_law HB6.out _ b HBA.out HBU.out).mono ?_; rw [HCD.out, HAP.out]; rintro e w7 ⟨rfl, S7, J7, L7, hb7, hk7⟩
               have hc7 := (World.cell?_of_block (a := ⟨g, off + m, none⟩) (hb7.jd.disk.upd.block g hgl (by simp))).trans HCELL.out
               have HB7 := Lib.hid hb7
               have HW7 := Lib.hid (HW6.out.keep hk7)
               clear hb7 hk7 hc6)
            | ((with_reducible show wpList _ _ _ (⟨some 120, _, _, _, _, _⟩ :: _) _ _)
               go_loud (refine wpList_push 120 121 37 31 (.tmp 115) (.tmp 119) (.slice none 0 0) 1 24 Try.underlying37 info_row rfl (by omega) (by omega) w.heap.size (.slice wa rl wc) rl us (.slice ba n1 bc) rfl rfl rfl rfl rfl rfl (by simp) (by simp) rfl rfl (by have h1 := HW7.out.own; rw [← HRL.out] at h1; exact h1) rfl (one_slice _ _ _) (by unfold maxLen; omega) (by omega) (HB7.out.jd.disk.upd.size) ?_)
               intro g2 cap2 w8 ho8 hu8 hat8 hlt8 hb8
               have HO8 := Lib.hid ho8
               have HU8x := Lib.hid hu8
               have HAT8 := Lib.hid hat8
               clear ho8 hu8 hat8 hlt8 hb8))
          have hb8 := HB7.out.beside HU8x.out (fun x hx => ⟨HW7.out.out x (by simpa using hx), (HW7.out.own.lt x (by simpa using hx)).1⟩)
          have hw8 : WantAt w w8 (S7 ++ J7) (.slice (some ⟨g2, 0, none⟩) (rl + 1) cap2) (us ++ [.slice ba n1 bc]) (k.recs ++ [b]) :=
            HW7.out.push HBA.out (HBT.out (by intro e; have h1 := HN1.out; rw [e] at h1; simp at h1; omega)) (by rw [← HRL.out]; exact HO8.out) rfl HB7.out.jd.all_lt HAT8.out
          have HB8 := Lib.hid hb8
          have HW8 := Lib.hid hw8
          clear hb8 hw8 HB7 HW7 HB6 HW6 HB5 HW5
          refine (jrecords_any j J7 p (k.push b) _ HB8.out.jd.jrn).mono ?_
          rintro e w9 ⟨rv, T, rfl, hl9, -, hu9⟩
          have HL9 := Lib.hid hl9
          have HB9 := Lib.hid (HB8.out.quiet hu9)
          have HW9 := Lib.hid (HW8.out.keep (Keep.quiet hu9))
          clear hl9 hu9
          go_wp2_with fail
          refine (bsame_any rv _ (k.recs ++ [b]) T _ _ HL9.out (HW9.out.lists HB9.out.jd.disk.upd)).mono ?_
          rintro e w10 ⟨rfl, hu10⟩
          have HB10 := Lib.hid (HB9.out.quiet hu10)
          have HW10 := Lib.hid (HW9.out.keep (Keep.quiet hu10))
          clear hu10
          go_wp2_with fail
          refine (hroom2.out J7 _ HB10.out.jd.jrn).mono ?_
          rintro e w11 ⟨rfl, hu11⟩
          have HB11 := Lib.hid (HB10.out.quiet hu11)
          have HW11 := Lib.hid (HW10.out.keep (Keep.quiet hu11))
          clear hu11
          go_wp2_with fail
          go_roundw
          case rel => exact ⟨m + 1, _, S7, J7, _, k.push b, L7, by omega, by omega, by go_num, HB11.out, HW11.out, HK.out.1, HK.out.2.1, HK.out.2.2.1, by have h1 := HK.out.2.2.2.1; have h2 := HRM.out; have h3 := HNDX.out; show k.used + needJ b ≤ n; omega, by have h1 := HK.out.2.2.2.2; show (k.recs ++ [b]).length ≤ _; rw [List.length_append, List.length_singleton]; omega⟩
          case measure => simp [intOf]; omega
      · have key : decide (m < l.length) = false ∨ (decide (m < l.length) = true ∧ m = 20) := by
          simp only [decide_eq_true_eq, decide_eq_false_iff_not]; omega
        clear hend hm10 hml
        rcases key with q1 | ⟨q1, rfl⟩
        · go_wp2_with fail
          go_meet
          exact ⟨us, S5, J5, d, k, L, HB5.out, HW5.out, HK.out.1, HK.out.2.1, HK.out.2.2.1⟩
        · rw [show (((20 : Nat)) : Int) = 20 from rfl]
          have q1' : decide ((20 : Int) < (l.length : Int)) = true := by simp only [decide_eq_true_eq] at q1 ⊢; omega
          go_wp2_with fail
          go_meet
          exact ⟨us, S5, J5, d, k, L, HB5.out, HW5.out, HK.out.1, HK.out.2.1, HK.out.2.2.1⟩
  case rest =>
    obtain ⟨us, S5, J5, d, k, L, hb5, hw5, hk0, hk1, hk2⟩ := hcut
    have HB5 := Lib.hid hb5
    have HW5 := Lib.hid hw5
    have hfr : Fr d 0 n L k.used k.recs := by have h1 := hb5.ji.1; rw [hk0, hk1] at h1; exact h1
    have hL : L ≤ 1 := by have h1 := hb5.ji.2.1; omega
    have HFR := Lib.hid hfr
    obtain ⟨wa, wc, rfl⟩ := own_slice hw5.own
    clear hb5 hw5 hk0 hk1 hk2 hfr HB3 HW3
    go_wp2_with fail
    refine (bopen_law (n := n) HB5.out.jd.disk HFR.out (by omega) HB5.out.byt HN.out).mono ?_
    rintro e w6 ⟨j2, J2, rfl, hb6, hu6, -⟩
    have HB6 := Lib.hid hb6
    have HU6 := Lib.hid hu6
    clear hb6 hu6
    go_wp2_with fail
    refine (jrecords_any j2 J2 p _ _ HB6.out.jd.jrn).mono ?_
    rintro e w7 ⟨rv, T, rfl, hl7, -, hu7⟩
    have HL7 : Hid (ListsAt w7 T rv k.recs) := Lib.hid hl7
    have HU7 := Lib.hid (HU6.out.trans hu7)
    clear hl7 hu7
    go_wp2_with fail
    refine (bsame_any rv _ k.recs T _ _ HL7.out ((HW5.out.lists HB5.out.jd.disk.upd).upd0 HU7.out)).mono ?_
    rintro e w8 ⟨rfl, hu8⟩
    have HU8' := Lib.hid (HU7.out.trans hu8)
    clear hu8
    go_wp2_with fail
    go_ret
    exact ⟨rfl, (HB5.out.jd.disk.upd.trans HU8'.out).toBelow⟩

end Go.Proofs.Ytfjmkdjbeoafjaa
