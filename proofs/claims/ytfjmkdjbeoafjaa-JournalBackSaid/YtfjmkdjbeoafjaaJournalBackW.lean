/- The walk of JournalBack. -/
import Derived.Test.YtfjmkdjbeoafjaaJrnN
namespace Go.Proofs.Ytfjmkdjbeoafjaa
open Go.ChangeShapes Go.WideShapes Go.ChangeAt Go.RowKit

set_option maxRecDepth 100000 in
set_option maxHeartbeats 4000000 in
theorem JournalBack.walk (v0 : Value) (l : List (List Int)) (w : World) (hl : ListsAt w (List.range w.heap.size) v0 l) (hu8 : ∀ b ∈ l, U8L b) :
    Calls Try.prog 5 #[v0] w fun e w' => e = .returned (.bool true) ∧ Below w.heap.size w w' := by
  obtain ⟨la, lc, rfl, hlm, hlb⟩ := hl
  have HLB := Lib.hid hlb
  have HU8 := Lib.hid hu8
  clear hlb hu8
  unfold maxLen at hlm
  go_enter Try.func5, Try.ntmps5
  go_wp2_with fail
  refine (awake_any _).mono ?_
  rintro e w1 ⟨rfl, hu1⟩
  go_wp2_with fail
  refine (new_law 100 w (by omega) (by omega) hu1).mono ?_
  rintro e w2 ⟨p, S, rfl, hd, hu2, hS⟩
  have HD := Lib.hid hd
  clear hd hu1 hu2 hS
  go_wp2_with fail
  refine (bopen_law (n := 100) HD.out (Fr.new (by decide)) (by decide) (DK.Byt.new _) rfl).mono ?_
  rintro e w3 ⟨j, J, rfl, hb, -, -⟩
  have HB3 := Lib.hid hb
  have HW3 : Hid (WantAt w w3 (S ++ J) (.slice none 0 0) [] []) := Lib.hid WantAt.nil
  clear hb HD
  go_upto_block 0 with fail
  go_cut [8] (fun wv wx => ∃ (us : List Value) (S J : List Nat) (d : DK) (k : JK) (L : Int), BInv w wx p S d j J k L ∧ WantAt w wx (S ++ J) wv us k.recs ∧ k.from_ = 0 ∧ k.blocks = 100 ∧ k.life = 1)
  case first =>
    go_wp2_with fail
    go_loopw [8, 9] (fun wv i wx => ∃ (m : Nat) (us : List Value) (S J : List Nat) (d : DK) (k : JK) (L : Int), m ≤ 10 ∧ m ≤ l.length ∧ i = .int .i64 m ∧ BInv w wx p S d j J k L ∧ WantAt w wx (S ++ J) wv us k.recs ∧ k.from_ = 0 ∧ k.blocks = 100 ∧ k.life = 1 ∧ k.used ≤ 7 * m ∧ k.recs.length ≤ m) (fun _ i _ => 10 - (intOf i).toNat)
    case atStart => exact ⟨0, [], S, J, _, _, _, by omega, Nat.zero_le _, rfl, HB3.out, HW3.out, rfl, rfl, rfl, by simp, by simp⟩
    case round =>
      obtain ⟨m, us, S5, J5, d, k, L, hm10, hml, rfl, hb5, hw5, hk0, hk1, hk2, hk3, hk4⟩ := hrel
      have HB5 := Lib.hid hb5
      have HK := Lib.hid (show k.from_ = 0 ∧ k.blocks = 100 ∧ k.life = 1 ∧ k.used ≤ 7 * m ∧ k.recs.length ≤ m from ⟨hk0, hk1, hk2, hk3, hk4⟩)
      obtain ⟨wa, wc, rfl⟩ := own_slice hw5.own
      obtain ⟨rl, hrl⟩ : ∃ rl, rl = k.recs.length := ⟨_, rfl⟩
      rw [← hrl] at hw5 hk4 ⊢
      have HW5 := Lib.hid hw5
      have HRL := Lib.hid hrl
      clear hb5 hw5 hk0 hk1 hk2 hk3 hrl HB3 HW3
      by_cases hend : m < 10 ∧ m < l.length
      · obtain ⟨h10, hlt⟩ := hend
        obtain ⟨g, off, ba, bc, rfl, hcell, hbat, hbT⟩ := lists_elem HLB.out hlt
        obtain ⟨b, hb⟩ : ∃ b, b = l.getD m [] := ⟨_, rfl⟩
        rw [← hb] at hcell hbat hbT
        have hbu : U8L b := HU8.out b (by rw [hb, List.getD_eq_getElem?_getD, List.getElem?_eq_getElem hlt]; exact List.getElem_mem hlt)
        obtain ⟨n1, hn1⟩ : ∃ n1, n1 = b.length := ⟨_, rfl⟩
        rw [← hn1] at hcell hbat hbT
        have hgl : g < w.heap.size := World.block_lt_of_cell? w _ hcell
        have hc5 := (World.cell?_of_block (a := ⟨g, off + m, none⟩) (HB5.out.jd.disk.upd.block g hgl (by simp))).trans hcell
        have HCELL := Lib.hid hcell
        have HBA := Lib.hid hbat
        have HBT := Lib.hid hbT
        have HBU := Lib.hid hbu
        have HN1 := Lib.hid hn1
        have h10' : (m : Int) < 10 := by omega
        have hlt' : (m : Int) < (l.length : Int) := by omega
        have hx0 : (0 : Int) ≤ (m : Int) := by omega
        have key : (decide ((300 : Int) < (n1 : Int)) = true) ∨ n1 = 0 ∨ (decide ((300 : Int) < (n1 : Int)) = false ∧ 0 < n1 ∧ n1 ≤ 300) := by
          simp only [decide_eq_true_eq, decide_eq_false_iff_not]; omega
        clear hcell hbat hbT hbu hn1 hb
        rcases key with q1 | rfl | ⟨q1, q2, q3⟩
        · go_wp2_with fail
          go_roundw
          case rel => exact ⟨m + 1, us, S5, J5, d, k, L, by omega, by omega, by go_num, HB5.out, HW5.out, HK.out.1, HK.out.2.1, HK.out.2.2.1, by have := HK.out.2.2.2.1; omega, by have h1 := HK.out.2.2.2.2; omega⟩
          case measure => simp [intOf]; omega
        · have hb0 : b = [] := List.eq_nil_of_length_eq_zero HN1.out.symm
          have hcd : k.code b = 71 := by unfold JK.code; rw [if_pos (.inl HN1.out.symm)]
          have HCD := Lib.hid hcd
          have HAP := Lib.hid (app_no (k := k) (b := b) (by rw [hcd]; decide))
          clear hb0 hcd
          go_wp2_with (go_at_call 13; refine (bapp_law HB5.out _ b HBA.out HBU.out).mono ?_; rw [HCD.out, HAP.out]; rintro e w6 ⟨rfl, S6, J6, L6, hb6, hk6⟩
                       have hc6 := (World.cell?_of_block (a := ⟨g, off + m, none⟩) (hb6.jd.disk.upd.block g hgl (by simp))).trans HCELL.out
                       have HB6 := Lib.hid hb6
                       have HW6 := Lib.hid (HW5.out.keep hk6)
                       clear hb6 hk6 hc5)
          go_roundw
          case rel => exact ⟨m + 1, us, S6, J6, _, k, L6, by omega, by omega, by go_num, HB6.out, HW6.out, HK.out.1, HK.out.2.1, HK.out.2.2.1, by have := HK.out.2.2.2.1; omega, by have h1 := HK.out.2.2.2.2; omega⟩
          case measure => simp [intOf]; omega
        · have hcd : k.code b = 0 := code_small (by rw [← HN1.out]; exact q2) (by rw [← HN1.out]; exact q3) (by have h1 := HK.out.2.1; have h2 := HK.out.2.2.2.1; omega)
          have hap := app_ok hcd
          have HCD := Lib.hid hcd
          have HAP := Lib.hid hap
          clear hcd hap
          go_wp2_with (first
            | (go_at_call 13; refine (bapp_law HB5.out _ b HBA.out HBU.out).mono ?_; rw [HCD.out, HAP.out]; rintro e w6 ⟨rfl, S6, J6, L6, hb6, hk6⟩
               have hc6 := (World.cell?_of_block (a := ⟨g, off + m, none⟩) (hb6.jd.disk.upd.block g hgl (by simp))).trans HCELL.out
               have hz6 := hb6.jd.disk.upd.size
               have HB6 := Lib.hid hb6
               have HW6 := Lib.hid (HW5.out.keep hk6)
               clear hb6 hk6 hc5)
            | ((with_reducible show wpList _ _ _ (⟨some 70, _, _, _, _, _⟩ :: _) _ _)
               go_loud (refine wpList_push 70 71 37 31 (.tmp 65) (.tmp 69) (.slice none 0 0) 1 24 Try.underlying37 info_row rfl (by omega) (by omega) w.heap.size (.slice wa rl wc) rl us (.slice ba n1 bc) rfl rfl rfl rfl rfl rfl (by simp) (by simp) rfl rfl (by have h1 := HW6.out.own; rw [← HRL.out] at h1; exact h1) rfl (one_slice _ _ _) (by unfold maxLen; omega) (by omega) (by omega) ?_)
               intro g2 cap2 w7 ho7 hu7 hat7 hlt7 hb7
               have HO7 := Lib.hid ho7
               have HU7 := Lib.hid hu7
               have HAT7 := Lib.hid hat7
               clear ho7 hu7 hat7 hlt7 hb7))
          have hb7 := HB6.out.beside HU7.out (fun x hx => ⟨HW6.out.out x (by simpa using hx), (HW6.out.own.lt x (by simpa using hx)).1⟩)
          have hw7 : WantAt w w7 (S6 ++ J6) (.slice (some ⟨g2, 0, none⟩) (rl + 1) cap2) (us ++ [.slice ba n1 bc]) (k.recs ++ [b]) :=
            HW6.out.push HBA.out (HBT.out (by intro e; have h1 := HN1.out; rw [e] at h1; simp at h1; omega)) (by rw [← HRL.out]; exact HO7.out) rfl HB6.out.jd.all_lt HAT7.out
          have hnd : needJ b ≤ 7 := by have h1 := HN1.out; unfold needJ; omega
          go_roundw
          case rel => exact ⟨m + 1, _, S6, J6, _, k.push b, L6, by omega, by omega, by go_num, hb7, hw7, HK.out.1, HK.out.2.1, HK.out.2.2.1, by have h1 := HK.out.2.2.2.1; show k.used + needJ b ≤ _; omega, by have h1 := HK.out.2.2.2.2; show (k.recs ++ [b]).length ≤ _; rw [List.length_append, List.length_singleton]; omega⟩
          case measure => simp [intOf]; omega
      · have key : decide (m < l.length) = false ∨ (decide (m < l.length) = true ∧ m = 10) := by
          simp only [decide_eq_true_eq, decide_eq_false_iff_not]; omega
        clear hend hm10 hml
        rcases key with q1 | ⟨q1, rfl⟩
        · go_wp2_with fail
          go_meet
          exact ⟨us, S5, J5, d, k, L, HB5.out, HW5.out, HK.out.1, HK.out.2.1, HK.out.2.2.1⟩
        · rw [show (((10 : Nat)) : Int) = 10 from rfl]
          have q1' : decide ((10 : Int) < (l.length : Int)) = true := by simp only [decide_eq_true_eq] at q1 ⊢; omega
          go_wp2_with fail
          go_meet
          exact ⟨us, S5, J5, d, k, L, HB5.out, HW5.out, HK.out.1, HK.out.2.1, HK.out.2.2.1⟩
  case rest =>
    obtain ⟨us, S5, J5, d, k, L, hb5, hw5, hk0, hk1, hk2⟩ := hcut
    have HB5 := Lib.hid hb5
    have HW5 := Lib.hid hw5
    have hfr : Fr d 0 100 L k.used k.recs := by have h1 := hb5.ji.1; rw [hk0, hk1] at h1; exact h1
    have hL : L ≤ 1 := by have h1 := hb5.ji.2.1; omega
    have HFR := Lib.hid hfr
    have hbl : (k.blocks : Int) = 100 := by omega
    have hbl : (k.blocks : Int) = 100 := by omega
    have HBL := Lib.hid hbl
    have HR1 := fun w (h : JAt w j J5 p k) => jroom_any j J5 p k w h
    rw [hbl] at HR1
    have HROOM := Lib.hid HR1
    obtain ⟨wa, wc, rfl⟩ := own_slice hw5.own
    clear hb5 hw5 hk0 hk1 hk2 hfr HB3 HW3 hbl HR1
    go_wp2_with fail
    refine (bopen_law (n := 100) HB5.out.jd.disk HFR.out (by omega) HB5.out.byt rfl).mono ?_
    rintro e w6 ⟨j2, J2, rfl, hb6, hu6, -⟩
    have HB6 := Lib.hid hb6
    have HU6 := Lib.hid hu6
    clear hb6 hu6
    go_wp2_with fail
    refine (jrecords_any j J5 p k _ (HB5.out.jd.jrn.upd0 HU6.out)).mono ?_
    rintro e w7 ⟨rv, T, rfl, hl7, -, hu7⟩
    have HL7 := Lib.hid hl7
    have HU7 := Lib.hid (HU6.out.trans hu7)
    have HB7 := Lib.hid (HB6.out.quiet hu7)
    clear hl7 hu7 HB6
    go_wp2_with fail
    refine (bsame_any rv _ k.recs T _ _ HL7.out ((HW5.out.lists HB5.out.jd.disk.upd).upd0 HU7.out)).mono ?_
    rintro e w8 ⟨rfl, hu8⟩
    have HU8' := Lib.hid (HU7.out.trans hu8)
    have HB8 := Lib.hid (HB7.out.quiet hu8)
    clear hu8 HL7 HB7
    go_wp2_with fail
    refine (jrecords_any j2 J2 p _ _ HB8.out.jd.jrn).mono ?_
    rintro e w9 ⟨rv2, T2, rfl, hl9, -, hu9⟩
    have HL9 : Hid (ListsAt w9 T2 rv2 k.recs) := Lib.hid hl9
    have HU9 := Lib.hid (HU8'.out.trans hu9)
    have HB9 := Lib.hid (HB8.out.quiet hu9)
    clear hl9 hu9 HB8
    go_wp2_with fail
    refine (bsame_any rv2 _ k.recs T2 _ _ HL9.out ((HW5.out.lists HB5.out.jd.disk.upd).upd0 HU9.out)).mono ?_
    rintro e w10 ⟨rfl, hu10⟩
    have HU10 := Lib.hid (HU9.out.trans hu10)
    have HB10 := Lib.hid (HB9.out.quiet hu10)
    clear hu10 HL9 HB9
    go_wp2_with fail
    refine (jroom_any j2 J2 p _ _ HB10.out.jd.jrn).mono ?_
    rintro e w11 ⟨rfl, hu11⟩
    have HU11 := Lib.hid (HU10.out.trans hu11)
    clear hu11 HB10
    go_wp2_with fail
    refine (HROOM.out _ (HB5.out.jd.jrn.upd0 HU11.out)).mono ?_
    rintro e w12 ⟨rfl, hu12⟩
    have HU12 := Lib.hid (HU11.out.trans hu12)
    clear hu12
    go_wp2_with fail
    go_ret
    exact ⟨rfl, (HB5.out.jd.disk.upd.trans HU12.out).toBelow⟩

end Go.Proofs.Ytfjmkdjbeoafjaa
