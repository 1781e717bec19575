/- The walk of JournalPlays. -/
import Derived.Test.YtfjmkdjbeoafjaaPlayC
namespace Go.Proofs.Ytfjmkdjbeoafjaa
open Go.ChangeShapes Go.WideShapes Go.ChangeAt Go.RowKit

theorem zero_callJ : (Try.prog.info? 34).map (·.zero) = some (some (.agg #[.int .i64 0, .slice none 0 0, .int .i64 0, .slice none 0 0])) := by kernel_rfl
theorem info_callJ : (Try.prog.info? 34).map (·.size) = some 4 := by kernel_rfl

/-- The cells of the document's disk that a call reads. -/
theorem RefAt.own {w : World} {b : Nat} {R : List Nat} {d : DK} (h : RefAt w b R d) : ∃ (lv nv ov dn : Value), Blk w b #[lv, nv, ov, dn] 62 ∧ IntsAt w ov d.dirty := by
  obtain ⟨lg, lc, ng, nc, ov, rfl, hn, hw, h1, h2, h3, h4⟩ := h
  exact ⟨_, _, ov, _, h1, IntsAt.of_own h4 (by simp [DK.dirty])⟩

theorem RefAt.dirtyAt {w : World} {b : Nat} {R : List Nat} {d : DK} {lv nv ov dn : Value} {T : TypeId} (h : RefAt w b R d) (hb : Blk w b #[lv, nv, ov, dn] T) : IntsAt w ov d.dirty := by
  obtain ⟨lg, lc, ng, nc, ov', rfl, hn, hw, h1, h2, h3, h4⟩ := h
  unfold Blk at h1 hb
  rw [hb] at h1
  simp only [Option.some.injEq, Obj.cells.injEq, Array.mk.injEq, List.cons.injEq] at h1
  obtain ⟨⟨-, -, rfl, -⟩, -⟩ := h1
  exact IntsAt.of_own h4 (by simp [DK.dirty])

theorem RJAt.listsAt {w : World} {j q : Nat} {J : List Nat} {k : JK} {c0 c1 c2 c3 c4 rv : Value} {T : TypeId} (h : RJAt w j J q k) (hb : Blk w j #[c0, c1, c2, c3, c4, rv] T) : ∃ U, ListsAt w U rv k.recs := by
  obtain ⟨rv', rvs, U, rfl, h1, h2, h3, h4, h5, h6, h7⟩ := h
  unfold Blk at h5 hb
  rw [hb] at h5
  simp only [Option.some.injEq, Obj.cells.injEq, Array.mk.injEq, List.cons.injEq] at h5
  obtain ⟨⟨-, -, -, -, -, rfl, -⟩, -⟩ := h5
  exact ⟨_, ListsAt.of_own h6 rfl h7⟩

theorem eqB_self (l : List Int) : eqB l l = true := by unfold eqB; exact decide_eq_true rfl

/-- The state of the game. -/
structure PS (w0 w : World) (p q : Nat) (S J R M : List Nat) (j m : Nat) (D : DK) (k : JK) : Prop where
  two : Two w0 w p S D j J k q R D m M k
  byt : D.Byt
  len : D.last.length = 40
  room : k.from_ + k.blocks ≤ 40

theorem PS.quiet {w0 w w' : World} {p q : Nat} {S J R M : List Nat} {j m : Nat} {D : DK} {k : JK} (h : PS w0 w p q S J R M j m D k) (hu : Upd [] w w') : PS w0 w' p q S J R M j m D k := ⟨h.two.quiet hu, h.byt, h.len, h.room⟩

theorem app2_len (d : DK) (k : JK) (b : List Int) : (d.app2 k b).last.length = d.last.length := by
  unfold DK.app2; split
  · rfl
  · unfold DK.app; split
    · rw [DK.layRec_last]
    · rfl
theorem app2_byt {d : DK} (h : d.Byt) (k : JK) {b : List Int} (hb : U8L b) : (d.app2 k b).Byt := by
  unfold DK.app2; split
  · exact h
  · exact h.app k hb
theorem app2_room (k : JK) (d : DK) (b : List Int) : (k.app2 d b).from_ + (k.app2 d b).blocks = k.from_ + k.blocks := by
  unfold JK.app2; split
  · rfl
  · unfold JK.app; split
    · rfl
    · rfl
theorem crash_len (d : DK) (fs : List Int) : (d.crash fs).last.length = d.last.length := by
  unfold DK.crash; split
  · rfl
  · exact DK.settleL_len _ _ _ _

set_option maxRecDepth 100000 in
set_option maxHeartbeats 20000000 in
theorem JournalPlays.walk (f0 n0 : Int) (v0 : Value) (l : List CallJ) (w : World) (_ : (Lit.int .i64 f0).wf = true) (_ : (Lit.int .i64 n0).wf = true) (hl : CallsJ w v0 l) :
    Calls Try.prog 9 #[.int .i64 f0, .int .i64 n0, v0] w fun e w' => e = .returned (.bool true) ∧ Below w.heap.size w w' := by
  obtain ⟨la, lc, rfl, hlm, hlb⟩ := hl
  have HLB := Lib.hid hlb
  clear hlb
  unfold maxLen at hlm
  have key : (f0 < 0 ∨ n0 < 0 ∨ ((40 : Nat) : Int) < f0 ∨ ((40 : Nat) : Int) - f0 < n0) ∨ (0 ≤ f0 ∧ 0 ≤ n0 ∧ f0 + n0 ≤ 40) := by omega
  have hnl : (DK.new 40).last.length = 40 := by decide
  rcases key with hbad | ⟨hf0, hn0, hfit⟩
  · have HB := Lib.hid hbad
    have HNL := Lib.hid hnl
    clear hbad hnl
    go_enter Try.func9, Try.ntmps9
    go_wp2_with (first
      | (go_at_call 10; refine (awake_any _).mono ?_; rintro e w1 ⟨rfl, hu1⟩; have HU1 := Lib.hid hu1; clear hu1)
      | (go_at_call 11; refine (new_law 40 w (by omega) (by omega) HU1.out).mono ?_; rintro e w2 ⟨p, S, rfl, hd, hu2, hS⟩; have HD := Lib.hid hd; clear hd hu2 hS)
      | (go_at_call 21; refine (rnew_yes 40 _ (by omega)).mono ?_; rintro e w3 ⟨q, R, rfl, hr, hu3, hR⟩
         have HR := Lib.hid hr
         have HD3 := Lib.hid (HD.out.quiet hu3)
         clear hr hu3 hR)
      | (go_at_call 12; refine (open_arg p S _ f0 n0 _ HD3.out.disk (by rw [show (40 : Int).toNat = 40 from rfl, HNL.out]; exact HB.out)).mono ?_; rintro e w4 ⟨rfl, rfl⟩)
      | (go_at_call 22; refine (ropen_arg q R _ f0 n0 _ HR.out (by rw [HNL.out]; exact HB.out)).mono ?_; rintro e w4 ⟨rfl, rfl⟩))
    go_ret
    exact ⟨rfl, HD3.out.upd.toBelow⟩
  · obtain ⟨f, rfl⟩ := Int.eq_ofNat_of_zero_le hf0
    obtain ⟨n, rfl⟩ := Int.eq_ofNat_of_zero_le hn0
    have hfn : f + n ≤ 40 := by omega
    have HNL := Lib.hid hnl
    clear hnl hf0 hn0 hfit
    go_enter Try.func9, Try.ntmps9
    go_upto_block 0 with (first
      | (go_at_call 10; refine (awake_any _).mono ?_; rintro e w1 ⟨rfl, hu1⟩; have HU1 := Lib.hid hu1; clear hu1)
      | (go_at_call 11; refine (new_law 40 w (by omega) (by omega) HU1.out).mono ?_; rintro e w2 ⟨p, S, rfl, hd, hu2, hS⟩; have HD := Lib.hid hd; clear hd hu2 hS)
      | (go_at_call 21; refine (rnew_yes 40 _ (by omega)).mono ?_; rintro e w3 ⟨q, R, rfl, hr, hu3, hR⟩
         have HR := Lib.hid hr
         have HD3 := Lib.hid (HD.out.quiet hu3)
         have HRS : Hid ((∀ x ∈ R, x ∉ S) ∧ ∀ x ∈ R, w.heap.size ≤ x) := Lib.hid ⟨fun x hx hm => by have := hR x hx; have := HD.out.disk.lt x hm; omega, fun x hx => Nat.le_trans HD.out.upd.size (hR x hx)⟩
         clear hr hu3 hR)
      | (go_at_call 12; refine (open_yes p S _ f n _ HD3.out.disk (by rw [show (40 : Int).toNat = 40 from rfl, HNL.out]; exact hfn) rfl (DK.Byt.new _)).mono ?_; rintro e w4 ⟨j, J, rfl, hj, hJ, hu4⟩
         have HR4 := Lib.hid (HR.out.upd0 hu4)
         have HD4 := Lib.hid (HD3.out.quiet hu4)
         have HJ4 : Hid (JD w w4 p S (DK.new 40) j J ((DK.new 40).openJ f n)) := Lib.hid ⟨HD3.out.quiet hu4, hj, fun x hx hm => by have h1 := HD3.out.disk.lt x hm; have h2 := hJ x hx; omega, fun x hx => Nat.le_trans HD3.out.upd.size (hJ x hx)⟩
         have HRJ : Hid (∀ x ∈ R, x ∉ J) := Lib.hid (fun x hx hm => by have h1 := HR.out.lt x hx; have h2 := hJ x hm; omega)
         clear hj hJ hu4)
      | (go_at_call 22; refine (ropen_yes q R _ f n _ HR4.out (by rw [HNL.out]; exact hfn) rfl (DK.Byt.new _)).mono ?_; rintro e w5 ⟨m, M, rfl, hm, hM, hu5⟩
         have HP5 : Hid (PS w w5 p q S J R M j m (DK.new 40) ((DK.new 40).openJ f n)) := Lib.hid ⟨⟨HJ4.out.quiet hu5, HR4.out.upd0 hu5, hm, fun x hx hxR => by have h1 := HR4.out.lt x hxR; have h2 := hM x hx; omega, fun x hx hxS => by
           rcases List.mem_append.1 hx with h1 | h1
           · rcases List.mem_append.1 hxS with h2 | h2
             · exact HRS.out.1 x h1 h2
             · exact HRJ.out x h1 h2
           · have h2 := hM x h1; have h3 := HJ4.out.lt_all x hxS; omega, fun x hx => by
           rcases List.mem_append.1 hx with h1 | h1
           · exact HRS.out.2 x h1
           · exact Nat.le_trans HD4.out.upd.size (hM x h1)⟩, DK.Byt.new _, HNL.out, hfn⟩
         clear hm hM hu5))
    clear HU1 HD HR HD3 HRS HR4 HD4 HJ4 HRJ
    go_wp2_with fail
    go_loopw [12, 14, 16] (fun jv kv iv wx => ∃ (z j m : Nat) (S J R M : List Nat) (D : DK) (k : JK), z ≤ 40 ∧ z ≤ l.length ∧ iv = .int .i64 z ∧ jv = .pointer (some ⟨j, 0, none⟩) ∧ kv = .pointer (some ⟨m, 0, none⟩) ∧ PS w wx p q S J R M j m D k) (fun _ _ i _ => 40 - (intOf i).toNat)
    case atStart => exact ⟨0, j, m, S, J, R, M, _, _, by omega, Nat.zero_le _, rfl, rfl, rfl, HP5.out⟩
    case round =>
      obtain ⟨z, j5, m5, S5, J5, R5, M5, D, k, hz40, hzl, rfl, rfl, rfl, hp⟩ := hrel
      have HP := Lib.hid hp
      clear hp HP5
      by_cases hend : z < 40 ∧ z < l.length
      · obtain ⟨h40, hlt⟩ := hend
        obtain ⟨g, off, rfl, hgl, hcl⟩ := HLB.out (by intro e; rw [e] at hlt; simp at hlt)
        obtain ⟨c, hc⟩ : ∃ c, l[z]? = some c := ⟨_, List.getElem?_eq_getElem hlt⟩
        obtain ⟨hcc, hbat, hbu, hfat⟩ := hcl z c hc
        have hcc5 := hcc.upd HP.out.two.upd hgl (by simp)
        obtain ⟨kd, bv, b, cn, fv, fs⟩ := c
        simp only at hbat hbu hfat
        obtain ⟨ba, bc, rfl⟩ := hbat.form
        obtain ⟨fa, fc, rfl, -, -⟩ := id hfat
        obtain ⟨n1, hn1⟩ : ∃ n1, n1 = b.length := ⟨_, rfl⟩
        rw [← hn1] at hbat hcc5
        have HBA := Lib.hid hbat
        have HBU := Lib.hid hbu
        have HFA := Lib.hid hfat
        have HN1 := Lib.hid hn1
        have HCC : Hid (CellsJ wr g (off + z * 4) [.int .i64 kd, .slice ba n1 bc, .int .i64 cn, .slice fa fs.length fc]) := Lib.hid hcc5
        have h40' : (z : Int) < 40 := by omega
        have hlt' : (z : Int) < (l.length : Int) := by omega
        clear hcl hc hcc hcc5 hbat hbu hfat hn1
        go_upto_region 15 with fail
        go_upto_region 16 with (first
          | ((with_reducible show wpList _ _ _ (⟨some 75, _, _, _, _, _⟩ :: _) _ _); refine wpList_run rfl (exec_loadJ 34 (.tmp 74) rfl rfl HCC.out ⟨_, Try.underlying34⟩ info_callJ rfl) ?_)
          | ((with_reducible show wpList _ _ _ (⟨_, .alloc 34, _, _, _, _⟩ :: _) _ _); refine wpList_alloc rfl 34 rfl zero_callJ fun w6 hb6 hu6 hs6 => ?_)
          | ((with_reducible show wpList _ _ _ (⟨_, .store 34 (.tmp 17) (.tmp 75), _, _, _, _⟩ :: _) _ _); refine wpList_storeJ rfl 34 (.tmp 17) (.tmp 75) rfl rfl rfl hb6 info_callJ rfl rfl (by intro v hv; simp at hv; rcases hv with rfl | rfl | rfl | rfl <;> rfl) fun w7 hb7 hu7 hs7 => ?_))
        obtain ⟨B, hB⟩ : ∃ B, B = wr.heap.size := ⟨_, rfl⟩
        rw [← hB] at hb7 hu7 ⊢
        have hu67 : Upd [] wr w7 := hu6.then hu7 (by intro k hk; right; simp at hk; omega)
        have hv7 : Bx w7 ((S5 ++ J5) ++ (R5 ++ M5)) B #[.int .i64 kd, .slice ba n1 bc, .int .i64 cn, .slice fa fs.length fc] 34 := ⟨hb7, fun hm => by
          rcases List.mem_append.1 hm with h1 | h1
          · have := HP.out.two.left.lt_all _ h1; omega
          · have := HP.out.two.lt_right _ h1; omega⟩
        have c0 : w7.cell? ⟨B, 0, none⟩ = some (.int .i64 kd) := hb7.cell (o := 0) rfl
        have c1 : w7.cell? ⟨B, 1, none⟩ = some (.slice ba n1 bc) := hb7.cell (o := 1) rfl
        have HV7 := Lib.hid hv7
        have HP7 := Lib.hid (HP.out.quiet hu67)
        clear hb6 hu6 hs6 hb7 hu7 hs7 hu67 hv7 hB HP HCC
        have key : ((decide ((300 : Int) < (n1 : Int)) = true ∧ decide ((n1 : Int) ≤ 2000) = true) ∨ (decide ((300 : Int) < (n1 : Int)) = true ∧ decide ((n1 : Int) ≤ 2000) = false ∧ decide ((2100 : Int) < (n1 : Int)) = true)) ∨
            ((decide ((300 : Int) < (n1 : Int)) = false ∧ decide ((2100 : Int) < (n1 : Int)) = false) ∨ (decide ((300 : Int) < (n1 : Int)) = true ∧ decide ((n1 : Int) ≤ 2000) = false ∧ decide ((2100 : Int) < (n1 : Int)) = false)) := by
          simp only [decide_eq_true_eq, decide_eq_false_iff_not]; omega
        rcases key with key | key
        · rcases key with ⟨q1, q2⟩ | ⟨q1, q2, q3⟩
          all_goals
            go_wp2_with fail
            go_roundw
            case rel => exact ⟨z + 1, j5, m5, S5, J5, R5, M5, D, k, by omega, by omega, by go_num, rfl, rfl, HP7.out⟩
            case measure => simp [intOf]; omega
        · simp only [Act.put, List.setIfInBounds_toArray, List.set_cons_zero, List.set_cons_succ]
          go_cut [91] (fun v91 wx => v91 = .bool false ∧ wx = w7)
          case first =>
            rcases key with ⟨q1, q2⟩ | ⟨q1, q2, q3⟩
            all_goals
              go_wp2_with fail
              go_meet
              exact ⟨rfl, rfl⟩
          case rest =>
            obtain ⟨rfl, rfl⟩ := hcut
            clear c1 key
            go_upto_block 2 with fail
            go_cut [18] (fun v18 wx => v18 = .bool true ∧ ∃ (D' : DK) (k' : JK) (S' J' R' M' : List Nat), PS w wx p q S' J' R' M' j5 m5 D' k' ∧ Bx wx ((S' ++ J') ++ (R' ++ M')) B #[.int .i64 kd, .slice ba n1 bc, .int .i64 cn, .slice fa fs.length fc] 34)
            case first =>
              have kk : kd = 1 ∨ kd = 2 ∨ kd = 4 ∨ kd = 6 ∨ kd = 5 ∨ ((kd == 1) = false ∧ (kd == 2) = false ∧ (kd == 4) = false ∧ (kd == 6) = false ∧ (kd == 5) = false) := by
                simp only [beq_eq_false_iff_ne, ne_eq]; omega
              rcases kk with rfl | rfl | rfl | rfl | rfl | ⟨q2, q3, q4, q5, q6⟩
              · as_aux_lemma =>
                  go_upto_region 20 with fail
                  refine held_start (fun w' => Blk w' B #[.int .i64 1, .slice ba n1 bc, .int .i64 cn, .slice fa fs.length fc] 34) 10 mixed rfl HV7.out.1 (fun hHeld => ?_)
                  refine held_take 0 96 (.pointer (some ⟨j5, 0, none⟩)) rfl (by kernel_rfl) (by kernel_rfl) (by kernel_rfl) rfl (fun _ _ _ h => h) rfl hHeld (fun w hS => by rfl) ?_
                  simp only [List.setIfInBounds_toArray, List.set_cons_zero, List.set_cons_succ]
                  refine held_take 1 97 (.pointer (some ⟨B, 1, none⟩)) rfl (by kernel_rfl) (by kernel_rfl) (by kernel_rfl) rfl (fun _ _ _ h => h) rfl hHeld (fun w hS => by go_simp) ?_
                  simp only [List.setIfInBounds_toArray, List.set_cons_zero, List.set_cons_succ]
                  refine held_take 2 98 (.slice ba n1 bc) rfl (by kernel_rfl) (by kernel_rfl) (by kernel_rfl) rfl (fun _ _ _ h => h) rfl hHeld (fun w hS => by have c := hS.cell (o := 1) rfl; go_simp) ?_
                  simp only [List.setIfInBounds_toArray, List.set_cons_zero, List.set_cons_succ]
                  refine held_take 4 100 (.pointer (some ⟨m5, 0, none⟩)) rfl (by kernel_rfl) (by kernel_rfl) (by kernel_rfl) rfl (fun _ _ _ h => h) rfl hHeld (fun w hS => by rfl) ?_
                  simp only [List.setIfInBounds_toArray, List.set_cons_zero, List.set_cons_succ]
                  refine held_take 5 101 (.pointer (some ⟨B, 1, none⟩)) rfl (by kernel_rfl) (by kernel_rfl) (by kernel_rfl) rfl (fun _ _ _ h => h) rfl hHeld (fun w hS => by go_simp) ?_
                  simp only [List.setIfInBounds_toArray, List.set_cons_zero, List.set_cons_succ]
                  refine held_take 6 102 (.slice ba n1 bc) rfl (by kernel_rfl) (by kernel_rfl) (by kernel_rfl) rfl (fun _ _ _ h => h) rfl hHeld (fun w hS => by have c := hS.cell (o := 1) rfl; go_simp) ?_
                  simp only [List.setIfInBounds_toArray, List.set_cons_zero, List.set_cons_succ]
                  refine held_next 3 99 rfl (by kernel_rfl) rfl rfl (fun K hK => ?_)
                  go_simp
                  refine (two_appL (HP7.out.two.quiet ((Upd.refl _ _).drew)) _ b HBA.out HBU.out (by rw [HP7.out.len]; exact HP7.out.room)).mono ?_
                  rintro e w8 ⟨rfl, S8, J8, ht8, hu8, hs8⟩
                  have HV8 := Lib.hid ((HV7.out.quiet ((Upd.refl _ _).drew)).left hu8 hs8)
                  have HT8 := Lib.hid ht8
                  have hk := hK.out (.int .i64 (k.code2 D b)) w8 HV8.out.1
                  simp only [Act.put, List.setIfInBounds_toArray, List.set_cons_zero, List.set_cons_succ] at hk
                  refine hk (fun hHeld => ?_)
                  clear hK hk K ht8 hu8 hs8
                  refine held_next 7 103 rfl (by kernel_rfl) rfl rfl (fun K hK => ?_)
                  go_simp
                  refine (two_appR HT8.out _ b HBA.out HBU.out (by rw [HP7.out.len]; exact HP7.out.room)).mono ?_
                  rintro e w9 ⟨rfl, R9, M9, ht9, hu9, hs9⟩
                  have HV9 := Lib.hid (HV8.out.right hu9 hs9)
                  have HT9 := Lib.hid ht9
                  have hk := hK.out (.int .i64 (k.code2 D b)) w9 HV9.out.1
                  simp only [Act.put, List.setIfInBounds_toArray, List.set_cons_zero, List.set_cons_succ] at hk
                  refine hk (fun hHeld => ?_)
                  clear hK hk K ht9 hu9 hs9
                  refine held_take 8 104 (.bool true) rfl (by kernel_rfl) (by kernel_rfl) (by kernel_rfl) rfl (fun _ _ _ h => h) rfl hHeld (fun w hS => by go_simp) ?_
                  simp only [List.setIfInBounds_toArray, List.set_cons_zero, List.set_cons_succ]
                  refine held_take 9 18 (.bool true) rfl (by kernel_rfl) (by kernel_rfl) (by kernel_rfl) rfl (fun _ _ _ h => h) rfl hHeld (fun w hS => by rfl) ?_
                  simp only [List.setIfInBounds_toArray, List.set_cons_zero, List.set_cons_succ]
                  refine held_done (by kernel_rfl) ?_
                  clear hHeld
                  go_wp2_with fail
                  go_meet
                  exact ⟨rfl, _, _, _, _, _, _, ⟨HT9.out, app2_byt HP7.out.byt k HBU.out, by rw [app2_len]; exact HP7.out.len, by rw [app2_room]; exact HP7.out.room⟩, HV9.out⟩
              · as_aux_lemma =>
                  go_wp2_with (first
                    | (go_at_call 14; refine (two_forceL HP7.out.two).mono ?_; rintro e w8 ⟨rfl, S8, ht8, hu8, hs8⟩
                       have HV8 := Lib.hid (HV7.out.left hu8 hs8)
                       have HT8 := Lib.hid ht8
                       clear ht8 hu8 hs8)
                    | (go_at_call 24; refine (two_forceR HT8.out).mono ?_; rintro e w9 ⟨rfl, R9, ht9, hu9, hs9⟩
                       have HV9 := Lib.hid (HV8.out.right hu9 hs9)
                       have HT9 := Lib.hid ht9
                       clear ht9 hu9 hs9))
                  go_meet
                  exact ⟨rfl, _, _, _, _, _, _, ⟨HT9.out, HP7.out.byt.flush, by rw [flush_len]; exact HP7.out.len, HP7.out.room⟩, HV9.out⟩
              · as_aux_lemma =>
                  have c3 := HV7.out.1.cell (o := 3) rfl
                  go_wp2_with (first
                    | (go_at_call 17; refine (two_crashL HP7.out.two _ fs HFA.out).mono ?_; rintro e w8 ⟨rfl, S8, ht8, hu8, hs8⟩
                       have hv8 := HV7.out.left hu8 hs8
                       have c3 := hv8.1.cell (o := 3) rfl
                       have HV8 := Lib.hid hv8
                       have HT8 := Lib.hid ht8
                       clear ht8 hu8 hs8 hv8)
                    | (go_at_call 25; refine (two_crashR HT8.out _ fs HFA.out).mono ?_; rintro e w9 ⟨rfl, R9, ht9, hu9, hs9⟩
                       have HV9 := Lib.hid (HV8.out.right hu9 hs9)
                       have HT9 := Lib.hid ht9
                       clear ht9 hu9 hs9))
                  go_meet
                  exact ⟨rfl, _, _, _, _, _, _, ⟨HT9.out, HP7.out.byt.crash fs, by rw [crash_len]; exact HP7.out.len, HP7.out.room⟩, HV9.out⟩
              · as_aux_lemma =>
                  have c3 := HV7.out.1.cell (o := 3) rfl
                  go_wp2_with (first
                    | (go_at_call 17; refine (two_crashL HP7.out.two _ fs HFA.out).mono ?_; rintro e w8 ⟨rfl, S8, ht8, hu8, hs8⟩
                       have hv8 := HV7.out.left hu8 hs8
                       have c3 := hv8.1.cell (o := 3) rfl
                       have HV8 := Lib.hid hv8
                       have HT8 := Lib.hid ht8
                       clear ht8 hu8 hs8 hv8)
                    | (go_at_call 25; refine (two_crashR HT8.out _ fs HFA.out).mono ?_; rintro e w9 ⟨rfl, R9, ht9, hu9, hs9⟩
                       have HV9 := Lib.hid (HV8.out.right hu9 hs9)
                       have HT9 := Lib.hid ht9
                       clear ht9 hu9 hs9))
                  go_meet
                  exact ⟨rfl, _, _, _, _, _, _, ⟨HT9.out, HP7.out.byt.crash fs, by rw [crash_len]; exact HP7.out.len, HP7.out.room⟩, HV9.out⟩
              · as_aux_lemma =>
                  go_upto_region 28 with fail
                  refine held_start (fun w' => Blk w' B #[.int .i64 5, .slice ba n1 bc, .int .i64 cn, .slice fa fs.length fc] 34) 16 mixed rfl HV7.out.1 (fun hHeld => ?_)
                  refine held_take 0 125 (.pointer (some ⟨p, 0, none⟩)) rfl (by kernel_rfl) (by kernel_rfl) (by kernel_rfl) rfl (fun _ _ _ h => h) rfl hHeld (fun w hS => by rfl) ?_
                  simp only [List.setIfInBounds_toArray, List.set_cons_zero, List.set_cons_succ]
                  refine held_take 1 126 (.pointer (some ⟨B, 2, none⟩)) rfl (by kernel_rfl) (by kernel_rfl) (by kernel_rfl) rfl (fun _ _ _ h => h) rfl hHeld (fun w hS => by go_simp) ?_
                  simp only [List.setIfInBounds_toArray, List.set_cons_zero, List.set_cons_succ]
                  refine held_take 2 127 (.int .i64 cn) rfl (by kernel_rfl) (by kernel_rfl) (by kernel_rfl) rfl (fun _ _ _ h => h) rfl hHeld (fun w hS => by have c := hS.cell (o := 2) rfl; go_simp) ?_
                  simp only [List.setIfInBounds_toArray, List.set_cons_zero, List.set_cons_succ]
                  refine held_take 3 128 (.pointer (some ⟨B, 1, none⟩)) rfl (by kernel_rfl) (by kernel_rfl) (by kernel_rfl) rfl (fun _ _ _ h => h) rfl hHeld (fun w hS => by go_simp) ?_
                  simp only [List.setIfInBounds_toArray, List.set_cons_zero, List.set_cons_succ]
                  refine held_take 4 129 (.slice ba n1 bc) rfl (by kernel_rfl) (by kernel_rfl) (by kernel_rfl) rfl (fun _ _ _ h => h) rfl hHeld (fun w hS => by have c := hS.cell (o := 1) rfl; go_simp) ?_
                  simp only [List.setIfInBounds_toArray, List.set_cons_zero, List.set_cons_succ]
                  refine held_take 7 132 (.pointer (some ⟨q, 0, none⟩)) rfl (by kernel_rfl) (by kernel_rfl) (by kernel_rfl) rfl (fun _ _ _ h => h) rfl hHeld (fun w hS => by rfl) ?_
                  simp only [List.setIfInBounds_toArray, List.set_cons_zero, List.set_cons_succ]
                  refine held_take 8 133 (.pointer (some ⟨B, 2, none⟩)) rfl (by kernel_rfl) (by kernel_rfl) (by kernel_rfl) rfl (fun _ _ _ h => h) rfl hHeld (fun w hS => by go_simp) ?_
                  simp only [List.setIfInBounds_toArray, List.set_cons_zero, List.set_cons_succ]
                  refine held_take 9 134 (.int .i64 cn) rfl (by kernel_rfl) (by kernel_rfl) (by kernel_rfl) rfl (fun _ _ _ h => h) rfl hHeld (fun w hS => by have c := hS.cell (o := 2) rfl; go_simp) ?_
                  simp only [List.setIfInBounds_toArray, List.set_cons_zero, List.set_cons_succ]
                  refine held_take 10 135 (.pointer (some ⟨B, 1, none⟩)) rfl (by kernel_rfl) (by kernel_rfl) (by kernel_rfl) rfl (fun _ _ _ h => h) rfl hHeld (fun w hS => by go_simp) ?_
                  simp only [List.setIfInBounds_toArray, List.set_cons_zero, List.set_cons_succ]
                  refine held_take 11 136 (.slice ba n1 bc) rfl (by kernel_rfl) (by kernel_rfl) (by kernel_rfl) rfl (fun _ _ _ h => h) rfl hHeld (fun w hS => by have c := hS.cell (o := 1) rfl; go_simp) ?_
                  simp only [List.setIfInBounds_toArray, List.set_cons_zero, List.set_cons_succ]
                  refine held_next 5 130 rfl (by kernel_rfl) rfl rfl (fun K hK => ?_)
                  go_simp
                  refine (first_any _ b _ (HBA.out.upd0 (HP7.out.two.upd.drew))).mono ?_
                  rintro e w8 ⟨rfl, hu8⟩
                  have HV8 := Lib.hid ((HV7.out.quiet ((Upd.refl _ _).drew)).quiet hu8)
                  have HT8 := Lib.hid ((HP7.out.two.quiet ((Upd.refl _ _).drew)).quiet hu8)
                  have hk := hK.out (.agg (U8 (firstB b))) w8 HV8.out.1
                  simp only [Act.put, List.setIfInBounds_toArray, List.set_cons_zero, List.set_cons_succ] at hk
                  refine hk (fun hHeld => ?_)
                  clear hK hk K hu8
                  refine held_next 6 131 rfl (by kernel_rfl) rfl rfl (fun K hK => ?_)
                  go_simp
                  refine (two_writeL HT8.out cn (firstB b) (firstB_len b)).mono ?_
                  rintro e w9 ⟨rfl, S9, ht9, hu9, hs9⟩
                  have HV9 := Lib.hid (HV8.out.left hu9 hs9)
                  have HT9 := Lib.hid ht9
                  have hk := hK.out (.int .i64 (D.code cn)) w9 HV9.out.1
                  simp only [Act.put, List.setIfInBounds_toArray, List.set_cons_zero, List.set_cons_succ] at hk
                  refine hk (fun hHeld => ?_)
                  clear hK hk K ht9 hu9 hs9
                  refine held_next 12 137 rfl (by kernel_rfl) rfl rfl (fun K hK => ?_)
                  go_simp
                  refine (first_any _ b _ (HBA.out.upd0 HT9.out.upd)).mono ?_
                  rintro e w10 ⟨rfl, hu10⟩
                  have HV10 := Lib.hid (HV9.out.quiet hu10)
                  have HT10 := Lib.hid (HT9.out.quiet hu10)
                  have hk := hK.out (.agg (U8 (firstB b))) w10 HV10.out.1
                  simp only [Act.put, List.setIfInBounds_toArray, List.set_cons_zero, List.set_cons_succ] at hk
                  refine hk (fun hHeld => ?_)
                  clear hK hk K hu10
                  refine held_next 13 138 rfl (by kernel_rfl) rfl rfl (fun K hK => ?_)
                  go_simp
                  refine (two_writeR HT10.out cn (firstB b) (firstB_len b)).mono ?_
                  rintro e w11 ⟨rfl, R11, ht11, hu11, hs11⟩
                  have HV11 := Lib.hid (HV10.out.right hu11 hs11)
                  have HT11 := Lib.hid ht11
                  have hk := hK.out (.int .i64 (D.code cn)) w11 HV11.out.1
                  simp only [Act.put, List.setIfInBounds_toArray, List.set_cons_zero, List.set_cons_succ] at hk
                  refine hk (fun hHeld => ?_)
                  clear hK hk K ht11 hu11 hs11
                  refine held_take 14 139 (.bool true) rfl (by kernel_rfl) (by kernel_rfl) (by kernel_rfl) rfl (fun _ _ _ h => h) rfl hHeld (fun w hS => by go_simp) ?_
                  simp only [List.setIfInBounds_toArray, List.set_cons_zero, List.set_cons_succ]
                  refine held_take 15 18 (.bool true) rfl (by kernel_rfl) (by kernel_rfl) (by kernel_rfl) rfl (fun _ _ _ h => h) rfl hHeld (fun w hS => by rfl) ?_
                  simp only [List.setIfInBounds_toArray, List.set_cons_zero, List.set_cons_succ]
                  refine held_done (by kernel_rfl) ?_
                  clear hHeld
                  go_wp2_with fail
                  go_meet
                  exact ⟨rfl, _, _, _, _, _, _, ⟨HT11.out, HP7.out.byt.write cn (firstB_u8 HBU.out), by rw [DK.write_last]; exact HP7.out.len, HP7.out.room⟩, HV11.out⟩
              · as_aux_lemma =>
                  go_wp2_with fail
                  go_meet
                  exact ⟨rfl, _, _, _, _, _, _, HP7.out, HV7.out⟩

            case rest =>
              obtain ⟨rfl, D8, k8, S8, J8, R8, M8, hp8, hv8⟩ := hcut
              have HP8 := Lib.hid hp8
              have HV8 := Lib.hid hv8
              have c0 := hv8.1.cell (o := 0) rfl
              clear hp8 hv8 HP7 HV7
              go_upto_if 142 with fail
              go_cut [] (fun wx => ∃ (D' : DK) (S' R' : List Nat), PS w wx p q S' J8 R' M8 j5 m5 D' k8 ∧ Bx wx ((S' ++ J8) ++ (R' ++ M8)) B #[.int .i64 kd, .slice ba n1 bc, .int .i64 cn, .slice fa fs.length fc] 34)
              case first => as_aux_lemma =>
                have kk : kd = 4 ∨ (kd == 4) = false := by simp only [beq_eq_false_iff_ne, ne_eq]; omega
                rcases kk with rfl | q1
                · go_wp2_with (first
                    | (go_at_call 18; refine (two_startL HP8.out.two).mono ?_; rintro e w9 ⟨rfl, ht9, hu9, hs9⟩
                       have HV9 := Lib.hid (HV8.out.left hu9 hs9)
                       have HT9 := Lib.hid ht9
                       clear ht9 hu9 hs9)
                    | (go_at_call 29; refine (two_startR HT9.out).mono ?_; rintro e w10 ⟨rfl, ht10, hu10, hs10⟩
                       have HV10 := Lib.hid (HV9.out.right hu10 hs10)
                       have HT10 := Lib.hid ht10
                       clear ht10 hu10 hs10))
                  go_meet
                  exact ⟨_, _, _, ⟨HT10.out, HP8.out.byt.start, HP8.out.len, HP8.out.room⟩, HV10.out⟩
                · go_wp2_with fail
                  go_meet
                  exact ⟨_, _, _, HP8.out, HV8.out⟩
              case rest =>
                obtain ⟨D9, S9, R9, hp9, hv9⟩ := hcut
                have HP9 := Lib.hid hp9
                have HV9 := Lib.hid hv9
                have c0 := hv9.1.cell (o := 0) rfl
                clear hp9 hv9 HP8 HV8
                go_upto_region 32 with fail
                go_cut [154] (fun v154 wx => (∃ vb, v154 = .bool vb) ∧ wx = wc)
                case first => as_aux_lemma =>
                  have kk : kd = 3 ∨ kd = 4 ∨ ((kd == 3) = false ∧ (kd == 4) = false) := by simp only [beq_eq_false_iff_ne, ne_eq]; omega
                  rcases kk with rfl | rfl | ⟨q1, q2⟩
                  all_goals
                    go_wp2_with fail
                    go_meet
                    exact ⟨⟨_, rfl⟩, rfl⟩
                case rest =>
                  obtain ⟨⟨vb, rfl⟩, rfl⟩ := hcut
                  clear c0
                  go_upto_if 154 with fail
                  go_cut [12, 14] (fun v12 v14 wx => ∃ (j' m' : Nat) (k' : JK) (J' M' : List Nat), v12 = .pointer (some ⟨j', 0, none⟩) ∧ v14 = .pointer (some ⟨m', 0, none⟩) ∧ PS w wx p q S9 J' R9 M' j' m' D9 k')
                  case first => as_aux_lemma =>
                    cases vb with
                    | false =>
                      go_wp2_with fail
                      go_meet
                      exact ⟨_, _, _, _, _, rfl, rfl, HP9.out⟩
                    | true =>
                      cases hdn : D9.down with
                      | true =>
                        have HDN := Lib.hid hdn
                        clear hdn
                        go_wp2_with (first
                          | (go_at_call 12; refine (open_down p S9 D9 f n _ HP9.out.two.left.disk.disk (by rw [HP9.out.len]; exact hfn) HDN.out).mono ?_; rintro e w10 ⟨rfl, rfl⟩)
                          | (go_at_call 22; refine (ropen_down q R9 D9 f n _ HP9.out.two.ref (by rw [HP9.out.len]; exact hfn) HDN.out).mono ?_; rintro e w11 ⟨rfl, rfl⟩))
                        go_ret
                        exact ⟨rfl, HP9.out.two.upd.toBelow⟩
                      | false =>
                        have HDN := Lib.hid hdn
                        clear hdn
                        go_wp2_with (first
                          | (go_at_call 12; refine (two_openL HP9.out.two f n (by rw [HP9.out.len]; exact hfn) HDN.out HP9.out.byt).mono ?_; rintro e w10 ⟨j10, J10, rfl, ht10, -, -⟩
                             have HT10 := Lib.hid ht10
                             clear ht10)
                          | (go_at_call 22; refine (two_openR HT10.out f n (by rw [HP9.out.len]; exact hfn) HDN.out HP9.out.byt).mono ?_; rintro e w11 ⟨m11, M11, rfl, ht11, -, -⟩
                             have HT11 := Lib.hid ht11
                             clear ht11))
                        go_meet
                        exact ⟨_, _, _, _, _, rfl, rfl, ⟨HT11.out, HP9.out.byt, HP9.out.len, hfn⟩⟩
                  case rest =>
                    obtain ⟨j6, m6, k6, J6, M6, rfl, rfl, hp10⟩ := hcut
                    have HP10 := Lib.hid hp10
                    clear hp10 HP9 HV9

                    as_aux_lemma =>
                    go_upto_region 41 with fail
                    obtain ⟨rvv, U6, hm6, -⟩ := HP10.out.two.jrn.lists
                    have hm6b := hm6
                    refine held_start (fun w' => Blk w' m6 #[.pointer (some ⟨q, 0, none⟩), .int .i64 k6.from_, .int .i64 k6.blocks, .int .i64 k6.life, .int .i64 k6.used, rvv] 57) 8 mixed rfl hm6 (fun hHeld => ?_)
                    clear hm6
                    refine held_take 0 183 (.pointer (some ⟨j6, 0, none⟩)) rfl (by kernel_rfl) (by kernel_rfl) (by kernel_rfl) rfl (fun _ _ _ h => h) rfl hHeld (fun w hS => by rfl) ?_
                    simp only [List.setIfInBounds_toArray, List.set_cons_zero, List.set_cons_succ]
                    refine held_take 2 185 (.pointer (some ⟨m6, 0, none⟩)) rfl (by kernel_rfl) (by kernel_rfl) (by kernel_rfl) rfl (fun _ _ _ h => h) rfl hHeld (fun w hS => by rfl) ?_
                    simp only [List.setIfInBounds_toArray, List.set_cons_zero, List.set_cons_succ]
                    refine held_take 3 186 (.pointer (some ⟨m6, 0, none⟩)) rfl (by kernel_rfl) (by kernel_rfl) (by kernel_rfl) rfl (fun _ _ _ h => h) rfl hHeld (fun w hS => by go_simp) ?_
                    simp only [List.setIfInBounds_toArray, List.set_cons_zero, List.set_cons_succ]
                    refine held_take 4 187 (.pointer (some ⟨m6, 5, none⟩)) rfl (by kernel_rfl) (by kernel_rfl) (by kernel_rfl) rfl (fun _ _ _ h => h) rfl hHeld (fun w hS => by go_simp) ?_
                    simp only [List.setIfInBounds_toArray, List.set_cons_zero, List.set_cons_succ]
                    refine held_take 5 188 rvv rfl (by kernel_rfl) (by kernel_rfl) (by kernel_rfl) rfl (fun _ _ _ h => h) rfl hHeld (fun w hS => by have c := hS.cell (o := 5) rfl; go_simp) ?_
                    simp only [List.setIfInBounds_toArray, List.set_cons_zero, List.set_cons_succ]
                    refine held_next 1 184 rfl (by kernel_rfl) rfl rfl (fun K hK => ?_)
                    go_simp
                    refine (jrecords_any j6 J6 p k6 _ (HP10.out.two.left.jrn.upd0 ((Upd.refl _ _).drew))).mono ?_
                    rintro e w11 ⟨v11, T11, rfl, hl11, -, hu11⟩
                    have HL11 := Lib.hid hl11
                    have HP11 := Lib.hid ((HP10.out.quiet ((Upd.refl _ _).drew)).quiet hu11)
                    have hk := hK.out v11 w11 (hHeld.upd hu11 (by simp))
                    simp only [Act.put, List.setIfInBounds_toArray, List.set_cons_zero, List.set_cons_succ] at hk
                    refine hk (fun hHeld => ?_)
                    clear hK hk K hl11 hu11
                    refine held_next 6 189 rfl (by kernel_rfl) rfl rfl (fun K hK => ?_)
                    go_simp
                    obtain ⟨U11, hlr⟩ := HP11.out.two.jrn.listsAt hHeld
                    refine (bsame_any _ _ _ _ _ _ HL11.out hlr).mono ?_
                    rintro e w12 ⟨rfl, hu12⟩
                    have HP12 := Lib.hid (HP11.out.quiet hu12)
                    have hk := hK.out (.bool true) w12 (hHeld.upd hu12 (by simp))
                    simp only [Act.put, List.setIfInBounds_toArray, List.set_cons_zero, List.set_cons_succ] at hk
                    refine hk (fun hHeld => ?_)
                    clear hK hk K hu12 hlr
                    refine held_take 7 23 (.bool true) rfl (by kernel_rfl) (by kernel_rfl) (by kernel_rfl) rfl (fun _ _ _ h => h) rfl hHeld (fun w hS => by rfl) ?_
                    simp only [List.setIfInBounds_toArray, List.set_cons_zero, List.set_cons_succ]
                    refine held_done (by kernel_rfl) ?_
                    clear hHeld HP11 HL11 HP10 hm6b
                    go_upto_region 42 with fail
                    obtain ⟨lv, nv, ov, dn, hq12, -⟩ := HP12.out.two.ref.own
                    refine held_start (fun w' => Blk w' q #[lv, nv, ov, dn] 62) 8 mixed rfl hq12 (fun hHeld => ?_)
                    clear hq12
                    refine held_take 0 190 (.pointer (some ⟨p, 0, none⟩)) rfl (by kernel_rfl) (by kernel_rfl) (by kernel_rfl) rfl (fun _ _ _ h => h) rfl hHeld (fun w hS => by rfl) ?_
                    simp only [List.setIfInBounds_toArray, List.set_cons_zero, List.set_cons_succ]
                    refine held_take 2 192 (.pointer (some ⟨q, 0, none⟩)) rfl (by kernel_rfl) (by kernel_rfl) (by kernel_rfl) rfl (fun _ _ _ h => h) rfl hHeld (fun w hS => by rfl) ?_
                    simp only [List.setIfInBounds_toArray, List.set_cons_zero, List.set_cons_succ]
                    refine held_take 3 193 (.pointer (some ⟨q, 0, none⟩)) rfl (by kernel_rfl) (by kernel_rfl) (by kernel_rfl) rfl (fun _ _ _ h => h) rfl hHeld (fun w hS => by go_simp) ?_
                    simp only [List.setIfInBounds_toArray, List.set_cons_zero, List.set_cons_succ]
                    refine held_take 4 194 (.pointer (some ⟨q, 2, none⟩)) rfl (by kernel_rfl) (by kernel_rfl) (by kernel_rfl) rfl (fun _ _ _ h => h) rfl hHeld (fun w hS => by go_simp) ?_
                    simp only [List.setIfInBounds_toArray, List.set_cons_zero, List.set_cons_succ]
                    refine held_take 5 195 ov rfl (by kernel_rfl) (by kernel_rfl) (by kernel_rfl) rfl (fun _ _ _ h => h) rfl hHeld (fun w hS => by have c := hS.cell (o := 2) rfl; go_simp) ?_
                    simp only [List.setIfInBounds_toArray, List.set_cons_zero, List.set_cons_succ]
                    refine held_next 1 191 rfl (by kernel_rfl) rfl rfl (fun K hK => ?_)
                    go_simp
                    refine (dirty_any p S9 D9 _ (HP12.out.two.left.disk.disk.upd0 ((Upd.refl _ _).drew))).mono ?_
                    rintro e w13 ⟨a13, c13, rfl, hi13, hu13⟩
                    have HI13 := Lib.hid hi13
                    have HP13 := Lib.hid ((HP12.out.quiet ((Upd.refl _ _).drew)).quiet hu13)
                    have hk := hK.out (.slice a13 D9.fresh.length c13) w13 (hHeld.upd hu13 (by simp))
                    simp only [Act.put, List.setIfInBounds_toArray, List.set_cons_zero, List.set_cons_succ] at hk
                    refine hk (fun hHeld => ?_)
                    clear hK hk K hi13 hu13
                    refine held_next 6 196 rfl (by kernel_rfl) rfl rfl (fun K hK => ?_)
                    go_simp
                    refine (same_any _ ov D9.dirty D9.dirty _ HI13.out (HP13.out.two.ref.dirtyAt hHeld)).mono ?_
                    rw [eqB_self]
                    rintro e w14 ⟨rfl, hu14⟩
                    have HP14 := Lib.hid (HP13.out.quiet hu14)
                    have hk := hK.out (.bool true) w14 (hHeld.upd hu14 (by simp))
                    simp only [Act.put, List.setIfInBounds_toArray, List.set_cons_zero, List.set_cons_succ] at hk
                    refine hk (fun hHeld => ?_)
                    clear hK hk K hu14
                    refine held_take 7 24 (.bool true) rfl (by kernel_rfl) (by kernel_rfl) (by kernel_rfl) rfl (fun _ _ _ h => h) rfl hHeld (fun w hS => by rfl) ?_
                    simp only [List.setIfInBounds_toArray, List.set_cons_zero, List.set_cons_succ]
                    refine held_done (by kernel_rfl) ?_
                    clear hHeld HP13 HI13 HP12
                    obtain ⟨rv2, U14, hm14, -⟩ := HP14.out.two.jrn.lists
                    have e2 := hm14.cell (o := 2) rfl
                    have e3 := hm14.cell (o := 3) rfl
                    have e4 := hm14.cell (o := 4) rfl
                    have x1 := HP14.out.two.jrn.wf.used
                    have x2 := HP14.out.two.jrn.wf.room
                    go_upto_region 43 with fail
                    go_quiet ((first
                      | (go_at_call 20; exact jroom_quiet (HP14.out.two.left.jrn.upd0 ((Upd.refl _ _).drewN _)))
                      | (go_at_call 16; exact quiet_eq (jlife_any j6 J6 p k6 _ (HP14.out.two.left.jrn.upd0 ((Upd.refl _ _).drewN _))))))
                    clear hm14 e2 e3 e4
                    go_wp2_with fail
                    go_roundw
                    case rel => exact ⟨z + 1, j6, m6, S9, J6, R9, M6, D9, k6, by omega, by omega, by go_num, rfl, rfl, HP14.out.quiet ((Upd.refl _ _).drewN _)⟩
                    case measure => simp [intOf]; omega
      · have key : decide (z < l.length) = false ∨ (decide (z < l.length) = true ∧ z = 40) := by
          simp only [decide_eq_true_eq, decide_eq_false_iff_not]; omega
        clear hend hz40 hzl
        rcases key with q1 | ⟨q1, rfl⟩
        · go_wp2_with fail
          go_ret
          exact ⟨rfl, HP.out.two.upd.toBelow⟩
        · rw [show (((40 : Nat)) : Int) = 40 from rfl]
          have q1' : decide ((40 : Int) < (l.length : Int)) = true := by simp only [decide_eq_true_eq] at q1 ⊢; omega
          go_wp2_with fail
          go_ret
          exact ⟨rfl, HP.out.two.upd.toBelow⟩

end Go.Proofs.Ytfjmkdjbeoafjaa
