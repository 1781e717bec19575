/- The document's side: the checks of manifests and of facts. -/
import Derived.Test.YtbdmnmjdnfpfbaaLatRA
namespace Go.Proofs.Ytbdmnmjdnfpfbaa
open Go.ChangeShapes Go.WideShapes Go.ChangeAt Go.RowKit

set_option maxRecDepth 100000 in
set_option maxHeartbeats 1000000 in
theorem rmcheck_any {f : FK} {cv : Value} {w : World} (hf : f.WF) (hc : CI w cv f.chunks) :
    Calls Try.prog 61 #[.agg (encM f cv).toArray] w fun x w' => x = .returned (.int .i64 f.manCode) ∧ Upd [] w w' := by
  obtain ⟨ca, cc, rfl⟩ := hc.form
  obtain ⟨n, hn⟩ : ∃ n, n = f.chunks.length := ⟨_, rfl⟩
  have key : ((chunksN f.size f.chunk == 0) = true ∧ f.manCode = 50) ∨ ((chunksN f.size f.chunk == 0) = false ∧ ((n : Int) != chunksN f.size f.chunk) = true ∧ f.manCode = 50) ∨ ((chunksN f.size f.chunk == 0) = false ∧ ((n : Int) != chunksN f.size f.chunk) = false ∧ f.manCode = 0) := by
    unfold FK.manCode FK.manOk
    rw [← hn]
    by_cases h1 : chunksN f.size f.chunk = 0
    · left; simp [h1]
    · right
      by_cases h2 : (n : Int) = chunksN f.size f.chunk
      · right; simp [h1, h2]
      · left; simp [h1, h2]
  have HCH := Lib.hid (fun w => rchunks_any f.size f.chunk w)
  rw [← hn]
  obtain ⟨ch, hch⟩ : ∃ c, c = chunksN f.size f.chunk := ⟨_, rfl⟩
  obtain ⟨mc, hmc⟩ : ∃ c, c = f.manCode := ⟨_, rfl⟩
  rw [← hch] at HCH
  rw [← hch, ← hmc] at key
  rw [← hmc]
  obtain ⟨w1, hw1⟩ : ∃ w1, w1 = w.alloc (.cells (encM f (.slice ca n cc)).toArray 29) := ⟨_, rfl⟩
  obtain ⟨hb, hu⟩ := boxed w (encM f (.slice ca n cc)).toArray 29
  rw [← hw1] at hb hu
  have c0 : w1.cell? ⟨w.heap.size, 0, none⟩ = some (.int .i64 f.size) := hb.cell (o := 0) rfl
  have c1 : w1.cell? ⟨w.heap.size, 1, none⟩ = some (.int .i64 f.chunk) := hb.cell (o := 1) rfl
  have c2 : w1.cell? ⟨w.heap.size, 2, none⟩ = some (.slice ca n cc) := hb.cell (o := 2) rfl
  have HU := Lib.hid hu
  have HW := Lib.hid hw1
  clear hw1 hb hu hch hmc hn hf hc
  rcases key with ⟨k1, rfl⟩ | ⟨k1, k2, rfl⟩ | ⟨k1, k2, rfl⟩
  all_goals
    go_enter Try.func61, Try.ntmps61
    go_upto_region 1 with fail
    rw [← HW.out]
    go_wp2_with (go_at_call 64; refine (HCH.out _).mono ?_; rintro e w2 ⟨rfl, rfl⟩)
    go_ret
    exact ⟨rfl, HU.out⟩

set_option maxRecDepth 100000 in
set_option maxHeartbeats 2000000 in
/-- A manifest beside the empty one. -/
theorem same05_zero {f : FK} {cv : Value} {w : World} (hf : f.WF) (hc : CI w cv f.chunks) :
    Calls Try.prog 28 #[.agg (encM f cv).toArray, .agg (encM FK.zero (.slice none 0 0)).toArray] w fun e w' => e = .returned (.bool f.none) ∧ Upd [] w w' := by
  obtain ⟨ca, cc, rfl⟩ := hc.form
  obtain ⟨n, hn⟩ : ∃ n, n = f.chunks.length := ⟨_, rfl⟩
  have key : ((f.size != 0) = true ∧ f.none = false) ∨ ((f.size != 0) = false ∧ (f.chunk != 0) = true ∧ f.none = false) ∨ ((f.size != 0) = false ∧ (f.chunk != 0) = false ∧ (f.whole == zeros32) = false ∧ f.none = false) ∨
      ((f.size != 0) = false ∧ (f.chunk != 0) = false ∧ (f.whole == zeros32) = true ∧ ((n : Int) != 0) = true ∧ f.none = false) ∨ ((f.size != 0) = false ∧ (f.chunk != 0) = false ∧ (f.whole == zeros32) = true ∧ n = 0 ∧ f.none = true) := by
    unfold FK.none
    rw [← hn]
    by_cases h1 : f.size = 0
    · right
      by_cases h2 : f.chunk = 0
      · right
        by_cases h4 : f.whole = zeros32
        · right
          by_cases h3 : n = 0
          · right; simp [h1, h2, h3, h4]
          · left; simp [h1, h2, h3, h4]
        · left; simp [h1, h2, h4]
      · left; simp [h1, h2]
    · left; simp [h1]
  rw [← hn]
  obtain ⟨r, hr⟩ : ∃ r, r = f.none := ⟨_, rfl⟩
  obtain ⟨eq, heq⟩ : ∃ c, c = (f.whole == zeros32) := ⟨_, rfl⟩
  rw [← hr, ← heq] at key
  rw [← hr]
  obtain ⟨w2, hw2⟩ : ∃ w2, w2 = (w.alloc (.cells (encM f (.slice ca n cc)).toArray 29)).alloc (.cells (encM FK.zero (.slice none 0 0)).toArray 29) := ⟨_, rfl⟩
  obtain ⟨hb1, hb2, hu⟩ := boxed2 w (encM f (.slice ca n cc)).toArray (encM FK.zero (.slice none 0 0)).toArray 29 29
  rw [← hw2] at hb1 hb2 hu
  obtain ⟨tb, htb⟩ : ∃ x, x = w.heap.size := ⟨_, rfl⟩
  rw [← htb] at hb1 hb2
  have HU := Lib.hid hu
  have HW2 := Lib.hid hw2
  have HTB := Lib.hid htb
  have HL := Lib.hid hf.whole
  have HEQ := Lib.hid heq
  have HC1 := Lib.hid ((CellsAt.of_blk hb1).wholeM hf)
  have HC2 := Lib.hid ((CellsAt.of_blk hb2).wholeM FK.zero_wf)
  have c0 : w2.cell? ⟨tb, 0, none⟩ = some (.int .i64 f.size) := hb1.cell (o := 0) rfl
  have c1 : w2.cell? ⟨tb, 1, none⟩ = some (.int .i64 f.chunk) := hb1.cell (o := 1) rfl
  have c2 : w2.cell? ⟨tb, 2, none⟩ = some (.slice ca n cc) := hb1.cell (o := 2) rfl
  have d0 : w2.cell? ⟨tb + 1, 0, none⟩ = some (.int .i64 0) := hb2.cell (o := 0) rfl
  have d1 : w2.cell? ⟨tb + 1, 1, none⟩ = some (.int .i64 0) := hb2.cell (o := 1) rfl
  have d2 : w2.cell? ⟨tb + 1, 2, none⟩ = some (.slice none 0 0) := hb2.cell (o := 2) rfl
  clear hw2 hb1 hb2 hu htb hc hf hn hr heq
  rcases key with ⟨k1, rfl⟩ | ⟨k1, k2, rfl⟩ | ⟨k1, k2, rfl, rfl⟩ | ⟨k1, k2, rfl, k4, rfl⟩ | ⟨k1, k2, rfl, rfl, rfl⟩
  rotate_left 4
  · go_enter Try.func28, Try.ntmps28
    go_upto_region 1 with fail
    rw [← HW2.out, ← HTB.out]
    go_upto_region 4 with (first
      | ((with_reducible show wpList _ _ _ (⟨some 20, _, _, _, _, _⟩ :: _) _ _); refine wpList_runW rfl (arr_load32 (.tmp 19) rfl rfl HC1.out HL.out) ?_)
      | ((with_reducible show wpList _ _ _ (⟨some 22, _, _, _, _, _⟩ :: _) _ _); refine wpList_runW rfl (arr_load32 (.tmp 21) rfl rfl HC2.out FK.zero_wf.whole) ?_)
      | ((with_reducible show wpList _ _ _ (⟨some 23, _, _, _, _, _⟩ :: _) _ _); refine wpList_runW rfl (arr_neq32 (.tmp 20) (.tmp 22) rfl rfl rfl HL.out FK.zero_wf.whole) ?_; rw [show (f.whole == FK.zero.whole) = true from HEQ.out.symm]))
    go_loopw [5] (fun i wx => i = .int .i64 0 ∧ w2 = wx) (fun i _ => 1)
    case atStart => exact ⟨rfl, rfl⟩
    case round =>
      obtain ⟨rfl, rfl⟩ := hrel
      go_wp2_with fail
      go_ret
      exact ⟨rfl, HU.out⟩
  all_goals
    go_enter Try.func28, Try.ntmps28
    go_upto_region 1 with fail
    rw [← HW2.out, ← HTB.out]
    go_wp2_with (first
      | ((with_reducible show wpList _ _ _ (⟨some 20, _, _, _, _, _⟩ :: _) _ _); refine wpList_runW rfl (arr_load32 (.tmp 19) rfl rfl HC1.out HL.out) ?_)
      | ((with_reducible show wpList _ _ _ (⟨some 22, _, _, _, _, _⟩ :: _) _ _); refine wpList_runW rfl (arr_load32 (.tmp 21) rfl rfl HC2.out FK.zero_wf.whole) ?_)
      | ((with_reducible show wpList _ _ _ (⟨some 23, _, _, _, _, _⟩ :: _) _ _); refine wpList_runW rfl (arr_neq32 (.tmp 20) (.tmp 22) rfl rfl rfl HL.out FK.zero_wf.whole) ?_; rw [show (f.whole == FK.zero.whole) = _ from HEQ.out.symm]))
    go_ret
    exact ⟨rfl, HU.out⟩

set_option maxRecDepth 100000 in
theorem rnone_any {f : FK} {cv : Value} {w : World} (hf : f.WF) (hc : CI w cv f.chunks) :
    Calls Try.prog 62 #[.agg (encM f cv).toArray] w fun x w' => x = .returned (.bool f.none) ∧ Upd [] w w' := by
  obtain ⟨w1, hw1⟩ : ∃ w1, w1 = w.alloc (.cells (encM f cv).toArray 29) := ⟨_, rfl⟩
  obtain ⟨hb, hu⟩ := boxed w (encM f cv).toArray 29
  rw [← hw1] at hb hu
  have HL := Lib.hid (CellsAt.of_blk hb)
  have HU := Lib.hid hu
  have HC := Lib.hid (hc.upd0 hu)
  have HW := Lib.hid hw1
  have HF := Lib.hid hf
  clear hw1 hb hu hc hf
  go_enter Try.func62, Try.ntmps62
  go_upto_region 1 with fail
  rw [← HW.out]
  go_wp2_with (first
    | ((with_reducible show wpList _ _ _ (⟨some 3, _, _, _, _, _⟩ :: _) _ _); refine wpList_run rfl (man_load (.tmp 1) rfl rfl HL.out HF.out) ?_)
    | ((with_reducible show wpList _ _ _ (⟨some 4, _, _, _, _, _⟩ :: _) _ _); refine wpList_run rfl (exec_man0 rfl) ?_)
    | (go_at_call 28; refine (same05_zero HF.out HC.out).mono ?_; rintro e w2 ⟨rfl, hu2⟩
       have HU2 := Lib.hid (HU.out.trans hu2)
       clear hu2))
  go_ret
  exact ⟨rfl, HU2.out⟩

theorem chk_of_no {nodes : Int} {f : FK} (h : f.ok0 nodes = false) : f.chk nodes = 100 := by
  rcases ok_key nodes f with ⟨-, ⟨-, k⟩ | ⟨k, -⟩ | ⟨k, -⟩ | ⟨k, -⟩⟩ | ⟨-, ⟨-, k⟩ | ⟨k, -⟩ | ⟨k, -⟩⟩ | ⟨-, -, -, k⟩
  all_goals first | exact k | (rw [h] at k; cases k)

/-- What stands at the check's head. -/
theorem head_key (nodes : Int) (f : FK) : ((f.chk nodes = 100) ∧ (decide (nodes < 1) = true ∨ (decide (nodes < 1) = false ∧ decide (9 < nodes) = true) ∨ (decide (nodes < 1) = false ∧ decide (9 < nodes) = false ∧ decide (f.node < 0) = true) ∨
      (decide (nodes < 1) = false ∧ decide (9 < nodes) = false ∧ decide (f.node < 0) = false ∧ decide (nodes ≤ f.node) = true) ∨
      (decide (nodes < 1) = false ∧ decide (9 < nodes) = false ∧ decide (f.node < 0) = false ∧ decide (nodes ≤ f.node) = false ∧ decide (f.epoch < 16) = true) ∨
      (decide (nodes < 1) = false ∧ decide (9 < nodes) = false ∧ decide (f.node < 0) = false ∧ decide (nodes ≤ f.node) = false ∧ decide (f.epoch < 16) = false ∧ decide (1099511627776 < f.epoch) = true))) ∨
    (decide (nodes < 1) = false ∧ decide (9 < nodes) = false ∧ decide (f.node < 0) = false ∧ decide (nodes ≤ f.node) = false ∧ decide (f.epoch < 16) = false ∧ decide (1099511627776 < f.epoch) = false ∧ f.ok0 nodes = decide ((ofN f.epoch).1 < nodes)) := by
  have no : ∀ {p : Bool}, f.ok0 nodes = p → p = false → f.chk nodes = 100 := fun h h2 => chk_of_no (by rw [h, h2])
  by_cases h1 : nodes < 1
  · left; exact ⟨chk_of_no (by unfold FK.ok0; simp; omega), .inl (decide_eq_true h1)⟩
  by_cases h2 : 9 < nodes
  · left; exact ⟨chk_of_no (by unfold FK.ok0; simp; omega), .inr (.inl ⟨decide_eq_false h1, decide_eq_true h2⟩)⟩
  by_cases h3 : f.node < 0
  · left; exact ⟨chk_of_no (by unfold FK.ok0; simp; omega), .inr (.inr (.inl ⟨decide_eq_false h1, decide_eq_false h2, decide_eq_true h3⟩))⟩
  by_cases h4 : nodes ≤ f.node
  · left; exact ⟨chk_of_no (by unfold FK.ok0; simp; omega), .inr (.inr (.inr (.inl ⟨decide_eq_false h1, decide_eq_false h2, decide_eq_false h3, decide_eq_true h4⟩)))⟩
  by_cases h5 : f.epoch < 16
  · left; exact ⟨chk_of_no (by unfold FK.ok0 ofN; simp [h5]), .inr (.inr (.inr (.inr (.inl ⟨decide_eq_false h1, decide_eq_false h2, decide_eq_false h3, decide_eq_false h4, decide_eq_true h5⟩))))⟩
  by_cases h6 : 1099511627776 < f.epoch
  · left; exact ⟨chk_of_no (by unfold FK.ok0 ofN; simp [h6]), .inr (.inr (.inr (.inr (.inr ⟨decide_eq_false h1, decide_eq_false h2, decide_eq_false h3, decide_eq_false h4, decide_eq_false h5, decide_eq_true h6⟩))))⟩
  right
  refine ⟨decide_eq_false h1, decide_eq_false h2, decide_eq_false h3, decide_eq_false h4, decide_eq_false h5, decide_eq_false h6, ?_⟩
  have e : (ofN f.epoch).2 = f.epoch / 16 := by unfold ofN; rw [if_neg (by omega)]
  unfold FK.ok0
  rw [e, decide_eq_true (show 1 ≤ nodes by omega), decide_eq_true (show nodes ≤ 9 by omega), decide_eq_true (show 0 ≤ f.node by omega), decide_eq_true (show f.node < nodes by omega), decide_eq_true (show 0 < f.epoch / 16 by omega)]
  rfl

set_option maxRecDepth 100000 in
set_option maxHeartbeats 4000000 in
theorem rcheck_any (nodes : Int) {f : FK} {cv : Value} {w : World} (hf : f.WF) (hc : CI w cv f.chunks) :
    Calls Try.prog 50 #[.int .i64 nodes, .agg (encF f cv).toArray] w fun x w' => x = .returned (.int .i64 (f.chk nodes)) ∧ Upd [] w w' := by
  have k0 := head_key nodes f
  have k1 := ok_key nodes f
  have HOF := Lib.hid (fun w => rof_any f.epoch w)
  obtain ⟨nd, hnd⟩ : ∃ x, x = (ofN f.epoch).1 := ⟨_, rfl⟩
  obtain ⟨nn, hnn⟩ : ∃ x, x = (ofN f.epoch).2 := ⟨_, rfl⟩
  obtain ⟨ok, hok⟩ : ∃ x, x = f.ok0 nodes := ⟨_, rfl⟩
  obtain ⟨ck, hck⟩ : ∃ x, x = f.chk nodes := ⟨_, rfl⟩
  obtain ⟨mc, hmc⟩ : ∃ x, x = f.manCode := ⟨_, rfl⟩
  obtain ⟨no, hno⟩ : ∃ x, x = f.none := ⟨_, rfl⟩
  obtain ⟨kd, hkd⟩ : ∃ x, x = f.kind := ⟨_, rfl⟩
  rw [← hnd, ← hok, ← hck] at k0
  rw [← hnd, ← hok, ← hck, ← hmc, ← hno, ← hkd] at k1
  rw [← hnd, ← hnn] at HOF
  rw [← hck]
  have hsw : (f.node == nd) = (nd == f.node) := by rw [Bool.eq_iff_iff]; simp; exact eq_comm
  rw [hsw] at k1
  obtain ⟨w1, hw1⟩ : ∃ w1, w1 = w.alloc (.cells (encF f cv).toArray 31) := ⟨_, rfl⟩
  obtain ⟨hb, hu⟩ := boxed w (encF f cv).toArray 31
  rw [← hw1] at hb hu
  have c0 : w1.cell? ⟨w.heap.size, 0, none⟩ = some (.int .i64 kd) := by rw [hkd]; exact hb.cell (o := 0) rfl
  have c1 : w1.cell? ⟨w.heap.size, 1, none⟩ = some (.int .i64 f.epoch) := hb.cell (o := 1) rfl
  have c2 : w1.cell? ⟨w.heap.size, 2, none⟩ = some (.int .i64 f.node) := hb.cell (o := 2) rfl
  have HL := Lib.hid ((CellsAt.of_blk hb).man hf)
  have HF := Lib.hid hf
  have HC := Lib.hid (hc.upd0 hu)
  have HMC := Lib.hid (fun w2 (h : Upd [] w1 w2) => rmcheck_any hf (hc.upd0 (hu.trans h)))
  have HNO := Lib.hid (fun w2 (h : Upd [] w1 w2) => rnone_any hf (hc.upd0 (hu.trans h)))
  rw [← hmc] at HMC
  rw [← hno] at HNO
  have HU := Lib.hid hu
  have HW := Lib.hid hw1
  clear hw1 hb hu hnd hnn hok hck hmc hno hkd hsw hf hc
  rcases k0 with ⟨rfl, k0⟩ | ⟨h1, h2, h3, h4, h5, h6, h7⟩
  · rcases k0 with h1 | ⟨h1, h2⟩ | ⟨h1, h2, h3⟩ | ⟨h1, h2, h3, h4⟩ | ⟨h1, h2, h3, h4, h5⟩ | ⟨h1, h2, h3, h4, h5, h6⟩
    all_goals
      clear k1
      go_enter Try.func50, Try.ntmps50
      go_upto_region 1 with fail
      rw [← HW.out]
      go_wp2_with fail
      go_ret
      exact ⟨rfl, HU.out⟩
  · rw [h7] at k1
    obtain ⟨b, hb⟩ : ∃ b, decide (nd < nodes) = b := ⟨_, rfl⟩
    rw [hb] at k1
    clear h7
    rcases k1 with ⟨rfl, k1⟩ | ⟨hk, k1⟩ | ⟨e1, e2, e3, rfl⟩
    · rcases k1 with ⟨rfl, rfl⟩ | ⟨rfl, k2, rfl⟩ | ⟨rfl, k2, rfl, rfl⟩ | ⟨rfl, k2, rfl, rfl⟩
      all_goals
        go_enter Try.func50, Try.ntmps50
        go_upto_region 1 with fail
        rw [← HW.out]
        go_upto_region 3 with fail
        clear h1 h2 h3 h4 h5 h6
        go_wp2_with (first
          | (go_at_call 54; refine (HOF.out _).mono ?_; rintro e _ ⟨rfl, rfl⟩)
          | ((with_reducible show wpList _ _ _ (⟨some 58, _, _, _, _, _⟩ :: _) _ _); refine wpList_runW rfl (man_load (.tmp 57) rfl rfl HL.out HF.out) ?_)
          | (go_at_call 61; refine (HMC.out _ (Upd.refl _ _)).mono ?_; rintro e w3 ⟨rfl, hu3⟩
             have HU := Lib.hid (HU.out.trans hu3)
             clear hu3))
        go_ret
        exact ⟨rfl, HU.out⟩
    · rcases hk with rfl | rfl <;> rcases k1 with ⟨rfl, rfl⟩ | ⟨rfl, rfl, rfl⟩ | ⟨rfl, rfl, rfl⟩
      all_goals
        go_enter Try.func50, Try.ntmps50
        go_upto_region 1 with fail
        rw [← HW.out]
        go_upto_region 3 with fail
        clear h1 h2 h3 h4 h5 h6
        go_wp2_with (first
          | (go_at_call 54; refine (HOF.out _).mono ?_; rintro e _ ⟨rfl, rfl⟩)
          | ((with_reducible show wpList _ _ _ (⟨some 66, _, _, _, _, _⟩ :: _) _ _); refine wpList_run rfl (man_load (.tmp 65) rfl rfl HL.out HF.out) ?_)
          | (go_at_call 62; refine (HNO.out _ (Upd.refl _ _)).mono ?_; rintro e w3 ⟨rfl, hu3⟩
             have HU := Lib.hid (HU.out.trans hu3)
             clear hu3))
        go_ret
        exact ⟨rfl, HU.out⟩
    · go_enter Try.func50, Try.ntmps50
      go_upto_region 1 with fail
      rw [← HW.out]
      go_upto_region 3 with fail
      clear h1 h2 h3 h4 h5 h6
      go_wp2_with (go_at_call 54; refine (HOF.out _).mono ?_; rintro e _ ⟨rfl, rfl⟩)
      go_ret
      exact ⟨rfl, HU.out⟩

end Go.Proofs.Ytbdmnmjdnfpfbaa
