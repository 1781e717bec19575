/- The walks of the document's Same, of manifests, facts and lists that are alike. (Printed by wip/tools/gen_same.py.) -/
import Derived.Test.YtbdmnmjdnfpfbaaLatV
namespace Go.Proofs.Ytbdmnmjdnfpfbaa
open Go.ChangeShapes Go.WideShapes Go.ChangeAt Go.RowKit

theorem arr_neq32_same {a : Act} {o : Oper} {w : World} {l : List Int} {u : TypeId} (x y : Operand) (ho : o.op = .binOp .neq 27 x y u) (hx : a.eval x = .agg (U8 l)) (hy : a.eval y = .agg (U8 l)) (hl : l.length = 32) :
    (execOp a.eval o).run Try.prog w = .ok (.value (.bool false)) w := by
  rw [arr_neq32 x y ho hx hy hl hl]; simp

theorem CI.form {w : World} {v : Value} {cs : List (List Int)} (h : CI w v cs) : ∃ a cap, v = .slice a cs.length cap := by obtain ⟨T, h, -⟩ := h; exact h.form
theorem CI.get {w : World} {a : Option Addr} {n cap : Nat} {cs : List (List Int)} (h : CI w (.slice a n cap) cs) (h0 : 0 < cs.length) :
    ∃ g off, a = some ⟨g, off, none⟩ ∧ g < w.heap.size ∧ ∀ i, i < cs.length → CellsAt w g (off + i * 32) ((cs.getD i []).map (Value.int .u8)) := by
  obtain ⟨T, ⟨a', cap', e, -, -, h⟩, -⟩ := h
  cases e
  obtain ⟨g, off, rfl, hg, -, hc⟩ := h (by intro e; rw [e] at h0; simp at h0)
  exact ⟨g, off, rfl, hg, hc⟩

set_option maxRecDepth 100000 in
set_option maxHeartbeats 2000000 in
theorem same05_yes {f : FK} {cv dv : Value} {w : World} (hf : f.WF) (hc : CI w cv f.chunks) (hd : CI w dv f.chunks) (hl : f.chunks.length ≤ 1000) :
    Calls Try.prog 28 #[.agg (encM f cv).toArray, .agg (encM f dv).toArray] w fun e w' => e = .returned (.bool true) ∧ Upd [] w w' := by
  obtain ⟨ca, cc, rfl⟩ := hc.form
  obtain ⟨da, dc, rfl⟩ := hd.form
  obtain ⟨n, hn⟩ : ∃ n, n = f.chunks.length := ⟨_, rfl⟩
  rw [← hn] at hc hd hl ⊢
  have HN := Lib.hid hn
  have HEACH : Hid (∀ i, i < n → (f.chunks.getD i []).length = 32) := Lib.hid (fun i hi => hf.each _ (by rw [hn] at hi; simp [List.getD_eq_getElem?_getD, hi]))
  obtain ⟨w2, hw2⟩ : ∃ w2, w2 = (w.alloc (.cells (encM f (.slice ca n cc)).toArray 29)).alloc (.cells (encM f (.slice da n dc)).toArray 29) := ⟨_, rfl⟩
  obtain ⟨hb1, hb2, hu⟩ := boxed2 w (encM f (.slice ca n cc)).toArray (encM f (.slice da n dc)).toArray 29 29
  rw [← hw2] at hb1 hb2 hu
  obtain ⟨tb, htb⟩ : ∃ x, x = w.heap.size := ⟨_, rfl⟩
  rw [← htb] at hb1 hb2
  have HB1 := Lib.hid hb1
  have HB2 := Lib.hid hb2
  have HC := Lib.hid (hc.upd0 hu)
  have HD := Lib.hid (hd.upd0 hu)
  have HU := Lib.hid hu
  have HW2 := Lib.hid hw2
  have HTB := Lib.hid htb
  have HL := Lib.hid hf.whole
  have HC1 := Lib.hid ((CellsAt.of_blk hb1).wholeM hf)
  have HC2 := Lib.hid ((CellsAt.of_blk hb2).wholeM hf)
  have c0 : w2.cell? ⟨tb, 0, none⟩ = some (.int .i64 f.size) := hb1.cell (o := 0) rfl
  have c1 : w2.cell? ⟨tb, 1, none⟩ = some (.int .i64 f.chunk) := hb1.cell (o := 1) rfl
  have c2 : w2.cell? ⟨tb, 2, none⟩ = some (.slice ca n cc) := hb1.cell (o := 2) rfl
  have d0 : w2.cell? ⟨tb + 1, 0, none⟩ = some (.int .i64 f.size) := hb2.cell (o := 0) rfl
  have d1 : w2.cell? ⟨tb + 1, 1, none⟩ = some (.int .i64 f.chunk) := hb2.cell (o := 1) rfl
  have d2 : w2.cell? ⟨tb + 1, 2, none⟩ = some (.slice da n dc) := hb2.cell (o := 2) rfl
  clear hw2 hb1 hb2 hu htb hc hd hf hn
  go_enter Try.func28, Try.ntmps28
  go_upto_region 1 with fail
  rw [← HW2.out, ← HTB.out]
  go_upto_region 4 with (first
    | ((with_reducible show wpList _ _ _ (⟨some 20, _, _, _, _, _⟩ :: _) _ _); refine wpList_runW rfl (arr_load32 (.tmp 19) rfl rfl HC1.out HL.out) ?_)
    | ((with_reducible show wpList _ _ _ (⟨some 22, _, _, _, _, _⟩ :: _) _ _); refine wpList_runW rfl (arr_load32 (.tmp 21) rfl rfl HC2.out HL.out) ?_)
    | ((with_reducible show wpList _ _ _ (⟨some 23, _, _, _, _, _⟩ :: _) _ _); refine wpList_runW rfl (arr_neq32_same (.tmp 20) (.tmp 22) rfl rfl rfl HL.out) ?_))
  clear c0 c1 c2 d0 d1 d2
  go_loopw [5] (fun i wx => ∃ (m : Nat), m ≤ n ∧ i = .int .i64 m ∧ Upd [] w2 wx) (fun i _ => n - (intOf i).toNat)
  case atStart => exact ⟨0, Nat.zero_le _, rfl, Upd.refl _ _⟩
  case round =>
    obtain ⟨m, hm, rfl, hu⟩ := hrel
    have HUX := Lib.hid hu
    have hb1 := HB1.out.upd hu (by simp)
    have hb2 := HB2.out.upd hu (by simp)
    have HB1X := Lib.hid hb1
    have HB2X := Lib.hid hb2
    have c2 : wr.cell? ⟨tb, 2, none⟩ = some (.slice ca n cc) := hb1.cell (o := 2) rfl
    clear hu hb1 hb2
    by_cases hlt : m < n
    · obtain ⟨g, off, rfl, hg, hcl⟩ := HC.out.get (by rw [← HN.out]; omega)
      obtain ⟨g', off', rfl, hg', hcl'⟩ := HD.out.get (by rw [← HN.out]; omega)
      have hg := Nat.lt_of_lt_of_le hg HUX.out.size
      have hg' := Nat.lt_of_lt_of_le hg' HUX.out.size
      have h1 := hcl m (by rw [← HN.out]; exact hlt)
      have h2 := hcl' m (by rw [← HN.out]; exact hlt)
      have h3 := HEACH.out m hlt
      obtain ⟨ch, hch⟩ : ∃ x, x = f.chunks.getD m [] := ⟨_, rfl⟩
      rw [← hch] at h1 h2 h3
      have HK1 := Lib.hid (h1.upd HUX.out (Nat.lt_of_lt_of_le (by assumption) (Nat.le_refl _)) (by simp))
      have HK2 := Lib.hid (h2.upd HUX.out (Nat.lt_of_lt_of_le (by assumption) (Nat.le_refl _)) (by simp))
      have HK3 := Lib.hid h3
      have hx0 : (0 : Int) ≤ (m : Int) := by omega
      have hx1 : (m : Int) < (n : Int) := by omega
      clear hcl hcl' h1 h2 h3 hch
      go_upto_region 6 with fail
      clear c2
      refine held_start (fun w' => Upd [] wr w') 11 mixed rfl ((Upd.refl _ _).drew) (fun hHeld => ?_)
      refine held_take 0 41 (.pointer (some ⟨tb, 2, none⟩)) rfl (by kernel_rfl) (by kernel_rfl) (by kernel_rfl) rfl (fun _ _ _ h => h) rfl hHeld (fun w hS => by go_simp) ?_
      simp only [List.setIfInBounds_toArray, List.set_cons_zero, List.set_cons_succ]
      refine held_take 1 42 (.slice (some ⟨g, off, none⟩) n cc) rfl (by kernel_rfl) (by kernel_rfl) (by kernel_rfl) rfl (fun _ _ _ h => h) rfl hHeld (fun w hS => by have c : w.cell? ⟨tb, 2, none⟩ = some (.slice (some ⟨g, off, none⟩) n cc) := (HB1X.out.upd hS (by simp)).cell (o := 2) rfl; go_simp) ?_
      simp only [List.setIfInBounds_toArray, List.set_cons_zero, List.set_cons_succ]
      refine held_take 2 43 (.int .i64 (m : Nat)) rfl (by kernel_rfl) (by kernel_rfl) (by kernel_rfl) rfl (fun _ _ _ h => h) rfl hHeld (fun w hS => by rfl) ?_
      simp only [List.setIfInBounds_toArray, List.set_cons_zero, List.set_cons_succ]
      refine held_take 3 44 (.pointer (some ⟨g, off + m * 32, none⟩)) rfl (by kernel_rfl) (by kernel_rfl) (by kernel_rfl) rfl (fun _ _ _ h => h) rfl hHeld (fun w hS => by go_simp) ?_
      simp only [List.setIfInBounds_toArray, List.set_cons_zero, List.set_cons_succ]
      refine held_take 4 45 (.agg (U8 ch)) rfl (by kernel_rfl) (by kernel_rfl) (by kernel_rfl) rfl (fun _ _ _ h => h) rfl hHeld (fun w hS => by exact arr_load32 (.tmp 44) rfl rfl (HK1.out.upd hS hg (by simp)) HK3.out) ?_
      simp only [List.setIfInBounds_toArray, List.set_cons_zero, List.set_cons_succ]
      refine held_take 5 46 (.pointer (some ⟨tb + 1, 2, none⟩)) rfl (by kernel_rfl) (by kernel_rfl) (by kernel_rfl) rfl (fun _ _ _ h => h) rfl hHeld (fun w hS => by go_simp) ?_
      simp only [List.setIfInBounds_toArray, List.set_cons_zero, List.set_cons_succ]
      refine held_take 6 47 (.slice (some ⟨g', off', none⟩) n dc) rfl (by kernel_rfl) (by kernel_rfl) (by kernel_rfl) rfl (fun _ _ _ h => h) rfl hHeld (fun w hS => by have c : w.cell? ⟨tb + 1, 2, none⟩ = some (.slice (some ⟨g', off', none⟩) n dc) := (HB2X.out.upd hS (by simp)).cell (o := 2) rfl; go_simp) ?_
      simp only [List.setIfInBounds_toArray, List.set_cons_zero, List.set_cons_succ]
      refine held_take 7 48 (.int .i64 (m : Nat)) rfl (by kernel_rfl) (by kernel_rfl) (by kernel_rfl) rfl (fun _ _ _ h => h) rfl hHeld (fun w hS => by rfl) ?_
      simp only [List.setIfInBounds_toArray, List.set_cons_zero, List.set_cons_succ]
      refine held_take 8 49 (.pointer (some ⟨g', off' + m * 32, none⟩)) rfl (by kernel_rfl) (by kernel_rfl) (by kernel_rfl) rfl (fun _ _ _ h => h) rfl hHeld (fun w hS => by go_simp) ?_
      simp only [List.setIfInBounds_toArray, List.set_cons_zero, List.set_cons_succ]
      refine held_take 9 50 (.agg (U8 ch)) rfl (by kernel_rfl) (by kernel_rfl) (by kernel_rfl) rfl (fun _ _ _ h => h) rfl hHeld (fun w hS => by exact arr_load32 (.tmp 49) rfl rfl (HK2.out.upd hS hg' (by simp)) HK3.out) ?_
      simp only [List.setIfInBounds_toArray, List.set_cons_zero, List.set_cons_succ]
      refine held_take 10 51 (.bool false) rfl (by kernel_rfl) (by kernel_rfl) (by kernel_rfl) rfl (fun _ _ _ h => h) rfl hHeld (fun w hS => by exact arr_neq32_same (.tmp 45) (.tmp 50) rfl rfl rfl HK3.out) ?_
      simp only [List.setIfInBounds_toArray, List.set_cons_zero, List.set_cons_succ]
      refine held_done (by kernel_rfl) ?_
      go_wp2_with fail
      go_roundw
      case rel => exact ⟨m + 1, by omega, by go_num, HUX.out.trans hHeld⟩
      case measure => simp [intOf]; omega
    · obtain rfl : n = m := by omega
      clear hlt hm
      go_wp2_with fail
      go_ret
      exact ⟨rfl, HU.out.trans HUX.out⟩

set_option maxRecDepth 100000 in
set_option maxHeartbeats 2000000 in
theorem same10_yes {f : FK} {cv dv : Value} {w : World} (hf : f.WF) (hc : CI w cv f.chunks) (hd : CI w dv f.chunks) (hl : f.chunks.length ≤ 1000) :
    Calls Try.prog 38 #[.agg (encF f cv).toArray, .agg (encF f dv).toArray] w fun e w' => e = .returned (.bool true) ∧ Upd [] w w' := by
  obtain ⟨w2, hw2⟩ : ∃ w2, w2 = (w.alloc (.cells (encF f cv).toArray 31)).alloc (.cells (encF f dv).toArray 31) := ⟨_, rfl⟩
  obtain ⟨hb1, hb2, hu⟩ := boxed2 w (encF f cv).toArray (encF f dv).toArray 31 31
  rw [← hw2] at hb1 hb2 hu
  obtain ⟨tb, htb⟩ : ∃ x, x = w.heap.size := ⟨_, rfl⟩
  rw [← htb] at hb1 hb2
  have HB1 := Lib.hid hb1
  have HB2 := Lib.hid hb2
  have HC := Lib.hid (hc.upd0 hu)
  have HD := Lib.hid (hd.upd0 hu)
  have HU := Lib.hid hu
  have HW2 := Lib.hid hw2
  have HTB := Lib.hid htb
  have HF := Lib.hid hf
  have HC1 := Lib.hid ((CellsAt.of_blk hb1).man hf)
  have HC2 := Lib.hid ((CellsAt.of_blk hb2).man hf)
  clear hw2 hb1 hb2 hu htb hc hd hf
  go_enter Try.func38, Try.ntmps38
  go_upto_region 1 with fail
  rw [← HW2.out, ← HTB.out]
  go_upto_region 2 with (first
    | ((with_reducible show wpList _ _ _ (⟨some 7, _, _, _, _, _⟩ :: _) _ _); refine wpList_run rfl (man_load (.tmp 6) rfl rfl HC1.out HF.out) ?_)
    | ((with_reducible show wpList _ _ _ (⟨some 9, _, _, _, _, _⟩ :: _) _ _); refine wpList_run rfl (man_load (.tmp 8) rfl rfl HC2.out HF.out) ?_)
    | (go_at_call 28; refine (same05_yes HF.out HC.out HD.out hl).mono ?_; rintro e w3 ⟨rfl, hu3⟩
       have hb1 := HB1.out.upd hu3 (by simp)
       have hb2 := HB2.out.upd hu3 (by simp)
       have c0 : w3.cell? ⟨tb, 0, none⟩ = some (.int .i64 f.kind) := hb1.cell (o := 0) rfl
       have c1 : w3.cell? ⟨tb, 1, none⟩ = some (.int .i64 f.epoch) := hb1.cell (o := 1) rfl
       have c2 : w3.cell? ⟨tb, 2, none⟩ = some (.int .i64 f.node) := hb1.cell (o := 2) rfl
       have d0 : w3.cell? ⟨tb + 1, 0, none⟩ = some (.int .i64 f.kind) := hb2.cell (o := 0) rfl
       have d1 : w3.cell? ⟨tb + 1, 1, none⟩ = some (.int .i64 f.epoch) := hb2.cell (o := 1) rfl
       have d2 : w3.cell? ⟨tb + 1, 2, none⟩ = some (.int .i64 f.node) := hb2.cell (o := 2) rfl
       have HU3 := Lib.hid (HU.out.trans hu3)
       clear hb1 hb2 hu3))
  go_wp2_with fail
  go_ret
  exact ⟨rfl, HU3.out⟩

set_option maxRecDepth 100000 in
set_option maxHeartbeats 2000000 in
theorem same11_yes {L : List FK} {u v : Value} {w : World} (hu : FI w u L) (hv : FI w v L) (hl : ∀ f ∈ L, f.chunks.length ≤ 1000) :
    Calls Try.prog 15 #[u, v] w fun e w' => e = .returned (.bool true) ∧ Upd [] w w' := by
  have hnm : L.length ≤ maxLen := by obtain ⟨T, ⟨_, cap', _, e, h1, h2, -⟩, -⟩ := hu; omega
  unfold maxLen at hnm
  obtain ⟨ca, cc, rfl⟩ := hu.form
  obtain ⟨da, dc, rfl⟩ := hv.form
  obtain ⟨n, hn⟩ : ∃ n, n = L.length := ⟨_, rfl⟩
  rw [← hn] at hu hv hnm ⊢
  have HN := Lib.hid hn
  have HC := Lib.hid hu
  have HD := Lib.hid hv
  have HL := Lib.hid hl
  clear hn hu hv hl
  go_enter Try.func15, Try.ntmps15
  go_upto_region 4 with fail
  go_loopw [5] (fun i wx => ∃ (m : Nat), m ≤ n ∧ i = .int .i64 m ∧ Upd [] w wx) (fun i _ => n - (intOf i).toNat)
  case atStart => exact ⟨0, Nat.zero_le _, rfl, Upd.refl _ _⟩
  case round =>
    obtain ⟨m, hm, rfl, hu⟩ := hrel
    have HUX := Lib.hid hu
    clear hu
    by_cases hlt : m < n
    · have hlx : m < L.length := by rw [← HN.out]; exact hlt
      obtain ⟨g, off, cv, rfl, hg, hcl, hch, hwf⟩ := HC.out.get hlx
      obtain ⟨g', off', dv, rfl, hg', hcl', hch', -⟩ := HD.out.get hlx
      have hg := Nat.lt_of_lt_of_le hg HUX.out.size
      have hg' := Nat.lt_of_lt_of_le hg' HUX.out.size
      have hck := HL.out _ (getD_mem hlx)
      obtain ⟨f, hf⟩ : ∃ x, x = L.getD m FK.zero := ⟨_, rfl⟩
      rw [← hf] at hcl hcl' hch hch' hwf hck
      have HK1 := Lib.hid (hcl.upd HUX.out (Nat.lt_of_lt_of_le (by assumption) (Nat.le_refl _)) (by simp))
      have HK2 := Lib.hid (hcl'.upd HUX.out (Nat.lt_of_lt_of_le (by assumption) (Nat.le_refl _)) (by simp))
      have HH1 := Lib.hid (hch.upd0 HUX.out)
      have HH2 := Lib.hid (hch'.upd0 HUX.out)
      have HWF := Lib.hid hwf
      have HCK := Lib.hid hck
      have hx0 : (0 : Int) ≤ (m : Int) := by omega
      have hx1 : (m : Int) < (n : Int) := by omega
      clear hcl hcl' hch hch' hwf hck hf
      go_upto_region 6 with fail
      refine held_start (fun w' => Upd [] wr w') 10 mixed rfl ((Upd.refl _ _).drew) (fun hHeld => ?_)
      refine held_take 0 18 (.slice (some ⟨g, off, none⟩) n cc) rfl (by kernel_rfl) (by kernel_rfl) (by kernel_rfl) rfl (fun _ _ _ h => h) rfl hHeld (fun w hS => by rfl) ?_
      simp only [List.setIfInBounds_toArray, List.set_cons_zero, List.set_cons_succ]
      refine held_take 1 19 (.int .i64 (m : Nat)) rfl (by kernel_rfl) (by kernel_rfl) (by kernel_rfl) rfl (fun _ _ _ h => h) rfl hHeld (fun w hS => by rfl) ?_
      simp only [List.setIfInBounds_toArray, List.set_cons_zero, List.set_cons_succ]
      refine held_take 2 20 (.pointer (some ⟨g, off + m * 38, none⟩)) rfl (by kernel_rfl) (by kernel_rfl) (by kernel_rfl) rfl (fun _ _ _ h => h) rfl hHeld (fun w hS => by go_simp) ?_
      simp only [List.setIfInBounds_toArray, List.set_cons_zero, List.set_cons_succ]
      refine held_take 3 21 (.agg (encF f cv).toArray) rfl (by kernel_rfl) (by kernel_rfl) (by kernel_rfl) rfl (fun _ _ _ h => h) rfl hHeld (fun w hS => by exact fact_load (.tmp 20) rfl rfl (HK1.out.upd hS hg (by simp)) HWF.out) ?_
      simp only [List.setIfInBounds_toArray, List.set_cons_zero, List.set_cons_succ]
      refine held_take 4 22 (.slice (some ⟨g', off', none⟩) n dc) rfl (by kernel_rfl) (by kernel_rfl) (by kernel_rfl) rfl (fun _ _ _ h => h) rfl hHeld (fun w hS => by rfl) ?_
      simp only [List.setIfInBounds_toArray, List.set_cons_zero, List.set_cons_succ]
      refine held_take 5 23 (.int .i64 (m : Nat)) rfl (by kernel_rfl) (by kernel_rfl) (by kernel_rfl) rfl (fun _ _ _ h => h) rfl hHeld (fun w hS => by rfl) ?_
      simp only [List.setIfInBounds_toArray, List.set_cons_zero, List.set_cons_succ]
      refine held_take 6 24 (.pointer (some ⟨g', off' + m * 38, none⟩)) rfl (by kernel_rfl) (by kernel_rfl) (by kernel_rfl) rfl (fun _ _ _ h => h) rfl hHeld (fun w hS => by go_simp) ?_
      simp only [List.setIfInBounds_toArray, List.set_cons_zero, List.set_cons_succ]
      refine held_take 7 25 (.agg (encF f dv).toArray) rfl (by kernel_rfl) (by kernel_rfl) (by kernel_rfl) rfl (fun _ _ _ h => h) rfl hHeld (fun w hS => by exact fact_load (.tmp 24) rfl rfl (HK2.out.upd hS hg' (by simp)) HWF.out) ?_
      simp only [List.setIfInBounds_toArray, List.set_cons_zero, List.set_cons_succ]
      refine held_next 8 26 rfl (by kernel_rfl) rfl rfl (fun K hK => ?_)
      go_simp
      refine (same10_yes HWF.out (HH1.out.upd0 hHeld) (HH2.out.upd0 hHeld) HCK.out).mono ?_
      rintro e w6 ⟨rfl, hu6⟩
      have hk := hK.out (.bool true) _ (hHeld.trans hu6)
      simp only [Act.put, List.setIfInBounds_toArray, List.set_cons_zero, List.set_cons_succ] at hk
      refine hk (fun hHeld => ?_)
      clear hK hk K
      refine held_take 9 6 (.bool true) rfl (by kernel_rfl) (by kernel_rfl) (by kernel_rfl) rfl (fun _ _ _ h => h) rfl hHeld (fun w hS => by rfl) ?_
      simp only [List.setIfInBounds_toArray, List.set_cons_zero, List.set_cons_succ]
      refine held_done (by kernel_rfl) ?_
      go_wp2_with fail
      go_roundw
      case rel => exact ⟨m + 1, by omega, by go_num, HUX.out.trans hHeld⟩
      case measure => simp [intOf]; omega
    · obtain rfl : n = m := by omega
      clear hlt hm
      go_wp2_with fail
      go_ret
      exact ⟨rfl, HUX.out⟩

end Go.Proofs.Ytbdmnmjdnfpfbaa
