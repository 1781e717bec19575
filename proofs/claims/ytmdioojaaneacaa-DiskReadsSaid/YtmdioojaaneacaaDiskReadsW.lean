/- The walk of DiskReads. -/
import Derived.Test.YtmdioojaaneacaaDiskL
namespace Go.Proofs.Ytmdioojaaneacaa
open Go.ChangeShapes Go.WideShapes Go.ChangeAt Go.RowKit

/-- The five ways through the test. -/
theorem reads_key (n m : Int) (a b : Blok) : ∃ cn cm X Y, cn = (DK.new (20 : Int).toNat).code n ∧ cm = (DK.new (20 : Int).toNat).code m ∧ X = (((DK.new (20 : Int).toNat).write n a).write m b).rd n ∧ Y = (((DK.new (20 : Int).toNat).write n a).write m b).rd m ∧
    ((decide (0 ≤ n) = true ∧ decide (n < 20) = true ∧ decide (0 ≤ m) = true ∧ decide (m < 20) = true ∧ (n == m) = true ∧ cn = 0 ∧ cm = 0 ∧ (Y == b) = true) ∨
     (decide (0 ≤ n) = true ∧ decide (n < 20) = true ∧ decide (0 ≤ m) = true ∧ decide (m < 20) = true ∧ (n == m) = false ∧ cn = 0 ∧ cm = 0 ∧ (Y == b) = true ∧ (X == a) = true) ∨
     (decide (0 ≤ n) = true ∧ decide (n < 20) = true ∧ (decide (0 ≤ m) = false ∨ (decide (0 ≤ m) = true ∧ decide (m < 20) = false)) ∧ (n == m) = false ∧ cn = 0 ∧ cm = 61 ∧ (X == a) = true ∧ (Y == DK.zeros) = true) ∨
     ((decide (0 ≤ n) = false ∨ (decide (0 ≤ n) = true ∧ decide (n < 20) = false)) ∧ decide (0 ≤ m) = true ∧ decide (m < 20) = true ∧ cn = 61 ∧ cm = 0 ∧ (Y == b) = true ∧ (X == DK.zeros) = true) ∨
     ((decide (0 ≤ n) = false ∨ (decide (0 ≤ n) = true ∧ decide (n < 20) = false)) ∧ (decide (0 ≤ m) = false ∨ (decide (0 ≤ m) = true ∧ decide (m < 20) = false)) ∧ cn = 61 ∧ cm = 61 ∧ (X == DK.zeros) = true ∧ (Y == DK.zeros) = true)) := by
  refine ⟨_, _, _, _, rfl, rfl, rfl, rfl, ?_⟩
  simp only [rd_write, put_code, code_new20, rd_new20]
  simp only [decide_eq_true_eq, decide_eq_false_iff_not, beq_iff_eq, beq_eq_false_iff_ne, ne_eq]
  by_cases hn : 0 ≤ n ∧ n < 20
  · by_cases hm : 0 ≤ m ∧ m < 20
    · by_cases e : n = m
      · left; subst e; simp [hn]
      · right; left; simp [hn, hm, e]
    · have e : n ≠ m := by omega
      right; right; left
      simp [hn, hm, e]
      omega
  · by_cases hm : 0 ≤ m ∧ m < 20
    · have e : n ≠ m := by omega
      right; right; right; left
      simp [hn, hm, e]
      omega
    · right; right; right; right
      simp [hn, hm]
      omega

set_option maxRecDepth 100000 in
set_option maxHeartbeats 20000000 in
theorem DiskReads.walk (n m : Int) (a b : Blok) (w : World) (_ : (Lit.int .i64 n).wf = true) (_ : (Lit.int .i64 m).wf = true) (ha : a.length = 64) (_ : ∀ z ∈ a, 0 ≤ z ∧ z ≤ 255) (hb : b.length = 64) (_ : ∀ z ∈ b, 0 ≤ z ∧ z ≤ 255) :
    Calls Try.prog 4 #[.int .i64 n, .int .i64 m, .agg (U8 a), .agg (U8 b)] w fun e w' => e = .returned (.bool true) ∧ Below w.heap.size w w' := by
  obtain ⟨cn, cm, X, Y, hcn, hcm, hX, hY, key⟩ := reads_key n m a b
  have Hcn := Lib.hid hcn
  have Hcm := Lib.hid hcm
  have HX := Lib.hid hX
  have HY := Lib.hid hY
  have HK := Lib.hid key
  clear hcn hcm hX hY key
  obtain ⟨wb, hwb⟩ : ∃ wb, wb = (w.alloc (.cells (U8 a) 23)).alloc (.cells (U8 b) 23) := ⟨_, rfl⟩
  have hA : Blk wb w.heap.size (U8 a) 23 := by rw [hwb]; exact (Blk.new _ _ _).alloc _
  have hB : Blk wb (w.heap.size + 1) (U8 b) 23 := by
    rw [hwb]; have := Blk.new (w.alloc (.cells (U8 a) 23)) (U8 b) 23; simpa using this
  have hU : Upd [] w wb := by rw [hwb]; exact ((Upd.refl _ _).alloc _).alloc _
  have HW := Lib.hid hwb
  have HA := Lib.hid hA
  have HB := Lib.hid hB
  have HU := Lib.hid hU
  clear hwb hA hB hU
  go_enter Try.func4, Try.ntmps4
  go_wp2_with fail
  rw [← HW.out]
  refine (awake_any _).mono ?_
  rintro e w1 ⟨rfl, hu1⟩
  go_wp2_with fail
  refine (new_law 20 wb (by omega) (by omega) hu1).mono ?_
  rintro e w2 ⟨p, S, rfl, hd, hu2, hS⟩
  have vA : Var w2 S w.heap.size (U8 a) 23 := ⟨(HA.out.upd hu1 (by simp)).upd hu2 (by simp), fun h => by have := hS _ h; have := (HA.out.upd hu1 (by simp)).lt; omega⟩
  have vB : Var w2 S (w.heap.size + 1) (U8 b) 23 := ⟨(HB.out.upd hu1 (by simp)).upd hu2 (by simp), fun h => by have := hS _ h; have := (HB.out.upd hu1 (by simp)).lt; omega⟩
  have HD := Lib.hid hd
  have VA := Lib.hid vA
  have VB := Lib.hid vB
  clear hd vA vB hu1 hu2 hS
  go_wp2_with (refine wpList_run rfl (arr_load (.tmp 6) rfl rfl VA.out.1 ha) ?_)
  refine (write_law HD.out n a ha).mono ?_
  rw [← Hcn.out]
  rintro e w3 ⟨rfl, S3, hd, hk⟩
  have HD := Lib.hid hd
  have VA := Lib.hid (VA.out.keep hk)
  have VB := Lib.hid (VB.out.keep hk)
  clear hd hk
  go_wp2_with (refine wpList_run rfl (arr_load (.tmp 7) rfl rfl VB.out.1 hb) ?_)
  refine (write_law HD.out m b hb).mono ?_
  rw [put_code, ← Hcm.out]
  rintro e w4 ⟨rfl, S4, hd, hk⟩
  have HD := Lib.hid hd
  have VA := Lib.hid (VA.out.keep hk)
  have VB := Lib.hid (VB.out.keep hk)
  clear hd hk
  go_wp2_with fail
  refine (read_law HD.out n).mono ?_
  rw [put_code, put_code, ← Hcn.out, ← HX.out]
  rintro e w5 ⟨rfl, hd, hk⟩
  have HD := Lib.hid hd
  have VA := Lib.hid (VA.out.keep hk)
  have VB := Lib.hid (VB.out.keep hk)
  have hr := DK.rd_len hd.disk.wf n
  have hr2 := DK.rd_len hd.disk.wf m
  rw [← HX.out] at hr
  rw [← HY.out] at hr2
  clear hd hk
  go_wp2_with (first
    | ((with_reducible show wpList _ _ _ (⟨_, .alloc 23, _, _, _, _⟩ :: _) _ _); refine wpList_alloc rfl 23 rfl zero_arr fun w6 hb6 hu6 hs6 => ?_)
    | ((with_reducible show wpList _ _ _ (⟨_, .store 23 (.tmp 14) (.tmp 42), _, _, _, _⟩ :: _) _ _); refine wpList_store rfl (.tmp 14) (.tmp 42) rfl rfl rfl hb6 DK.zeros_len hr fun w7 hb7 hu7 hs7 => ?_
       have hu := hu6.then hu7 (by simp)
       have HD7 := Lib.hid (HD.out.quiet hu)
       have VA7 := Lib.hid (VA.out.keep (Keep.quiet hu))
       have VB7 := Lib.hid (VB.out.keep (Keep.quiet hu))
       have VX7 := Lib.hid (HD.out.var hb7)))
  clear hb6 hu6 hs6 hb7 hu7 hs7 hu HD VA VB
  refine (read_law HD7.out m).mono ?_
  rw [put_code, put_code, ← Hcm.out, ← HY.out]
  rintro e w8 ⟨rfl, hd, hk⟩
  have HD := Lib.hid hd
  have VA := Lib.hid (VA7.out.keep hk)
  have VB := Lib.hid (VB7.out.keep hk)
  have VX := Lib.hid (VX7.out.keep hk)
  clear hd hk HD7 VA7 VB7 VX7
  have key := HK.out
  rcases key with ⟨q1, q2, q3, q4, q5, rfl, rfl, q6⟩ | ⟨q1, q2, q3, q4, q5, rfl, rfl, q6, q7⟩ | ⟨q1, q2, q3 | ⟨q3, q4⟩, q5, rfl, rfl, q6, q7⟩ | ⟨q1 | ⟨q1, q2⟩, q3, q4, rfl, rfl, q6, q7⟩ | ⟨q1 | ⟨q1, q2⟩, q3 | ⟨q3, q4⟩, rfl, rfl, q6, q7⟩
  all_goals
    go_wp2_with (first
      | ((with_reducible show wpList _ _ _ (⟨_, .alloc 23, _, _, _, _⟩ :: _) _ _); refine wpList_alloc rfl 23 rfl zero_arr fun w9 hb9 hu9 hs9 => ?_)
      | ((with_reducible show wpList _ _ _ (⟨_, .store 23 (.tmp 16) (.tmp 48), _, _, _, _⟩ :: _) _ _); refine wpList_store rfl (.tmp 16) (.tmp 48) rfl rfl rfl hb9 DK.zeros_len hr2 fun w10 hb10 hu10 hs10 => ?_
         have hu := hu9.then hu10 (by simp)
         have HD10 := Lib.hid (HD.out.quiet hu)
         have VA10 := Lib.hid (VA.out.keep (Keep.quiet hu))
         have VB10 := Lib.hid (VB.out.keep (Keep.quiet hu))
         have VX10 := Lib.hid (VX.out.keep (Keep.quiet hu))
         have VY10 := Lib.hid hb10
         clear hb9 hu9 hs9 hu10 hs10 hu hb10)
      | ((with_reducible show wpList _ _ _ (⟨_, .load 23 (.tmp 16), _, _, _, _⟩ :: _) _ _); refine wpList_loadW (.tmp 16) rfl rfl rfl VY10.out hr2 ?_)
      | ((with_reducible show wpList _ _ _ (⟨_, .load 23 (.tmp 14), _, _, _, _⟩ :: _) _ _); refine wpList_loadW (.tmp 14) rfl rfl rfl VX10.out.1 hr ?_)
      | ((with_reducible show wpList _ _ _ (⟨_, .load 23 (.tmp 6), _, _, _, _⟩ :: _) _ _); refine wpList_loadW (.tmp 6) rfl rfl rfl VA10.out.1 ha ?_)
      | ((with_reducible show wpList _ _ _ (⟨_, .load 23 (.tmp 7), _, _, _, _⟩ :: _) _ _); refine wpList_loadW (.tmp 7) rfl rfl rfl VB10.out.1 hb ?_)
      | ((with_reducible show wpList _ _ _ (⟨_, .build 23 #[], _, _, _, _⟩ :: _) _ _); refine wpList_zeroW rfl rfl ?_)
      | ((with_reducible show wpList _ _ _ (⟨_, .binOp .eql 23 (.tmp 87) (.tmp 88) _, _, _, _, _⟩ :: _) _ _); refine wpList_eqW (.tmp 87) (.tmp 88) rfl rfl rfl rfl hr2 hb q6 ?_)
      | ((with_reducible show wpList _ _ _ (⟨_, .binOp .eql 23 (.tmp 101) (.tmp 102) _, _, _, _, _⟩ :: _) _ _); refine wpList_eqW (.tmp 101) (.tmp 102) rfl rfl rfl rfl hr ha (by assumption) ?_)
      | ((with_reducible show wpList _ _ _ (⟨_, .binOp .eql 23 (.tmp 109) (.tmp 110) _, _, _, _, _⟩ :: _) _ _); refine wpList_eqW (.tmp 109) (.tmp 110) rfl rfl rfl rfl hr DK.zeros_len (by assumption) ?_)
      | ((with_reducible show wpList _ _ _ (⟨_, .binOp .eql 23 (.tmp 117) (.tmp 118) _, _, _, _, _⟩ :: _) _ _); refine wpList_eqW (.tmp 117) (.tmp 118) rfl rfl rfl rfl hr2 DK.zeros_len (by assumption) ?_))
    go_ret
    exact ⟨rfl, (HU.out.trans HD10.out.upd).toBelow⟩

end Go.Proofs.Ytmdioojaaneacaa
