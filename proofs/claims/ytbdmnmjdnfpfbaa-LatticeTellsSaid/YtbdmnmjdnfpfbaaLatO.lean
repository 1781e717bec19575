/- The walks of Who, Aborted, Next, Best. -/
import Derived.Test.YtbdmnmjdnfpfbaaLatN
namespace Go.Proofs.Ytbdmnmjdnfpfbaa
open Go.ChangeShapes Go.WideShapes Go.ChangeAt Go.RowKit

theorem info_intB : (Try.prog.info? 3).map (fun i => (i.zero, i.size, i.bytes)) = some (some (.int .i64 0), 1, 8) := by kernel_rfl

theorem int_one (k : IntKind) (x : Int) : ∀ c ∈ (Value.int k x).cells.toList, c.oneCell' = true := by
  intro c hc
  have : c = .int k x := by simpa [Value.cells] using hc
  subst this; rfl

theorem allL_len (L : List FK) (kind epoch : Int) : (allL L kind epoch).length ≤ L.length := List.length_filter_le _ _

set_option maxRecDepth 100000 in
set_option maxHeartbeats 4000000 in
theorem who_any (kind epoch : Int) (v : Value) (T : List Nat) (L : List FK) (w : World) (h : FsAt w T v L) (hl : L.length ≤ 1000) (htl : ∀ y ∈ T, y < w.heap.size) :
    Calls Try.prog 23 #[v, .int .i64 kind, .int .i64 epoch] w fun e w' => ∃ v', e = .returned v' ∧ w'.ownsRow w.heap.size 3 1 v' (whoL L kind epoch).length ((whoL L kind epoch).map (Value.int .i64)) ∧ Upd [] w w' := by
  have HA := Lib.hid (all_any kind epoch v T L w h hl htl)
  obtain ⟨A, hA⟩ : ∃ A, A = allL L kind epoch := ⟨_, rfl⟩
  have hal : A.length ≤ 1000 := by rw [hA]; exact Nat.le_trans (allL_len L kind epoch) hl
  have hwl : whoL L kind epoch = A.map (·.node) := by unfold whoL; rw [hA]
  rw [← hA] at HA
  rw [hwl, List.length_map]
  clear hA hwl h htl
  go_enter Try.func23, Try.ntmps23
  go_wp2_with (go_at_call 48; refine HA.out.mono ?_; rintro e w1 ⟨v1, cvs1, rfl, ho1, hu1⟩
               have HF := Lib.hid ho1.at
               have HU1 := Lib.hid hu1
               obtain ⟨a, cap, rfl⟩ := own_slice ho1.own
               obtain ⟨n, hn⟩ : ∃ n, n = A.length := ⟨_, rfl⟩
               have HN := Lib.hid hn
               rw [← hn] at HF hal
               rw [← hn]
               clear ho1 hu1 hn)
  go_loopw [6, 14] (fun ov i wx => ∃ (m : Nat), m ≤ n ∧ i = .int .i64 m ∧ wx.ownsRow w1.heap.size 3 1 ov m (((A.take m).map (·.node)).map (Value.int .i64)) ∧ Upd [] w1 wx) (fun _ i _ => n - (intOf i).toNat)
  case atStart => exact ⟨0, Nat.zero_le _, rfl, World.ownsRow_nil _ _ _ _, Upd.refl _ _⟩
  case round =>
    obtain ⟨m, hm, rfl, ho, hu⟩ := hrel
    by_cases hlt : m < n
    · obtain ⟨oa, oc, rfl⟩ := own_slice ho
      have HO := Lib.hid ho
      have HUU := Lib.hid hu
      have hlx : m < A.length := by rw [← HN.out]; exact hlt
      obtain ⟨g, off, cv, rfl, hg, hgT, hcl, hch, hwf⟩ := HF.out.get hlx
      obtain ⟨f, hf⟩ : ∃ f, f = A.getD m FK.zero := ⟨_, rfl⟩
      rw [← hf] at hcl hch hwf
      have HC := Lib.hid (hcl.upd hu hg (by simp))
      have HCH := Lib.hid (hch.upd0 hu)
      have HWF := Lib.hid hwf
      have HFE := Lib.hid hf
      have hx0 : (0 : Int) ≤ (m : Int) := by omega
      have hx1 : (m : Int) < (n : Int) := by omega
      clear hcl hch hwf hf
      go_upto_region 4 with (first
        | ((with_reducible show wpList _ _ _ (⟨some 17, _, _, _, _, _⟩ :: _) _ _); refine wpList_run rfl (fact_load (.tmp 16) rfl rfl HC.out HWF.out) ?_)
        | (refine wpList_alloc rfl 31 rfl zero_fact fun w2 hb2 hu2 hs2 => ?_)
        | (refine wpList_storeA rfl 31 (.tmp 8) (.tmp 17) rfl rfl rfl hb2 info_fact (encF_size HWF.out _) (encF_size FK.zero_wf _) (encF_one' HCH.out) fun w3 hb3 hu3 hs3 => ?_))
      obtain ⟨tb, htb⟩ : ∃ x, x = wr.heap.size := ⟨_, rfl⟩
      rw [← htb] at hb3 ⊢
      have hu03 : Upd [] wr w3 := hu2.then hu3 (by simp [htb])
      have HB3 := Lib.hid hb3
      have HL3 := Lib.hid (CellsAt.of_blk hb3)
      have HU3 := Lib.hid hu03
      have c0 : w3.cell? ⟨tb, 0, none⟩ = some (.int .i64 f.kind) := hb3.cell (o := 0) rfl
      have c1 : w3.cell? ⟨tb, 1, none⟩ = some (.int .i64 f.epoch) := hb3.cell (o := 1) rfl
      have c2 : w3.cell? ⟨tb, 2, none⟩ = some (.int .i64 f.node) := hb3.cell (o := 2) rfl
      clear hb2 hu2 hs2 hb3 hu3 hs3 htb hu03
      have htk : ((A.take (m + 1)).map (·.node)).map (Value.int .i64) = ((A.take m).map (·.node)).map (Value.int .i64) ++ [.int .i64 f.node] := by rw [take_snoc A m hlx FK.zero, ← HFE.out, List.map_append, List.map_append]; rfl
      have HTK := Lib.hid htk
      have hz1 := HU1.out.size
      have hz2 := hu.size
      have hz3 := HU3.out.size
      clear htk ho hu
      go_wp2_with ((with_reducible show wpList _ _ _ (⟨some 21, _, _, _, _, _⟩ :: _) _ _)
                   go_loud (refine wpList_push 21 22 46 3 (.tmp 18) (.tmp 20) (.int .i64 0) 1 8 Try.underlying46 info_intB rfl (by omega) (by omega) w1.heap.size (.slice oa m oc) m _ (.int .i64 f.node) rfl rfl rfl rfl rfl rfl (by simp) (by simp [Act.put]) rfl rfl (own_upd HO.out HU3.out (by simp)) rfl (int_one _ _) (by unfold maxLen; omega) (by omega) (by omega) ?_)
                   intro g' cap' w5 ho5 hu5 hat5 hlt5 hb5
                   have HO5 := Lib.hid ho5
                   have HU5 := Lib.hid hu5
                   clear ho5 hu5 hat5 hlt5 hb5)
      go_roundw
      case rel =>
        refine ⟨m + 1, by omega, by go_num, by rw [HTK.out]; exact HO5.out, (HUU.out.trans HU3.out).then HU5.out (fun y hy => .inr (HO.out.lt y (by simpa using hy)).1)⟩
      case measure => simp [intOf]; omega
    · obtain rfl : m = n := by omega
      rw [List.take_of_length_le (by rw [HN.out]; exact Nat.le_refl _)] at ho
      have HO := Lib.hid ho
      have HUU := Lib.hid (HU1.out.trans hu)
      clear ho hu hlt
      go_wp2_with fail
      go_ret
      exact ⟨_, rfl, by rw [← HN.out]; exact own_le HO.out HU1.out.size, HUU.out⟩

theorem aborted_any (epoch majority : Int) (v : Value) (T : List Nat) (L : List FK) (w : World) (h : FsAt w T v L) (hl : L.length ≤ 1000) (htl : ∀ y ∈ T, y < w.heap.size) :
    Calls Try.prog 24 #[v, .int .i64 epoch, .int .i64 majority] w fun e w' => e = .returned (.bool (abortedL L epoch majority)) ∧ Upd [] w w' := by
  have HWH := Lib.hid (who_any 3 epoch v T L w h hl htl)
  obtain ⟨k, hk⟩ : ∃ k, k = (whoL L 3 epoch).length := ⟨_, rfl⟩
  have hab : abortedL L epoch majority = decide (majority ≤ (k : Int)) := by unfold abortedL; rw [hk]
  rw [hab]
  rw [← hk] at HWH
  clear h hl htl hk hab
  go_enter Try.func24, Try.ntmps24
  go_wp2_with (go_at_call 23; refine HWH.out.mono ?_; rintro e w1 ⟨v1, rfl, ho, hu⟩
               obtain ⟨a, cap, rfl⟩ := own_slice ho
               have HU := Lib.hid hu
               clear ho hu)
  go_ret
  exact ⟨rfl, HU.out⟩

theorem nextL_snoc (l : List FK) (f : FK) : nextL (l ++ [f]) = max (nextL l) ((ofN f.epoch).2 + 1) := by unfold nextL; rw [List.foldl_append]; rfl

theorem ofN_bound (e : Int) : 0 ≤ (ofN e).2 ∧ (ofN e).2 ≤ 68719476736 := by
  unfold ofN; split
  · exact ⟨by decide, by decide⟩
  · simp only; omega

theorem nextL_bound (l : List FK) : 1 ≤ nextL l ∧ nextL l ≤ 68719476737 := by
  have : ∀ (l : List FK) (m : Int), 1 ≤ m → m ≤ 68719476737 → 1 ≤ l.foldl (fun n f => max n ((ofN f.epoch).2 + 1)) m ∧ l.foldl (fun n f => max n ((ofN f.epoch).2 + 1)) m ≤ 68719476737 := by
    intro l
    induction l with
    | nil => intro m h1 h2; exact ⟨h1, h2⟩
    | cons f t ih => intro m h1 h2; have := ofN_bound f.epoch; exact ih (max m ((ofN f.epoch).2 + 1)) (by omega) (by omega)
  exact this l 1 (by omega) (by omega)

theorem exec_max2 {P : Program} {a : Act} {w : World} {o : Oper} (x y : Operand) {ts : Array TypeId} (ho : o.op = .call { callee := .builtin .max, args := #[x, y], argTypes := ts }) {k : IntKind} {p q : Int} (hx : a.eval x = .int k p) (hy : a.eval y = .int k q) {s : Int} (hs : max p q = s) :
    (execOp a.eval o).run P w = .ok (.value (.int k s)) w := by
  subst hs
  have e : ∀ p q : Int, (if p < q then q else p) = max p q := by intro p q; split <;> omega
  unfold execOp
  simp [ho, resolve, invoke, builtin, hx, hy, Builtin.max_, Builtin.max2, e]

set_option maxRecDepth 100000 in
set_option maxHeartbeats 4000000 in
theorem next_any (v : Value) (T : List Nat) (L : List FK) (w : World) (h : FsAt w T v L) :
    Calls Try.prog 34 #[v] w fun e w' => e = .returned (.int .i64 (nextL L)) ∧ Upd [] w w' := by
  have HF := Lib.hid h
  obtain ⟨a, cap, cvs0, rfl, hlc, hcm, -⟩ := h
  unfold maxLen at hcm
  obtain ⟨n, hn⟩ : ∃ n, n = L.length := ⟨_, rfl⟩
  rw [← hn] at HF hlc ⊢
  have HN := Lib.hid hn
  clear hn
  go_enter Try.func34, Try.ntmps34
  go_wp2
  go_loopw [3, 10] (fun b i wx => ∃ (m : Nat), m ≤ n ∧ i = .int .i64 m ∧ b = .int .i64 (nextL (L.take m)) ∧ Upd [] w wx) (fun _ i _ => n - (intOf i).toNat)
  case atStart => exact ⟨0, Nat.zero_le _, rfl, rfl, Upd.refl _ _⟩
  case round =>
    obtain ⟨m, hm, rfl, rfl, hu⟩ := hrel
    by_cases hlt : m < n
    · have HUU := Lib.hid hu
      have hlx : m < L.length := by rw [← HN.out]; exact hlt
      obtain ⟨g, off, cv, rfl, hg, hgT, hcl, hch, hwf⟩ := HF.out.get hlx
      obtain ⟨f, hf⟩ : ∃ f, f = L.getD m FK.zero := ⟨_, rfl⟩
      rw [← hf] at hcl hch hwf
      have HC := Lib.hid (hcl.upd hu hg (by simp))
      have HCH := Lib.hid (hch.upd0 hu)
      have HWF := Lib.hid hwf
      have HFE := Lib.hid hf
      have hx0 : (0 : Int) ≤ (m : Int) := by omega
      have hx1 : (m : Int) < (n : Int) := by omega
      clear hcl hch hwf hf
      go_upto_region 5 with (first
        | ((with_reducible show wpList _ _ _ (⟨some 13, _, _, _, _, _⟩ :: _) _ _); refine wpList_run rfl (fact_load (.tmp 12) rfl rfl HC.out HWF.out) ?_)
        | (refine wpList_alloc rfl 31 rfl zero_fact fun w2 hb2 hu2 hs2 => ?_)
        | (refine wpList_storeA rfl 31 (.tmp 5) (.tmp 13) rfl rfl rfl hb2 info_fact (encF_size HWF.out _) (encF_size FK.zero_wf _) (encF_one' HCH.out) fun w3 hb3 hu3 hs3 => ?_))
      obtain ⟨tb, htb⟩ : ∃ x, x = wr.heap.size := ⟨_, rfl⟩
      rw [← htb] at hb3 ⊢
      have hu03 : Upd [] wr w3 := hu2.then hu3 (by simp [htb])
      have HB3 := Lib.hid hb3
      have HL3 := Lib.hid (CellsAt.of_blk hb3)
      have HU3 := Lib.hid hu03
      have c0 : w3.cell? ⟨tb, 0, none⟩ = some (.int .i64 f.kind) := hb3.cell (o := 0) rfl
      have c1 : w3.cell? ⟨tb, 1, none⟩ = some (.int .i64 f.epoch) := hb3.cell (o := 1) rfl
      have c2 : w3.cell? ⟨tb, 2, none⟩ = some (.int .i64 f.node) := hb3.cell (o := 2) rfl
      clear hb2 hu2 hs2 hb3 hu3 hs3 htb hu03
      have htk : nextL (L.take (m + 1)) = max (nextL (L.take m)) ((ofN f.epoch).2 + 1) := by rw [take_snoc L m hlx FK.zero, ← HFE.out, nextL_snoc]
      obtain ⟨o1, o2⟩ := ofN_bound f.epoch
      have HOF := Lib.hid (fun w => of_any f.epoch w)
      obtain ⟨q2, hq2⟩ : ∃ x, x = (ofN f.epoch).2 := ⟨_, rfl⟩
      obtain ⟨q1, hq1⟩ : ∃ x, x = (ofN f.epoch).1 := ⟨_, rfl⟩
      obtain ⟨nx, hnx⟩ : ∃ x, x = nextL (L.take m) := ⟨_, rfl⟩
      rw [← hq1, ← hq2] at HOF
      rw [← hq2] at htk o1 o2
      rw [← hnx] at htk ⊢
      have HTK := Lib.hid htk
      clear htk hq1 hq2 hnx hu
      go_wp2_with (first
        | (go_at_call 37; refine (HOF.out _).mono ?_; rintro e w4 ⟨rfl, rfl⟩)
        | ((with_reducible show wpList _ _ _ (⟨some 23, _, _, _, _, _⟩ :: _) _ _); refine wpList_run rfl (exec_max2 (.tmp 20) (.tmp 22) rfl rfl rfl HTK.out.symm) ?_))
      go_roundw
      case rel => exact ⟨m + 1, by omega, by go_num, rfl, HUU.out.trans HU3.out⟩
      case measure => simp [intOf]; omega
    · obtain rfl : m = n := by omega
      rw [List.take_of_length_le (by rw [HN.out]; exact Nat.le_refl _)]
      have HUU := Lib.hid hu
      clear hu hlt
      go_wp2_with fail
      go_ret
      exact ⟨rfl, HUU.out⟩

end Go.Proofs.Ytbdmnmjdnfpfbaa
