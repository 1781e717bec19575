/- Lists of facts as a statement holds them; the walk of Manifest. -/
import Derived.Test.YtbdmnmjdnfpfbaaLatQ
import Derived.Laws.ResultCell
namespace Go.Proofs.Ytbdmnmjdnfpfbaa
open Go.ChangeShapes Go.WideShapes Go.ChangeAt Go.RowKit

/-- A list of facts, wherever it lies. -/
def FI (w : World) (v : Value) (L : List FK) : Prop := ∃ T, FsAt w T v L ∧ ∀ y ∈ T, y < w.heap.size
/-- The chunks of a fact, wherever they lie. -/
def CI (w : World) (v : Value) (cs : List (List Int)) : Prop := ∃ T, ChunksAt w T v cs ∧ ∀ y ∈ T, y < w.heap.size

theorem FI.upd0 {w w' : World} {v : Value} {L : List FK} (h : FI w v L) (hu : Upd [] w w') : FI w' v L := by
  obtain ⟨T, h, ht⟩ := h
  exact ⟨T, h.upd0 hu, fun y hy => Nat.lt_of_lt_of_le (ht y hy) hu.size⟩
theorem CI.upd0 {w w' : World} {v : Value} {L : List (List Int)} (h : CI w v L) (hu : Upd [] w w') : CI w' v L := by
  obtain ⟨T, h, ht⟩ := h
  exact ⟨T, h.upd0 hu, fun y hy => Nat.lt_of_lt_of_le (ht y hy) hu.size⟩
theorem FI.nil (w : World) : FI w (.slice none 0 0) [] := ⟨[], FsAt.nil _ _, by simp⟩
theorem CI.nil (w : World) : CI w (.slice none 0 0) [] := ⟨[], ChunksAt.nil _ _, by simp⟩
theorem FI.wf {w : World} {v : Value} {L : List FK} (h : FI w v L) : WFL L := by obtain ⟨T, h, -⟩ := h; exact h.wf
theorem FI.form {w : World} {v : Value} {L : List FK} (h : FI w v L) : ∃ a cap, v = .slice a L.length cap := by obtain ⟨T, ⟨a, cap, _, e, -⟩, -⟩ := h; exact ⟨a, cap, e⟩
theorem FI.get {w : World} {a : Option Addr} {n cap : Nat} {L : List FK} (h : FI w (.slice a n cap) L) {i : Nat} (hi : i < L.length) :
    ∃ g off cv, a = some ⟨g, off, none⟩ ∧ g < w.heap.size ∧ CellsAt w g (off + i * 38) (encF (L.getD i FK.zero) cv) ∧ CI w cv (L.getD i FK.zero).chunks ∧ (L.getD i FK.zero).WF := by
  obtain ⟨T, h, ht⟩ := h
  obtain ⟨g, off, cv, e, hg, -, hc, hch, hwf⟩ := h.get hi
  exact ⟨g, off, cv, e, hg, hc, ⟨T, hch, ht⟩, hwf⟩

theorem Gives.fi {w w' : World} {T : List Nat} {v' : Value} {L' : List FK} (h : Gives w w' T v' L') : FI w' v' L' ∧ Upd [] w w' := by
  obtain ⟨cvs', T', ho, ht, hu⟩ := h
  refine ⟨⟨_, ho.at, fun y hy => ?_⟩, hu⟩
  rcases List.mem_append.1 hy with h1 | h1
  · exact (ho.own.lt y (by simpa using h1)).2
  · exact (ht y h1).2

theorem add_fi {w : World} {v cv : Value} {L : List FK} {f : FK} (nodes : Int) (h : FI w v L) (hf : f.WF) (hc : CI w cv f.chunks) (hl : L.length ≤ 1000) :
    Calls Try.prog 19 #[.int .i64 nodes, v, .agg (encF f cv).toArray] w fun e w' => ∃ v', e = .returned (.tuple #[v', .int .i64 (addCode nodes L f)]) ∧ FI w' v' (addL nodes L f) ∧ Upd [] w w' := by
  obtain ⟨T, h, ht⟩ := h
  obtain ⟨U, hc, htu⟩ := hc
  refine (add_any nodes v (T ++ U) L f cv w (h.mono (fun k hk => List.mem_append_left _ hk)) hf (hc.mono (fun k hk => List.mem_append_right _ hk)) hl (fun y hy => (List.mem_append.1 hy).elim (ht y) (htu y))).mono ?_
  rintro e w' ⟨v', rfl, hg⟩
  exact ⟨v', rfl, hg.fi⟩

theorem merge_fi {w : World} {v u : Value} {A L : List FK} (nodes : Int) (ha : FI w v A) (h : FI w u L) (hal : A.length ≤ 1000) :
    Calls Try.prog 16 #[.int .i64 nodes, v, u] w fun e w' => ∃ v', e = .returned v' ∧ FI w' v' (mergeL nodes A L) ∧ Upd [] w w' := by
  obtain ⟨T, ha, ht⟩ := ha
  obtain ⟨U, h, htu⟩ := h
  refine (merge_any nodes v u (T ++ U) A L w (ha.mono (fun k hk => List.mem_append_left _ hk)) (h.mono (fun k hk => List.mem_append_right _ hk)) hal (fun y hy => (List.mem_append.1 hy).elim (ht y) (htu y))).mono ?_
  rintro e w' ⟨v', rfl, hg⟩
  exact ⟨v', rfl, hg.fi⟩

theorem who_fi {w : World} {v : Value} {L : List FK} (kind epoch : Int) (h : FI w v L) (hl : L.length ≤ 1000) :
    Calls Try.prog 23 #[v, .int .i64 kind, .int .i64 epoch] w fun e w' => ∃ v', e = .returned v' ∧ w'.ownsRow w.heap.size 3 1 v' (whoL L kind epoch).length ((whoL L kind epoch).map (Value.int .i64)) ∧ Upd [] w w' := by
  obtain ⟨T, h, ht⟩ := h
  exact who_any kind epoch v T L w h hl ht
theorem aborted_fi {w : World} {v : Value} {L : List FK} (epoch majority : Int) (h : FI w v L) (hl : L.length ≤ 1000) :
    Calls Try.prog 24 #[v, .int .i64 epoch, .int .i64 majority] w fun e w' => e = .returned (.bool (abortedL L epoch majority)) ∧ Upd [] w w' := by
  obtain ⟨T, h, ht⟩ := h
  exact aborted_any epoch majority v T L w h hl ht
theorem best_fi {w : World} {v : Value} {L : List FK} (majority : Int) (h : FI w v L) (hl : L.length ≤ 1000) :
    Calls Try.prog 32 #[v, .int .i64 majority] w fun e w' => e = .returned (.int .i64 (bestL L majority)) ∧ Upd [] w w' := by
  obtain ⟨T, h, ht⟩ := h
  exact best_any majority v T L w h hl ht
theorem next_fi {w : World} {v : Value} {L : List FK} (h : FI w v L) :
    Calls Try.prog 34 #[v] w fun e w' => e = .returned (.int .i64 (nextL L)) ∧ Upd [] w w' := by
  obtain ⟨T, h, ht⟩ := h
  exact next_any v T L w h
theorem has_fi {w : World} {v : Value} {L : List FK} (kind epoch node : Int) (h : FI w v L) (hl : L.length ≤ 1000) :
    Calls Try.prog 22 #[v, .int .i64 kind, .int .i64 epoch, .int .i64 node] w fun e w' => e = .returned (.bool (hasL L kind epoch node)) ∧ Upd [] w w' := by
  obtain ⟨T, h, ht⟩ := h
  exact has_any kind epoch node v T L w h hl ht
theorem check_fi {w : World} {cv : Value} {f : FK} (nodes : Int) (hf : f.WF) (hc : CI w cv f.chunks) :
    Calls Try.prog 20 #[.int .i64 nodes, .agg (encF f cv).toArray] w fun x w' => x = .returned (.int .i64 (f.chk nodes)) ∧ Upd [] w w' := by
  obtain ⟨T, h, ht⟩ := hc
  exact check_any nodes f T cv w hf h

/-- A fact's manifest, out of the fact. -/
theorem man_field {a : Act} {o : Oper} {w : World} {f : FK} {cv : Value} (x : Operand) (ho : o.op = .field 31 x 3) (hx : a.eval x = .agg (encF f cv).toArray) (hf : f.WF) :
    (execOp a.eval o).run Try.prog w = .ok (.value (.agg (encM f cv).toArray)) w := by
  have h1 := Try.underlying31
  have h2 := Try.underlying29
  have h3 := info_man
  have he : List.take 35 (List.drop 3 (encF f cv)) = encM f cv := by
    rw [← encF_man, List.take_of_length_le (by rw [List.length_drop, encF_len hf]; omega)]
  cases hq : (Try.prog).info? 29 with
  | none => simp [hq] at h3
  | some i =>
    have hs : i.size = 35 := by simpa [hq] using h3
    unfold execOp
    simp [ho, hx, Instr.field, underlying, h1, h2, asAgg, part, isAgg, sizeOf, typeInfo, hq, hs, he]

def manL (L : List FK) (epoch : Int) : FK × Bool := match allL L 1 epoch with | [] => (FK.zero, false) | f :: _ => (f, true)

theorem zero_man : (Try.prog.info? 29).map (·.zero) = some (some (.agg (encM FK.zero (.slice none 0 0)).toArray)) := by kernel_rfl
theorem info_manB : (Try.prog.info? 29).map (fun i => (i.zero, i.size, i.bytes)) = some (some (.agg (encM FK.zero (.slice none 0 0)).toArray), 35, 72) := by kernel_rfl
theorem exec_man0 {a : Act} {o : Oper} {w : World} (ho : o.op = .build 29 #[]) : (execOp a.eval o).run Try.prog w = .ok (.value (.agg (encM FK.zero (.slice none 0 0)).toArray)) w := by
  have hz' := run_zero (P := Try.prog) (w := w) zero_man
  unfold execOp
  simp [ho, Instr.build, hz', underlying, Try.underlying29, Instr.fill, Value.cells]
theorem encM_size {f : FK} (h : f.WF) (cv : Value) : (encM f cv).toArray.size = 35 := by rw [List.size_toArray, encM_len h]
theorem encM_one' {f : FK} {w : World} {cv : Value} (h : CI w cv f.chunks) : ∀ v ∈ (encM f cv).toArray.toList, v.oneCell' = true := by
  obtain ⟨T, h, -⟩ := h
  intro v hv
  refine encF_one' h v ?_
  rw [← encF_man] at hv
  exact List.mem_of_mem_drop hv

theorem results_man {fn : Func} {p q : Tmp} (h : fn.results = #[.cell p 29, .tmp q]) {tmps : Array Value} {w : World} {g : Nat} {T : TypeId} {f : FK} {cv : Value} (hp : tmps.getD p undef = .pointer (some ⟨g, 0, none⟩)) (hb : Blk w g (encM f cv).toArray T) (hf : f.WF) :
    (results fn tmps).run Try.prog w = .ok (.tuple #[.agg (encM f cv).toArray, tmps.getD q undef]) w := by
  rw [results_cell_tmp h, hp]
  have := run_loadVar_row (P := Try.prog) w g T 29 (encM f cv).toArray (0, 0) _ hb Try.underlying29 rfl (by rw [info_man, encM_size hf])
  simp [asAddr, Result.andThen, this]

set_option maxHeartbeats 1000000 in
theorem manifest_fi {w : World} {v : Value} {L : List FK} (epoch : Int) (h : FI w v L) (hl : L.length ≤ 1000) (hcl : ∀ f ∈ L, f.chunks.length ≤ 1000) :
    Calls Try.prog 26 #[v, .int .i64 epoch] w fun e w' => ∃ cv, e = .returned (.tuple #[.agg (encM (manL L epoch).1 cv).toArray, .bool (manL L epoch).2]) ∧ CI w' cv (manL L epoch).1.chunks ∧ (manL L epoch).1.WF ∧ Upd [] w w' := by
  obtain ⟨T, h, ht⟩ := h
  have HA := Lib.hid (fun w' (hu : Upd [] w w') => all_any 1 epoch v T L w' (h.upd0 hu) hl (fun y hy => Nat.lt_of_lt_of_le (ht y hy) hu.size))
  have HCL := Lib.hid (fun f (hf : f ∈ allL L 1 epoch) => hcl f (List.mem_filter.1 hf).1)
  obtain ⟨m, hm⟩ : ∃ m, m = manL L epoch := ⟨_, rfl⟩
  rw [← hm]
  have key : m = (match allL L 1 epoch with | [] => (FK.zero, false) | f :: _ => (f, true)) := by rw [hm]; rfl
  obtain ⟨A, hA⟩ : ∃ A, A = allL L 1 epoch := ⟨_, rfl⟩
  rw [← hA] at key HA HCL
  have hal : A.length ≤ 1000 := by rw [hA]; exact Nat.le_trans (allL_len L 1 epoch) hl
  clear hm hA h hl hcl
  go_enter Try.func26, Try.ntmps26
  go_upto_region 2 with (first
    | (refine wpList_alloc rfl 29 rfl zero_man fun w1 hb1 hu1 hs1 => ?_)
    | (go_at_call 48; refine (HA.out _ hu1).mono ?_; rintro e w2 ⟨v', cvs', rfl, ho2, hu2⟩))
  obtain ⟨tb, htb⟩ : ∃ x, x = w.heap.size := ⟨_, rfl⟩
  rw [← htb] at hb1 ⊢
  have hb2 := hb1.upd hu2 (by simp)
  have HB2 := Lib.hid hb2
  have HU2 := Lib.hid (hu1.trans hu2)
  have HT2 := Lib.hid htb
  have HFS := Lib.hid ho2.at
  have HLT := Lib.hid (fun y (hy : y ∈ v'.ownBlock.toList) => (ho2.own.lt y (by simpa using hy)).2)
  have HTT := Lib.hid ht
  obtain ⟨a, cap, rfl⟩ := own_slice ho2.own
  cases A with
  | nil =>
    subst key
    clear hb1 hu1 hs1 ho2 hu2 hb2 htb ht HCL hal
    go_wp2_with (first | ((with_reducible show wpList _ _ _ (⟨some 13, _, _, _, _, _⟩ :: _) _ _); refine wpList_run rfl (exec_man0 rfl) ?_) | refine wpList_storeA rfl 29 (.tmp 4) (.tmp 13) rfl rfl rfl HB2.out info_man (encM_size FK.zero_wf (.slice none 0 0)) (encM_size FK.zero_wf _) (encM_one' (CI.nil w2)) fun w5 hb5 hu5 hs5 => ?_)
    refine bodyPost_ret (results_man rfl rfl hb5 FK.zero_wf) rfl ⟨_, rfl, CI.nil _, FK.zero_wf, HU2.out.then hu5 ?_⟩
    have := HT2.out
    simp [this]
  | cons f A' =>
    subst key
    obtain ⟨g, off, cv, rfl, hg, hgT, hcl, hch, hwf⟩ := HFS.out.get (i := 0) (by simp)
    rw [Nat.zero_mul, Nat.add_zero] at hcl
    have hff : (f :: A').getD 0 FK.zero = f := rfl
    rw [hff] at hcl hch hwf
    have hfl : f.chunks.length ≤ 1000 := HCL.out f List.mem_cons_self
    obtain ⟨n, hn⟩ : ∃ n, n = (f :: A').length := ⟨_, rfl⟩
    have hn1 : 1 ≤ n := by rw [hn]; simp
    rw [← hn]
    have hx1 : (0 : Int) < (n : Int) := by omega
    have HC := Lib.hid hcl
    have HWF := Lib.hid hwf
    have HOWN := Lib.hid (own_any f _ cv w2 hwf hch hfl)
    clear hb1 hu1 hs1 ho2 hu2 hb2 htb ht HCL hal hcl hch hwf hfl hg hgT HFS hff hn HA
    go_wp2_with (first
      | ((with_reducible show wpList _ _ _ (⟨some 16, _, _, _, _, _⟩ :: _) _ _); refine wpList_run rfl (fact_load (.tmp 15) rfl rfl HC.out HWF.out) ?_)
      | ((with_reducible show wpList _ _ _ (⟨some 18, _, _, _, _, _⟩ :: _) _ _); refine wpList_run rfl (man_field (.tmp 17) rfl rfl HWF.out) ?_)
      | (go_at_call 43; refine HOWN.out.mono ?_; rintro e w3 ⟨cv3, rfl, hc3, hn3, hu3⟩
         have HC3 := Lib.hid (show CI w3 cv3 f.chunks from ⟨_, hc3, fun y hy => (hn3 y (by simpa using hy)).2⟩)
         have HCW : Hid (∀ w5, Upd [tb] w3 w5 → CI w5 cv3 f.chunks) := Lib.hid (fun w5 hu => ⟨_, hc3.upd hu (fun k hk => by have h1 := hn3 k (by simpa using hk); have h2 := HB2.out.lt; simp; omega), fun y hy => Nat.lt_of_lt_of_le (hn3 y (by simpa using hy)).2 hu.size⟩)
         have HB3 := Lib.hid (HB2.out.upd hu3 (by simp))
         have HU3 := Lib.hid (HU2.out.trans hu3)
         clear hc3 hn3 hu3)
      | refine wpList_storeA rfl 29 (.tmp 4) (.tmp 18) rfl rfl rfl HB3.out info_man (encM_size HWF.out _) (encM_size FK.zero_wf _) (encM_one' HC3.out) fun w5 hb5 hu5 hs5 => ?_)
    refine bodyPost_ret (results_man rfl rfl hb5 HWF.out) rfl ⟨_, rfl, ?_, HWF.out, HU3.out.then hu5 ?_⟩
    · exact HCW.out _ hu5
    · have := HT2.out
      simp [this]

end Go.Proofs.Ytbdmnmjdnfpfbaa
