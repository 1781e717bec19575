/- The walk of Add. -/
import Derived.Test.YtbdmnmjdnfpfbaaLatL
namespace Go.Proofs.Ytbdmnmjdnfpfbaa
open Go.ChangeShapes Go.WideShapes Go.ChangeAt Go.RowKit

theorem own_le {w : World} {base base' : Nat} {e : TypeId} {size n : Nat} {v : Value} {xs : List Value} (h : w.ownsRow base e size v n xs) (hb : base' ≤ base) : w.ownsRow base' e size v n xs := by
  refine ⟨h.1, ?_⟩
  rcases h.2 with h2 | ⟨g, cap, cur, rfl, hg, r⟩
  · exact .inl h2
  · exact .inr ⟨g, cap, cur, rfl, Nat.le_trans hb hg, r⟩

theorem OL.le {w : World} {lo lo' : Nat} {v : Value} {L : List FK} {cvs : List Value} {T : List Nat} (h : OL w lo v L cvs T) (hb : lo' ≤ lo) : OL w lo' v L cvs T := ⟨own_le h.own hb, h.chunks, h.wf⟩

/-- What a call that gives a list hands back: the list, and its blocks. -/
def Gives (w w' : World) (T : List Nat) (v' : Value) (L' : List FK) : Prop :=
  ∃ cvs' T', OL w' w.heap.size v' L' cvs' T' ∧ (∀ y ∈ T', (y ∈ T ∨ w.heap.size ≤ y) ∧ y < w'.heap.size) ∧ Upd [] w w'

theorem wfl_take {L : List FK} (h : WFL L) (n : Nat) : WFL (L.take n) := fun f hf => h f (List.mem_of_mem_take hf)
theorem wfl_drop {L : List FK} (h : WFL L) (n : Nat) : WFL (L.drop n) := fun f hf => h f (List.mem_of_mem_drop hf)

/-- A slice of one fact, built. -/
theorem wp_one {o : Oper} {a : Act} {w : World} {K : Act → World → Prop} {Q : Exit → Act → World → Prop} (x : Operand) (ho : o.op = .buildSlice 23 1 #[(0, x)]) {f : FK} {cv : Value} (hx : a.eval x = .agg (encF f cv).toArray) (hf : f.WF)
    (h : K (a.put o.dst (.slice (some ⟨w.heap.size, 0, none⟩) 1 1)) (w.alloc (.cells (encF f cv).toArray 31))) : o.wp Try.prog a w K Q := by
  obtain ⟨ie, hie, hz, hisz, hib⟩ := info_parts info_factB
  have hcs : (Value.agg (encF f cv).toArray).cells.size = 38 := encF_size hf cv
  refine wp_buildSlice 23 31 1 _ ho (([Value.agg (encF f cv).toArray].flatMap fun v => v.cells.toList).toArray) ie (.agg (encF FK.zero (.slice none 0 0)).toArray) Try.underlying23 hie hz (by rw [hisz]; omega) (by rw [hisz]; omega) ?_ ?_
  · rw [hisz]
    have := Go.Great.fill_whole (by decide : 0 < 38) [Value.agg (encF f cv).toArray] ((Array.range (1 * 38)).map ((Value.agg (encF FK.zero (.slice none 0 0)).toArray).cells[· % (Value.agg (encF FK.zero (.slice none 0 0)).toArray).cells.size]!)) (by simpa using hcs) (by simp)
    simpa [hx] using this
  · have e1 : ([Value.agg (encF f cv).toArray].flatMap fun v => v.cells.toList).toArray = (encF f cv).toArray := by simp [Value.cells]
    rw [e1]; exact h

set_option maxRecDepth 100000 in
set_option maxHeartbeats 4000000 in
theorem add_any (nodes : Int) (v : Value) (T : List Nat) (L : List FK) (f : FK) (cv : Value) (w : World) (h : FsAt w T v L) (hf : f.WF) (hc : ChunksAt w T cv f.chunks) (hl : L.length ≤ 1000) (htl : ∀ y ∈ T, y < w.heap.size) :
    Calls Try.prog 19 #[.int .i64 nodes, v, .agg (encF f cv).toArray] w fun e w' => ∃ v', e = .returned (.tuple #[v', .int .i64 (addCode nodes L f)]) ∧ Gives w w' T v' (addL nodes L f) := by
  have HCK := Lib.hid (fun w' (h : ChunksAt w' T cv f.chunks) => check_any nodes f T cv w' hf h)
  have HHAS := Lib.hid (fun w' (h : FsAt w' T v L) (ht : ∀ y ∈ T, y < w'.heap.size) => has_any f.kind f.epoch f.node v T L w' h hl ht)
  have HCL := Lib.hid (fun w' (h : FsAt w' T v L) => cloneF_any v T L w' h hl)
  have key : ((f.chk nodes != 0) = true ∧ addCode nodes L f = 100 ∧ addL nodes L f = L) ∨ ((f.chk nodes != 0) = false ∧ f.ok nodes = true ∧ ((hasL L f.kind f.epoch f.node = true ∧ addCode nodes L f = 0 ∧ addL nodes L f = L) ∨ (hasL L f.kind f.epoch f.node = false ∧ decide (200 ≤ L.length) = true ∧ addCode nodes L f = 110 ∧ addL nodes L f = L) ∨ (hasL L f.kind f.epoch f.node = false ∧ decide (200 ≤ L.length) = false ∧ addCode nodes L f = 0 ∧ addL nodes L f = insL L f))) := by
    unfold FK.chk addCode addL
    cases f.ok nodes <;> cases hasL L f.kind f.epoch f.node <;> by_cases h2 : 200 ≤ L.length <;> simp [h2]
  obtain ⟨ck, hck⟩ : ∃ x, x = f.chk nodes := ⟨_, rfl⟩
  obtain ⟨hs, hhs⟩ : ∃ x, x = hasL L f.kind f.epoch f.node := ⟨_, rfl⟩
  obtain ⟨cd, hcd⟩ : ∃ x, x = addCode nodes L f := ⟨_, rfl⟩
  obtain ⟨R, hR⟩ : ∃ x, x = addL nodes L f := ⟨_, rfl⟩
  rw [← hck, ← hhs, ← hcd, ← hR] at key
  rw [← hck] at HCK
  rw [← hhs] at HHAS
  rw [← hcd, ← hR]
  clear hck hhs hcd hR
  have HFS := Lib.hid h
  have HF := Lib.hid hf
  have HC := Lib.hid hc
  have HTL := Lib.hid htl
  obtain ⟨a, cap, cvs0, rfl, -⟩ := h
  obtain ⟨n, hn⟩ : ∃ n, n = L.length := ⟨_, rfl⟩
  rw [← hn] at hl key HFS HHAS HCL ⊢
  have HN := Lib.hid hn
  obtain ⟨w1, hw1⟩ : ∃ w1, w1 = w.alloc (.cells (encF f cv).toArray 31) := ⟨_, rfl⟩
  obtain ⟨hb, hu⟩ := boxed w (encF f cv).toArray 31
  rw [← hw1] at hb hu
  have HB1 := Lib.hid hb
  have HU1 := Lib.hid hu
  have HW1 := Lib.hid hw1
  have HL1 := Lib.hid (CellsAt.of_blk hb)
  have HFIN : Hid (∀ (w5 w6 : World) (v' : Value) (cvs' : List Value), Upd [] w w5 → OL w6 w5.heap.size v' L cvs' T → Upd [] w5 w6 → Gives w w6 T v' L) := Lib.hid (fun w5 w6 v' cvs' hu5 ho hu6 => ⟨cvs', T, ho.le hu5.size, fun y hy => ⟨.inl hy, Nat.lt_of_lt_of_le (htl y hy) (Nat.le_trans hu5.size hu6.size)⟩, hu5.trans hu6⟩)
  clear hw1 hb hu hf hc htl hn
  rcases key with ⟨k1, rfl, rfl⟩ | ⟨k1, hok, key⟩
  · go_enter Try.func19, Try.ntmps19
    go_upto_region 1 with fail
    rw [← HW1.out]
    go_wp2_with (first
      | ((with_reducible show wpList _ _ _ (⟨some 11, _, _, _, _, _⟩ :: _) _ _); refine wpList_run rfl (fact_load (.tmp 5) rfl rfl HL1.out HF.out) ?_)
      | (go_at_call 20; refine (HCK.out _ (HC.out.upd0 HU1.out)).mono ?_; rintro e w2 ⟨rfl, hu2⟩; have HU2 := Lib.hid (HU1.out.trans hu2); clear hu2)
      | (go_at_call 39; refine (HCL.out _ (HFS.out.upd0 HU2.out)).mono ?_; rintro e w3 ⟨v', cvs', rfl, ho3, hu3⟩; have HG := Lib.hid (HFIN.out _ _ _ _ HU2.out ho3 hu3); clear ho3 hu3))
    go_ret2
    exact ⟨_, rfl, HG.out⟩
  · have hok64 := ok_chunks hok
    clear hok
    rcases key with ⟨rfl, rfl, rfl⟩ | ⟨rfl, k2, rfl, rfl⟩ | ⟨rfl, k2, rfl, hR⟩
    · go_enter Try.func19, Try.ntmps19
      go_upto_region 1 with fail
      rw [← HW1.out]
      go_upto_region 3 with (first
        | ((with_reducible show wpList _ _ _ (⟨some 11, _, _, _, _, _⟩ :: _) _ _); refine wpList_run rfl (fact_load (.tmp 5) rfl rfl HL1.out HF.out) ?_)
        | (go_at_call 20; refine (HCK.out _ (HC.out.upd0 HU1.out)).mono ?_; rintro e w2 ⟨rfl, hu2⟩
           have hb2 := HB1.out.upd hu2 (by simp)
           have c0 : w2.cell? ⟨w.heap.size, 0, none⟩ = some (.int .i64 f.kind) := hb2.cell (o := 0) rfl
           have c1 : w2.cell? ⟨w.heap.size, 1, none⟩ = some (.int .i64 f.epoch) := hb2.cell (o := 1) rfl
           have c2 : w2.cell? ⟨w.heap.size, 2, none⟩ = some (.int .i64 f.node) := hb2.cell (o := 2) rfl
           have HB2 := Lib.hid hb2
           have HU2 := Lib.hid (HU1.out.trans hu2)
           clear hu2 hb2))
      go_wp2_with (first
        | (go_at_call 22; refine (HHAS.out _ (HFS.out.upd0 HU2.out) (fun y hy => Nat.lt_of_lt_of_le (HTL.out y hy) HU2.out.size)).mono ?_; rintro e w3 ⟨rfl, hu3⟩
           have HB3 := Lib.hid (HB2.out.upd hu3 (by simp))
           have HU3 := Lib.hid (HU2.out.trans hu3)
           clear hu3)
        | (go_at_call 39; refine (HCL.out _ (HFS.out.upd0 HU3.out)).mono ?_; rintro e w4 ⟨v', cvs', rfl, ho4, hu4⟩; have HG := Lib.hid (HFIN.out _ _ _ _ HU3.out ho4 hu4); clear ho4 hu4))
      go_ret2
      exact ⟨_, rfl, HG.out⟩
    · have k2' : decide ((200 : Int) ≤ (n : Int)) = true := by simp only [decide_eq_true_eq] at k2 ⊢; omega
      go_enter Try.func19, Try.ntmps19
      go_upto_region 1 with fail
      rw [← HW1.out]
      go_upto_region 3 with (first
        | ((with_reducible show wpList _ _ _ (⟨some 11, _, _, _, _, _⟩ :: _) _ _); refine wpList_run rfl (fact_load (.tmp 5) rfl rfl HL1.out HF.out) ?_)
        | (go_at_call 20; refine (HCK.out _ (HC.out.upd0 HU1.out)).mono ?_; rintro e w2 ⟨rfl, hu2⟩
           have hb2 := HB1.out.upd hu2 (by simp)
           have c0 : w2.cell? ⟨w.heap.size, 0, none⟩ = some (.int .i64 f.kind) := hb2.cell (o := 0) rfl
           have c1 : w2.cell? ⟨w.heap.size, 1, none⟩ = some (.int .i64 f.epoch) := hb2.cell (o := 1) rfl
           have c2 : w2.cell? ⟨w.heap.size, 2, none⟩ = some (.int .i64 f.node) := hb2.cell (o := 2) rfl
           have HB2 := Lib.hid hb2
           have HU2 := Lib.hid (HU1.out.trans hu2)
           clear hu2 hb2))
      go_wp2_with (first
        | (go_at_call 22; refine (HHAS.out _ (HFS.out.upd0 HU2.out) (fun y hy => Nat.lt_of_lt_of_le (HTL.out y hy) HU2.out.size)).mono ?_; rintro e w3 ⟨rfl, hu3⟩
           have HB3 := Lib.hid (HB2.out.upd hu3 (by simp))
           have HU3 := Lib.hid (HU2.out.trans hu3)
           clear hu3)
        | (go_at_call 39; refine (HCL.out _ (HFS.out.upd0 HU3.out)).mono ?_; rintro e w4 ⟨v', cvs', rfl, ho4, hu4⟩; have HG := Lib.hid (HFIN.out _ _ _ _ HU3.out ho4 hu4); clear ho4 hu4))
      go_ret2
      exact ⟨_, rfl, HG.out⟩
    · have k2' : decide ((200 : Int) ≤ (n : Int)) = false := by simp only [decide_eq_false_iff_not] at k2 ⊢; omega
      go_enter Try.func19, Try.ntmps19
      go_upto_region 1 with fail
      rw [← HW1.out]
      go_upto_region 3 with (first
        | ((with_reducible show wpList _ _ _ (⟨some 11, _, _, _, _, _⟩ :: _) _ _); refine wpList_run rfl (fact_load (.tmp 5) rfl rfl HL1.out HF.out) ?_)
        | (go_at_call 20; refine (HCK.out _ (HC.out.upd0 HU1.out)).mono ?_; rintro e w2 ⟨rfl, hu2⟩
           have hb2 := HB1.out.upd hu2 (by simp)
           have c0 : w2.cell? ⟨w.heap.size, 0, none⟩ = some (.int .i64 f.kind) := hb2.cell (o := 0) rfl
           have c1 : w2.cell? ⟨w.heap.size, 1, none⟩ = some (.int .i64 f.epoch) := hb2.cell (o := 1) rfl
           have c2 : w2.cell? ⟨w.heap.size, 2, none⟩ = some (.int .i64 f.node) := hb2.cell (o := 2) rfl
           have HB2 := Lib.hid hb2
           have HU2 := Lib.hid (HU1.out.trans hu2)
           clear hu2 hb2))
      go_upto_region 7 with (first
        | (go_at_call 22; refine (HHAS.out _ (HFS.out.upd0 HU2.out) (fun y hy => Nat.lt_of_lt_of_le (HTL.out y hy) HU2.out.size)).mono ?_; rintro e w3 ⟨rfl, hu3⟩
           have HB3 := Lib.hid (HB2.out.upd hu3 (by simp))
           have HU3 := Lib.hid (HU2.out.trans hu3)
           clear hu3))
      obtain ⟨B, hBe⟩ : ∃ B, B = w.heap.size := ⟨_, rfl⟩
      have hBw : w.heap.size ≤ B := by omega
      have HBE := Lib.hid hBe
      rw [← hBe] at HB3 HB1 HB2
      rw [← hBe]
      clear c0 c1 c2 hBe
      have HIX := Lib.hid (indexA_any (.pointer (some ⟨B, 0, none⟩)) (fun x => !(x.less f)) (.slice a n cap) T L w3 (HFS.out.upd0 HU3.out) (fun x T' xv w' hu' hx _ => add1_any f x cv xv B w' HF.out (HB3.out.upd hu' (by simp)) hx))
      go_upto_region 8 with (go_at_call 40; refine HIX.out.mono ?_; rintro e w4 ⟨r, rfl, hfa, hu4⟩
                             have HFA := Lib.hid hfa
                             have HB4 := Lib.hid (HB3.out.upd hu4 (by simp))
                             have HU4 := Lib.hid (HU3.out.trans hu4)
                             clear hfa hu4)
      obtain ⟨hpl, hple⟩ := place_first HFA.out
      obtain ⟨pl, hpp⟩ : ∃ x, x = placeL L f := ⟨_, rfl⟩
      rw [← hpp] at hpl hple
      rw [← HN.out] at hpl hple
      have HPP := Lib.hid hpp
      have HPL := Lib.hid hpl
      clear hpp hpl
      go_upto_if 37 with fail
      go_cut [8] (fun v8 wx => v8 = .int .i64 (pl : Nat) ∧ wx = w4)
      case first =>
        have hpl := HPL.out
        by_cases hr : r < 0
        · rw [if_pos hr] at hpl
          have q : decide (r < 0) = true := decide_eq_true hr
          have E := Lib.hid hpl
          clear hpl hr HFA HPL
          simp only [q]
          go_wp2_with fail
          go_meet
          exact ⟨by rw [E.out], rfl⟩
        · rw [if_neg hr] at hpl
          have q : decide (r < 0) = false := decide_eq_false hr
          have E := Lib.hid hpl
          clear hpl hr HFA HPL
          simp only [q]
          go_wp2_with fail
          go_meet
          exact ⟨by rw [E.out], rfl⟩
      case rest =>
        obtain ⟨rfl, rfl⟩ := hcut
        go_upto_region 10 with fail
        refine held_start (fun w' => Blk w' B (encF f cv).toArray 31) 9 mixed rfl HB4.out (fun hHeld => ?_)
        refine held_take 0 40 (.slice a n cap) rfl (by kernel_rfl) (by kernel_rfl) (by kernel_rfl) rfl (fun _ _ _ h => h) rfl hHeld (fun w hS => by rfl) ?_
        simp only [List.setIfInBounds_toArray, List.set_cons_zero, List.set_cons_succ]
        refine held_take 2 42 (.int .i64 (pl : Nat)) rfl (by kernel_rfl) (by kernel_rfl) (by kernel_rfl) rfl (fun _ _ _ h => h) rfl hHeld (fun w hS => by rfl) ?_
        simp only [List.setIfInBounds_toArray, List.set_cons_zero, List.set_cons_succ]
        refine held_take 3 43 (.agg (encF f cv).toArray) rfl (by kernel_rfl) (by kernel_rfl) (by kernel_rfl) rfl (fun _ _ _ h => h) rfl hHeld (fun w hS => by exact fact_load (.tmp 5) rfl rfl (CellsAt.of_blk hS) HF.out) ?_
        simp only [List.setIfInBounds_toArray, List.set_cons_zero, List.set_cons_succ]
        refine held_next 1 41 rfl (by kernel_rfl) rfl rfl (fun K hK => ?_)
        go_simp
        refine (HCL.out _ (HFS.out.upd0 HU4.out.drew)).mono ?_
        rintro e w5 ⟨v5, cvs5, rfl, ho5, hu5⟩
        have HO5 := Lib.hid ho5
        have HU5 := Lib.hid (HU4.out.drew.trans hu5)
        have HSZ5 := Lib.hid hu5.size
        have hk := hK.out v5 w5 (hHeld.upd hu5 (by simp))
        simp only [Act.put, List.setIfInBounds_toArray, List.set_cons_zero, List.set_cons_succ] at hk
        refine hk (fun hHeld => ?_)
        clear hK hk K ho5 hu5
        refine held_next 4 44 rfl (by kernel_rfl) rfl rfl (fun K hK => ?_)
        go_simp
        refine (own_any f T cv w5 HF.out (HC.out.upd0 HU5.out) (by omega)).mono ?_
        rintro e w6 ⟨cv6, rfl, hc6, hn6, hu6⟩
        have HC6 := Lib.hid hc6
        have HN6 := Lib.hid hn6
        have HO6 := Lib.hid (HO5.out.upd0 hu6)
        have HU6 := Lib.hid (HU5.out.trans hu6)
        have hz56 := hu6.size
        have hk := hK.out (.agg (encF f cv6).toArray) w6 (hHeld.upd hu6 (by simp))
        simp only [Act.put, List.setIfInBounds_toArray, List.set_cons_zero, List.set_cons_succ] at hk
        refine hk (fun hHeld => ?_)
        clear hK hk K hc6 hn6 hu6
        refine held_next 5 45 rfl (by kernel_rfl) rfl rfl (fun K hK => ?_)
        refine wp_one (.tmp 44) rfl rfl HF.out ?_
        have hk := hK.out (.slice (some ⟨w6.heap.size, 0, none⟩) 1 1) _ (hHeld.alloc (.cells (encF f cv6).toArray 31))
        refine hk (fun hHeld => ?_)
        clear hK hk K
        simp only [List.setIfInBounds_toArray, List.set_cons_zero, List.set_cons_succ]
        obtain ⟨w7, hw7⟩ : ∃ x, x = w6.alloc (.cells (encF f cv6).toArray 31) := ⟨_, rfl⟩
        rw [← hw7] at hHeld ⊢
        have hu7 : Upd [] w6 w7 := by rw [hw7]; exact (Upd.refl _ _).alloc _
        have hb7 : Blk w7 w6.heap.size (encF f cv6).toArray 31 := by rw [hw7]; exact Blk.new _ _ _
        clear hw7
        have HO7 := Lib.hid (HO6.out.upd0 hu7)
        have HU7 := Lib.hid (HU6.out.trans hu7)
        have HC7 := Lib.hid (HC6.out.upd0 hu7)
        have hne7 : v5.ownBlock ≠ some w6.heap.size := fun e => by have := (HO6.out.own.lt _ e).2; omega
        have hlo7 := Nat.le_trans HSZ5.out (Nat.le_trans hz56 hu7.size)
        refine held_next 6 46 rfl (by kernel_rfl) rfl rfl (fun K hK => ?_)
        go_simp
        refine (insert_any _ pl w6.heap.size v5 L cvs5 T _ f cv6 w7 HO7.out (by rw [← HN.out]; exact hple) (by rw [← HN.out]; exact hl) hb7 hne7 HF.out HC7.out hlo7).mono ?_
        rintro e w8 ⟨v8, rfl, ho8, hu8⟩
        have hv5 : ∀ y ∈ v5.ownBlock.toList, w.heap.size ≤ y ∧ y < w7.heap.size := fun y hy => by
          have h1 := HO7.out.own.lt y (by simpa using hy)
          exact ⟨Nat.le_trans HU4.out.size h1.1, h1.2⟩
        have hBv : B ∉ v5.ownBlock.toList := fun hm => by
          have h1 := (HO5.out.own.lt B (by simpa using hm)).1
          have h2 := HB4.out.lt
          have h3 : wc.drew.heap.size = wc.heap.size := rfl
          omega
        have HO8 := Lib.hid ho8
        have HU8 := Lib.hid hu8
        have hk := hK.out v8 w8 (hHeld.upd hu8 hBv)
        simp only [Act.put, List.setIfInBounds_toArray, List.set_cons_zero, List.set_cons_succ] at hk
        refine hk (fun hHeld => ?_)
        clear hK hk K ho8 hu8
        refine held_take 7 6 v8 rfl (by kernel_rfl) (by kernel_rfl) (by kernel_rfl) rfl (fun _ _ _ h => h) rfl hHeld (fun w hS => by rfl) ?_
        simp only [List.setIfInBounds_toArray, List.set_cons_zero, List.set_cons_succ]
        refine held_take 8 7 (.int .i64 0) rfl (by kernel_rfl) (by kernel_rfl) (by kernel_rfl) rfl (fun _ _ _ h => h) rfl hHeld (fun w hS => by rfl) ?_
        simp only [List.setIfInBounds_toArray, List.set_cons_zero, List.set_cons_succ]
        refine held_done (by kernel_rfl) ?_
        have hTv : ∀ y ∈ T, y ∉ v5.ownBlock.toList := fun y hy hm => by
          have h1 := (hv5 y hm).1
          have h2 := HTL.out y hy
          omega
        have hTc : ∀ y ∈ cv6.ownBlock.toList, y ∉ v5.ownBlock.toList := fun y hy hm => by
          have h1 := (HN6.out y (by simpa using hy)).1
          have h2 := (HO5.out.own.lt y (by simpa using hm)).2
          omega
        have hch : ChunksL w8 (T ++ cv6.ownBlock.toList) (insL L f) (cvs5.take pl ++ cv6 :: cvs5.drop pl) := by
          unfold insL
          rw [← HPP.out]
          have h1 := (HO7.out.chunks.upd HU8.out hTv).mono (T' := T ++ cv6.ownBlock.toList) (fun k hk => List.mem_append_left _ hk)
          have h2 := (HC7.out.upd HU8.out hTc).mono (T' := T ++ cv6.ownBlock.toList) (fun k hk => List.mem_append_right _ hk)
          exact (h1.take pl).app ((ChunksL.one h2).app (h1.drop pl))
        have hwf : WFL (insL L f) := by
          unfold insL
          intro y hy
          rcases List.mem_append.1 hy with h1 | h1
          · exact HO5.out.wf y (List.mem_of_mem_take h1)
          · rcases List.mem_cons.1 h1 with rfl | h1
            · exact HF.out
            · exact HO5.out.wf y (List.mem_of_mem_drop h1)
        have hil : (insL L f).length = L.length + 1 := by
          unfold insL
          rw [← HPP.out, List.length_append, List.length_take, List.length_cons, List.length_drop, ← HN.out]; omega
        have hown : w8.ownsRow w.heap.size 31 38 v8 (insL L f).length (encL (insL L f) (cvs5.take pl ++ cv6 :: cvs5.drop pl)) := by
          rw [hil]
          have := own_le HO8.out HU4.out.size
          unfold insL; rw [← HPP.out]; exact this
        have hfin : Gives w w8 T v8 R := by
          rw [hR]
          refine ⟨_, T ++ cv6.ownBlock.toList, ⟨hown, hch, hwf⟩, fun y hy => ?_, HU7.out.then HU8.out (fun y hy => .inr (hv5 y hy).1)⟩
          rcases List.mem_append.1 hy with h1 | h1
          · exact ⟨.inl h1, Nat.lt_of_lt_of_le (HTL.out y h1) (Nat.le_trans HU7.out.size HU8.out.size)⟩
          · have h2 := HN6.out y (by simpa using h1)
            have h3 := HU5.out.size
            have h4 := HU8.out.size
            have h5 := hu7.size
            exact ⟨.inr (by omega), by omega⟩
        have HFIN2 := Lib.hid hfin
        clear hfin hown hil hwf hch hTc hTv hBv hv5 hHeld hb7 hu7 hne7 hlo7
        go_wp2_with fail
        go_ret2
        exact ⟨_, rfl, HFIN2.out⟩

end Go.Proofs.Ytbdmnmjdnfpfbaa
