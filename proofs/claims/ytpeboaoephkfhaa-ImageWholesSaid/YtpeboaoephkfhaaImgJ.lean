/- The walk of Whole. -/
import Derived.Test.YtpeboaoephkfhaaImgI
import Derived.Great.BuildSlice
namespace Go.Proofs.Ytpeboaoephkfhaa
open Go.ChangeShapes Go.WideShapes Go.ChangeAt Go.RowKit

theorem info_arr32 : (Try.prog.info? 38).map (·.size) = some 32 := by kernel_rfl
theorem boot_whole {a : Act} {o : Oper} {w : World} {g : Nat} {b : BK} {T : TypeId} (x : Operand) (ho : o.op = .load 38 x) (hx : a.eval x = .pointer (some ⟨g, 3, none⟩)) (hb : Blk w g (encK b).toArray T) (hl : b.whole.length = 32) :
    (execOp a.eval o).run Try.prog w = .ok (.value (.agg (U8 b.whole))) w :=
  exec_loadC (P := Try.prog) (k := 32) (cs := b.whole.map (Value.int .u8)) (off := 3) 38 x ho hx (fun j v hj => by
    have hjl : j < b.whole.length := by have := (List.getElem?_eq_some_iff.1 hj).1; simpa using this
    have e := hb.cell (encK_get j hjl)
    rw [e, ← hj, List.getElem?_map, List.getD_eq_getElem?_getD, List.getElem?_eq_getElem hjl]
    try rfl) (.inl ⟨_, _, Try.underlying38⟩) info_arr32 (by rw [List.length_map]; exact hl)

/-- A slice of one slice of bytes, built. -/
theorem wp_onePart {o : Oper} {a : Act} {w : World} {K : Act → World → Prop} {Q : Exit → Act → World → Prop} (x : Operand) (ho : o.op = .buildSlice 67 1 #[(0, x)]) {p : Option Addr} {n c : Nat} (hx : a.eval x = .slice p n c)
    (h : K (a.put o.dst (.slice (some ⟨w.heap.size, 0, none⟩) 1 1)) (w.alloc (.cells #[.slice p n c] 26))) : o.wp Try.prog a w K Q := by
  have hi : (Try.prog.info? 26).map (fun i => (i.zero, i.size)) = some (some (.slice none 0 0), 1) := by kernel_rfl
  cases hie : Try.prog.info? 26 with
  | none => simp [hie] at hi
  | some ie =>
    simp only [hie, Option.map_some, Option.some.injEq, Prod.mk.injEq] at hi
    obtain ⟨hz, hisz⟩ := hi
    refine wp_buildSlice 67 26 1 _ ho (([Value.slice p n c].flatMap fun v => v.cells.toList).toArray) ie (.slice none 0 0) Try.underlying67 hie hz (by rw [hisz]; omega) (by rw [hisz]; omega) ?_ ?_
    · rw [hisz]
      have := Go.Great.fill_whole (by decide : 0 < 1) [Value.slice p n c] ((Array.range (1 * 1)).map ((Value.slice none 0 0).cells[· % (Value.slice none 0 0).cells.size]!)) (by simp [Value.cells]) (by simp)
      simpa [hx] using this
    · have e1 : ([Value.slice p n c].flatMap fun v => v.cells.toList).toArray = #[.slice p n c] := by simp [Value.cells]
      rw [e1]; exact h

theorem arr_neq32 {a : Act} {o : Oper} {w : World} {l m : Blok} {u : TypeId} (x y : Operand) (ho : o.op = .binOp .neq 38 x y u) (hx : a.eval x = .agg (U8 l)) (hy : a.eval y = .agg (U8 m)) (hl : l.length = 32) (hm : m.length = 32) :
    (execOp a.eval o).run Try.prog w = .ok (.value (.bool (!(l == m)))) w :=
  exec_neq_ints (P := Try.prog) 38 x y ho Try.underlying38 Try.underlying5 (by kernel_rfl) (by kernel_rfl) hl hm hx hy
theorem arr_eq32 {a : Act} {o : Oper} {w : World} {l m : Blok} {u : TypeId} (x y : Operand) (ho : o.op = .binOp .eql 38 x y u) (hx : a.eval x = .agg (U8 l)) (hy : a.eval y = .agg (U8 m)) (hl : l.length = 32) (hm : m.length = 32) :
    (execOp a.eval o).run Try.prog w = .ok (.value (.bool (l == m))) w :=
  exec_eq_ints (P := Try.prog) 38 x y ho Try.underlying38 Try.underlying5 (by kernel_rfl) (by kernel_rfl) hl hm hx hy

/-- Whether an area holds what a boot tells: the error's number. -/
def wholeF (d : DK) (f room : Int) (k : BK) : Int := if (getF d f room k.size).2 ≠ 0 then (getF d f room k.size).2 else if (sumF (getF d f room k.size).1 == k.whole) = true then 0 else 80

theorem getF_u8 {d : DK} (h : d.Byt) (f room size : Int) : U8L (getF d f room size).1 := by
  unfold getF
  split
  · exact U8L.nil
  · split
    · exact U8L.nil
    · split
      · exact U8L.nil
      · exact (rowB_u8 h f _).take _

theorem getF_len {d : DK} (f room size : Int) (hd : d.last.length ≤ 1000) : (getF d f room size).1.length ≤ 64000 := by
  unfold getF
  split
  · simp
  · rename_i h1
    split
    · simp
    · split
      · simp
      · have h2 : areaB d.last.length f room = true := by
          cases h : areaB d.last.length f room with
          | true => rfl
          | false => exact absurd (.inl h) h1
        unfold areaB at h2
        simp at h2
        rw [List.length_take]
        have h3 : ¬ room * 64 < size := fun h => h1 (.inr (.inr h))
        omega

set_option maxRecDepth 100000 in
set_option maxHeartbeats 4000000 in
theorem whole_any {w : World} {b : Nat} {S : List Nat} {d : DK} (h : DiskAt w b S d) (hby : d.Byt) (hdl : d.last.length ≤ 1000) (f room : Int) (hf : -9223372036854775808 ≤ f ∧ f ≤ 9223372036854775807) (k : BK) (hk : k.WF) (hsz : -9223372036854775808 ≤ k.size ∧ k.size ≤ 9223372036854775807) :
    Calls Try.prog 19 #[.pointer (some ⟨b, 0, none⟩), .int .i64 f, .int .i64 room, .agg (encK k).toArray] w fun e w' => e = .returned (.int .i64 (wholeF d f room k)) ∧ Upd [] w w' := by
  have HBY := Lib.hid hby
  have HD := Lib.hid h
  have HKW := Lib.hid hk.whole
  obtain ⟨G, hG⟩ : ∃ s, s = getF d f room k.size := ⟨_, rfl⟩
  obtain ⟨R, hR⟩ : ∃ y, y = wholeF d f room k := ⟨_, rfl⟩
  rw [← hR]
  unfold wholeF at hR
  rw [← hG] at hR
  have HXU : Hid (U8L G.1) := Lib.hid (by rw [hG]; exact getF_u8 hby f room _)
  have HXL : Hid (G.1.length ≤ 64000) := Lib.hid (by rw [hG]; exact getF_len f room _ hdl)
  obtain ⟨x, er⟩ := G
  have HR := Lib.hid hR
  have HG := Lib.hid hG
  obtain ⟨w1, hw1⟩ : ∃ w1, w1 = w.alloc (.cells (encK k).toArray 40) := ⟨_, rfl⟩
  have hb : Blk w1 w.heap.size (encK k).toArray 40 := by rw [hw1]; exact Blk.new _ _ _
  have hu : Upd [] w w1 := by rw [hw1]; exact (Upd.refl _ _).alloc _
  obtain ⟨kb, hkb⟩ : ∃ n, n = w.heap.size := ⟨_, rfl⟩
  rw [← hkb] at hb
  have c2 : w1.cell? ⟨kb, 2, none⟩ = some (.int .i64 k.size) := hb.cell (o := 2) rfl
  have HB1 := Lib.hid hb
  have HU1 := Lib.hid hu
  have HW1 := Lib.hid hw1
  have HKB1 := Lib.hid hkb
  clear hw1 hb hu hkb hk hG hR h hby hdl
  go_enter Try.func19, Try.ntmps19
  go_upto_region 1 with fail
  rw [← HKB1.out, ← HW1.out]
  go_upto_region 2 with (go_at_call 16; refine (get_any (HD.out.upd0 HU1.out) HBY.out f room k.size hf hsz).mono ?_; rw [← HG.out]; rintro e w2 ⟨v, rfl, hbv, hu2⟩)
  obtain ⟨va, vc, rfl⟩ := hbv.form
  have HBV := Lib.hid hbv
  have HU2 := Lib.hid (HU1.out.trans hu2)
  have HB2 := Lib.hid (HB1.out.upd hu2 (by simp))
  clear hbv hu2 c2
  by_cases he : er = 0
  · subst he
    have HRE : Hid (R = if (sumF x == k.whole) = true then 0 else 80) := Lib.hid (by rw [HR.out, if_neg (by simp)])
    obtain ⟨sm, hsm⟩ : ∃ s, s = sumF x := ⟨_, rfl⟩
    have HSM := Lib.hid hsm
    have HSL : Hid (sm.length = 32) := Lib.hid (by rw [hsm]; exact sumF_len _)
    obtain ⟨bq, hbq⟩ : ∃ q, q = (sm == k.whole) := ⟨_, rfl⟩
    have HBQ := Lib.hid hbq
    clear hsm hbq
    go_upto_region 4 with fail
    refine held_start (fun w' => Upd [] w2 w') 7 mixed rfl ((Upd.refl _ _).drew) (fun hHeld => ?_)
    obtain ⟨w3, hw3⟩ : ∃ x, x = w2.drew := ⟨_, rfl⟩
    rw [← hw3] at hHeld ⊢
    refine held_take 0 25 (.slice va x.length vc) rfl (by kernel_rfl) (by kernel_rfl) (by kernel_rfl) rfl (fun _ _ _ h => h) rfl hHeld (fun w hS => by rfl) ?_
    simp only [List.setIfInBounds_toArray, List.set_cons_zero, List.set_cons_succ]
    refine held_take 3 28 (.pointer (some ⟨kb, 3, none⟩)) rfl (by kernel_rfl) (by kernel_rfl) (by kernel_rfl) rfl (fun _ _ _ h => h) rfl hHeld (fun w hS => by go_simp) ?_
    simp only [List.setIfInBounds_toArray, List.set_cons_zero, List.set_cons_succ]
    refine held_take 4 29 (.agg (U8 k.whole)) rfl (by kernel_rfl) (by kernel_rfl) (by kernel_rfl) rfl (fun _ _ _ h => h) rfl hHeld (fun w hS => by exact boot_whole (.tmp 28) rfl rfl (HB2.out.upd hS (by simp)) HKW.out) ?_
    simp only [List.setIfInBounds_toArray, List.set_cons_zero, List.set_cons_succ]
    refine held_next 1 26 rfl (by kernel_rfl) rfl rfl (fun K hK => ?_)
    refine wp_onePart (.tmp 25) rfl rfl ?_
    obtain ⟨pb, hpb⟩ : ∃ x, x = w3.heap.size := ⟨_, rfl⟩
    obtain ⟨w4, hw4⟩ : ∃ y, y = w3.alloc (.cells #[.slice va x.length vc] 26) := ⟨_, rfl⟩
    have hb4 : Blk w4 pb #[.slice va x.length vc] 26 := by rw [hw4, hpb]; exact Blk.new _ _ _
    have hu4 : Upd [] w3 w4 := by rw [hw4]; exact (Upd.refl _ _).alloc _
    rw [← hw4, ← hpb]
    have HB4 := Lib.hid hb4
    have HV4 := Lib.hid (HBV.out.upd (hHeld.trans hu4) (by intro g off n c hne e; simp))
    have hk := hK.out (.slice (some ⟨pb, 0, none⟩) 1 1) w4 (hHeld.trans hu4)
    simp only [Act.put, List.setIfInBounds_toArray, List.set_cons_zero, List.set_cons_succ] at hk
    clear hw3 hw4 hb4 hu4 hpb
    refine hk (fun hHeld => ?_)
    clear hK hk K
    refine held_next 2 27 rfl (by kernel_rfl) rfl rfl (fun K hK => ?_)
    go_simp
    refine (sum_any (HB4.out.cell (o := 0) rfl) HV4.out HXU.out (by have := HXL.out; omega) HB4.out.lt).mono ?_
    rw [← HSM.out]
    rintro e w5 ⟨rfl, hu5⟩
    have hk := hK.out (.agg (U8 sm)) w5 (hHeld.trans hu5)
    simp only [Act.put, List.setIfInBounds_toArray, List.set_cons_zero, List.set_cons_succ] at hk
    refine hk (fun hHeld => ?_)
    clear hK hk K hu5
    refine held_take 5 30 (.bool (!bq)) rfl (by kernel_rfl) (by kernel_rfl) (by kernel_rfl) rfl (fun _ _ _ h => h) rfl hHeld (fun w hS => by rw [HBQ.out]; exact arr_neq32 (.tmp 27) (.tmp 29) rfl rfl rfl HSL.out HKW.out) ?_
    simp only [List.setIfInBounds_toArray, List.set_cons_zero, List.set_cons_succ]
    refine held_take 6 24 (.bool (!bq)) rfl (by kernel_rfl) (by kernel_rfl) (by kernel_rfl) rfl (fun _ _ _ h => h) rfl hHeld (fun w hS => by rfl) ?_
    simp only [List.setIfInBounds_toArray, List.set_cons_zero, List.set_cons_succ]
    refine held_done (by kernel_rfl) ?_
    have HU5 := Lib.hid (HU2.out.trans hHeld)
    have HRE2 : Hid (R = if bq = true then 0 else 80) := Lib.hid (by rw [HRE.out, ← HSM.out, ← HBQ.out])
    clear hHeld
    cases bq
    all_goals
      go_wp2_with fail
      go_ret
      exact ⟨by rw [HRE2.out]; rfl, HU5.out⟩
  · have HRE : Hid (R = er) := Lib.hid (by rw [HR.out, if_pos he])
    have k1 : (er != (0 : Int)) = true := by simpa using he
    go_wp2_with fail
    go_ret
    exact ⟨by rw [HRE.out]; rfl, HU2.out⟩
end Go.Proofs.Ytpeboaoephkfhaa
