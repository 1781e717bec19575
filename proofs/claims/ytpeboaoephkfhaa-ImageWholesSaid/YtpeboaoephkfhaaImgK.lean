/- The contracts over a disk of the call's own; awake. -/
import Derived.Test.YtpeboaoephkfhaaImgJ
import Derived.Test.YtpeboaoephkfhaaLaws
import Derived.Test.YtpeboaoephkfhaaShaF
import Derived.Lib.SmallJoins
namespace Go.Proofs.Ytpeboaoephkfhaa
open Go.ChangeShapes Go.WideShapes Go.ChangeAt Go.RowKit

section
variable {w0 w : World} {b : Nat} {S : List Nat} {d : DK}

theorem bstart_law (h : DInv w0 w b S d) (hby : d.Byt) (at_ : Int) (hat : -9223372036854775808 ≤ at_ ∧ at_ ≤ 9223372036854775807) :
    Calls Try.prog 17 #[.pointer (some ⟨b, 0, none⟩), .int .i64 at_] w fun e w' => e = .returned (.tuple #[.agg (encK (startF d at_).1).toArray, .int .i64 (startF d at_).2.1, .int .i64 (startF d at_).2.2]) ∧ DInv w0 w' b S d ∧ Upd [] w w' :=
  (bstart_any h.disk hby at_ hat).mono fun _ _ ⟨he, hu⟩ => ⟨he, h.quiet hu, hu⟩

theorem point_law (h : DInv w0 w b S d) (hby : d.Byt) (at_ : Int) (hat : -9223372036854775808 ≤ at_ ∧ at_ ≤ 9223372036854775807) (k : BK) (hk : k.WF) (hkr : -9223372036854775808 ≤ k.area ∧ k.area ≤ 9223372036854775807) :
    Calls Try.prog 18 #[.pointer (some ⟨b, 0, none⟩), .int .i64 at_, .agg (encK k).toArray] w fun e w' => e = .returned (.int .i64 (pointF d at_ k).2) ∧ ∃ S', DInv w0 w' b S' (pointF d at_ k).1 ∧ (pointF d at_ k).1.Byt ∧ Keep w S w' S' :=
  (point_any h.disk hby at_ hat k hk hkr).mono fun _ _ ⟨he, S', hd, hb, hu, hs⟩ => ⟨he, S', h.step hd hu hs, hb, Keep.of hu hs⟩

theorem put_law (h : DInv w0 w b S d) (hby : d.Byt) (f room at_ : Int) {v : Value} {x : List Int} (hv : BytesAt w v x) (hvu : U8L x) (hvo : BytesOut v x S) (hxl : x.length ≤ 1000000)
    (hf : -9223372036854775808 ≤ f ∧ f ≤ 9223372036854775807) (hat : -9223372036854775808 ≤ at_ ∧ at_ ≤ 9223372036854775807) :
    Calls Try.prog 15 #[.pointer (some ⟨b, 0, none⟩), .int .i64 f, .int .i64 room, .int .i64 at_, v] w fun e w' => e = .returned (.int .i64 (putF d f room at_ x).2) ∧ ∃ S', DInv w0 w' b S' (putF d f room at_ x).1 ∧ (putF d f room at_ x).1.Byt ∧ Keep w S w' S' :=
  (put_any h.disk hby f room at_ hv hvu hvo hxl hf hat).mono fun _ _ ⟨he, S', hd, hb, hu, hs⟩ => ⟨he, S', h.step hd hu hs, hb, Keep.of hu hs⟩

theorem get_law (h : DInv w0 w b S d) (hby : d.Byt) (f room size : Int) (hf : -9223372036854775808 ≤ f ∧ f ≤ 9223372036854775807) (hsz : -9223372036854775808 ≤ size ∧ size ≤ 9223372036854775807) :
    Calls Try.prog 16 #[.pointer (some ⟨b, 0, none⟩), .int .i64 f, .int .i64 room, .int .i64 size] w fun e w' => ∃ v, e = .returned (.tuple #[v, .int .i64 (getF d f room size).2]) ∧ BytesAt w' v (getF d f room size).1 ∧ DInv w0 w' b S d ∧ Upd [] w w' :=
  (get_any h.disk hby f room size hf hsz).mono fun _ _ ⟨v, he, hb, hu⟩ => ⟨v, he, hb, h.quiet hu, hu⟩

theorem whole_law (h : DInv w0 w b S d) (hby : d.Byt) (hdl : d.last.length ≤ 1000) (f room : Int) (hf : -9223372036854775808 ≤ f ∧ f ≤ 9223372036854775807) (k : BK) (hk : k.WF) (hsz : -9223372036854775808 ≤ k.size ∧ k.size ≤ 9223372036854775807) :
    Calls Try.prog 19 #[.pointer (some ⟨b, 0, none⟩), .int .i64 f, .int .i64 room, .agg (encK k).toArray] w fun e w' => e = .returned (.int .i64 (wholeF d f room k)) ∧ DInv w0 w' b S d ∧ Upd [] w w' :=
  (whole_any h.disk hby hdl f room hf k hk hsz).mono fun _ _ ⟨he, hu⟩ => ⟨he, h.quiet hu, hu⟩
end

theorem exec_boot3 {a : Act} {o : Oper} {w : World} {x0 x2 x3 : Operand} {b : BK} (ho : o.op = .build 40 #[(0, x0), (2, x2), (3, x3)])
    (h0 : a.eval x0 = .int .i64 b.area) (h1 : b.epoch = 0) (h2 : a.eval x2 = .int .i64 b.size) (h3 : a.eval x3 = .agg (U8 b.whole)) (hl : b.whole.length = 32) :
    (execOp a.eval o).run Try.prog w = .ok (.value (.agg (encK b).toArray)) w := by
  obtain ⟨ar, ep, sz, wh⟩ := b
  obtain ⟨f, hf⟩ : ∃ f : Nat → Int, wh = (List.range 32).map f := ⟨fun i => wh.getD i 0, by
    apply List.ext_getElem?
    intro i
    by_cases hi : i < 32
    · have hi2 : i < wh.length := by have : wh.length = 32 := hl; omega
      rw [List.getElem?_map, List.getElem?_range hi]
      simp [List.getD_eq_getElem?_getD, hi2]
    · have : wh.length = 32 := hl
      rw [List.getElem?_eq_none (by omega), List.getElem?_eq_none (by simp; omega)]⟩
  subst hf
  simp only at h1
  subst h1
  clear hl
  have hz' := run_zero (P := Try.prog) (w := w) zero_boot
  have hs1 : ∀ w, (sizeOf 3).run Try.prog w = .ok 1 w := by
    intro w
    have h := (by kernel_rfl : (Try.prog.info? 3).map (·.size) = some 1)
    cases hq : (Try.prog).info? 3 with
    | none => simp [hq] at h
    | some i => simp [hq] at h; simp [sizeOf, typeInfo, hq, h]
  have hs2 : ∀ w, (sizeOf 2).run Try.prog w = .ok 1 w := by
    intro w
    have h := (by kernel_rfl : (Try.prog.info? 2).map (·.size) = some 1)
    cases hq : (Try.prog).info? 2 with
    | none => simp [hq] at h
    | some i => simp [hq] at h; simp [sizeOf, typeInfo, hq, h]
  have hs3 : ∀ w, (sizeOf 38).run Try.prog w = .ok 32 w := by
    intro w
    have h := info_32
    cases hq : (Try.prog).info? 38 with
    | none => simp [hq] at h
    | some i => simp [hq] at h; simp [sizeOf, typeInfo, hq, h]
  unfold execOp
  simp only [ho, Instr.build, Sem.run_bind, hz', Result.andThen_ok, underlying]
  have hfill : Instr.fill (fun x => [(0, 1), (1, 1), (2, 1), (3, 32)][x]?) (Value.agg (encK BK.zero).toArray).cells [(0, Value.int .i64 ar), (2, Value.int .i64 sz), (3, Value.agg (U8 ((List.range 32).map f)))] = some (encK ⟨ar, 0, sz, (List.range 32).map f⟩).toArray := by kernel_rfl
  simp [Try.underlying40, hs1, hs2, hs3, h0, h2, h3, hfill]

namespace Awake8
def sm : List Int := [186, 120, 22, 191, 143, 1, 207, 234, 65, 65, 64, 222, 93, 174, 34, 35, 176, 3, 97, 163, 150, 23, 122, 156, 180, 16, 255, 97, 242, 0, 21, 173]
theorem sabc : sumF abc = sm := sum_abc
def bA : BK := ⟨1, 0, 3, sm⟩
def D0 : DK := DK.new 10
def D1 : DK := (pointF D0 0 bA).1
def D2 : DK := (putF D1 2 3 0 abc).1
set_option maxRecDepth 100000
theorem s0 : startF D0 0 = (BK.zero, 0, 81) := by kernel_rfl
theorem p0 : (pointF D0 0 bA).2 = 0 := by kernel_rfl
theorem s1 : startF D1 0 = (bA, 1, 0) := by kernel_rfl
theorem q1 : (putF D1 2 3 0 abc).2 = 0 := by kernel_rfl
theorem g2 : getF D2 2 3 3 = (abc, 0) := by kernel_rfl
theorem g5 : getF D2 5 3 3 = ([0, 0, 0], 0) := by kernel_rfl
theorem q2 : putF D2 2 3 190 abc = (D2, 1) := by kernel_rfl
theorem w2 : wholeF D2 2 3 bA = 0 := by
  unfold wholeF
  rw [show bA.size = 3 from rfl, g2, if_neg (by simp), show (abc, (0 : Int)).1 = abc from rfl, sabc, show bA.whole = sm from rfl, if_pos (by simp)]
theorem w5 : wholeF D2 5 3 bA = 80 := by
  have h := sum_000
  rw [sabc] at h
  unfold wholeF
  rw [show bA.size = 3 from rfl, g5, if_neg (by simp)]
  show (if (sumF [0, 0, 0] == sm) = true then (0 : Int) else 80) = 80
  rw [h]; rfl
theorem l2 : D2.last.length = 10 := by kernel_rfl
theorem b0 : D0.Byt := DK.Byt.new _
theorem ba : bA.WF := ⟨rfl, by intro x hx; revert x; decide⟩
theorem uabc : U8L abc := by intro x hx; revert x; decide
theorem bl : blocksN 65 = 2 := by decide
end Awake8
/-- 'string(b)'. -/
theorem exec_str {a : Act} {o : Oper} {w : World} {v : Value} {l : List Int} (x : Operand) (ho : o.op = .convert 26 9 x) (hx : a.eval x = v) (hv : BytesAt w v l) :
    (execOp a.eval o).run Try.prog w = .ok (.value (.string (strOfNums l))) w := by
  obtain ⟨ad, cap, rfl, -, -, hc⟩ := hv
  have key : (convert 26 9 (.slice ad l.length cap)).run Try.prog w = .ok (.string (strOfNums l)) w := by
    by_cases hl : l = []
    · subst hl
      cases ad with
      | none => exact run_convert_bytes_nil w _ _ Try.underlying26 Try.underlying5 _ _ _ Try.underlying9
      | some ad =>
        have hl : (loadCells ad 0).run Try.prog w = .ok (([] : List Int).map (Value.int .u8)).toArray w := by
          have := run_loadCells_list (P := Try.prog) w ad [] (fun j v hj => by simp at hj)
          simpa using this
        rw [List.length_nil, run_convert_bytes_string w _ _ _ _ _ _ Try.underlying26 Try.underlying5 Try.underlying9, run_bytesToString w _ 0 cap [] hl, foldl_push_bytes]
        rfl
    · obtain ⟨g, off, rfl, -, h⟩ := hc hl
      exact run_convert_bytes_arg w _ _ Try.underlying26 Try.underlying5 g off l.length cap l rfl h _ Try.underlying9
  unfold execOp
  simp [ho, hx, key]

/-- The bytes of a literal, in a block of their own. -/
theorem bytes_mark (w : World) (l : List Int) (T : TypeId) (fr : Nat × Nat) (hm : l.length ≤ maxLen) : BytesAt (w.alloc (.cells (U8 l) T fr)) (.slice (some ⟨w.heap.size, 0, none⟩) l.length l.length) l :=
  ⟨_, _, rfl, Nat.le_refl _, hm, fun _ => ⟨w.heap.size, 0, rfl, by simp, fun i hi => by
    rw [Nat.zero_add, World.cell?_alloc_mark]
    exact U8_get l i hi⟩⟩

set_option maxRecDepth 100000 in
set_option maxHeartbeats 4000000 in
theorem awake_any (w : World) : Calls Try.prog 10 #[] w fun e w' => e = .returned (.bool true) ∧ Upd [] w w' := by
  go_enter Try.func10, Try.ntmps10
  go_upto_region 2 with (go_at_call 12; refine (new_law 10 w (by omega) (by omega) (Upd.refl _ _)).mono ?_; rintro e w1 ⟨p, S, rfl, hd, -, -⟩)
  have HD : Hid (DInv w w1 p S Awake8.D0) := Lib.hid hd
  clear hd
  go_upto_region 3 with (first
    | (go_at_call 17; refine (bstart_law HD.out Awake8.b0 0 (by omega)).mono ?_; rw [Awake8.s0]; rintro e w2 ⟨rfl, hd2, hu2⟩)
    | (refine wpList_alloc rfl 40 rfl zero_boot fun w3 hb3 hu3 hs3 => ?_
       refine wpList_storeA rfl 40 (.tmp 3) (.tmp 20) rfl rfl rfl hb3 info_boot (encK_size zer32_len) (encK_size zer32_len) (encK_one _) fun w4 hb4 hu4 hs4 => ?_
       simp only [Act.put, List.setIfInBounds_toArray, List.set_cons_zero, List.set_cons_succ]))
  have HD4 := Lib.hid (hd2.quiet ((hu3).then hu4 (fun q hq => .inr (by simp at hq; omega))))
  clear hd2 hu2 hb3 hu3 hs3 hb4 hu4 hs4
  have hconv := Go.Joins.run_convert_bytes_const_at (P := Try.prog) w4 26 5 #[.int .u8 97, .int .u8 98, .int .u8 99] 3 3 w4.heap.size rfl Try.underlying26 Try.underlying5
  go_wp2_with fail
  obtain ⟨w5, hw5⟩ : ∃ x, x = w4.alloc (.cells #[.int .u8 97, .int .u8 98, .int .u8 99] 5 (3, 4)) := ⟨_, rfl⟩
  have hb5 : BytesAt w5 (.slice (some ⟨w4.heap.size, 0, none⟩) 3 3) abc := by rw [hw5]; exact bytes_mark w4 abc 5 (3, 4) (by unfold maxLen; decide)
  have hu5 : Upd [] w4 w5 := by rw [hw5]; exact (Upd.refl _ _).alloc _
  have hs5 : w5.heap.size = w4.heap.size + 1 := by rw [hw5]; simp
  obtain ⟨w6, hw6⟩ : ∃ x, x = w5.alloc (.cells #[.slice (some ⟨w4.heap.size, 0, none⟩) 3 3] 26) := ⟨_, rfl⟩
  have hb6 : Blk w6 w5.heap.size #[.slice (some ⟨w4.heap.size, 0, none⟩) 3 3] 26 := by rw [hw6]; exact Blk.new _ _ _
  have hu6 : Upd [] w5 w6 := by rw [hw6]; exact (Upd.refl _ _).alloc _
  rw [← hw5, ← hw6]
  rw [hs5] at hb6
  have HD6 := Lib.hid ((HD4.out.quiet hu5).quiet hu6)
  refine (sum_any (hb6.cell (o := 0) rfl) (hb5.upd0 hu6) Awake8.uabc (by decide) hb6.lt).mono ?_
  rw [Awake8.sabc]
  rintro e w7 ⟨rfl, hu7⟩
  have HD7 := Lib.hid (HD6.out.quiet hu7)
  clear hconv hw5 hb5 hu5 hs5 hw6 hb6 hu6 hu7 HD6 HD4 HD
  go_upto_region 4 with (first
    | ((with_reducible show wpList _ _ _ (⟨some 28, _, _, _, _, _⟩ :: _) _ _); refine wpList_run rfl (exec_boot3 (b := Awake8.bA) rfl rfl rfl rfl rfl rfl) ?_)
    | (go_at_call 18; refine (point_law HD7.out Awake8.b0 0 (by omega) Awake8.bA Awake8.ba (by decide)).mono ?_; rw [Awake8.p0]; rintro e w8 ⟨rfl, S8, hd8, hby8, -⟩))
  have HD8 : Hid (DInv w w8 p S8 Awake8.D1) := Lib.hid hd8
  have HY8 : Hid Awake8.D1.Byt := Lib.hid hby8
  clear hd8 hby8 HD7
  go_upto_region 5 with (first
    | (go_at_call 17; refine (bstart_law HD8.out HY8.out 0 (by omega)).mono ?_; rw [Awake8.s1]; rintro e w9 ⟨rfl, hd9, hu9⟩)
    | (refine wpList_alloc rfl 40 rfl zero_boot fun w10 hb10 hu10 hs10 => ?_
       refine wpList_storeA rfl 40 (.tmp 7) (.tmp 33) rfl rfl rfl hb10 info_boot (encK_size Awake8.ba.whole) (encK_size zer32_len) (encK_one _) fun w11 hb11 hu11 hs11 => ?_
       simp only [Act.put, List.setIfInBounds_toArray, List.set_cons_zero, List.set_cons_succ]))
  have hu911 : Upd [] w9 w11 := hu10.then hu11 (fun q hq => .inr (by simp at hq; omega))
  have HV11 := Lib.hid (hd9.var hb11)
  have HD11 := Lib.hid (hd9.quiet hu911)
  clear hb10 hu10 hs10 hb11 hu11 hs11 hd9 hu9 hu911 HD8
  have hconv := Go.Joins.run_convert_bytes_const_at (P := Try.prog) w11 26 5 #[.int .u8 97, .int .u8 98, .int .u8 99] 3 3 w11.heap.size rfl Try.underlying26 Try.underlying5
  go_wp2_with fail
  obtain ⟨bb, hbb⟩ : ∃ x, x = w9.heap.size := ⟨_, rfl⟩
  rw [← hbb] at HV11 ⊢
  obtain ⟨w12, hw12⟩ : ∃ x, x = w11.alloc (.cells #[.int .u8 97, .int .u8 98, .int .u8 99] 5 (3, 4)) := ⟨_, rfl⟩
  have hb12 : BytesAt w12 (.slice (some ⟨w11.heap.size, 0, none⟩) 3 3) abc := by rw [hw12]; exact bytes_mark w11 abc 5 (3, 4) (by unfold maxLen; decide)
  have hu12 : Upd [] w11 w12 := by rw [hw12]; exact (Upd.refl _ _).alloc _
  rw [← hw12]
  have HV12 := Lib.hid (HV11.out.keep (Keep.quiet hu12))
  have HD12 := Lib.hid (HD11.out.quiet hu12)
  have ho12 : BytesOut (.slice (some ⟨w11.heap.size, 0, none⟩) 3 3) abc S8 := fun g off len cap _ e hm => by cases e; have := HD11.out.disk.lt _ hm; omega
  refine (put_law HD12.out HY8.out 2 3 0 hb12 Awake8.uabc ho12 (by decide) (by omega) (by omega)).mono ?_
  rw [Awake8.q1]
  rintro e w13 ⟨rfl, S13, hd13, hby13, hk13⟩
  have HD13 : Hid (DInv w w13 p S13 Awake8.D2) := Lib.hid hd13
  have HY13 : Hid Awake8.D2.Byt := Lib.hid hby13
  have HV13 := Lib.hid (HV12.out.keep hk13)
  clear hconv hbb hw12 hb12 hu12 ho12 hd13 hby13 hk13 HV11 HD11 HV12 HD12 HY8
  go_upto_region 7 with (go_at_call 16; refine (get_law HD13.out HY13.out 2 3 3 (by omega) (by omega)).mono ?_; rw [Awake8.g2]; rintro e w14 ⟨v, rfl, hv14, hd14, hu14⟩)
  have HD14 := Lib.hid hd14
  have HBY14 : Hid (BytesAt w14 v abc) := Lib.hid hv14
  have HV14 := Lib.hid (HV13.out.keep (Keep.quiet hu14)).1
  have HSTR : Hid (strOfNums abc = ⟨#[97, 98, 99]⟩) := Lib.hid rfl
  have c0 : w14.cell? ⟨bb, 0, none⟩ = some (.int .i64 1) := HV14.out.cell (o := 0) rfl
  clear hd14 hv14 hu14 HV13
  have hconv : ∀ w : World, (convert 26 26 (.slice (some ⟨w.heap.size, 0, none⟩) 3 3)).run Try.prog (w.alloc (.cells #[.int .u8 97, .int .u8 98, .int .u8 99] 5)) = .ok (.slice (some ⟨w.heap.size, 0, none⟩) 3 3) (w.alloc (.cells #[.int .u8 97, .int .u8 98, .int .u8 99] 5 (3, 4))) :=
    fun w => Go.Joins.run_convert_bytes_const_at (P := Try.prog) w 26 5 #[.int .u8 97, .int .u8 98, .int .u8 99] 3 3 w.heap.size rfl Try.underlying26 Try.underlying5
  go_wp2_with (first
    | ((with_reducible show wpList _ _ _ (⟨some 70, _, _, _, _, _⟩ :: _) _ _); refine wpList_runW rfl (exec_str (.tmp 69) rfl rfl HBY14.out) ?_; rw [HSTR.out])
    | ((with_reducible show wpList _ _ _ (⟨some 79, _, _, _, _, _⟩ :: _) _ _); refine wpList_runW rfl (boot_load (.tmp 7) rfl rfl HV14.out Awake8.ba.whole) ?_)
    | ((with_reducible show Calls _ _ #[_, .int .i64 2, _, _] _ _); go_at_call 19; refine (whole_law HD14.out HY13.out (by rw [Awake8.l2]; decide) 2 3 (by omega) Awake8.bA Awake8.ba (by decide)).mono ?_; rw [Awake8.w2]; rintro e w15 ⟨rfl, hd15, hu15⟩; have HD15 := Lib.hid hd15; have HV15 := Lib.hid (HV14.out.upd hu15 (by simp)); clear hd15 hu15)
    | ((with_reducible show wpList _ _ _ (⟨some 85, _, _, _, _, _⟩ :: _) _ _); refine wpList_runW rfl (boot_load (.tmp 7) rfl rfl HV15.out Awake8.ba.whole) ?_)
    | ((with_reducible show Calls _ _ #[_, .int .i64 5, _, _] _ _); go_at_call 19; refine (whole_law HD15.out HY13.out (by rw [Awake8.l2]; decide) 5 3 (by omega) Awake8.bA Awake8.ba (by decide)).mono ?_; rw [Awake8.w5]; rintro e w16 ⟨rfl, hd16, hu16⟩; have HD16 := Lib.hid hd16; clear hd16 hu16)
    | (go_at_call 11; refine (iblocks_any 65 _ (by omega) (by omega)).mono ?_; rw [Awake8.bl]; rintro e _ ⟨rfl, rfl⟩))
  obtain ⟨w17, hw17⟩ : ∃ x, x = w16.alloc (.cells #[.int .u8 97, .int .u8 98, .int .u8 99] 5 (3, 4)) := ⟨_, rfl⟩
  have hb17 : BytesAt w17 (.slice (some ⟨w16.heap.size, 0, none⟩) 3 3) abc := by rw [hw17]; exact bytes_mark w16 abc 5 (3, 4) (by unfold maxLen; decide)
  have hu17 : Upd [] w16 w17 := by rw [hw17]; exact (Upd.refl _ _).alloc _
  rw [← hw17]
  have ho17 : BytesOut (.slice (some ⟨w16.heap.size, 0, none⟩) 3 3) abc S13 := fun g off len cap _ e hm => by cases e; have := HD16.out.disk.lt _ hm; omega
  refine (put_law (HD16.out.quiet hu17) HY13.out 2 3 190 hb17 Awake8.uabc ho17 (by decide) (by omega) (by omega)).mono ?_
  rw [Awake8.q2]
  rintro e w18 ⟨rfl, S18, hd18, -, -⟩
  have HU18 := Lib.hid hd18.upd
  clear hconv hw17 hb17 hu17 ho17 hd18
  go_wp2_with fail
  go_ret
  exact ⟨rfl, HU18.out⟩
end Go.Proofs.Ytpeboaoephkfhaa
