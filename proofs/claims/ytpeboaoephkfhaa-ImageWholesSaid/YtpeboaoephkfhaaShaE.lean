/- The walk of a digest of one part. -/
import Derived.Test.YtpeboaoephkfhaaShaD
namespace Go.Proofs.Ytpeboaoephkfhaa
open Go.ChangeShapes Go.WideShapes Go.ChangeAt Go.RowKit

def zer32 : List Int := List.replicate 32 0
theorem zer32_len : zer32.length = 32 := by simp [zer32]
theorem zero_32 : (Try.prog.info? 38).map (·.zero) = some (some (.agg (U8 zer32))) := by kernel_rfl
theorem info_32 : (Try.prog.info? 38).map (·.size) = some 32 := by kernel_rfl
theorem u8_one (k : IntKind) (x : Int) : ∀ c ∈ (Value.int k x).cells.toList, c.oneCell' = true := by
  intro c hc
  have : c = .int k x := by simpa [Value.cells] using hc
  subst this; rfl

theorem results_32 {fn : Func} {p : Tmp} (h : fn.results = #[.cell p 38]) {tmps : Array Value} {w : World} {g : Nat} {T : TypeId} {l : List Int} (hp : tmps.getD p undef = .pointer (some ⟨g, 0, none⟩)) (hb : Blk w g (U8 l) T) (hl : l.length = 32) :
    (results fn tmps).run Try.prog w = .ok (.agg (U8 l)) w :=
  results_cell_row h tmps w g T (U8 l) (0, 0) _ hp hb Try.underlying38 rfl (by rw [info_32, U8_size, hl])

def lenOf : Value → Nat
  | .slice _ n _ => n
  | _ => 0

section
variable {P : Program} {a : Act} {w : World} {o : Oper}
theorem size_run {P : Program} {e : TypeId} {k : Nat} (hs : (P.info? e).map (·.size) = some k) : ∀ w, (sizeOf e).run P w = .ok k w := by
  intro w
  cases hq : P.info? e with
  | none => simp [hq] at hs
  | some i => simp [hq] at hs; simp [sizeOf, typeInfo, hq, hs]
theorem exec_sliceL0 (t : TypeId) (x y : Operand) (ho : o.op = .slice t x (some y) none none) (ht : P.underlying t = some (.slice (P.elem t))) {k : Nat} (hs : (P.info? (P.elem t)).map (·.size) = some k)
    {b : Option Addr} {n cap l : Nat} {kl : IntKind} (hx : a.eval x = .slice b n cap) (hy : a.eval y = .int kl l) (h1 : l ≤ n) {r : Value} (hr : sliced b l n cap k = r) :
    (execOp a.eval o).run P w = .ok (.value r) w := by
  subst hr
  have e1 := run_slice_l (P := P) (w := w) t b n cap ht kl (l : Int) (by omega) (by omega)
  rw [size_run hs, Result.andThen_ok] at e1
  unfold execOp
  simp only [ho, hx, hy, Option.map_some, Option.map_none, Sem.run_bind, run_sliceAt_slice _ t _ _ _ _ ht, e1, Result.andThen_ok, Sem.run_pure, Int.toNat_natCast]
end

theorem BytesAt.slicedL {w : World} {a : Option Addr} {n cap i : Nat} {l : List Int} (h : BytesAt w (.slice a n cap) l) (hi : i ≤ l.length) : BytesAt w (sliced a i n cap 1) (l.drop i) := by
  obtain ⟨a', cap', e, h1, h2, h3⟩ := h
  cases e
  have hv : sliced a i l.length cap 1 = .slice (if cap = i then a else a.map (·.add (i * 1))) (l.drop i).length (cap - i) := by
    unfold sliced; rw [List.length_drop]
  refine ⟨_, cap - i, hv, by rw [List.length_drop]; omega, by omega, fun hne => ?_⟩
  have hlt : i < l.length := by
    rcases Nat.lt_or_ge i l.length with h | h
    · exact h
    · exact absurd (List.drop_of_length_le h) hne
  obtain ⟨g, off, rfl, hg, hc⟩ := h3 (by intro e; rw [e] at hlt; simp at hlt)
  refine ⟨g, off + i, ?_, hg, fun j hj => ?_⟩
  · have hadd : (⟨g, off, none⟩ : Addr).add i = ⟨g, off + i, none⟩ := by unfold Addr.add; split <;> simp_all
    rw [if_neg (by omega)]; simp [hadd]
  · rw [List.length_drop] at hj
    rw [Nat.add_assoc, hc (i + j) (by omega)]
    simp [List.getD_eq_getElem?_getD]

theorem arr_load32 {a : Act} {o : Oper} {w : World} {g : Nat} {l : List Int} {T : TypeId} (x : Operand) (ho : o.op = .load 38 x) (hx : a.eval x = .pointer (some ⟨g, 0, none⟩)) (hb : Blk w g (U8 l) T) (hl : l.length = 32) :
    (execOp a.eval o).run Try.prog w = .ok (.value (.agg (U8 l))) w := by
  have h := exec_load (P := Try.prog) 38 x ho hx hb Try.underlying38 info_32 (by rw [U8_size, hl]; omega)
  have e : (U8 l).extract 0 (0 + 32) = U8 l := by
    rw [U8_extract, List.drop_zero, List.take_of_length_le (by omega)]
  rw [e] at h
  exact h

theorem BytesOut.slicedL {w : World} {a : Option Addr} {n cap i : Nat} {l : List Int} {S : List Nat} (h : BytesOut (.slice a n cap) l S) (hb : BytesAt w (.slice a n cap) l) : BytesOut (sliced a i n cap 1) (l.drop i) S := fun g off len c hne e => by
  have hl : l ≠ [] := fun e => hne (by rw [e]; simp)
  obtain ⟨a', cap', e2, -, -, h3⟩ := hb
  cases e2
  obtain ⟨bl, o2, rfl, -⟩ := h3 hl
  unfold sliced at e
  have hbg : bl = g := by
    by_cases hci : cap = i
    · rw [if_pos hci] at e; cases e; rfl
    · rw [if_neg hci] at e
      simp only [Option.map_some, Value.slice.injEq, Option.some.injEq, Addr.add] at e
      have := congrArg Addr.block e.1
      split at this <;> exact this
  subst hbg
  exact h bl o2 _ cap hl rfl

/-- The first m bytes of a digest. -/
def firstO (s : List Int) : Nat → List Int
  | 0 => zer32
  | m + 1 => (firstO s m).set m (outB s m)
theorem firstO_len (s : List Int) : ∀ m, (firstO s m).length = 32
  | 0 => zer32_len
  | m + 1 => by rw [firstO, List.length_set, firstO_len s m]
theorem firstO_get (s : List Int) : ∀ m, m ≤ 32 → ∀ i, i < 32 → (firstO s m)[i]? = some (if i < m then outB s i else 0)
  | 0, _, i, hi => by rw [firstO, if_neg (by omega)]; unfold zer32; rw [List.getElem?_replicate, if_pos hi]
  | m + 1, h, i, hi => by
    rw [firstO, List.getElem?_set, firstO_len]
    by_cases e : m = i
    · subst e; rw [if_pos rfl, if_pos (by omega), if_pos (by omega)]
    · rw [if_neg e, firstO_get s m (by omega) i hi]
      by_cases h2 : i < m
      · rw [if_pos h2, if_pos (by omega)]
      · rw [if_neg h2, if_neg (by omega)]
theorem firstO_all (s : List Int) : firstO s 32 = outF s := by
  apply List.ext_getElem?
  intro i
  by_cases hi : i < 32
  · rw [firstO_get s 32 (by omega) i hi, if_pos hi]
    unfold outF
    rw [List.getElem?_map, List.getElem?_range hi]; rfl
  · rw [List.getElem?_eq_none (by rw [firstO_len]; omega), List.getElem?_eq_none (by simp [outF]; omega)]

theorem state_load {a : Act} {o : Oper} {w : World} {g : Nat} {l : List Int} {T : TypeId} (x : Operand) (ho : o.op = .load 73 x) (hx : a.eval x = .pointer (some ⟨g, 0, none⟩)) (hb : Blk w g (U32 l) T) (hl : l.length = 8) :
    (execOp a.eval o).run Try.prog w = .ok (.value (.agg (U32 l))) w := by
  have h := exec_load (P := Try.prog) 73 x ho hx hb Try.underlying73 info_state (by rw [U32_size, hl]; omega)
  have e : (U32 l).extract 0 (0 + 8) = U32 l := by
    apply Array.ext'
    rw [Array.toList_extract, List.extract_eq_take_drop]
    simp only [List.drop_zero, Nat.zero_add, Nat.sub_zero]
    rw [List.take_of_length_le (by simp [U32, hl])]
  rw [e] at h
  exact h

theorem own_push {w : World} {base : Nat} {v : Value} {L : List Int} {n : Nat} {y : Int} (h : w.ownsRow base 5 1 v (n + 1) (L.map (Value.int .u8) ++ (Value.int .u8 y).cells.toList)) (hn : n = L.length) : w.ownsRow base 5 1 v (L ++ [y]).length ((L ++ [y]).map (Value.int .u8)) := by
  rw [List.length_append, List.map_append, ← hn]; exact h

set_option maxRecDepth 100000 in
set_option maxHeartbeats 4000000 in
theorem sum_any {w : World} {b : List Int} {bv : Value} {pb po pc : Nat} (hp : w.cell? ⟨pb, po, none⟩ = some bv) (hb : BytesAt w bv b) (hu8 : U8L b) (hl : b.length ≤ 100000) (hpb : pb < w.heap.size) :
    Calls Try.prog 20 #[.slice (some ⟨pb, po, none⟩) 1 pc] w fun e w' => e = .returned (.agg (U8 (sumF b))) ∧ Upd [] w w' := by
  have HB := Lib.hid hb
  have HP := Lib.hid hp
  have HU8 := Lib.hid hu8
  obtain ⟨ln, hln⟩ : ∃ n, n = b.length := ⟨_, rfl⟩
  have hl' : ln ≤ 100000 := by omega
  have HLN := Lib.hid hln
  clear hb hp hu8 hl hln
  go_enter Try.func20, Try.ntmps20
  go_upto_region 2 with (first
    | (refine wpList_alloc rfl 38 rfl zero_32 fun w2 hb2 hu2 hs2 => ?_)
    | (go_at_call 30; refine (join_any ((World.cell?_of_block (a := ⟨pb, po, none⟩) (hu2.block pb hpb (by simp))).trans HP.out) (HB.out.upd0 hu2) (by rw [← HLN.out]; omega)).mono ?_; rintro e w3 ⟨v3, rfl, ho3, hu3⟩
       rw [← HLN.out] at ho3
       obtain ⟨a3, c3, rfl⟩ := own_slice ho3
       have HO3 := Lib.hid ho3
       have HU3 := Lib.hid hu3))
  obtain ⟨ob, hob⟩ : ∃ x, x = w.heap.size := ⟨_, rfl⟩
  rw [← hob] at hb2 hs2 ⊢
  have HOB2 : Hid (Blk w2 ob (U8 zer32) 38) := Lib.hid hb2
  have HOB3 := Lib.hid (HOB2.out.upd hu3 (by simp))
  have HU03 := Lib.hid (hu2.trans hu3)
  have hz23 := hu3.size
  obtain ⟨B0, hB0⟩ : ∃ x, x = w2.heap.size := ⟨_, rfl⟩
  rw [← hB0] at HO3 hs2 hz23
  have HOBE := Lib.hid hob
  clear hb2 hu2 hu3 ho3 hob hB0
  have hmul : IntKind.u64.wrap ((ln : Int) * 8) = ((8 * ln : Nat) : Int) := by
    rw [show ((ln : Int) * 8) = ((8 * ln : Nat) : Int) by omega]
    simp [IntKind.wrap, IntKind.bits, IntKind.signed]; omega
  have hcv : IntKind.u64.wrap (ln : Int) = (ln : Int) := by simp [IntKind.wrap, IntKind.bits, IntKind.signed]; omega
  obtain ⟨N, hN⟩ : ∃ n : Nat, n = 8 * ln := ⟨_, rfl⟩
  rw [← hN] at hmul
  have HN := Lib.hid hN
  clear hN
  go_upto_region 4 with ((with_reducible show wpList _ _ _ (⟨some 16, _, _, _, _, _⟩ :: _) _ _)
                         go_loud (refine wpList_push 16 17 26 5 (.tmp 15) (.const (.int .u8 128)) (.int .u8 0) 1 1 Try.underlying26 info_u8B rfl (by omega) (by omega) B0 (.slice a3 ln c3) ln _ (.int .u8 128) rfl rfl rfl rfl rfl rfl (by simp) (by simp [Act.put]) rfl rfl HO3.out rfl (u8_one _ _) (by unfold maxLen; omega) (by omega) (by omega) ?_)
                         intro g4 c4 w4 ho4 hu4 hat4 hlt4 hb4
                         have HO4 := Lib.hid ho4
                         have HU4 := Lib.hid hu4
                         clear ho4 hu4 hat4 hlt4 hb4)
  obtain ⟨K0, hK0⟩ : ∃ k, k = padK ln := ⟨_, rfl⟩
  have hK1 : K0 = (119 - ln % 64) % 64 := hK0
  have HK0 := Lib.hid hK0
  have HOWN4 : Hid (w4.ownsRow B0 5 1 (.slice (some ⟨g4, 0, none⟩) (ln + 1) c4) (b ++ [128]).length ((b ++ [128]).map (Value.int .u8))) := Lib.hid (own_push HO4.out HLN.out)
  have hrow3 : ∀ y ∈ (Value.slice a3 ln c3).ownBlock.toList, B0 ≤ y := fun y hy => (HO3.out.lt y (by simpa using hy)).1
  have HUW4 : Hid (Upd [] w w4) := Lib.hid (HU03.out.then HU4.out (fun y hy => .inr (by have := hrow3 y hy; have := HOBE.out; omega)))
  have HOB4 : Hid (Blk w4 ob (U8 zer32) 38) := Lib.hid (HOB3.out.upd HU4.out (fun hm => by have := hrow3 ob hm; omega))
  have hz4 : B0 ≤ w4.heap.size := Nat.le_trans hz23 HU4.out.size
  have hobB : ob < B0 := by omega
  clear hK0 hrow3 HO3 HU03 HU4 HOB3 HOB2 HO4 hs2 hz23
  go_loopw [3] (fun bv wx => ∃ (k : Nat) (L : List Int), k ≤ K0 ∧ L = b ++ 128 :: List.replicate k 0 ∧ wx.ownsRow B0 5 1 bv L.length (L.map (Value.int .u8)) ∧ Blk wx ob (U8 zer32) 38 ∧ Upd [] w wx ∧ B0 ≤ wx.heap.size) (fun bv _ => (ln + 1 + K0) - lenOf bv)
  case atStart => exact ⟨0, _, Nat.zero_le _, rfl, HOWN4.out, HOB4.out, HUW4.out, hz4⟩
  case round =>
    clear HOWN4 HOB4 HUW4 hz4
    obtain ⟨k, L, hk, hL, ho, hob, hu, hz⟩ := hrel
    obtain ⟨oa, oc, rfl⟩ := own_slice ho
    have hLl : L.length = ln + 1 + k := by rw [hL]; simp; have := HLN.out; omega
    obtain ⟨n1, hn1⟩ : ∃ n, n = L.length := ⟨_, rfl⟩
    rw [← hn1] at ho hLl ⊢
    have HL := Lib.hid hL
    have HO := Lib.hid ho
    have HOB := Lib.hid hob
    have HU := Lib.hid hu
    have HN1 := Lib.hid hn1
    have HLL := Lib.hid hLl
    by_cases hlt : k < K0
    · have hq : ((n1 : Int) % 64 != 56) = true := by simp; omega
      have hn2 : n1 ≤ 200000 := by omega
      clear hL ho hob hu hn1 hLl
      go_wp2_with ((with_reducible show wpList _ _ _ (⟨some 23, _, _, _, _, _⟩ :: _) _ _)
                   go_loud (refine wpList_push 23 24 26 5 (.tmp 22) (.const (.int .u8 0)) (.int .u8 0) 1 1 Try.underlying26 info_u8B rfl (by omega) (by omega) B0 (.slice oa n1 oc) n1 _ (.int .u8 0) rfl rfl rfl rfl rfl rfl (by simp) (by simp [Act.put]) rfl rfl HO.out rfl (u8_one _ _) (by unfold maxLen; omega) (by omega) (by omega) ?_)
                   intro g5 c5 w5 ho5 hu5 hat5 hlt5 hb5
                   have HO5 := Lib.hid ho5
                   have HU5 := Lib.hid hu5
                   clear ho5 hu5 hat5 hlt5 hb5)
      go_roundw
      case rel =>
        have hrow : ∀ y ∈ (Value.slice oa n1 oc).ownBlock.toList, B0 ≤ y := fun y hy => (HO.out.lt y (by simpa using hy)).1
        refine ⟨k + 1, L ++ [0], by omega, ?_, own_push HO5.out HN1.out, HOB.out.upd HU5.out (fun hm => by have := hrow ob hm; omega), HU.out.then HU5.out (fun y hy => .inr (by have := hrow y hy; have := HOBE.out; omega)), Nat.le_trans hz HU5.out.size⟩
        rw [HL.out, List.replicate_succ', List.append_assoc, List.cons_append]
      case measure => have := HLL.out; simp [lenOf]; omega
    · obtain rfl : k = K0 := by omega
      have hq : ((n1 : Int) % 64 != 56) = false := by simp; omega
      have hn2 : n1 ≤ 200000 := by omega
      clear hL ho hob hu hn1 hLl hlt hk
      go_upto_region 7 with fail
      go_loopw [3, 25] (fun bv i wx => ∃ (m : Nat) (M : List Int), m ≤ 8 ∧ i = .int .i64 m ∧ M = L ++ (List.range m).map (lenB ln) ∧ wx.ownsRow B0 5 1 bv M.length (M.map (Value.int .u8)) ∧ Blk wx ob (U8 zer32) 38 ∧ Upd [] w wx ∧ B0 ≤ wx.heap.size) (fun _ i _ => 8 - (intOf i).toNat)
      case atStart => exact ⟨0, L, Nat.zero_le _, rfl, by simp, by rw [← HN1.out]; exact HO.out, HOB.out, HU.out, hz⟩
      case round =>
        clear HO HOB HU hz
        obtain ⟨m, M, hm, rfl, hM, ho, hob, hu, hz⟩ := hrel
        obtain ⟨oa, oc, rfl⟩ := own_slice ho
        have hMl : M.length = n1 + m := by rw [hM]; simp; have := HN1.out; omega
        obtain ⟨n3, hn3⟩ : ∃ n, n = M.length := ⟨_, rfl⟩
        rw [← hn3] at ho hMl ⊢
        have HM := Lib.hid hM
        have HO := Lib.hid ho
        have HOB := Lib.hid hob
        have HU := Lib.hid hu
        have HN3 := Lib.hid hn3
        by_cases hlt : m < 8
        · obtain ⟨q, hq⟩ : ∃ q : Nat, q = 8 * m := ⟨_, rfl⟩
          obtain ⟨sf, hsf⟩ : ∃ q : Nat, q = 56 - 8 * m := ⟨_, rfl⟩
          have m0 : IntKind.i64.wrap (8 * (m : Int)) = (q : Int) := by rw [IntWalk.i64_in _ (by omega)]; omega
          have m1 : IntKind.i64.wrap (56 - (q : Int)) = (sf : Int) := by rw [IntWalk.i64_in _ (by omega)]; omega
          have m2 : (0 : Int) ≤ (sf : Int) := by omega
          have m3 : sf ≤ 56 := by omega
          have HY : Hid (lenB ln m = (N : Int) / 2 ^ sf % 256) := Lib.hid (by unfold lenB; rw [hsf, HN.out])
          have hn4 : n3 ≤ 300000 := by omega
          have i0 : (m : Int) < 8 := by omega
          clear hM ho hob hu hn3 hMl hq hsf
          go_wp2_with ((with_reducible show wpList _ _ _ (⟨some 35, _, _, _, _, _⟩ :: _) _ _)
                       go_loud (refine wpList_push 35 36 26 5 (.tmp 28) (.tmp 34) (.int .u8 0) 1 1 Try.underlying26 info_u8B rfl (by omega) (by omega) B0 (.slice oa n3 oc) n3 _ (.int .u8 ((N : Int) / 2 ^ sf % 256)) rfl rfl rfl rfl rfl rfl (by simp) (by simp [Act.put]) rfl rfl HO.out rfl (u8_one _ _) (by unfold maxLen; omega) (by omega) (by omega) ?_)
                       intro g5 c5 w5 ho5 hu5 hat5 hlt5 hb5
                       have HO5 := Lib.hid ho5
                       have HU5 := Lib.hid hu5
                       clear ho5 hu5 hat5 hlt5 hb5)
          go_roundw
          case rel =>
            have hrow : ∀ y ∈ (Value.slice oa n3 oc).ownBlock.toList, B0 ≤ y := fun y hy => (HO.out.lt y (by simpa using hy)).1
            refine ⟨m + 1, M ++ [lenB ln m], by omega, by go_num, ?_, ?_, HOB.out.upd HU5.out (fun hm => by have := hrow ob hm; omega), HU.out.then HU5.out (fun y hy => .inr (by have := hrow y hy; have := HOBE.out; omega)), Nat.le_trans hz HU5.out.size⟩
            · rw [HM.out, List.range_succ, List.map_append, List.append_assoc]; rfl
            · rw [HY.out]; exact own_push HO5.out HN3.out
          case measure => simp [intOf]; omega
        · obtain rfl : m = 8 := by omega
          have HPAD : Hid (M = padF b) := Lib.hid (by rw [HM.out, HL.out]; unfold padF; rw [← HLN.out, ← HK0.out])
          have hp1 := padF_len b
          rw [← HPAD.out, ← HN3.out] at hp1
          have hn4 : n3 ≤ 300000 := by omega
          have hp2 : n3 % 64 = 0 := hp1.2
          clear hM ho hob hu hn3 hMl hlt hm hp1
          have HBM : Hid (BytesAt wr (.slice oa n3 oc) M) := Lib.hid (BytesAt.of_own HO.out (HN3.out.symm))
          have HMU : Hid (U8L M) := Lib.hid (by rw [HPAD.out]; exact padF_u8 HU8.out)
          go_upto_region 12 with (first
            | (go_at_call 31; refine (constants_any _).mono ?_; rintro e w6 ⟨rfl, hu6⟩)
            | (go_at_call 32; refine (begun_any _).mono ?_; rintro e w7 ⟨rfl, hu7⟩)
            | (refine wpList_alloc rfl 70 rfl zero_64w fun w8 hb8 hu8 hs8 => ?_)
            | (refine wpList_alloc rfl 73 rfl zero_state fun w9 hb9 hu9 hs9 => ?_
               have hb89 := hb8.upd hu9 (by simp))
            | (refine wpList_storeA rfl 70 (.tmp 6) (.tmp 38) rfl rfl rfl hb89 info_64w rfl rfl (U32_one _) fun w10 hb10 hu10 hs10 => ?_
               have hb910 := hb9.upd hu10 (by simp; omega))
            | (refine wpList_storeA rfl 73 (.tmp 7) (.tmp 39) rfl rfl rfl hb910 info_state rfl rfl (U32_one _) fun w11 hb11 hu11 hs11 => ?_))
          rw [hs8] at hb11 hu11
          try rw [hs8]
          obtain ⟨kb, hkb⟩ : ∃ x, x = w7.heap.size := ⟨_, rfl⟩
          rw [← hkb] at hb10 hu10 hb11 hu11 hs8 ⊢
          obtain ⟨sb, hsb⟩ : ∃ x, x = kb + 1 := ⟨_, rfl⟩
          rw [← hsb] at hb11 hu11 hs8 ⊢
          have hz7 : wr.heap.size ≤ kb := by rw [hkb]; exact Nat.le_trans hu6.size hu7.size
          have hu11w : Upd [] wr w11 := by
            have h9 : Upd [] wr w9 := ((hu6.trans hu7).trans hu8).trans hu9
            exact (h9.then hu10 (fun k hk => .inr (by simp at hk; omega))).then hu11 (fun k hk => .inr (by simp at hk; omega))
          have HK11 : Hid (Blk w11 kb (U32 KK) 70) := Lib.hid (hb10.upd hu11 (by simp; omega))
          have HS11 : Hid (Blk w11 sb (U32 HH) 73) := Lib.hid hb11
          have HBM11 := Lib.hid (HBM.out.upd0 hu11w)
          have HOB11 := Lib.hid (HOB.out.upd hu11w (by simp))
          have HU11 := Lib.hid (HU.out.trans hu11w)
          have hobr : ob < wr.heap.size := HOB.out.lt
          have hobk : ob ≠ sb := by omega
          have hkbs : kb ≠ sb := by omega
          have HSBW : Hid (w.heap.size ≤ sb) := Lib.hid (by have := HU.out.size; omega)
          have hgb : ∀ g off c1 c2, BytesAt wr (.slice (some ⟨g, off, none⟩) c1 c2) M → M ≠ [] → g ≠ sb := fun g off c1 c2 hby hne => by
            obtain ⟨a', c', e, -, -, h3⟩ := hby
            cases e
            obtain ⟨g', off', e2, hg', -⟩ := h3 hne
            cases e2
            omega
          clear hu6 hu7 hb8 hu8 hs8 hb9 hu9 hs9 hb89 hb10 hu10 hs10 hb910 hb11 hu11 hs11 hkb hz7 hu11w
          have HGB := Lib.hid (hgb)
          clear hgb hsb
          obtain ⟨nb, hnb⟩ : ∃ k, k = n3 / 64 := ⟨_, rfl⟩
          have hn64 : n3 = 64 * nb := by omega
          have HN64 := Lib.hid hn64
          have HNB := Lib.hid hnb
          have HMA : Hid (∃ g off, oa = some ⟨g, off, none⟩ ∧ g ≠ sb ∧ g < w11.heap.size ∧ ∀ i, i < M.length → w11.cell? ⟨g, off + i, none⟩ = some (.int .u8 (M.getD i 0))) := Lib.hid (by
            have hne : M ≠ [] := by rw [HPAD.out]; unfold padF; simp
            have h0 := HGB.out
            obtain ⟨a', c', e, -, -, h3⟩ := HBM11.out
            cases e
            obtain ⟨g, off, rfl, hg, hc⟩ := h3 hne
            exact ⟨g, off, rfl, h0 g off _ _ HBM.out hne, hg, hc⟩)
          simp only [Act.put, List.setIfInBounds_toArray, List.set_cons_zero, List.set_cons_succ]
          clear hn64 hnb
          go_loopw [3] (fun bv wx => ∃ (j n c : Nat) (a : Option Addr), j ≤ nb ∧ n = 64 * (nb - j) ∧ bv = .slice a n c ∧ BytesAt wx (.slice a n c) (M.drop (64 * j)) ∧ BytesOut (.slice a n c) (M.drop (64 * j)) [sb] ∧ Blk wx sb (U32 (runF KK HH M j)) 73 ∧ Upd [sb] w11 wx) (fun bv _ => lenOf bv)
          case atStart =>
            refine ⟨0, n3, oc, oa, Nat.zero_le _, by have := HN64.out; omega, rfl, by simpa using HBM11.out, fun g off len cap hne e hm => ?_, HS11.out, Upd.refl _ _⟩
            obtain ⟨g', off', e', hgn, -⟩ := HMA.out
            rw [e'] at e
            cases e
            simp at hm
            exact hgn hm
          case round =>
            obtain ⟨j, n, c, a, hj, hn, rfl, hby, hout, hs, hu'⟩ := hrel
            have HBY := Lib.hid hby
            have HOUT := Lib.hid hout
            have HS := Lib.hid hs
            have HUX := Lib.hid hu'
            have HNE := Lib.hid hn
            clear hby hout hs hu'
            by_cases hlt : j < nb
            · have hn0 : (0 : Int) < (n : Int) := by omega
              have hn64' : 64 ≤ n := by omega
              have hdl : (M.drop (64 * j)).length = n := by have := HN64.out; rw [List.length_drop, ← HN3.out]; omega
              obtain ⟨D, hD⟩ : ∃ D, D = M.drop (64 * j) := ⟨_, rfl⟩
              rw [← hD] at HBY HOUT hdl
              obtain ⟨S0, hS0⟩ : ∃ S, S = runF KK HH M j := ⟨_, rfl⟩
              rw [← hS0] at HS
              have hS8 : S0.length = 8 := by rw [hS0]; exact runF_len HH_len j
              have HS8 := Lib.hid hS8
              have HD := Lib.hid hD
              have HSE := Lib.hid hS0
              have HDU : Hid (U8L D) := Lib.hid (by rw [hD]; exact fun x hx => HMU.out x (List.mem_of_mem_drop hx))
              have HDL := Lib.hid hdl
              have hkx : Blk wr kb (U32 KK) 70 := HK11.out.upd HUX.out (by simp; exact hkbs)
              have HKX := Lib.hid hkx
              clear hD hS0 hS8 hdl hkx hn
              go_upto_region 13 with (first
                | ((with_reducible show wpList _ _ _ (⟨some 45, _, _, _, _, _⟩ :: _) _ _); refine wpList_run rfl (state_load (.tmp 7) rfl rfl HS.out HS8.out) ?_)
                | (go_at_call 33; refine (block_any HS8.out HBY.out (by rw [HDL.out]; omega) HDU.out HKX.out KK_len).mono ?_; rintro e w12 ⟨rfl, hu12⟩)
                | (refine wpList_storeA rfl 73 (.tmp 7) (.tmp 47) rfl rfl rfl (HS.out.upd hu12 (by simp)) info_state rfl (by rw [U32_size, HS8.out]) (U32_one _) fun w13 hb13 hu13 hs13 => ?_))
              have HBK : Hid (blockF KK S0 D = runF KK HH M (j + 1)) := Lib.hid (by rw [runF, ← HSE.out, ← HD.out])
              have HS13 : Hid (Blk w13 sb (U32 (runF KK HH M (j + 1))) 73) := Lib.hid (by rw [← HBK.out]; exact hb13)
              have HU13 := Lib.hid (HUX.out.trans ((hu12.mono (by simp)).trans hu13))
              have HB13 : Hid (BytesAt w13 (.slice a n c) D) := Lib.hid ((HBY.out.upd0 hu12).upd hu13 HOUT.out)
              clear hu12 hb13 hu13 hs13
              go_wp2_with ((with_reducible show wpList _ _ _ (⟨some 44, _, _, _, _, _⟩ :: _) _ _); refine wpList_run rfl (exec_sliceL0 (l := 64) 26 (.tmp 43) (.const (.int .i64 64)) rfl Try.underlying26 (by kernel_rfl : _ = some 1) rfl rfl hn64' rfl) ?_)
              go_roundw
              case rel =>
                have hdd : D.drop 64 = M.drop (64 * (j + 1)) := by rw [HD.out, List.drop_drop]; congr 1
                refine ⟨j + 1, n - 64, c - 64, _, by omega, by have := HNE.out; omega, rfl, ?_, ?_, HS13.out, HU13.out⟩
                · rw [← hdd]; exact HB13.out.slicedL (by rw [HDL.out]; exact hn64')
                · rw [← hdd]; exact HOUT.out.slicedL HBY.out
              case measure => simp [lenOf, sliced]; omega
            · obtain rfl : j = nb := by omega
              obtain rfl : n = 0 := by omega
              obtain ⟨S0, hS0⟩ : ∃ S, S = runF KK HH M j := ⟨_, rfl⟩
              rw [← hS0] at HS
              have hS8 : S0.length = 8 := by rw [hS0]; exact runF_len HH_len j
              have HSUM : Hid (sumF b = outF S0) := Lib.hid (by
                have hp := HPAD.out
                unfold sumF
                rw [← hp, ← HN3.out, ← HNB.out, hS0])
              have HOBX := Lib.hid (HOB11.out.upd HUX.out (by simp; exact hobk))
              have HUY : Hid (Upd [] w wr) := Lib.hid (HU11.out.then HUX.out (fun k hk => .inr (by have := HSBW.out; simp at hk; omega)))
              clear hS0 hn hlt hj
              go_upto_region 16 with fail
              have hobx := HOBX.out
              have HS8 := Lib.hid hS8
              clear hS8
              obtain ⟨wq, hwq⟩ : ∃ x, x = wr := ⟨_, rfl⟩
              subst hwq
              go_loopw [48] (fun i wx => ∃ (m : Nat), m ≤ 32 ∧ i = .int .i64 m ∧ Blk wx ob (U8 (firstO S0 m)) 38 ∧ Upd [ob] wq wx) (fun i _ => 32 - (intOf i).toNat)
              case atStart => exact ⟨0, Nat.zero_le _, rfl, hobx, Upd.refl _ _⟩
              case round =>
                clear hobx
                obtain ⟨m, hm, rfl, ho, hu⟩ := hrel
                have HO2 := Lib.hid ho
                have HUO := Lib.hid hu
                have hfl := firstO_len S0 m
                by_cases hlt : m < 32
                · obtain ⟨q, hq⟩ : ∃ q : Nat, q = m / 4 := ⟨_, rfl⟩
                  obtain ⟨r, hr⟩ : ∃ q : Nat, q = m % 4 := ⟨_, rfl⟩
                  obtain ⟨r8, hr8⟩ : ∃ q : Nat, q = 8 * r := ⟨_, rfl⟩
                  obtain ⟨sf, hsf⟩ : ∃ q : Nat, q = 24 - 8 * r := ⟨_, rfl⟩
                  have d0 : (m : Int) / 4 = (q : Int) := by omega
                  have d1 : (m : Int) % 4 = (r : Int) := by omega
                  have d2 : IntKind.i64.wrap (8 * (r : Int)) = (r8 : Int) := by rw [IntWalk.i64_in _ (by omega)]; omega
                  have d3 : IntKind.i64.wrap (24 - (r8 : Int)) = (sf : Int) := by rw [IntWalk.i64_in _ (by omega)]; omega
                  have p0 : (0 : Int) ≤ (q : Int) := by omega
                  have p1 : (q : Int) < 8 := by omega
                  have p2 : (0 : Int) ≤ (sf : Int) := by omega
                  have p3 : sf ≤ 24 := by omega
                  have p4 : (0 : Int) ≤ (m : Int) := by omega
                  have p5 : (m : Int) < 32 := by omega
                  obtain ⟨x, hx⟩ : ∃ x, x = S0.getD q 0 := ⟨_, rfl⟩
                  have hsx : Blk wr sb (U32 S0) 73 := HS.out.upd hu (by simp; exact fun e => hobk e.symm)
                  have cs : wr.cell? ⟨sb, q, none⟩ = some (.int .u32 x) := by rw [hx]; exact hsx.cell (o := q) (U32_get _ _ (by rw [HS8.out]; omega))
                  have co : wr.cell? ⟨ob, m, none⟩ = some (.int .u8 ((firstO S0 m).getD m 0)) := ho.cell (o := m) (U8_get _ _ (by rw [hfl]; omega))
                  have fo := ho.free m
                  have HOI : Hid (outB S0 m = x / 2 ^ sf % 256) := Lib.hid (by unfold outB; rw [← hq, ← hr, ← hx, ← hsf])
                  clear hsx hq hr hr8 hsf hx ho hu hfl
                  go_wp2_with fail
                  go_roundw
                  case rel =>
                    have hn := HO2.out.set m (.int .u8 (outB S0 m))
                    have e1 : (U8 (firstO S0 m)).setIfInBounds m (.int .u8 (outB S0 m)) = U8 (firstO S0 (m + 1)) := by
                      unfold U8; rw [List.setIfInBounds_toArray, ← List.map_set]; rfl
                    rw [e1, HOI.out] at hn
                    exact ⟨m + 1, by omega, by go_num, hn, HUO.out.setCell (.inl (by simp)) _⟩
                  case measure => simp [intOf]; omega
                · obtain rfl : m = 32 := by omega
                  have HUE : Hid (Upd [] w wr) := Lib.hid (HUY.out.then hu (fun k hk => .inr (by have := HOBE.out; simp at hk; omega)))
                  have HFIN : Hid (Blk wr ob (U8 (sumF b)) 38) := Lib.hid (by rw [HSUM.out, ← firstO_all]; exact ho)
                  have hobe := HOBE.out
                  clear ho hu hfl hlt hm
                  have HSL := Lib.hid (sumF_len b)
                  go_wp2_with (first
                    | ((with_reducible show wpList _ _ _ (⟨some 64, _, _, _, _, _⟩ :: _) _ _); refine wpList_run rfl (arr_load32 (.tmp 2) rfl rfl HFIN.out HSL.out) ?_)
                    | (refine wpList_storeA rfl 38 (.tmp 2) (.tmp 64) rfl rfl rfl HFIN.out info_32 (by rw [U8_size, HSL.out]) (by rw [U8_size, HSL.out]) (U8_one _) fun w20 hb20 hu20 hs20 => ?_))
                  exact bodyPost_ret (results_32 rfl rfl hb20 HSL.out) rfl ⟨rfl, HUE.out.then hu20 (fun k hk => .inr (by simp at hk; omega))⟩

end Go.Proofs.Ytpeboaoephkfhaa
