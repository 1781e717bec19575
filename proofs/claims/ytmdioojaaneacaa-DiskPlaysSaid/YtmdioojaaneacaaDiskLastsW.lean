/- The walk of DiskLasts. -/
import Derived.Test.YtmdioojaaneacaaCalls
import Derived.Deep.DeepCutAuto
import Derived.Deep.CutBlock
import Derived.Deep.RegionHeld3
namespace Go.Proofs.Ytmdioojaaneacaa
open Go.ChangeShapes Go.WideShapes Go.ChangeAt Go.RowKit

theorem code_of {d : DK} (hd : d.down = false) (hl : d.last.length = 20) (n : Int) : d.code n = if 0 ≤ n ∧ n < 20 then 0 else 61 := by
  unfold DK.code
  rw [hd, hl]
  simp
  split <;> split <;> omega

theorem lay_same (K : Nat) (x : Blok) : DK.lay K x x = x := List.take_append_drop K x

theorem mget_cons {α : Type} (p : Int × α) (t : List (Int × α)) (n : Int) : mget (p :: t) n = if p.1 = n then some p.2 else mget t n := by
  unfold mget
  rw [List.find?_cons]
  by_cases h : p.1 = n
  · have e : (p.1 == n) = true := by simp [h]
    rw [if_pos h, e]; rfl
  · have e : (p.1 == n) = false := by simp [h]
    rw [if_neg h, e]

theorem mget_none {α : Type} {L : List (Int × α)} {n : Int} (h : n ∉ L.map (·.1)) : mget L n = none := by
  cases hm : mget L n with
  | none => rfl
  | some x => exact absurd (mget_isSome.1 (by rw [hm]; rfl)) h

/-- A block behind a crash: so many of the new bytes, then the ones that lasted. -/
theorem settleL_get (many : Nat → Int) : ∀ (f : List (Int × Blok)) (i : Nat) (l : List Blok), (f.map (·.1)).Nodup → (∀ p ∈ f, 0 ≤ p.1 ∧ p.1 < l.length) → ∀ n : Nat, n < l.length →
    ∃ K, K ≤ 64 ∧ (DK.settleL many i f l).getD n [] = DK.lay K ((mget f (n : Int)).getD (l.getD n [])) (l.getD n []) := by
  intro f
  induction f with
  | nil => intro i l _ _ n _; exact ⟨0, by omega, (lay_same 0 _).symm⟩
  | cons p t ih =>
    intro i l hn hr n hl
    simp only [List.map_cons, List.nodup_cons] at hn
    have hp := hr p List.mem_cons_self
    obtain ⟨K, hK, e⟩ := ih (i + 1) (l.set p.1.toNat (DK.lay (DK.kOf (many i)) p.2 (l.getD p.1.toNat []))) hn.2 (fun q hq => by rw [List.length_set]; exact hr q (List.mem_cons_of_mem _ hq)) n (by rw [List.length_set]; exact hl)
    simp only [DK.settleL]
    rw [e, mget_cons]
    by_cases h : p.1 = (n : Int)
    · rw [if_pos h]
      have hpn : p.1.toNat = n := by omega
      rw [mget_none (n := (n : Int)) (by rw [← h]; exact hn.1), hpn]
      refine ⟨DK.kOf (many i), DK.kOf_le _, ?_⟩
      simp only [Option.getD_none, Option.getD_some]
      rw [lay_same, List.getD_eq_getElem?_getD, List.getElem?_set_self hl]; rfl
    · rw [if_neg h]
      have hpn : p.1.toNat ≠ n := by omega
      refine ⟨K, hK, ?_⟩
      have e2 : (l.set p.1.toNat (DK.lay (DK.kOf (many i)) p.2 (l.getD p.1.toNat []))).getD n [] = l.getD n [] := by
        rw [List.getD_eq_getElem?_getD, List.getElem?_set_ne hpn, List.getD_eq_getElem?_getD]
      rw [e2]

theorem lay_lo {K : Nat} {x y : Blok} (hK : K ≤ 64) (hx : x.length = 64) (j : Nat) (hj : j < K) : (DK.lay K x y).getD j 0 = x.getD j 0 := by
  unfold DK.lay
  rw [List.getD_eq_getElem?_getD, List.getElem?_append_left (by simp; omega), List.getElem?_take, if_pos hj, List.getD_eq_getElem?_getD]

theorem lay_hi {K : Nat} {x y : Blok} (hK : K ≤ 64) (hx : x.length = 64) (j : Nat) (hj : K ≤ j) : (DK.lay K x y).getD j 0 = y.getD j 0 := by
  unfold DK.lay
  rw [List.getD_eq_getElem?_getD, List.getElem?_append_right (by simp; omega), List.getElem?_drop, List.getD_eq_getElem?_getD, List.length_take]
  congr 2; omega

theorem flatten_get {l : List Blok} (h : ∀ b ∈ l, b.length = 64) {n : Nat} (hn : n < l.length) (k : Nat) (hk : k < 64) : l.flatten.getD (n * 64 + k) 0 = (l.getD n []).getD k 0 := by
  have e := flatten_cut h hn
  rw [← e]
  rw [List.getD_eq_getElem?_getD, List.getD_eq_getElem?_getD, List.getElem?_take, if_pos hk, List.getElem?_drop, Nat.mul_comm]

theorem rd_fresh {d : DK} (hd : d.down = false) (hl : d.last.length = 20) (hf : d.fresh = []) (n : Nat) (hn : n < 20) : d.rd n = d.last.getD n [] := by
  unfold DK.rd DK.get
  rw [code_of hd hl, if_pos (by omega), hf]; rfl

theorem rd_any20 {d : DK} (hd : d.down = false) (hl : d.last.length = 20) (n : Nat) (hn : n < 20) : d.rd n = (mget d.fresh n).getD (d.last.getD n []) := by
  unfold DK.rd DK.get
  rw [code_of hd hl, if_pos (by omega)]; rfl

/-- Twenty blocks that are the same are the same. -/
theorem twenty {L M : List Blok} (h1 : L.length = 20) (h2 : M.length = 20) (h : ∀ j, j < 20 → L.getD j [] = M.getD j []) : L = M := by
  apply List.ext_getElem?
  intro j
  by_cases hj : j < 20
  · have := h j hj
    rw [List.getD_eq_getElem?_getD, List.getD_eq_getElem?_getD, List.getElem?_eq_getElem (by omega), List.getElem?_eq_getElem (by omega)] at this
    rw [List.getElem?_eq_getElem (by omega), List.getElem?_eq_getElem (by omega)]
    simpa using this
  · rw [List.getElem?_eq_none (by omega), List.getElem?_eq_none (by omega)]

theorem crash_rd {d : DK} (hw : d.WF) (hd : d.down = false) (hl : d.last.length = 20) (f : List Int) (n : Nat) (hn : n < 20) :
    ((d.crash f).start).code n = 0 ∧ ∃ K, K ≤ 64 ∧ ((d.crash f).start).rd n = DK.lay K (d.rd n) (d.last.getD n []) := by
  have e1 : ((d.crash f).start).last = DK.settleL (DK.fate f) 0 d.fresh d.last := by unfold DK.crash; rw [hd]; rfl
  have e2 : ((d.crash f).start).fresh = [] := by unfold DK.crash; rw [hd]; rfl
  have e3 : ((d.crash f).start).down = false := rfl
  have e4 : ((d.crash f).start).last.length = 20 := by rw [e1, DK.settleL_len, hl]
  refine ⟨by rw [code_of e3 e4, if_pos (by omega)], ?_⟩
  rw [rd_fresh e3 e4 e2 n hn, rd_any20 hd hl n hn, e1]
  exact settleL_get _ d.fresh 0 d.last hw.keys (fun p hp => ⟨hw.lo p hp, hw.hi p hp⟩) n (by omega)

theorem write_last (d : DK) (n : Int) (x : Blok) : (d.write n x).last = d.last := by unfold DK.write; split <;> rfl
theorem write_dn (d : DK) (n : Int) (x : Blok) : (d.write n x).down = d.down := by unfold DK.write; split <;> rfl
theorem flush_len (d : DK) : d.flush.last.length = d.last.length := by
  unfold DK.flush; split
  · rfl
  · exact DK.settleL_len _ _ _ _
theorem flush_dn (d : DK) : d.flush.down = d.down := by unfold DK.flush; split <;> rfl
theorem flush_fr (d : DK) (h : d.down = false) : d.flush.fresh = [] := by unfold DK.flush; rw [h]; rfl

/-- A block of bytes, read, wherever it lies. -/
theorem arr_loadC {a : Act} {o : Oper} {w : World} {g off : Nat} {b : Blok} (x : Operand) (ho : o.op = .load 23 x) (hx : a.eval x = .pointer (some ⟨g, off, none⟩)) (hc : CellsAt w g off (b.map (Value.int .u8))) (hb : b.length = 64) :
    (execOp a.eval o).run Try.prog w = .ok (.value (.agg (U8 b))) w :=
  exec_loadC (P := Try.prog) 23 x ho hx hc (.inl ⟨_, _, Try.underlying23⟩) info_arr (by simp [hb])

/-- The list of twenty blocks that last, beside the disk. -/
structure LastAt (w0 w : World) (p ab : Nat) (S : List Nat) (d : DK) (L : List Blok) : Prop where
  disk : DInv w0 w p S d
  var : Var w S ab (U8 L.flatten) 34
  len : d.last.length = 20
  up : d.down = false

theorem set_len64 {L : List Blok} {x : Blok} (h : ∀ b ∈ L, b.length = 64) (hx : x.length = 64) (m : Nat) : ∀ b ∈ L.set m x, b.length = 64 := fun b hb => by
  rcases List.mem_or_eq_of_mem_set hb with h1 | h1
  · exact h b h1
  · rw [h1]; exact hx

theorem set_upto {L : List Blok} {F : Int → Blok} {m : Nat} (h1 : L.length = 20) (hm : m < 20) (h : ∀ j : Nat, j < m → L.getD j [] = F j) : ∀ j : Nat, j < m + 1 → (L.set m (F m)).getD j [] = F j := fun j hj => by
  by_cases e : j = m
  · subst e; rw [List.getD_eq_getElem?_getD, List.getElem?_set]; simp [h1, hm]
  · have := h j (by omega)
    rw [List.getD_eq_getElem?_getD] at this ⊢
    rw [List.getElem?_set_ne (by omega)]; exact this

set_option maxRecDepth 100000 in
set_option maxHeartbeats 20000000 in
theorem DiskLasts.walk (v0 : Value) (l : List CallK) (v1 : Value) (fs : List Int) (w : World) (hl : CallsAt w v0 l) (hf : IntsAt w v1 fs) :
    Calls Try.prog 5 #[v0, v1] w fun e w' => e = .returned (.bool true) ∧ Below w.heap.size w w' := by
  have HF := Lib.hid hf
  obtain ⟨la, lc, rfl, hlm, hlb⟩ := hl
  obtain ⟨fa, fc, rfl, -, -⟩ := hf
  have HLB := Lib.hid hlb
  clear hlb
  go_enter Try.func5, Try.ntmps5
  go_wp2_with fail
  refine (awake_any _).mono ?_
  rintro e w1 ⟨rfl, hu1⟩
  go_wp2_with fail
  refine (new_law 20 w (by omega) (by omega) hu1).mono ?_
  rintro e w2 ⟨p, S, rfl, hd, hu2, hS⟩
  have HD := Lib.hid hd
  clear hd hu1 hu2 hS
  go_upto_block 0 with (first
    | ((with_reducible show wpList _ _ _ (⟨_, .build 34 #[], _, _, _, _⟩ :: _) _ _); refine wpList_build0 rfl 34 rfl Try.underlying34 info_arr zero_a20 ?_)
    | ((with_reducible show wpList _ _ _ (⟨_, .alloc 34, _, _, _, _⟩ :: _) _ _); refine wpList_alloc rfl 34 rfl zero_a20 fun w3 hb3 hu3 hs3 => ?_)
    | ((with_reducible show wpList _ _ _ (⟨_, .store 34 (.tmp 8) (.tmp 30), _, _, _, _⟩ :: _) _ _); refine wpList_storeAll rfl 34 (.tmp 8) (.tmp 30) rfl rfl rfl hb3 info_a20 (by rw [U8_size, flatten_len zero20_len]; rfl) (by rw [show (Value.agg (U8 zero20.flatten)).cells = U8 zero20.flatten from rfl, U8_size, flatten_len zero20_len]; rfl) (U8_one _) fun w4 hb4 hu4 hs4 => ?_))
  have hu := hu3.then hu4 (by simp)
  have hsb : w.heap.size ≤ w2.heap.size := HD.out.upd.size
  have hla : LastAt w w4 p w2.heap.size S (DK.new (20 : Int).toNat) (DK.new (20 : Int).toNat).last := ⟨HD.out.quiet hu, HD.out.var hb4, rfl, rfl⟩
  obtain ⟨ab, hab⟩ : ∃ ab, ab = w2.heap.size := ⟨_, rfl⟩
  rw [← hab] at hsb hla ⊢
  have HA4 := Lib.hid hla
  clear hla hb3 hu3 hs3 hb4 hu4 hs4 hu HD hab
  go_cut [] (fun wx => ∃ (D : DK) (S : List Nat), LastAt w wx p ab S D D.last)
  case first =>
    go_wp2_with fail
    go_loopw [9] (fun i wx => ∃ (k : Nat) (D : DK) (S : List Nat), k ≤ 40 ∧ k ≤ l.length ∧ i = .int .i64 k ∧ LastAt w wx p ab S D D.last) (fun i _ => 40 - (intOf i).toNat)
    case atStart => exact ⟨0, _, S, by omega, Nat.zero_le _, rfl, HA4.out⟩
    case round =>
      obtain ⟨k, D, S5, hk40, hkl, rfl, hd5⟩ := hrel
      have HA5 := Lib.hid hd5
      clear hd5 HA4
      by_cases hend : k < 40 ∧ k < l.length
      · obtain ⟨h40, hlt⟩ := hend
        obtain ⟨g, off, rfl, hgl, hcl⟩ := HLB.out (by intro e; rw [e] at hlt; simp at hlt)
        obtain ⟨c, hc⟩ : ∃ c, l[k]? = some c := ⟨_, List.getElem?_eq_getElem hlt⟩
        obtain ⟨hcc, hcb, -⟩ := hcl k c hc
        have hcc5 := hcc.upd HA5.out.disk.upd hgl (by simp)
        have ck := hcc5 0 _ rfl
        have cn := hcc5 1 _ rfl
        have cb : CellsAt wr g (off + k * 67 + 2) (c.b.map (Value.int .u8)) := fun j v hj => by
          have h1 := hcc5 (j + 2) v (by
            show (c.b.map (Value.int .u8) ++ [c.v])[j]? = some v
            have := (List.getElem?_eq_some_iff.1 hj).1
            rw [List.getElem?_append_left (by simpa using this)]; exact hj)
          rw [show off + k * 67 + (j + 2) = off + k * 67 + 2 + j by omega] at h1
          exact h1
        rw [Nat.add_zero] at ck
        have h40' : (k : Int) < 40 := by omega
        have hlt' : (k : Int) < (l.length : Int) := by omega
        obtain ⟨kd, hkd⟩ : ∃ kd, kd = c.kind := ⟨_, rfl⟩
        obtain ⟨cN, hcN⟩ : ∃ cN, cN = c.n := ⟨_, rfl⟩
        rw [← hkd] at ck
        rw [← hcN] at cn
        have CB := Lib.hid cb
        have HCB := Lib.hid hcb
        clear hcl hc hcc hcb hcc5 cb hkd hcN
        have key : ((kd == 1) = true ∧ (kd == 3) = false) ∨ ((kd == 1) = false ∧ (kd == 3) = true) ∨ ((kd == 1) = false ∧ (kd == 3) = false) := by
          simp only [beq_iff_eq, beq_eq_false_iff_ne, ne_eq]; omega
        rcases key with ⟨q1, q2⟩ | ⟨q1, q2⟩ | ⟨q1, q2⟩
        · go_upto_region 12 with fail
          refine wp_region_still_tail 11 mixed (by kernel_rfl) ?_
          simp only [List.take_succ_cons, List.take_zero, List.drop_succ_cons, List.drop_zero]
          iterate 10 still_step
          refine still_run rfl (arr_loadC (.tmp 56) rfl rfl CB.out HCB.out) ?_
          refine wpStill_nil ?_
          change wpList _ _ _ _ _ wr.drew
          go_wp2_with fail
          refine (write_law (HA5.out.disk.quiet ((Upd.refl _ _).drew)) cN c.b HCB.out).mono ?_
          rintro e w6 ⟨rfl, S6, hd6, hk6⟩
          have hA6 : LastAt w w6 p ab S6 (D.write cN c.b) (D.write cN c.b).last := ⟨hd6, by rw [write_last]; exact HA5.out.var.keep ((Keep.quiet ((Upd.refl _ _).drew)).trans hk6), by rw [write_last]; exact HA5.out.len, by rw [write_dn]; exact HA5.out.up⟩
          have ck6 := (World.cell?_of_block (a := ⟨g, off + k * 67, none⟩) (hd6.upd.block g hgl (by simp))).trans ((World.cell?_of_block (a := ⟨g, off + k * 67, none⟩) (HA5.out.disk.upd.block g hgl (by simp))).symm.trans ck)
          have HA6 := Lib.hid hA6
          clear hA6 hd6 hk6 ck cn CB HCB HA5
          go_wp2_with fail
          go_roundw
          case rel => exact ⟨k + 1, _, S6, by omega, by omega, by go_num, HA6.out⟩
          case measure => simp [intOf]; omega
        · go_wp2_with fail
          refine (flush_law HA5.out.disk).mono ?_
          rw [show D.fcode = 0 from by unfold DK.fcode; rw [HA5.out.up]; rfl]
          rintro e w6 ⟨rfl, S6, hd6, hk6⟩
          obtain ⟨F, hF⟩ : ∃ F, F = D.flush := ⟨_, rfl⟩
          have hf0 := flush_fr D HA5.out.up
          have hf1 : D.flush.down = false := by rw [flush_dn]; exact HA5.out.up
          have hf2 : D.flush.last.length = 20 := by rw [flush_len]; exact HA5.out.len
          have hv6 := HA5.out.var.keep hk6
          have hwf := HA5.out.disk.disk.wf.last
          have hD20 := HA5.out.len
          rw [← hF] at hf0 hf1 hf2 hd6
          have HD6 := Lib.hid hd6
          have HV6 := Lib.hid hv6
          have HF0 := Lib.hid hf0
          have HF1 := Lib.hid hf1
          have HF2 := Lib.hid hf2
          have HWF := Lib.hid hwf
          clear hd6 hk6 hv6 hF hf0 hf1 hf2 HA5 CB HCB ck cn hwf
          go_wp2_with fail
          go_loopw [10] (fun i wx => ∃ (m : Nat) (L : List Blok), m ≤ 20 ∧ i = .int .i64 m ∧ DInv w wx p S6 F ∧ Var wx S6 ab (U8 L.flatten) 34 ∧ L.length = 20 ∧ (∀ b ∈ L, b.length = 64) ∧ ∀ j : Nat, j < m → L.getD j [] = F.rd j) (fun i _ => 20 - (intOf i).toNat)
          case atStart => exact ⟨0, D.last, by omega, rfl, HD6.out, HV6.out, hD20, HWF.out, fun j hj => by omega⟩
          case round =>
            obtain ⟨m, L, hm20, rfl, hd11, hv11, hL1, hL2, hL3⟩ := hrel
            have HD11 := Lib.hid hd11
            have HV11 := Lib.hid hv11
            have HL2 := Lib.hid hL2
            have HL3 := Lib.hid hL3
            clear hd11 hv11 hL2 hL3 HD6 HV6 HWF
            by_cases hm : m < 20
            · have hm' : (m : Int) < 20 := by omega
              have hc : F.code (m : Int) = 0 := by rw [code_of HF1.out HF2.out, if_pos (by omega)]
              have hr := DK.rd_len HD11.out.disk.wf (m : Int)
              go_wp2_with fail
              refine (read_law HD11.out (m : Int)).mono ?_
              rw [hc]
              rintro e w12 ⟨rfl, hd12, hk12⟩
              have HD12 := Lib.hid hd12
              have HV12 := Lib.hid (HV11.out.keep hk12)
              clear hd12 hk12 HD11 HV11 hc
              go_wp2_with (first
                | ((with_reducible show wpList _ _ _ (⟨_, .alloc 23, _, _, _, _⟩ :: _) _ _); refine wpList_alloc rfl 23 rfl zero_arr fun w13 hb13 hu13 hs13 => ?_)
                | ((with_reducible show wpList _ _ _ (⟨_, .store 23 (.tmp 11) (.tmp 75), _, _, _, _⟩ :: _) _ _); refine wpList_store rfl (.tmp 11) (.tmp 75) rfl rfl rfl hb13 DK.zeros_len hr fun w14 hb14 hu14 hs14 => ?_)
                | ((with_reducible show wpList _ _ _ (⟨_, .load 23 (.tmp 11), _, _, _, _⟩ :: _) _ _); refine wpList_loadW (.tmp 11) rfl rfl rfl hb14 hr ?_)
                | ((with_reducible show wpList _ _ _ (⟨_, .store 23 (.tmp 79) (.tmp 78), _, _, _, _⟩ :: _) _ _); refine wpList_storeAt (n := m) (.tmp 79) (.tmp 78) rfl rfl rfl rfl (HV12.out.keep (Keep.quiet (hu13.then hu14 (by simp)))).1 HL2.out (by omega) hr fun w15 hb15 hu15 hs15 => ?_))
              have hq := hu13.then hu14 (by simp)
              have habS : ab ∉ S6 := HV12.out.2
              have hd15 := (HD12.out.quiet hq).beside hu15 (fun k hk hm => habS ((by simpa using hm : k = ab) ▸ hk)) (fun k hk => (by simpa using hk : k = ab) ▸ hsb)
              have hv15 : Var w15 S6 ab (U8 (L.set m (F.rd m)).flatten) 34 := ⟨hb15, habS⟩
              have HD15 := Lib.hid hd15
              have HV15 := Lib.hid hv15
              have HL4 := Lib.hid (set_len64 HL2.out hr m)
              have HL5 := Lib.hid (set_upto hL1 hm HL3.out)
              clear hq habS hd15 hv15 hb13 hb14 hb15 hu13 hu14 hu15 hs13 hs14 hs15 HD12 HV12
              go_wp2_with fail
              go_roundw
              case rel => exact ⟨m + 1, _, by omega, by go_num, HD15.out, HV15.out, by simp [hL1], HL4.out, HL5.out⟩
              case measure => simp [intOf]; omega
            · obtain rfl : m = 20 := by omega
              rw [show (((20 : Nat)) : Int) = 20 from rfl]
              have hLF : L = F.last := twenty hL1 HF2.out (fun j hj => by rw [HL3.out j hj, rd_fresh HF1.out HF2.out HF0.out j hj])
              have hA20 : LastAt w wr p ab S6 F F.last := ⟨HD11.out, hLF ▸ HV11.out, HF2.out, HF1.out⟩
              have HA20 := Lib.hid hA20
              clear hLF hA20 HD11 HV11
              go_wp2_with fail
              go_roundw
              case rel => exact ⟨k + 1, F, S6, by omega, by omega, by go_num, HA20.out⟩
              case measure => simp [intOf]; omega
        · go_wp2_with fail
          go_roundw
          case rel => exact ⟨k + 1, D, S5, by omega, by omega, by go_num, HA5.out⟩
          case measure => simp [intOf]; omega
      · have key : decide (k < l.length) = false ∨ (decide (k < l.length) = true ∧ k = 40) := by
          simp only [decide_eq_true_eq, decide_eq_false_iff_not]; omega
        clear hend hk40 hkl
        rcases key with q1 | ⟨q1, rfl⟩
        · go_wp2_with fail
          go_meet
          exact ⟨D, S5, HA5.out⟩
        · rw [show (((40 : Nat)) : Int) = 40 from rfl]
          have q1' : decide ((40 : Int) < (l.length : Int)) = true := by simp only [decide_eq_true_eq] at q1 ⊢; omega
          go_wp2_with fail
          go_meet
          exact ⟨D, S5, HA5.out⟩
  case rest =>
    obtain ⟨D, S5, hd5⟩ := hcut
    have HA5 := Lib.hid hd5
    clear hd5 HA4
    go_wp2_with (first
      | ((with_reducible show wpList _ _ _ (⟨_, .build 34 #[], _, _, _, _⟩ :: _) _ _); refine wpList_build0 rfl 34 rfl Try.underlying34 info_arr zero_a20 ?_)
      | ((with_reducible show wpList _ _ _ (⟨_, .alloc 34, _, _, _, _⟩ :: _) _ _); refine wpList_alloc rfl 34 rfl zero_a20 fun w9 hb9 hu9 hs9 => ?_)
      | ((with_reducible show wpList _ _ _ (⟨_, .store 34 (.tmp 13) (.tmp 80), _, _, _, _⟩ :: _) _ _); refine wpList_storeAll rfl 34 (.tmp 13) (.tmp 80) rfl rfl rfl hb9 info_a20 (by rw [U8_size, flatten_len zero20_len]; rfl) (by rw [show (Value.agg (U8 zero20.flatten)).cells = U8 zero20.flatten from rfl, U8_size, flatten_len zero20_len]; rfl) (U8_one _) fun w10 hb10 hu10 hs10 => ?_))
    have hu10' := hu9.then hu10 (by simp)
    have hv10 := HA5.out.disk.var hb10
    have hsn : w.heap.size ≤ wc.heap.size := HA5.out.disk.upd.size
    have hne : ab ≠ wc.heap.size := fun e => by have := HA5.out.var.1.lt; omega
    obtain ⟨nb, hnb⟩ : ∃ nb, nb = wc.heap.size := ⟨_, rfl⟩
    rw [← hnb] at hv10 hsn hne ⊢
    have HD10 := Lib.hid (HA5.out.disk.quiet hu10')
    have HL10 := Lib.hid (HA5.out.var.keep (Keep.quiet hu10'))
    have HN10 := Lib.hid hv10
    have HDL := Lib.hid HA5.out.len
    have HDU := Lib.hid HA5.out.up
    have HWF := Lib.hid HA5.out.disk.disk.wf
    have HNE := Lib.hid hne
    clear hb9 hu9 hs9 hb10 hu10 hs10 hu10' hv10 hnb HA5 hne
    go_loopw [14] (fun i wx => ∃ (m : Nat) (L : List Blok), m ≤ 20 ∧ i = .int .i64 m ∧ DInv w wx p S5 D ∧ Var wx S5 ab (U8 D.last.flatten) 34 ∧ Var wx S5 nb (U8 L.flatten) 34 ∧ L.length = 20 ∧ (∀ b ∈ L, b.length = 64) ∧ ∀ j : Nat, j < m → L.getD j [] = D.rd j) (fun i _ => 20 - (intOf i).toNat)
    case atStart => exact ⟨0, zero20, by omega, rfl, HD10.out, HL10.out, HN10.out, by simp [zero20], zero20_len, fun j hj => by omega⟩
    case round =>
      obtain ⟨m, L, hm20, rfl, hd11, hl11, hv11, hL1, hL2, hL3⟩ := hrel
      have HD11 := Lib.hid hd11
      have HL11 := Lib.hid hl11
      have HV11 := Lib.hid hv11
      have HL2 := Lib.hid hL2
      have HL3 := Lib.hid hL3
      clear hd11 hl11 hv11 hL2 hL3 HD10 HL10 HN10
      by_cases hm : m < 20
      · have hm' : (m : Int) < 20 := by omega
        have hc : D.code (m : Int) = 0 := by rw [code_of HDU.out HDL.out, if_pos (by omega)]
        have hr := DK.rd_len HWF.out (m : Int)
        go_wp2_with fail
        refine (read_law HD11.out (m : Int)).mono ?_
        rw [hc]
        rintro e w12 ⟨rfl, hd12, hk12⟩
        have HD12 := Lib.hid hd12
        have HL12 := Lib.hid (HL11.out.keep hk12)
        have HV12 := Lib.hid (HV11.out.keep hk12)
        clear hd12 hk12 HD11 HL11 HV11 hc
        go_wp2_with (first
          | ((with_reducible show wpList _ _ _ (⟨_, .alloc 23, _, _, _, _⟩ :: _) _ _); refine wpList_alloc rfl 23 rfl zero_arr fun w13 hb13 hu13 hs13 => ?_)
          | ((with_reducible show wpList _ _ _ (⟨_, .store 23 (.tmp 15) (.tmp 89), _, _, _, _⟩ :: _) _ _); refine wpList_store rfl (.tmp 15) (.tmp 89) rfl rfl rfl hb13 DK.zeros_len hr fun w14 hb14 hu14 hs14 => ?_)
          | ((with_reducible show wpList _ _ _ (⟨_, .load 23 (.tmp 15), _, _, _, _⟩ :: _) _ _); refine wpList_loadW (.tmp 15) rfl rfl rfl hb14 hr ?_)
          | ((with_reducible show wpList _ _ _ (⟨_, .store 23 (.tmp 93) (.tmp 92), _, _, _, _⟩ :: _) _ _); refine wpList_storeAt (n := m) (.tmp 93) (.tmp 92) rfl rfl rfl rfl (HV12.out.keep (Keep.quiet (hu13.then hu14 (by simp)))).1 HL2.out (by omega) hr fun w15 hb15 hu15 hs15 => ?_))
        have hq := hu13.then hu14 (by simp)
        have hnS : nb ∉ S5 := HV12.out.2
        have hd15 := (HD12.out.quiet hq).beside hu15 (fun k hk hm => hnS ((by simpa using hm : k = nb) ▸ hk)) (fun k hk => (by simpa using hk : k = nb) ▸ hsn)
        have hl15 : Var w15 S5 ab (U8 D.last.flatten) 34 := ⟨(HL12.out.keep (Keep.quiet hq)).1.upd hu15 (by simp; exact HNE.out), HL12.out.2⟩
        have hv15 : Var w15 S5 nb (U8 (L.set m (D.rd m)).flatten) 34 := ⟨hb15, hnS⟩
        have HD15 := Lib.hid hd15
        have HL15 := Lib.hid hl15
        have HV15 := Lib.hid hv15
        have HL4 := Lib.hid (set_len64 HL2.out hr m)
        have HL5 := Lib.hid (set_upto hL1 hm HL3.out)
        clear hq hnS hd15 hl15 hv15 hb13 hb14 hb15 hu13 hu14 hu15 hs13 hs14 hs15 HD12 HL12 HV12
        go_wp2_with fail
        go_roundw
        case rel => exact ⟨m + 1, _, by omega, by go_num, HD15.out, HL15.out, HV15.out, by simp [hL1], HL4.out, HL5.out⟩
        case measure => simp [intOf]; omega
      · obtain rfl : m = 20 := by omega
        rw [show (((20 : Nat)) : Int) = 20 from rfl]
        go_wp2_with fail
        refine (crash_law HD11.out _ fs (HF.out.upd0 HD11.out.upd) (HF.out.out HD11.out.base)).mono ?_
        rintro e w13 ⟨rfl, S13, hd13, hk13⟩
        have HD13 := Lib.hid hd13
        have HL13 := Lib.hid (HL11.out.keep hk13)
        have HV13 := Lib.hid (HV11.out.keep hk13)
        clear hd13 hk13 HD11 HL11 HV11
        go_wp2_with fail
        refine (start_law HD13.out).mono ?_
        rintro e w14 ⟨rfl, hd14, hk14⟩
        have hfr : ((D.crash fs).start).fresh = [] := by unfold DK.crash; rw [HDU.out]; rfl
        have hrd := crash_rd HWF.out HDU.out HDL.out fs
        obtain ⟨E, hE⟩ : ∃ E, E = (D.crash fs).start := ⟨_, rfl⟩
        rw [← hE] at hd14 hfr hrd
        have HD14 := Lib.hid hd14
        have HL14 := Lib.hid (HL13.out.keep hk14)
        have HV14 := Lib.hid (HV13.out.keep hk14)
        have HFR := Lib.hid hfr
        have HRD := Lib.hid hrd
        clear hd14 hk14 HD13 HL13 HV13 hE hfr hrd
        go_wp2_with fail
        go_loopw [17] (fun i wx => ∃ (n : Nat), n ≤ 20 ∧ i = .int .i64 n ∧ DInv w wx p S13 E ∧ Var wx S13 ab (U8 D.last.flatten) 34 ∧ Var wx S13 nb (U8 L.flatten) 34) (fun i _ => 20 - (intOf i).toNat)
        case atStart => exact ⟨0, by omega, rfl, HD14.out, HL14.out, HV14.out⟩
        case round =>
          obtain ⟨n, hn20, rfl, hd15, hl15, hv15⟩ := hrel
          have HD15 := Lib.hid hd15
          have HL15 := Lib.hid hl15
          have HV15 := Lib.hid hv15
          clear hd15 hl15 hv15 HD14 HL14 HV14
          by_cases hn : n < 20
          · have hn' : (n : Int) < 20 := by omega
            obtain ⟨hc, K, hK, hrd⟩ := HRD.out n hn
            have hr := DK.rd_len HD15.out.disk.wf (n : Int)
            have HRB := Lib.hid hrd
            have hDr : (D.rd (n : Int)).length = 64 := DK.rd_len HWF.out _
            clear hrd
            go_wp2_with fail
            refine (read_law HD15.out (n : Int)).mono ?_
            rw [hc]
            rintro e w16 ⟨rfl, hd16, hk16⟩
            have HD16 := Lib.hid hd16
            have HL16 := Lib.hid (HL15.out.keep hk16)
            have HV16 := Lib.hid (HV15.out.keep hk16)
            clear hd16 hk16 HD15 HL15 HV15 hc
            go_upto_block 8 with (first
              | ((with_reducible show wpList _ _ _ (⟨_, .alloc 23, _, _, _, _⟩ :: _) _ _); refine wpList_alloc rfl 23 rfl zero_arr fun w17 hb17 hu17 hs17 => ?_)
              | ((with_reducible show wpList _ _ _ (⟨_, .store 23 (.tmp 18) (.tmp 107), _, _, _, _⟩ :: _) _ _); refine wpList_store rfl (.tmp 18) (.tmp 107) rfl rfl rfl hb17 DK.zeros_len hr fun w18 hb18 hu18 hs18 => ?_))
            have hq := hu17.then hu18 (by simp)
            have HD18 := Lib.hid (HD16.out.quiet hq)
            have HL18 := Lib.hid (HL16.out.keep (Keep.quiet hq))
            have HV18 := Lib.hid (HV16.out.keep (Keep.quiet hq))
            have HB18 := Lib.hid (HD16.out.var hb18)
            clear hq hb17 hu17 hs17 hb18 hu18 hs18
            obtain ⟨bb, hbb⟩ : ∃ bb, bb = w16.heap.size := ⟨_, rfl⟩
            rw [← hbb] at HB18 ⊢
            clear hbb HD16 HL16 HV16
            go_cut [20] (fun s wx => ∃ k : Nat, s = .int .i64 k ∧ K ≤ k ∧ k ≤ 64 ∧ Upd [] w18 wx)
            case first =>
              go_wp2_with fail
              go_loopw [20] (fun i wx => ∃ k : Nat, k ≤ 64 ∧ i = .int .i64 k ∧ Upd [] w18 wx) (fun i _ => 64 - (intOf i).toNat)
              case atStart => exact ⟨0, by omega, rfl, Upd.refl _ _⟩
              case round =>
                obtain ⟨k, hk64, rfl, hu19⟩ := hrel
                by_cases hk : k < 64
                · have hk' : (k : Int) < 64 := by omega
                  have cb := (HB18.out.1.upd hu19 (by simp)).cell (U8_get _ k (by omega))
                  have cn := (HV18.out.1.upd hu19 (by simp)).cell (U8_get _ (n * 64 + k) (by rw [flatten_len HL2.out]; omega))
                  rw [flatten_get HL2.out (by omega) k hk, HL3.out n hn] at cn
                  have HU19 := Lib.hid hu19
                  obtain ⟨x, hx⟩ : ∃ x, x = (E.rd (n : Int)).getD k 0 := ⟨_, rfl⟩
                  obtain ⟨y, hy⟩ : ∃ y, y = (D.rd (n : Int)).getD k 0 := ⟨_, rfl⟩
                  rw [← hx] at cb
                  rw [← hy] at cn
                  have HX := Lib.hid hx
                  have HY := Lib.hid hy
                  clear hu19 hx hy
                  by_cases hxy : x = y
                  · subst hxy
                    have q : (x == x) = true := by simp
                    go_wp2_with fail
                    go_quiet (fail)
                    go_wp2_with fail
                    go_roundw
                    case rel => exact ⟨k + 1, by omega, by go_num, HU19.out.drewN _⟩
                    case measure => simp [intOf]; omega
                  · have q : (x == y) = false := by simp [hxy]
                    have hKk : K ≤ k := by
                      rcases Nat.lt_or_ge k K with h | h
                      · exfalso; apply hxy; rw [HX.out, HY.out, HRB.out, lay_lo hK hDr k h]
                      · exact h
                    clear hxy
                    go_wp2_with fail
                    go_quiet (fail)
                    go_wp2_with fail
                    go_meet
                    exact ⟨k, rfl, hKk, by omega, HU19.out.drewN _⟩
                · obtain rfl : k = 64 := by omega
                  have HU19 := Lib.hid hu19
                  rw [show (((64 : Nat)) : Int) = 64 from rfl]
                  clear hu19
                  go_wp2_with fail
                  go_quiet (fail)
                  go_wp2_with fail
                  go_meet
                  exact ⟨64, rfl, hK, by omega, HU19.out.drewN _⟩
            case rest =>
              obtain ⟨k0, rfl, hk0, hk1, hu19⟩ := hcut
              have HU20 := Lib.hid hu19
              clear hu19
              go_wp2_with fail
              go_loopw [20] (fun i wx => ∃ k : Nat, K ≤ k ∧ k ≤ 64 ∧ i = .int .i64 k ∧ Upd [] w18 wx) (fun i _ => 64 - (intOf i).toNat)
              case atStart => exact ⟨k0, hk0, hk1, rfl, HU20.out⟩
              case round =>
                obtain ⟨k, hKk, hk64, rfl, hu21⟩ := hrel
                have HU21 := Lib.hid hu21
                by_cases hk : k < 64
                · have hk' : (k : Int) < 64 := by omega
                  have cb := (HB18.out.1.upd hu21 (by simp)).cell (U8_get _ k (by omega))
                  have cl := (HL18.out.1.upd hu21 (by simp)).cell (U8_get _ (n * 64 + k) (by rw [flatten_len HWF.out.last, HDL.out]; omega))
                  rw [flatten_get HWF.out.last (by rw [HDL.out]; exact hn) k hk] at cl
                  rw [HRB.out, lay_hi hK hDr k hKk] at cb
                  obtain ⟨x, hx⟩ : ∃ x, x = (D.last.getD n []).getD k 0 := ⟨_, rfl⟩
                  rw [← hx] at cb cl
                  have q : (x == x) = true := by simp
                  clear hu21 hx
                  go_wp2_with fail
                  go_quiet (fail)
                  go_wp2_with fail
                  go_roundw
                  case rel => exact ⟨k + 1, by omega, by omega, by go_num, HU21.out.drewN _⟩
                  case measure => simp [intOf]; omega
                · obtain rfl : k = 64 := by omega
                  rw [show (((64 : Nat)) : Int) = 64 from rfl]
                  clear hu21
                  go_wp2_with fail
                  go_quiet (fail)
                  go_wp2_with fail
                  go_roundw
                  case rel => exact ⟨n + 1, by omega, by go_num, HD18.out.quiet (HU21.out.drewN _), HL18.out.keep (Keep.quiet (HU21.out.drewN _)), HV18.out.keep (Keep.quiet (HU21.out.drewN _))⟩
                  case measure => simp [intOf]; omega
          · obtain rfl : n = 20 := by omega
            rw [show (((20 : Nat)) : Int) = 20 from rfl]
            go_wp2_with fail
            refine (dirty_law HD15.out).mono ?_
            rw [HFR.out]
            rintro e w16 ⟨da, dc, rfl, -, hd16, -⟩
            go_wp2_with fail
            go_ret
            exact ⟨rfl, hd16.upd.toBelow⟩

end Go.Proofs.Ytmdioojaaneacaa
