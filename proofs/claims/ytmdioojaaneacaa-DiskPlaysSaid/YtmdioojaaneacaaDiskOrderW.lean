/- The walk of DiskOrder. -/
import Derived.Test.YtmdioojaaneacaaArr
import Derived.Deep.DeepCutAuto
import Derived.Deep.CutBlock
import Derived.Deep.RegionHeld3
import Derived.Deep.AppendLies
namespace Go.Proofs.Ytmdioojaaneacaa
open Go.ChangeShapes Go.WideShapes Go.ChangeAt Go.RowKit

/-- The disk behind so many writes. -/
def ordD (l : List Int) : Nat → DK
  | 0 => DK.new (20 : Int).toNat
  | i + 1 => (ordD l i).write (l.getD i 0) (allB i)

theorem ordD_code (l : List Int) (i : Nat) (n : Int) : (ordD l i).code n = if 0 ≤ n ∧ n < 20 then 0 else 61 := by
  induction i with
  | zero => exact code_new20 n
  | succ i ih => unfold ordD; rw [put_code, ih]

theorem ordD_down (l : List Int) (i : Nat) : (ordD l i).down = false := by
  induction i with
  | zero => rfl
  | succ i ih => unfold ordD DK.write; split <;> exact ih

theorem ordD_no (l : List Int) (i : Nat) (h : ¬ (0 ≤ l.getD i 0 ∧ l.getD i 0 < 20)) : ordD l (i + 1) = ordD l i := by
  show (ordD l i).write _ _ = _
  unfold DK.write; rw [ordD_code, if_neg h]; rfl

theorem ordD_yes (l : List Int) (i : Nat) (h : 0 ≤ l.getD i 0 ∧ l.getD i 0 < 20) : ordD l (i + 1) = (ordD l i).put (l.getD i 0) (allB i) := by
  show (ordD l i).write _ _ = _
  unfold DK.write; rw [ordD_code, if_pos h, if_pos rfl]

/-- Which blocks are among those that were written. -/
def seenL (d : DK) : List Bool := (List.range 20).map fun j => (mget d.fresh (j : Nat)).isSome

theorem seenL_len (d : DK) : (seenL d).length = 20 := by simp [seenL]
theorem seenL_get (d : DK) (m : Nat) (h : m < 20) : (seenL d).getD m false = (mget d.fresh (m : Int)).isSome := by
  unfold seenL
  rw [List.getD_eq_getElem?_getD, List.getElem?_map, List.getElem?_range h]; rfl

theorem seenL_old (d : DK) (m : Nat) (x : Blok) (h : (mget d.fresh (m : Int)).isSome = true) : seenL (d.put m x) = seenL d := by
  unfold seenL DK.put
  refine List.map_congr_left fun j _ => ?_
  simp only [mget_mset]
  split
  · rename_i e; have : j = m := by omega
    subst this; rw [h]; rfl
  · rfl

theorem seenL_new (d : DK) (m : Nat) (x : Blok) : (seenL d).set m true = seenL (d.put m x) := by
  apply List.ext_getElem?
  intro j
  unfold seenL DK.put
  rw [List.getElem?_set]
  by_cases hj : j < 20
  · simp only [mget_mset, List.length_map, List.length_range, List.getElem?_map, List.getElem?_range hj]
    by_cases e : m = j
    · subst e; simp [hj]
    · have e2 : ¬ ((j : Int) = (m : Int)) := by omega
      simp [e, e2]
  · have hj' : ¬ m = j ∨ 20 ≤ m := by omega
    simp [hj]; omega

theorem dirty_old (d : DK) (n : Int) (x : Blok) (h : (mget d.fresh n).isSome = true) : (d.put n x).dirty = d.dirty := by
  unfold DK.put DK.dirty; rw [mset_keys, if_pos (mget_isSome.1 h)]
theorem dirty_new (d : DK) (n : Int) (x : Blok) (h : (mget d.fresh n).isSome = false) : (d.put n x).dirty = d.dirty ++ [n] := by
  unfold DK.put DK.dirty; rw [mset_keys, if_neg (fun hm => by rw [mget_isSome.2 hm] at h; cases h)]

theorem dirty_len (d : DK) : d.dirty.length = d.fresh.length := by simp [DK.dirty]

theorem clean_again (d : DK) (f : List Int) (h1 : d.fresh = []) (h2 : d.down = false) : (d.crash f).start = d := by
  obtain ⟨a, b, c⟩ := d
  simp only at h1 h2
  subst h1 h2
  rfl

theorem flush_fresh (d : DK) (h : d.down = false) : d.flush.fresh = [] := by unfold DK.flush; rw [h]; rfl
theorem flush_down (d : DK) (h : d.down = false) : d.flush.down = false := by unfold DK.flush; rw [h]; exact h
theorem flush_code (d : DK) (h : d.down = false) (n : Int) : d.flush.code n = d.code n := by
  have e : d.flush.last.length = d.last.length := by unfold DK.flush; rw [h]; exact DK.settleL_len _ _ _ _
  unfold DK.code; rw [flush_down d h, e, h]

theorem info_b20 : (Try.prog.info? 41).map (·.size) = some 20 := by kernel_rfl
theorem info_bool : (Try.prog.info? 4).map (·.size) = some 1 := by kernel_rfl
theorem zero_b20 : (Try.prog.info? 41).map (·.zero) = some (some (.agg (BO (List.replicate 20 false)))) := by kernel_rfl

theorem seenL_start (l : List Int) : seenL (ordD l 0) = List.replicate 20 false := by
  show seenL (DK.new (20 : Int).toNat) = _
  decide

/-- The list of the call's own, of those that were written. -/
structure WantAt (w0 w : World) (S : List Nat) (sb : Nat) (v : Value) (d : DK) : Prop where
  own : w.ownsRow w0.heap.size 3 1 v d.fresh.length (d.dirty.map (Value.int .i64))
  far : ∀ g, v.ownBlock = some g → g ∉ S ∧ g ≠ sb

theorem WantAt.keep {w0 w w' : World} {S S' : List Nat} {sb : Nat} {v : Value} {d : DK} (h : WantAt w0 w S sb v d) (hk : Keep w S w' S') : WantAt w0 w' S' sb v d :=
  ⟨(own_keep h.own hk fun g hg => (h.far g hg).1).1, fun g hg => ⟨(own_keep h.own hk fun g hg => (h.far g hg).1).2 g hg, (h.far g hg).2⟩⟩

theorem WantAt.same {w0 w : World} {S : List Nat} {sb : Nat} {v : Value} {d d' : DK} (h : WantAt w0 w S sb v d) (e : d'.dirty = d.dirty) : WantAt w0 w S sb v d' := by
  have el : d'.fresh.length = d.fresh.length := by rw [← dirty_len, ← dirty_len, e]
  exact ⟨by rw [el, e]; exact h.own, h.far⟩

set_option maxRecDepth 100000 in
set_option maxHeartbeats 20000000 in
theorem DiskOrder.walk (v0 : Value) (l : List Int) (v1 : Value) (fs : List Int) (w : World) (hl : IntsAt w v0 l) (hf : IntsAt w v1 fs) :
    Calls Try.prog 6 #[v0, v1] w fun e w' => e = .returned (.bool true) ∧ Below w.heap.size w w' := by
  have HL := Lib.hid hl
  have HF := Lib.hid hf
  obtain ⟨la, lc, rfl, hlm, hlb⟩ := hl
  obtain ⟨fa, fc, rfl, -, -⟩ := hf
  have HLB := Lib.hid hlb
  clear hlb
  obtain ⟨i0, hi0, hz0, hz1, hz2⟩ := info_parts info_int
  go_enter Try.func6, Try.ntmps6
  go_wp2_with fail
  refine (awake_any _).mono ?_
  rintro e w1 ⟨rfl, hu1⟩
  go_wp2_with fail
  refine (new_law 20 w (by omega) (by omega) hu1).mono ?_
  rintro e w2 ⟨p, S, rfl, hd, hu2, hS⟩
  have HD := Lib.hid hd
  clear hd hu1 hu2 hS
  go_upto_block 0 with (first
    | ((with_reducible show wpList _ _ _ (⟨_, .build 41 #[], _, _, _, _⟩ :: _) _ _); refine wpList_build0 rfl 41 rfl Try.underlying41 info_bool zero_b20 ?_)
    | ((with_reducible show wpList _ _ _ (⟨_, .alloc 41, _, _, _, _⟩ :: _) _ _); refine wpList_alloc rfl 41 rfl zero_b20 fun w3 hb3 hu3 hs3 => ?_)
    | ((with_reducible show wpList _ _ _ (⟨_, .store 41 (.tmp 9) (.tmp 31), _, _, _, _⟩ :: _) _ _); refine wpList_storeAll rfl 41 (.tmp 9) (.tmp 31) rfl rfl rfl hb3 info_b20 (by simp [BO]) (by simp [BO, Value.cells]) (BO_one _) fun w4 hb4 hu4 hs4 => ?_))
  have hu := hu3.then hu4 (by simp)
  have HD4 := Lib.hid (HD.out.quiet hu)
  have VS4 : Hid (Var w4 S w2.heap.size (BO (seenL (ordD l 0))) 41) := by rw [seenL_start]; exact Lib.hid (HD.out.var hb4)
  have hsb : w.heap.size ≤ w2.heap.size := HD.out.upd.size
  obtain ⟨sb, hsbe⟩ : ∃ sb, sb = w2.heap.size := ⟨_, rfl⟩
  rw [← hsbe] at hsb VS4 ⊢
  clear hb3 hu3 hs3 hb4 hu4 hs4 hu HD hsbe
  go_cut [8] (fun v wx => ∃ (k : Nat) (S : List Nat), DInv w wx p S (ordD l k) ∧ WantAt w wx S sb v (ordD l k))
  case first =>
    go_wp2_with fail
    go_loopw [8, 10] (fun v i wx => ∃ (k : Nat) (S : List Nat), k ≤ 40 ∧ k ≤ l.length ∧ i = .int .i64 k ∧ DInv w wx p S (ordD l k) ∧ Var wx S sb (BO (seenL (ordD l k))) 41 ∧ WantAt w wx S sb v (ordD l k)) (fun _ i _ => 40 - (intOf i).toNat)
    case atStart => exact ⟨0, S, by omega, Nat.zero_le _, rfl, HD4.out, VS4.out, World.ownsRow_nil _ _ _ _, fun g hg => by cases hg⟩
    case round =>
      obtain ⟨k, S5, hk40, hkl, rfl, hd5, hv5, hw5⟩ := hrel
      have HD5 := Lib.hid hd5
      have VS5 := Lib.hid hv5
      have HW5 := Lib.hid hw5
      clear hd5 hv5 hw5 HD4 VS4
      by_cases hend : k < 40 ∧ k < l.length
      · obtain ⟨h40, hlt⟩ := hend
        obtain ⟨g, off, rfl, hgl, hcl⟩ := HLB.out (by intro e; rw [e] at hlt; simp at hlt)
        obtain ⟨x, hx⟩ : ∃ x, x = l.getD k 0 := ⟨_, rfl⟩
        have hc0 := hcl k hlt
        rw [← hx] at hc0
        have cw : ∀ {w' : World}, Upd [] w w' → w'.cell? ⟨g, off + k, none⟩ = some (.int .i64 x) := fun hu => (World.cell?_of_block (a := ⟨g, off + k, none⟩) (hu.block g hgl (by simp))).trans hc0
        have CW : Hid (∀ {w' : World}, Upd [] w w' → w'.cell? ⟨g, off + k, none⟩ = some (.int .i64 x)) := cw
        have c1 := CW.out HD5.out.upd
        have h40' : (k : Int) < 40 := by omega
        have hlt' : (k : Int) < (l.length : Int) := by omega
        have hwr : IntKind.u8.wrap (k : Int) = k := wraps_u8 _ (by omega) (by omega)
        have HX := Lib.hid hx
        have HG := Lib.hid hgl
        have hlr : wr.heap[g]? = w.heap[g]? := HD5.out.upd.block g hgl (by simp)
        have hgr : g < wr.heap.size := Nat.lt_of_lt_of_le hgl HD5.out.upd.size
        have HGR := Lib.hid hgr
        clear cw hcl hc0 hlr hgr
        by_cases hr : 0 ≤ x ∧ x < 20
        · obtain ⟨m, rfl⟩ := Int.eq_ofNat_of_zero_le hr.1
          have hm20 : m < 20 := by omega
          have hm20' : (m : Int) < 20 := by omega
          have hyes := ordD_yes l k (by rw [← hx]; exact hr)
          have hyc : (ordD l k).code (m : Int) = 0 := by rw [ordD_code, if_pos hr]
          rw [← hx] at hyes
          have HY := Lib.hid hyes
          clear hx hgl hr hyes
          go_wp2_with fail
          go_region_held3 (fun w' => w'.cell? ⟨g, off + k, none⟩ = some (.int .i64 (m : Int)))
            (first
              | go_keep
              | (rw [World.cell?_of_block (a := ⟨g, off + k, none⟩) (huA.block g (by simpa using HGR.out) (by simp))]; assumption)
              | exact CW.out hd6.upd)
            (first
              | (go_at_call 18; refine (all_any (k : Int) _).mono ?_; rintro e wA ⟨rfl, huA⟩)
              | (go_at_call 12; refine (write_law (HD5.out.quiet (((Upd.refl _ _).drew).trans huA)) (m : Int) (allB k) (allB_len _)).mono ?_; rw [hyc]; rintro e wB ⟨rfl, S6, hd6, hk6⟩))
          have hk := (Keep.quiet (S := S5) (((Upd.refl _ _).drew).trans huA)).trans hk6
          have hd7 : DInv w wB p S6 (ordD l (k + 1)) := by show DInv w wB p S6 ((ordD l k).write (l.getD k 0) (allB k)); rw [← HX.out]; exact hd6
          have c2 := CW.out hd6.upd
          have hv7 := VS5.out.keep hk
          have hw7 := HW5.out.keep hk
          have cs := hv7.1.cell (BO_get _ m (by rw [seenL_len]; exact hm20))
          rw [seenL_get _ m hm20] at cs
          have fs7 := hv7.1.free m
          have HD7 := Lib.hid hd7
          have VS7 := Lib.hid hv7
          have HW7 := Lib.hid hw7
          clear hd6 hk6 hk hd7 huA HD5 VS5 HW5 c1 hv7 hw7
          cases hs : (mget (ordD l k).fresh (m : Int)).isSome with
          | true =>
            rw [hs] at cs
            have e1 := seenL_old (ordD l k) m (allB k) hs
            have e2 := dirty_old (ordD l k) m (allB k) hs
            rw [← HY.out] at e1 e2
            have E1 := Lib.hid e1
            have E2 := Lib.hid e2
            clear hs e1 e2
            go_wp2_with fail
            go_roundw
            case rel => exact ⟨k + 1, S6, by omega, by omega, by go_num, HD7.out, by rw [E1.out]; exact VS7.out, HW7.out.same E2.out⟩
            case measure => simp [intOf]; omega
          | false =>
            rw [hs] at cs
            have e1 := seenL_new (ordD l k) m (allB k)
            have e2 := dirty_new (ordD l k) m (allB k) hs
            rw [← HY.out] at e1 e2
            have E1 := Lib.hid e1
            have E2 := Lib.hid e2
            clear hs e1 e2
            go_upto_region 17 with fail
            obtain ⟨w6, hw6⟩ : ∃ w6, w6 = wB.setCell ⟨sb, m, none⟩ (.bool true) := ⟨_, rfl⟩
            rw [← hw6]
            have hu6 : Upd [sb] wB w6 := by rw [hw6]; exact (Upd.refl _ _).setCell (.inl (by simp)) _
            have hz6 : w6.heap.size = wB.heap.size := by rw [hw6]; simp
            have hb6 := VS7.out.1.set m (.bool true)
            rw [← hw6, BO_set, E1.out] at hb6
            have hsS := VS7.out.2
            have ho6 := own_upd HW7.out.own hu6 (fun g hg => by simp; exact (HW7.out.far g hg).2)
            have hd6 := HD7.out.beside hu6 (fun k hk => by simp; intro e; exact hsS (e ▸ hk)) (fun k hk => by have : k = sb := (by simpa using hk); omega)
            have c3 := CW.out hd6.upd
            obtain ⟨va, vc, hve⟩ := own_slice ho6
            subst hve
            have hlen : (ordD l k).fresh.length ≤ 4096 := by
              have h1 := HD7.out.disk.wf.len
              have h2 := HD7.out.disk.wf.many
              have h3 := congrArg List.length E2.out
              rw [List.length_append, dirty_len, dirty_len] at h3
              omega
            have HU6 := Lib.hid hu6
            have HZ6 := Lib.hid hz6
            have HB6 := Lib.hid hb6
            have HS6 := Lib.hid hsS
            have HO6 := Lib.hid ho6
            have HD6 := Lib.hid hd6
            clear hw6 hu6 hz6 hb6 hsS ho6 hd6 cs fs7 c2
            go_wp2_with (refine wpList_append_lies _ rfl (.tmp 82) (.tmp 87) 33 rfl w.heap.size 3 i0 (.int .i64 0) 1 8 Try.underlying33 hi0 hz0 hz1 hz2 rfl (by decide) _ _ _ rfl (HO6.out.alloc _) ⟨w6.heap.size, 0, none⟩ 1 1 [.int .i64 (m : Int)] rfl rfl ?c1 ?c2 (by decide) ?c3 ?c4 ?c5 _ rfl ?_)
            case c1 =>
              intro j u hj
              match j, hj with
              | 0, hj => simp at hj; subst hj; simp [Addr.add]
            case c2 => intro u hu; simp at hu; subst hu; rfl
            case c3 => unfold maxLen; omega
            case c4 => omega
            case c5 => have := HD6.out.upd.size; simp; omega
            intro g7 cap7 w7 ho7 hg7 hl7 hs7
            have hua : Upd (Value.slice va (ordD l k).fresh.length vc).ownBlock.toList w6 w7 := (((Upd.refl _ w6).alloc _)).grown hg7 (fun k hk => .inl (by simp [hk]))
            have hfar := HW7.out.far
            have hd7 := HD6.out.beside hua (fun k hk hm => (hfar k (by simpa using hm)).1 hk) (fun k hk => (HO6.out.lt k (by simpa using hk)).1)
            have hv7 : Var w7 S6 sb (BO (seenL (ordD l (k + 1)))) 41 := ⟨HB6.out.upd hua (fun hm => (hfar sb (by simpa using hm)).2 rfl), HS6.out⟩
            have hw7 : WantAt w w7 S6 sb (.slice (some ⟨g7, 0, none⟩) ((ordD l k).fresh.length + 1) cap7) (ordD l (k + 1)) := by
              have el : (ordD l (k + 1)).fresh.length = (ordD l k).fresh.length + 1 := by
                rw [← dirty_len, ← dirty_len, E2.out, List.length_append]; rfl
              refine ⟨?_, fun g hg => ?_⟩
              · rw [el, E2.out, List.map_append]; exact ho7
              · have e : g7 = g := by simpa [Value.ownBlock] using hg
                subst e
                rcases hl7 with h1 | h1
                · exact hfar _ h1
                · have h2 : g7 = w6.heap.size + 1 := h1
                  exact ⟨fun hm => by have := HD6.out.disk.lt _ hm; omega, fun e => by have := HB6.out.lt; omega⟩
            have HD8 := Lib.hid hd7
            have HV8 := Lib.hid hv7
            have HW8 := Lib.hid hw7
            clear hua hfar hd7 hv7 hw7 ho7 hg7 hl7 hs7 c3
            go_wp2_with fail
            go_roundw
            case rel => exact ⟨k + 1, S6, by omega, by omega, by go_num, HD8.out, HV8.out, HW8.out⟩
            case measure => simp [intOf]; omega
        · have hno := ordD_no l k (by rw [← hx]; exact hr)
          have hno2 : (ordD l k).code x = 61 := by rw [ordD_code, if_neg hr]
          have key : decide (0 ≤ x) = false ∨ (decide (0 ≤ x) = true ∧ decide (x < 20) = false) := by
            simp only [decide_eq_true_eq, decide_eq_false_iff_not]; omega
          have HNO := Lib.hid hno
          clear hx hgl hr hno
          go_wp2_with fail
          go_region_held3 (fun w' => w'.cell? ⟨g, off + k, none⟩ = some (.int .i64 x))
            (first
              | go_keep
              | (rw [World.cell?_of_block (a := ⟨g, off + k, none⟩) (huA.block g (by simpa using HGR.out) (by simp))]; assumption)
              | exact CW.out hd6.upd)
            (first
              | (go_at_call 18; refine (all_any (k : Int) _).mono ?_; rintro e wA ⟨rfl, huA⟩)
              | (go_at_call 12; refine (write_law (HD5.out.quiet (((Upd.refl _ _).drew).trans huA)) x (allB k) (allB_len _)).mono ?_; rw [hno2]; rintro e wB ⟨rfl, S6, hd6, hk6⟩))
          have hk := (Keep.quiet (S := S5) (((Upd.refl _ _).drew).trans huA)).trans hk6
          have hd7 : DInv w wB p S6 (ordD l (k + 1)) := by show DInv w wB p S6 ((ordD l k).write (l.getD k 0) (allB k)); rw [← HX.out]; exact hd6
          have c2 := CW.out hd6.upd
          have HD7 := Lib.hid hd7
          have VS7 := Lib.hid (VS5.out.keep hk)
          have HW7 := Lib.hid (HW5.out.keep hk)
          clear hd6 hk6 hk hd7 huA HD5 VS5 HW5 c1
          rcases key with q1 | ⟨q1, q2⟩
          all_goals
            go_wp2_with fail
            go_roundw
            case rel => exact ⟨k + 1, S6, by omega, by omega, by go_num, HD7.out, by rw [HNO.out]; exact VS7.out, HW7.out.same (by rw [HNO.out])⟩
            case measure => simp [intOf]; omega
      · have key : decide (k < l.length) = false ∨ (decide (k < l.length) = true ∧ k = 40) := by
          simp only [decide_eq_true_eq, decide_eq_false_iff_not]; omega
        clear hend hk40 hkl
        rcases key with q1 | ⟨q1, rfl⟩
        · go_wp2_with fail
          go_meet
          exact ⟨k, S5, HD5.out, HW5.out⟩
        · rw [show (((40 : Nat)) : Int) = 40 from rfl]
          have q1' : decide ((40 : Int) < (l.length : Int)) = true := by simp only [decide_eq_true_eq] at q1 ⊢; omega
          go_wp2_with fail
          go_meet
          exact ⟨40, S5, HD5.out, HW5.out⟩
  case rest =>
    obtain ⟨k, S5, hd5, hw5⟩ := hcut
    have HD5 := Lib.hid hd5
    have HW5 := Lib.hid hw5
    clear hd5 hw5 HD4 VS4
    obtain ⟨D, hD⟩ : ∃ D, D = ordD l k := ⟨_, rfl⟩
    have hc0 := ordD_code l k
    have hdn := ordD_down l k
    rw [← hD] at hc0 hdn HD5 HW5
    obtain ⟨wa, wc, hwe⟩ := own_slice HW5.out.own
    have HC0 := Lib.hid hc0
    have HDN := Lib.hid hdn
    subst hwe
    clear hc0 hdn hD
    go_wp2_with fail
    refine (dirty_law HD5.out).mono ?_
    rintro e w6 ⟨da, dc, rfl, hdi, hd6, hk6⟩
    have hi6 := IntsAt.of_own (HW5.out.keep hk6).own (dirty_len D)
    have C := same_any _ _ D.dirty D.dirty w6 hdi hi6
    rw [show eqB D.dirty D.dirty = true from by simp [eqB]] at C
    have HC := Lib.hid C
    have HD6 := Lib.hid hd6
    clear hdi hd6 hi6 C hk6 HW5 HD5
    go_wp2_with fail
    refine HC.out.mono ?_
    rintro e w7 ⟨rfl, hu7⟩
    have HD7 := Lib.hid (HD6.out.quiet hu7)
    clear hu7 HD6 HC
    go_wp2_with fail
    refine (flush_law HD7.out).mono ?_
    rw [show D.fcode = 0 from by unfold DK.fcode; rw [HDN.out]; rfl]
    rintro e w8 ⟨rfl, S8, hd8, -⟩
    have HD8 := Lib.hid hd8
    clear hd8 HD7
    obtain ⟨F, hF⟩ : ∃ F, F = D.flush := ⟨_, rfl⟩
    have hf0 := flush_fresh D HDN.out
    have hf1 := flush_down D HDN.out
    have hf2 : ∀ k : Nat, k < 20 → F.code k = 0 := fun k hk => by rw [hF, flush_code D HDN.out, HC0.out, if_pos (by omega)]
    rw [← hF] at HD8 hf0 hf1
    have HF0 := Lib.hid hf0
    have HF1 := Lib.hid hf1
    have HF2 := Lib.hid hf2
    clear hF hf0 hf1 hf2 HC0 HDN
    go_wp2_with (first
      | ((with_reducible show wpList _ _ _ (⟨_, .build 34 #[], _, _, _, _⟩ :: _) _ _); refine wpList_build0 rfl 34 rfl Try.underlying34 info_arr zero_a20 ?_)
      | ((with_reducible show wpList _ _ _ (⟨_, .alloc 34, _, _, _, _⟩ :: _) _ _); refine wpList_alloc rfl 34 rfl zero_a20 fun w9 hb9 hu9 hs9 => ?_)
      | ((with_reducible show wpList _ _ _ (⟨_, .store 34 (.tmp 14) (.tmp 95), _, _, _, _⟩ :: _) _ _); refine wpList_storeAll rfl 34 (.tmp 14) (.tmp 95) rfl rfl rfl hb9 info_a20 (by rw [U8_size, flatten_len zero20_len]; rfl) (by rw [show (Value.agg (U8 zero20.flatten)).cells = U8 zero20.flatten from rfl, U8_size, flatten_len zero20_len]; rfl) (U8_one _) fun w10 hb10 hu10 hs10 => ?_))
    have hu10' := hu9.then hu10 (by simp)
    have HD10 := Lib.hid (HD8.out.quiet hu10')
    have va := HD8.out.var hb10
    have hba : w.heap.size ≤ w8.heap.size := HD8.out.upd.size
    obtain ⟨ab, hab⟩ : ∃ ab, ab = w8.heap.size := ⟨_, rfl⟩
    rw [← hab] at va hba ⊢
    have VA10 := Lib.hid va
    clear hb9 hu9 hs9 hb10 hu10 hs10 hu10' va hab HD8
    go_loopw [15] (fun i wx => ∃ (k : Nat) (L : List Blok), k ≤ 20 ∧ i = .int .i64 k ∧ DInv w wx p S8 F ∧ Var wx S8 ab (U8 L.flatten) 34 ∧ L.length = 20 ∧ (∀ b ∈ L, b.length = 64) ∧ ∀ j, j < k → L.getD j [] = F.rd j) (fun i _ => 20 - (intOf i).toNat)
    case atStart => exact ⟨0, zero20, by omega, rfl, HD10.out, VA10.out, by simp [zero20], zero20_len, fun j hj => by omega⟩
    case round =>
      obtain ⟨k, L, hk20, rfl, hd11, hv11, hL1, hL2, hL3⟩ := hrel
      have HD11 := Lib.hid hd11
      have HV11 := Lib.hid hv11
      have HL2 := Lib.hid hL2
      have HL3 := Lib.hid hL3
      clear hd11 hv11 hL2 hL3 HD10 VA10
      by_cases hk : k < 20
      · have hk' : (k : Int) < 20 := by omega
        have hc := HF2.out k hk
        have hr := DK.rd_len HD11.out.disk.wf (k : Int)
        go_wp2_with fail
        refine (read_law HD11.out (k : Int)).mono ?_
        rw [hc]
        rintro e w12 ⟨rfl, hd12, hk12⟩
        have HD12 := Lib.hid hd12
        have HV12 := Lib.hid (HV11.out.keep hk12)
        clear hd12 hk12 HD11 HV11 hc
        go_wp2_with (first
          | ((with_reducible show wpList _ _ _ (⟨_, .alloc 23, _, _, _, _⟩ :: _) _ _); refine wpList_alloc rfl 23 rfl zero_arr fun w13 hb13 hu13 hs13 => ?_)
          | ((with_reducible show wpList _ _ _ (⟨_, .store 23 (.tmp 16) (.tmp 104), _, _, _, _⟩ :: _) _ _); refine wpList_store rfl (.tmp 16) (.tmp 104) rfl rfl rfl hb13 DK.zeros_len hr fun w14 hb14 hu14 hs14 => ?_)
          | ((with_reducible show wpList _ _ _ (⟨_, .load 23 (.tmp 16), _, _, _, _⟩ :: _) _ _); refine wpList_loadW (.tmp 16) rfl rfl rfl hb14 hr ?_)
          | ((with_reducible show wpList _ _ _ (⟨_, .store 23 (.tmp 108) (.tmp 107), _, _, _, _⟩ :: _) _ _); refine wpList_storeAt (n := k) (.tmp 108) (.tmp 107) rfl rfl rfl rfl (HV12.out.keep (Keep.quiet (hu13.then hu14 (by simp)))).1 HL2.out (by omega) hr fun w15 hb15 hu15 hs15 => ?_))
        have hq := hu13.then hu14 (by simp)
        have hab : ab ∉ S8 := HV12.out.2
        have hd15 := (HD12.out.quiet hq).beside hu15 (fun k hk hm => hab ((by simpa using hm : k = ab) ▸ hk)) (fun k hk => (by simpa using hk : k = ab) ▸ hba)
        have hv15 : Var w15 S8 ab (U8 (L.set k (F.rd k)).flatten) 34 := ⟨hb15, hab⟩
        have hL4 : ∀ b ∈ L.set k (F.rd k), b.length = 64 := fun b hb => by
          rcases List.mem_or_eq_of_mem_set hb with h | h
          · exact HL2.out b h
          · rw [h]; exact hr
        have hL5 : ∀ j, j < k + 1 → (L.set k (F.rd k)).getD j [] = F.rd j := fun j hj => by
          by_cases e : j = k
          · subst e; rw [List.getD_eq_getElem?_getD, List.getElem?_set]; simp [hL1, hk]
          · have := HL3.out j (by omega)
            rw [List.getD_eq_getElem?_getD] at this ⊢
            rw [List.getElem?_set_ne (by omega)]; exact this
        have HD15 := Lib.hid hd15
        have HV15 := Lib.hid hv15
        have HL4 := Lib.hid hL4
        have HL5 := Lib.hid hL5
        clear hq hab hd15 hv15 hL4 hL5 hb13 hb14 hb15 hu13 hu14 hu15 hs13 hs14 hs15 HD12 HV12
        go_wp2_with fail
        go_roundw
        case rel => exact ⟨k + 1, _, by omega, by go_num, HD15.out, HV15.out, by simp [hL1], HL4.out, HL5.out⟩
        case measure => simp [intOf]; omega
      · obtain rfl : k = 20 := by omega
        rw [show (((20 : Nat)) : Int) = 20 from rfl]
        go_wp2_with fail
        refine (dirty_law HD11.out).mono ?_
        rw [HF0.out]
        rintro e w12 ⟨da, dc, rfl, -, hd12, hk12⟩
        have HD12 := Lib.hid hd12
        have HV12 := Lib.hid (HV11.out.keep hk12)
        clear hd12 hk12 HD11 HV11
        go_wp2_with fail
        refine (crash_law HD12.out _ fs (HF.out.upd0 HD12.out.upd) (HF.out.out HD12.out.base)).mono ?_
        rintro e w13 ⟨rfl, S13, hd13, hk13⟩
        have HD13 := Lib.hid hd13
        have HV13 := Lib.hid (HV12.out.keep hk13)
        clear hd13 hk13 HD12 HV12
        go_wp2_with fail
        refine (start_law HD13.out).mono ?_
        rw [clean_again F fs HF0.out HF1.out]
        rintro e w14 ⟨rfl, hd14, hk14⟩
        have HD14 := Lib.hid hd14
        have HV14 := Lib.hid (HV13.out.keep hk14)
        clear hd14 hk14 HD13 HV13
        go_wp2_with fail
        go_loopw [19] (fun i wx => ∃ (k : Nat), k ≤ 20 ∧ i = .int .i64 k ∧ DInv w wx p S13 F ∧ Var wx S13 ab (U8 L.flatten) 34) (fun i _ => 20 - (intOf i).toNat)
        case atStart => exact ⟨0, by omega, rfl, HD14.out, HV14.out⟩
        case round =>
          obtain ⟨k, hk20, rfl, hd15, hv15⟩ := hrel
          have HD15 := Lib.hid hd15
          have HV15 := Lib.hid hv15
          clear hd15 hv15 HD14 HV14
          by_cases hk : k < 20
          · have hk' : (k : Int) < 20 := by omega
            have hc := HF2.out k hk
            have hr := DK.rd_len HD15.out.disk.wf (k : Int)
            have hLk := HL3.out k hk
            go_wp2_with fail
            refine (read_law HD15.out (k : Int)).mono ?_
            rw [hc]
            rintro e w16 ⟨rfl, hd16, hk16⟩
            have HD16 := Lib.hid hd16
            have HV16 := Lib.hid (HV15.out.keep hk16)
            clear hd16 hk16 HD15 HV15 hc
            go_wp2_with (first
              | ((with_reducible show wpList _ _ _ (⟨_, .alloc 23, _, _, _, _⟩ :: _) _ _); refine wpList_alloc rfl 23 rfl zero_arr fun w17 hb17 hu17 hs17 => ?_)
              | ((with_reducible show wpList _ _ _ (⟨_, .store 23 (.tmp 20) (.tmp 126), _, _, _, _⟩ :: _) _ _); refine wpList_store rfl (.tmp 20) (.tmp 126) rfl rfl rfl hb17 DK.zeros_len hr fun w18 hb18 hu18 hs18 => ?_))
            have hq := hu17.then hu18 (by simp)
            have HD18 := Lib.hid (HD16.out.quiet hq)
            have HV18 := Lib.hid (HV16.out.keep (Keep.quiet hq))
            have HB18 := Lib.hid hb18
            clear hq hb17 hu17 hs17 hb18 hu18 hs18 HD16 HV16
            refine wp_region_still_lit mixed (by kernel_rfl) ?_
            refine still_run rfl (arr_load (.tmp 20) rfl rfl HB18.out.drew hr) ?_
            still_step
            still_step
            refine still_run rfl (arr_loadAt (n := k) (.tmp 130) rfl rfl HV18.out.1.drew HL2.out (by omega)) ?_
            rw [hLk]
            refine still_run rfl (arr_neq (.tmp 128) (.tmp 131) rfl rfl rfl hr hr) ?_
            rw [show (!(F.rd (k : Int) == F.rd (k : Int))) = false from by simp]
            still_step
            still_step
            still_step
            still_step
            refine wpStill_nil ?_
            change (Exit.then _ _ Exit.normal _ w18.drew)
            have HD19 := Lib.hid (HD18.out.quiet ((Upd.refl _ _).drew))
            have HV19 := Lib.hid (HV18.out.keep (Keep.quiet ((Upd.refl _ _).drew)))
            clear HD18 HV18 HB18 hLk
            go_wp2_with fail
            go_roundw
            case rel => exact ⟨k + 1, by omega, by go_num, HD19.out, HV19.out⟩
            case measure => simp [intOf]; omega
          · obtain rfl : k = 20 := by omega
            rw [show (((20 : Nat)) : Int) = 20 from rfl]
            go_wp2_with fail
            go_ret
            exact ⟨rfl, HD15.out.upd.toBelow⟩

end Go.Proofs.Ytmdioojaaneacaa
