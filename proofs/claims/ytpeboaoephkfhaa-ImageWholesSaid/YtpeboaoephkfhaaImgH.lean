/- The walk of Put. -/
import Derived.Test.YtpeboaoephkfhaaImgG
import Derived.Deep.QuietTactic
import Derived.BigQuiet
namespace Go.Proofs.Ytpeboaoephkfhaa
open Go.ChangeShapes Go.WideShapes Go.ChangeAt Go.RowKit

/-- 'copy' of one-cell elements, the source known by its cells. -/
theorem exec_copyC {P : Program} {a : Act} {w : World} {o : Oper} (x y : Operand) (t s : TypeId) (ho : o.op = .call { callee := .builtin .copy, args := #[x, y], argTypes := #[t, s] }) {e : TypeId} (hu : P.underlying t = some (.slice e)) (hi : (P.info? e).map (·.size) = some 1)
    {g off n cp m cph : Nat} {ad : Addr} {c : Array Value} {T : TypeId} (hx : a.eval x = .slice (some ⟨g, off, none⟩) n cp) (hy : a.eval y = .slice (some ad) m cph)
    (hb : Blk w g c T) (news : List Value) (hl : news.length = Nat.min m n) (hf : off + n ≤ c.size) (hnews : ∀ j v, news[j]? = some v → w.cell? (ad.add j) = some v) (h1 : ∀ v ∈ news, v.oneCell' = true) :
    (execOp a.eval o).run P w = .ok (.value (.int .i64 (Nat.min m n))) (w.setRow g (splice c.toList off news).toArray) := by
  have hmn : Nat.min m n ≤ m ∧ Nat.min m n ≤ n := ⟨Nat.min_le_left _ _, Nat.min_le_right _ _⟩
  have hr := run_copy_row (P := P) w t s o.type e g off n cp ad m cph c T news hu hi hb hl hnews (by omega) h1
  unfold execOp
  simp only [ho, resolve, invoke, builtin, Sem.run_bind, Sem.run_pure, Result.andThen_ok, List.map_toArray, List.map_cons, List.map_nil, hx, hy, hr]
  simp only [splice, hl]; rfl

theorem wpList_copyB {ops : Array Oper} {Q : Exit → Act → World → Prop} {rest : List Oper} {a : Act} {o : Oper} {w : World} (hgd : o.guard = none) (x y : Operand) (ho : o.op = .call { callee := .builtin .copy, args := #[x, y], argTypes := #[26, 26] })
    {g off n cp h offh m cph mn : Nat} {c l : List Int} {T : TypeId} (hx : a.eval x = .slice (some ⟨g, off, none⟩) n cp) (hy : a.eval y = .slice (some ⟨h, offh, none⟩) m cph)
    (hb : Blk w g (U8 c) T) (hf : off + n ≤ c.length) (hs : ∀ i, i < m → w.cell? ⟨h, offh + i, none⟩ = some (.int .u8 (l.getD i 0))) (hl : l.length = m) (hmn : Nat.min m n = mn)
    (hk : ∀ w', Blk w' g (U8 (splice c off (l.take mn))) T → Upd [g] w w' → w'.heap.size = w.heap.size → wpList Try.prog ops Q rest (a.put o.dst (.int .i64 mn)) w') : wpList Try.prog ops Q (o :: rest) a w := by
  have hi : (Try.prog.info? 5).map (·.size) = some 1 := by kernel_rfl
  have hm1 : mn ≤ m := by rw [← hmn]; exact Nat.min_le_left _ _
  have hr := exec_copyC (P := Try.prog) x y 26 26 ho Try.underlying26 hi hx hy hb ((l.take mn).map (Value.int .u8)) (by rw [List.length_map, List.length_take, hmn]; omega) (by rw [U8_size]; exact hf) (fun j v hv => by
    have hjl : j < mn := by have := (List.getElem?_eq_some_iff.1 hv).1; simp at this; omega
    have hadd : (⟨h, offh, none⟩ : Addr).add j = ⟨h, offh + j, none⟩ := by unfold Addr.add; split <;> simp_all
    rw [hadd, hs j (by omega), ← hv]
    simp [List.getD_eq_getElem?_getD, List.getElem?_take, hjl, List.getElem?_eq_getElem (show j < l.length by omega)]) (fun v hv => by obtain ⟨x, _, rfl⟩ := List.mem_map.1 hv; rfl)
  have e : (splice (U8 c).toList off ((l.take mn).map (Value.int .u8))).toArray = U8 (splice c off (l.take mn)) := by rw [U8_toList, ← splice_map]; rfl
  rw [e, hmn] at hr
  exact wpList_run hgd hr (hk _ (setRow_blk hb _) (setRow_upd (Upd.refl _ _) (.inl (by simp)) _) (by simp))


/-- 'x[l:]' of an array of 64 bytes. -/
theorem exec_arrL {a : Act} {w : World} {o : Oper} (x y : Operand) (ho : o.op = .slice 32 x (some y) none none) {g l : Nat} {kl : IntKind} (hx : a.eval x = .pointer (some ⟨g, 0, none⟩)) {l' : Int} (hy : a.eval y = .int kl l') (hl : l' = (l : Int)) (h1 : l < 64) :
    (execOp a.eval o).run Try.prog w = .ok (.value (.slice (some ⟨g, l, none⟩) (64 - l) (64 - l))) w := by
  subst hl
  have hal : Try.prog.arrayLen 32 = 64 := by kernel_rfl
  have hz := size_run (P := Try.prog) (e := Try.prog.elem 32) (k := 1) (by kernel_rfl)
  have hadd : (⟨g, 0, none⟩ : Addr).add l = ⟨g, l, none⟩ := by unfold Addr.add; split <;> simp_all
  have e1 := run_sliceAt_array_l (P := Try.prog) w 32 ⟨g, 0, none⟩ (by kernel_rfl) kl (l : Int) (by omega) (by rw [hal]; omega)
  rw [hz, Result.andThen_ok, hal] at e1
  have e2 : slicedAt ⟨g, 0, none⟩ (l : Int).toNat 64 64 1 = .slice (some ⟨g, l, none⟩) (64 - l) (64 - l) := by
    unfold slicedAt
    rw [if_neg (by simp; omega)]
    simp [hadd]
  rw [e2] at e1
  unfold execOp
  simp only [ho, hx, hy, Option.map_some, Option.map_none, Sem.run_bind, e1, Result.andThen_ok, Sem.run_pure]

/-- Bytes laid into an area, block by block. -/
def putL (f : Int) : Nat → DK → Nat → List Int → DK
  | 0, d, _, _ => d
  | k + 1, d, A, x => if x.length = 0 then d else
    putL f k (d.write (f + (A / 64 : Nat)) (splice (d.rd (f + (A / 64 : Nat))) (A % 64) (x.take (min x.length (64 - A % 64))))) (A + min x.length (64 - A % 64)) (x.drop (min x.length (64 - A % 64)))

/-- What Put does: the disk, the error's number. -/
def putF (d : DK) (f room at_ : Int) (x : List Int) : DK × Int :=
  if areaB d.last.length f room = false ∨ at_ < 0 ∨ room * 64 < at_ ∨ room * 64 - at_ < (x.length : Int) then (d, 1)
  else if x.length = 0 then (d, 0) else if d.down = true then (d, 60) else (putL f x.length d at_.toNat x, 0)

theorem splice_u8 {l m : List Int} (hl : U8L l) (hm : U8L m) (o : Nat) : U8L (splice l o m) := by
  unfold splice
  exact ((hl.take o).append hm).append (hl.drop _)

theorem write_down (d : DK) (n : Int) (x : Blok) : (d.write n x).down = d.down := by unfold DK.write; split <;> rfl
theorem write_last (d : DK) (n : Int) (x : Blok) : (d.write n x).last = d.last := by unfold DK.write; split <;> rfl

/-- Where bytes lie that a call was handed, beside a disk. -/
def Beside (n0 : Nat) (S : List Nat) (v : Value) (l : List Int) : Prop := ∀ g off len cap, l ≠ [] → v = .slice (some ⟨g, off, none⟩) len cap → g < n0 ∧ g ∉ S
theorem Beside.out {w : World} {S S' : List Nat} {v : Value} {l : List Int} (h : Beside w.heap.size S v l) (hs : Sub w S S') : BytesOut v l S' := fun g off len cap hne e hm => by
  obtain ⟨h1, h2⟩ := h g off len cap hne e
  rcases hs g hm with h3 | h3
  · exact h2 h3
  · omega
theorem Beside.of {w : World} {S : List Nat} {v : Value} {l : List Int} (h : BytesOut v l S) (hb : BytesAt w v l) : Beside w.heap.size S v l := fun g off len cap hne e => by
  obtain ⟨a, c, e2, -, -, h3⟩ := hb
  obtain ⟨g', o', rfl, hg, -⟩ := h3 hne
  rw [e2] at e
  cases e
  exact ⟨hg, h g off _ cap hne e2⟩
theorem Beside.slicedL {n0 : Nat} {w : World} {a : Option Addr} {n cap i : Nat} {l : List Int} {S : List Nat} (h : Beside n0 S (.slice a n cap) l) (hb : BytesAt w (.slice a n cap) l) : Beside n0 S (sliced a i n cap 1) (l.drop i) := fun g off len c hne e => by
  have hl : l ≠ [] := fun e => hne (by rw [e]; simp)
  obtain ⟨a', cap', e2, -, -, h3⟩ := hb
  cases e2
  obtain ⟨bl, o2, rfl, -⟩ := h3 hl
  unfold sliced at e
  have hbg : bl = g := by
    by_cases hci : cap = i
    · rw [if_pos hci] at e; cases e; rfl
    · rw [if_neg hci] at e
      simp only [Option.map_some, Value.slice.injEq, Option.some.injEq, Addr.add] at e
      have := congrArg Addr.block e.1
      split at this <;> exact this
  subst hbg
  exact h bl o2 _ cap hl rfl

set_option maxRecDepth 100000 in
set_option maxHeartbeats 4000000 in
theorem put_any {w : World} {b : Nat} {S : List Nat} {d : DK} (h : DiskAt w b S d) (hby : d.Byt) (f room at_ : Int) {v : Value} {x : List Int} (hv : BytesAt w v x) (hvu : U8L x) (hvo : BytesOut v x S) (hxl : x.length ≤ 1000000)
    (hf : -9223372036854775808 ≤ f ∧ f ≤ 9223372036854775807) (hat : -9223372036854775808 ≤ at_ ∧ at_ ≤ 9223372036854775807) :
    Calls Try.prog 15 #[.pointer (some ⟨b, 0, none⟩), .int .i64 f, .int .i64 room, .int .i64 at_, v] w fun e w' => e = .returned (.int .i64 (putF d f room at_ x).2) ∧ ∃ S', DiskAt w' b S' (putF d f room at_ x).1 ∧ (putF d f room at_ x).1.Byt ∧ Upd S w w' ∧ Sub w S S' := by
  have HWF := Lib.hid h.wf
  have HBY := Lib.hid hby
  have HD := Lib.hid h
  have HMANY := Lib.hid h.wf.many
  have HV := Lib.hid hv
  have HVU := Lib.hid hvu
  have HVO := Lib.hid (Beside.of hvo hv)
  obtain ⟨va, vc, rfl⟩ := hv.form
  obtain ⟨xl, hx⟩ : ∃ n, n = x.length := ⟨_, rfl⟩
  rw [← hx] at hxl ⊢
  have HX := Lib.hid hx
  obtain ⟨ar, har⟩ : ∃ x, x = areaB d.last.length f room := ⟨_, rfl⟩
  obtain ⟨R, hR⟩ : ∃ y, y = putF d f room at_ x := ⟨_, rfl⟩
  rw [← hR]
  unfold putF at hR
  rw [← har, ← hx] at hR
  have HR := Lib.hid hR
  have HAR := Lib.hid har
  clear hby h hR har hv hvu hvo hx
  cases ar with
  | false =>
    have HRE : Hid (R = (d, 1)) := Lib.hid (by rw [HR.out, if_pos (.inl rfl)])
    go_enter Try.func15, Try.ntmps15
    go_wp2_with (go_at_call 26; refine (areaD_any HD.out f room hf HMANY.out).mono ?_; rw [← HAR.out]; rintro e _ ⟨rfl, rfl⟩)
    go_ret
    exact ⟨by rw [HRE.out]; rfl, S, by rw [HRE.out]; exact HD.out, by rw [HRE.out]; exact HBY.out, Upd.refl _ _, Sub.refl _ _⟩
  | true =>
    have hr : 0 ≤ f ∧ f ≤ 4096 ∧ 0 ≤ room ∧ room ≤ 4096 ∧ f + room ≤ d.last.length := by
      have h1 := HAR.out
      have h2 := HMANY.out
      unfold areaB at h1
      simp at h1
      omega
    have m0 : IntKind.i64.wrap (room * 64) = room * 64 := IntWalk.i64_in _ (by omega)
    by_cases h1 : at_ < 0
    · have HRE : Hid (R = (d, 1)) := Lib.hid (by rw [HR.out, if_pos (.inr (.inl h1))])
      go_enter Try.func15, Try.ntmps15
      go_wp2_with (go_at_call 26; refine (areaD_any HD.out f room hf HMANY.out).mono ?_; rw [← HAR.out]; rintro e _ ⟨rfl, rfl⟩)
      go_ret
      exact ⟨by rw [HRE.out]; rfl, S, by rw [HRE.out]; exact HD.out, by rw [HRE.out]; exact HBY.out, Upd.refl _ _, Sub.refl _ _⟩
    · by_cases h2 : room * 64 < at_
      · have HRE : Hid (R = (d, 1)) := Lib.hid (by rw [HR.out, if_pos (.inr (.inr (.inl h2)))])
        go_enter Try.func15, Try.ntmps15
        go_wp2_with (go_at_call 26; refine (areaD_any HD.out f room hf HMANY.out).mono ?_; rw [← HAR.out]; rintro e _ ⟨rfl, rfl⟩)
        go_ret
        exact ⟨by rw [HRE.out]; rfl, S, by rw [HRE.out]; exact HD.out, by rw [HRE.out]; exact HBY.out, Upd.refl _ _, Sub.refl _ _⟩
      · obtain ⟨gap, hgap⟩ : ∃ g, g = room * 64 - at_ := ⟨_, rfl⟩
        have m1 : IntKind.i64.wrap (room * 64 - at_) = gap := by rw [IntWalk.i64_in _ (by omega), hgap]
        by_cases h3 : gap < (xl : Int)
        · have HRE : Hid (R = (d, 1)) := Lib.hid (by rw [HR.out, if_pos (.inr (.inr (.inr (by omega))))])
          go_enter Try.func15, Try.ntmps15
          go_wp2_with (go_at_call 26; refine (areaD_any HD.out f room hf HMANY.out).mono ?_; rw [← HAR.out]; rintro e _ ⟨rfl, rfl⟩)
          go_ret
          exact ⟨by rw [HRE.out]; rfl, S, by rw [HRE.out]; exact HD.out, by rw [HRE.out]; exact HBY.out, Upd.refl _ _, Sub.refl _ _⟩
        · obtain ⟨A0, hA0⟩ : ∃ n : Nat, at_ = (n : Int) := ⟨at_.toNat, by omega⟩
          subst hA0
          have hR := HR.out
          rw [if_neg (by simp; omega), show ((A0 : Int)).toNat = A0 from rfl] at hR
          have HR2 := Lib.hid hR
          have hgr : (A0 : Int) + xl ≤ room * 64 := by omega
          obtain ⟨rm, hrm⟩ : ∃ n : Nat, room = (n : Int) := ⟨room.toNat, by omega⟩
          subst hrm
          have hgr : A0 + xl ≤ rm * 64 := by omega
          clear hR HR
          go_enter Try.func15, Try.ntmps15
          go_upto_region 3 with (go_at_call 26; refine (areaD_any HD.out f rm hf HMANY.out).mono ?_; rw [← HAR.out]; rintro e _ ⟨rfl, rfl⟩)
          clear h1 h2 h3 m0 m1 hgap gap
          go_loopw [3, 4] (fun av bv wx => ∃ (k : Nat) (d' : DK) (S' : List Nat) (A : Nat) (y : List Int) (ya : Option Addr) (yc : Nat), av = .int .i64 A ∧ bv = .slice ya y.length yc ∧ BytesAt wx (.slice ya y.length yc) y ∧ Beside w.heap.size S (.slice ya y.length yc) y ∧ U8L y ∧ y.length ≤ k ∧ A + y.length = A0 + xl ∧ A0 ≤ A ∧ DiskAt wx b S' d' ∧ d'.Byt ∧ d'.down = d.down ∧ d'.last = d.last ∧ putL f k d' A y = putL f xl d A0 x ∧ (d.down = false ∨ d' = d ∧ y = x) ∧ Upd S w wx ∧ Sub w S S') (fun _ bv _ => lenOf bv)
          case atStart => exact ⟨xl, d, S, A0, x, va, vc, rfl, by rw [← HX.out], HV.out, HVO.out, HVU.out, by rw [← HX.out]; exact Nat.le_refl _, by rw [← HX.out], Nat.le_refl _, HD.out, HBY.out, rfl, rfl, rfl, .inr ⟨rfl, rfl⟩, Upd.refl _ _, Sub.refl _ _⟩
          case round =>
            obtain ⟨k, d', S', A, y, ya, yc, rfl, rfl, hy, hyo, hyu, hyk, hAy, hA, hd, hdb, hdd, hdl, hpl, hor, hu, hs⟩ := hrel
            obtain ⟨yl, hyl⟩ : ∃ n, n = y.length := ⟨_, rfl⟩
            rw [← hyl] at hy hyo hyk hAy ⊢
            have HYL := Lib.hid hyl
            have HY := Lib.hid hy
            have HYO := Lib.hid hyo
            have HYU := Lib.hid hyu
            have HD' := Lib.hid hd
            have HDB := Lib.hid hdb
            have HDD := Lib.hid hdd
            have HDL := Lib.hid hdl
            have HPL := Lib.hid hpl
            have HOR := Lib.hid hor
            have HU := Lib.hid hu
            have HS := Lib.hid hs
            have HW' := Lib.hid hd.wf
            have HZ' := Lib.hid hu.size
            clear hy hyo hyu hd hdb hdd hdl hpl hor hu hs hyl
            by_cases h0 : yl = 0
            · have HRE : Hid (R = (d', 0)) := Lib.hid (by
                have h1 := HYL.out
                have h2 := HPL.out
                have hd2 : putL f k d' A y = d' := by
                  cases k with
                  | zero => rfl
                  | succ k => rw [putL, if_pos (by omega)]
                rw [HR2.out]
                rcases HOR.out with h3 | ⟨h3, h4⟩
                · by_cases h5 : xl = 0
                  · rw [if_pos h5, ← hd2, h2, h5]; rfl
                  · rw [if_neg h5, h3, if_neg (by simp), ← h2, hd2]
                · rw [if_pos (by rw [HX.out, ← h4, ← h1]; exact h0), h3])
              subst h0
              go_wp2_with fail
              go_ret
              exact ⟨by rw [HRE.out]; rfl, S', by rw [HRE.out]; exact HD'.out, by rw [HRE.out]; exact HDB.out, HU.out, HS.out⟩
            · obtain ⟨n, hn⟩ : ∃ n : Int, n = f + (A / 64 : Nat) := ⟨_, rfl⟩
              have hq : f + (A : Int) / 64 = n := by omega
              have hcn : d'.code n = if d.down = true then 60 else 0 := by
                unfold DK.code
                rw [HDD.out, HDL.out]
                split
                · rfl
                · rw [if_neg (by omega)]
              have HN := Lib.hid hn
              have i0 : (0 : Int) < (yl : Int) := by omega
              clear hn
              go_upto_region 5 with fail
              clear hq
              by_cases hdn : d.down = true
              · rw [if_pos hdn] at hcn
                have HCN := Lib.hid hcn
                have HRE : Hid (R = (d', 60)) := Lib.hid (by
                  rcases HOR.out with h3 | ⟨h3, h4⟩
                  · rw [hdn] at h3; cases h3
                  · have h1 := HYL.out
                    rw [HR2.out, if_neg (by rw [HX.out, ← h4, ← h1]; exact h0), if_pos hdn, h3])
                clear hcn hdn
                go_wp2_with (first
                  | (go_at_call 21; refine (read_any b S' d' n wr HD'.out).mono ?_; rw [HCN.out]; rintro e w5 ⟨rfl, -, hu5⟩)
                  | (refine wpList_alloc rfl 32 rfl zero_arr fun w6 hb6 hu6 hs6 => ?_)
                  | (refine wpList_store rfl (.tmp 12) (.tmp 51) rfl rfl rfl hb6 DK.zeros_len (DK.rd_len HW'.out _) fun w7 hb7 hu7 hs7 => ?_))
                go_ret
                have hz5 := hu5.size
                have hu : Upd [] wr w7 := ((hu5.trans hu6).then hu7 (fun q hq => .inr (by simp at hq; omega)))
                exact ⟨by rw [HRE.out]; rfl, S', by rw [HRE.out]; exact HD'.out.upd0 hu, by rw [HRE.out]; exact HDB.out, HU.out.then hu (by simp), HS.out⟩
              · rw [if_neg hdn] at hcn
                have HDN : Hid (d.down = false) := Lib.hid (by simpa using hdn)
                have HCN := Lib.hid hcn
                clear hcn hdn
                obtain ⟨o, ho⟩ : ∃ o, o = A % 64 := ⟨_, rfl⟩
                have ho64 : o < 64 := by omega
                have HO := Lib.hid ho
                have hmod : (A : Int) % 64 = (o : Int) := by omega
                obtain ⟨c, hc⟩ : ∃ c, c = min yl (64 - o) := ⟨_, rfl⟩
                have HC := Lib.hid hc
                clear ho
                go_upto_region 8 with (first
                  | (go_at_call 21; refine (read_any b S' d' n wr HD'.out).mono ?_; rw [HCN.out]; rintro e w5 ⟨rfl, -, hu5⟩)
                  | (refine wpList_alloc rfl 32 rfl zero_arr fun w6 hb6 hu6 hs6 => ?_)
                  | (refine wpList_store rfl (.tmp 12) (.tmp 51) rfl rfl rfl hb6 DK.zeros_len (DK.rd_len HW'.out _) fun w7 hb7 hu7 hs7 => ?_))
                have hz5 := hu5.size
                have hz6 := hu6.size
                have hz7 := hu7.size
                have hut : Upd [] wr w7 := (hu5.trans hu6).then hu7 (fun q hq => .inr (by simp at hq; omega))
                obtain ⟨xb, hxb⟩ : ∃ q, q = w5.heap.size := ⟨_, rfl⟩
                rw [← hxb] at hb7 ⊢
                have HB7 := Lib.hid hb7
                have HUT := Lib.hid hut
                have hxbl : wr.heap.size ≤ xb := by omega
                have HS7 : Hid (xb < w7.heap.size) := Lib.hid hb7.lt
                obtain ⟨yg, yo, rfl, -, hygl, hyc⟩ := HY.out.at (by rw [← HYL.out]; omega)
                have hyne : yg ≠ xb := by omega
                have HYC : Hid (∀ i, i < yl → w7.cell? ⟨yg, yo + i, none⟩ = some (.int .u8 (y.getD i 0))) := Lib.hid (fun i hi => by
                  rw [World.cell?_of_block (a := ⟨yg, yo + i, none⟩) (hut.block yg hygl (by simp))]
                  exact hyc i (by rw [← HYL.out]; exact hi))
                have HRL := Lib.hid (DK.rd_len HW'.out n)
                have hc1 : c ≤ yl := by omega
                have hc2 : c ≤ 64 - o := by omega
                have hc0 : 0 < c := by omega
                clear hc
                clear hu5 hb6 hu6 hs6 hb7 hu7 hs7 hut hygl hyc hz5 hz6 hz7 hxb
                go_upto_region 9 with (first
                                     | ((with_reducible show wpList _ _ _ (⟨some 58, _, _, _, _, _⟩ :: _) _ _)
                                        go_loud (refine wpList_run rfl (exec_arrL (.tmp 12) (.tmp 57) rfl rfl rfl (by exact hmod) ho64) ?_))
                                     | (with_reducible show wpList _ _ _ (⟨some 60, _, _, _, _, _⟩ :: _) _ _)
                                       go_loud (refine wpList_copyB rfl (.tmp 58) (.tmp 59) rfl (mn := c) (l := y) (off := o) (n := 64 - o) rfl rfl HB7.out (by rw [HRL.out]; omega) HYC.out HYL.out.symm HC.out.symm fun w8 hb8 hu8 hs8 => ?_))
                obtain ⟨z, hz⟩ : ∃ z, z = splice (d'.rd n) o (y.take c) := ⟨_, rfl⟩
                rw [← hz] at hb8
                have hzl : z.length = 64 := by
                  rw [hz, splice_len (by rw [HRL.out, List.length_take, ← HYL.out]; omega)]; exact HRL.out
                have hzu : U8L z := by rw [hz]; exact splice_u8 (HDB.out.rd n) (HYU.out.take c) o
                have HZ := Lib.hid hz
                have HZL := Lib.hid hzl
                have HZU := Lib.hid hzu
                have HB8 := Lib.hid hb8
                have hu08 : Upd [] wr w8 := HUT.out.then hu8 (fun q hq => .inr (by simp at hq; omega))
                have HU08 := Lib.hid hu08
                clear hz hzl hzu hb8 hu8 hs8 hu08
                go_upto_region 12 with (first
                  | (refine wpList_run rfl (arr_load (.tmp 12) rfl rfl HB8.out HZL.out) ?_)
                  | (go_at_call 13; refine (write_any b S' d' n z w8 (HD'.out.upd0 HU08.out) HZL.out).mono ?_; rw [HCN.out]; rintro e w9 ⟨rfl, S9, hd9, hu9, hs9⟩))
                have HD9 := Lib.hid hd9
                have HU9 := Lib.hid hu9
                have HS9 := Lib.hid hs9
                clear hd9 hu9 hs9
                have m3 : IntKind.i64.wrap ((A : Int) + (c : Int)) = (A : Int) + (c : Int) := IntWalk.i64_in _ (by omega)
                go_quiet (fail)
                refine ⟨?_, ?measure⟩
                (repeat apply Exists.intro)
                refine ⟨?rel, ?eqt⟩
                case eqt => rfl
                case rel =>
                  obtain ⟨k, rfl⟩ : ∃ k', k = k' + 1 := ⟨k - 1, by omega⟩
                  have hdl : (y.drop c).length = yl - c := by rw [List.length_drop, ← HYL.out]
                  have hsl : sliced (some ⟨yg, yo, none⟩) c yl yc 1 = .slice (if yc = c then some ⟨yg, yo, none⟩ else some ⟨yg, yo + c, none⟩) (yl - c) (yc - c) := by
                    have hadd : (⟨yg, yo, none⟩ : Addr).add c = ⟨yg, yo + c, none⟩ := by unfold Addr.add; split <;> simp_all
                    unfold sliced; simp [hadd]
                  have hU9 : Upd S' wr (w9.drewN nq) := ((HU08.out.mono (by simp)).trans HU9.out).drewN nq
                  have hy9 : BytesAt (w9.drewN nq) (.slice (some ⟨yg, yo, none⟩) yl yc) y := HY.out.upd hU9 (HYO.out.out HS.out)
                  have hst : putL f (k + 1) d' A y = putL f k (d'.write n z) (A + c) (y.drop c) := by
                    rw [putL, ← HYL.out, if_neg h0, ← HO.out, ← HC.out, ← HN.out, ← HZ.out]
                  refine ⟨k, d'.write n z, S9, A + c, y.drop c, if yc = c then some ⟨yg, yo, none⟩ else some ⟨yg, yo + c, none⟩, yc - c, by simp, by rw [hdl], ?_, ?_, HYU.out.drop c, by omega, by omega, by omega, HD9.out.upd0 ((Upd.refl _ _).drewN nq), HDB.out.write n HZU.out, by rw [write_down]; exact HDD.out, by rw [write_last]; exact HDL.out, by rw [← hst]; exact HPL.out, .inl HDN.out, ?_, ?_⟩
                  · rw [hdl, ← hsl]; exact hy9.slicedL (by rw [← HYL.out]; omega)
                  · rw [hdl, ← hsl]; exact HYO.out.slicedL HY.out
                  · exact HU.out.then hU9 (fun q hq => HS.out q hq)
                  · intro q hq
                    rcases HS9.out q hq with h1 | h1
                    · exact HS.out q h1
                    · exact .inr (Nat.le_trans (Nat.le_trans HZ'.out HU08.out.size) h1)
                case measure => simp [lenOf]; omega
end Go.Proofs.Ytpeboaoephkfhaa
