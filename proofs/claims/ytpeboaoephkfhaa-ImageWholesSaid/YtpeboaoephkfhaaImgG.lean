/- The walk of Get. -/
import Derived.Test.YtpeboaoephkfhaaImgF
namespace Go.Proofs.Ytpeboaoephkfhaa
open Go.ChangeShapes Go.WideShapes Go.ChangeAt Go.RowKit

/-- The bytes of m blocks of a disk. -/
def rowB (d : DK) (f : Int) (m : Nat) : List Int := ((List.range m).map fun i => d.rd (f + (i : Nat))).flatten
theorem rowB_len {d : DK} (h : d.WF) (f : Int) : ∀ m, (rowB d f m).length = 64 * m
  | 0 => rfl
  | m + 1 => by
    have e : rowB d f (m + 1) = rowB d f m ++ d.rd (f + (m : Nat)) := by unfold rowB; rw [List.range_succ, List.map_append, List.flatten_append]; simp
    rw [e, List.length_append, rowB_len h f m, DK.rd_len h]; omega
theorem rowB_succ (d : DK) (f : Int) (m : Nat) : rowB d f (m + 1) = rowB d f m ++ d.rd (f + (m : Nat)) := by unfold rowB; rw [List.range_succ, List.map_append, List.flatten_append]; simp
theorem rowB_u8 {d : DK} (h : d.Byt) (f : Int) (m : Nat) : U8L (rowB d f m) := by
  intro x hx
  unfold rowB at hx
  obtain ⟨l, hl, hx⟩ := List.mem_flatten.1 hx
  obtain ⟨i, -, rfl⟩ := List.mem_map.1 hl
  exact h.rd _ x hx

/-- What Get answers: the bytes, the error's number. -/
def getF (d : DK) (f room size : Int) : List Int × Int :=
  if areaB d.last.length f room = false ∨ size < 0 ∨ room * 64 < size then ([], 1)
  else if size = 0 then ([], 0) else if d.down = true then ([], 60) else ((rowB d f (blocksN size).toNat).take size.toNat, 0)

section
variable {P : Program} {a : Act} {w : World} {o : Oper}
theorem exec_sliceH0 (t : TypeId) (x z : Operand) (ho : o.op = .slice t x none (some z) none) (ht : P.underlying t = some (.slice (P.elem t))) {k : Nat} (hs : (P.info? (P.elem t)).map (·.size) = some k)
    {b : Option Addr} {n cap h : Nat} {kh : IntKind} (hx : a.eval x = .slice b n cap) (hz : a.eval z = .int kh h) (h2 : h ≤ cap) :
    (execOp a.eval o).run P w = .ok (.value (sliced b 0 h cap k)) w := by
  have e1 := run_slice_h (P := P) (w := w) t b n cap ht kh (h : Int) (by omega) (by omega)
  rw [size_run hs, Result.andThen_ok] at e1
  unfold execOp
  simp only [ho, hx, hz, Option.map_some, Option.map_none, Sem.run_bind, run_sliceAt_slice _ t _ _ _ _ ht, e1, Result.andThen_ok, Sem.run_pure, Int.toNat_natCast]
end
theorem BytesAt.slicedH {w : World} {a : Option Addr} {n cap i : Nat} {l : List Int} (h : BytesAt w (.slice a n cap) l) (hi : i ≤ l.length) : BytesAt w (sliced a 0 i cap 1) (l.take i) := by
  obtain ⟨a', cap', e, h1, h2, h3⟩ := h
  cases e
  have hv : sliced a 0 i cap 1 = .slice (if cap = 0 then a else a.map (·.add (0 * 1))) (l.take i).length (cap - 0) := by
    unfold sliced; rw [List.length_take, Nat.min_eq_left hi]; rfl
  refine ⟨_, cap - 0, hv, by rw [List.length_take]; omega, by omega, fun hne => ?_⟩
  have hl : l ≠ [] := fun e => hne (by rw [e]; simp)
  obtain ⟨g, off, rfl, hg, hc⟩ := h3 hl
  refine ⟨g, off, ?_, hg, fun j hj => ?_⟩
  · have hadd : (⟨g, off, none⟩ : Addr).add 0 = ⟨g, off, none⟩ := by unfold Addr.add; split <;> simp_all
    split <;> simp [hadd]
  · rw [List.length_take] at hj
    rw [hc j (by omega)]
    simp [List.getD_eq_getElem?_getD, List.getElem?_take, show j < i by omega]

theorem BytesAt.takeH {w : World} {a : Option Addr} {n cap i : Nat} {l : List Int} (h : BytesAt w (.slice a n cap) l) (hi : i ≤ l.length) : BytesAt w (.slice a i cap) (l.take i) := by
  obtain ⟨a', cap', e, h1, h2, h3⟩ := h
  cases e
  have hl : (l.take i).length = i := by rw [List.length_take]; omega
  refine ⟨_, cap, by rw [hl], by omega, by omega, fun hne => ?_⟩
  obtain ⟨g, off, rfl, hg, hc⟩ := h3 (fun e => hne (by rw [e]; simp))
  refine ⟨g, off, rfl, hg, fun j hj => ?_⟩
  rw [hl] at hj
  rw [hc j (by omega)]
  simp [List.getD_eq_getElem?_getD, List.getElem?_take, show j < i by omega]

set_option maxRecDepth 100000 in
set_option maxHeartbeats 4000000 in
theorem get_any {w : World} {b : Nat} {S : List Nat} {d : DK} (h : DiskAt w b S d) (hby : d.Byt) (f room size : Int) (hf : -9223372036854775808 ≤ f ∧ f ≤ 9223372036854775807) (hsz : -9223372036854775808 ≤ size ∧ size ≤ 9223372036854775807) :
    Calls Try.prog 16 #[.pointer (some ⟨b, 0, none⟩), .int .i64 f, .int .i64 room, .int .i64 size] w fun e w' => ∃ v, e = .returned (.tuple #[v, .int .i64 (getF d f room size).2]) ∧ BytesAt w' v (getF d f room size).1 ∧ Upd [] w w' := by
  have HWF := Lib.hid h.wf
  have HBY := Lib.hid hby
  have HD := Lib.hid h
  have HMANY := Lib.hid h.wf.many
  obtain ⟨ar, har⟩ : ∃ x, x = areaB d.last.length f room := ⟨_, rfl⟩
  obtain ⟨R, hR⟩ : ∃ x, x = getF d f room size := ⟨_, rfl⟩
  rw [← hR]
  have HR := Lib.hid hR
  have HAR := Lib.hid har
  have HNIL : Hid (∀ w, BytesAt w (.slice none 0 0) []) := Lib.hid (fun w => ⟨none, 0, rfl, Nat.le_refl _, by unfold maxLen; omega, fun h => absurd rfl h⟩)
  clear hby h hR har
  cases ar with
  | false =>
    have HRE : Hid (R = ([], 1)) := Lib.hid (by rw [HR.out]; unfold getF; rw [if_pos (.inl HAR.out.symm)])
    go_enter Try.func16, Try.ntmps16
    go_wp2_with (go_at_call 26; refine (areaD_any HD.out f room hf HMANY.out).mono ?_; rw [← HAR.out]; rintro e _ ⟨rfl, rfl⟩)
    go_ret2
    exact ⟨_, by rw [HRE.out]; rfl, by rw [HRE.out]; exact HNIL.out _, Upd.refl _ _⟩
  | true =>
    have hr : 0 ≤ f ∧ f ≤ 4096 ∧ 0 ≤ room ∧ room ≤ 4096 ∧ f + room ≤ d.last.length := by
      have h1 := HAR.out
      have h2 := HMANY.out
      unfold areaB at h1
      simp at h1
      omega
    have m0 : IntKind.i64.wrap (room * 64) = room * 64 := IntWalk.i64_in _ (by omega)
    by_cases h1 : size < 0
    · have HRE : Hid (R = ([], 1)) := Lib.hid (by rw [HR.out]; unfold getF; rw [if_pos (.inr (.inl h1))])
      go_enter Try.func16, Try.ntmps16
      go_wp2_with (go_at_call 26; refine (areaD_any HD.out f room hf HMANY.out).mono ?_; rw [← HAR.out]; rintro e _ ⟨rfl, rfl⟩)
      go_ret2
      exact ⟨_, by rw [HRE.out]; rfl, by rw [HRE.out]; exact HNIL.out _, Upd.refl _ _⟩
    · by_cases h2 : room * 64 < size
      · have HRE : Hid (R = ([], 1)) := Lib.hid (by rw [HR.out]; unfold getF; rw [if_pos (.inr (.inr h2))])
        go_enter Try.func16, Try.ntmps16
        go_wp2_with (go_at_call 26; refine (areaD_any HD.out f room hf HMANY.out).mono ?_; rw [← HAR.out]; rintro e _ ⟨rfl, rfl⟩)
        go_ret2
        exact ⟨_, by rw [HRE.out]; rfl, by rw [HRE.out]; exact HNIL.out _, Upd.refl _ _⟩
      · have hge : R = if size = 0 then ([], 0) else if d.down = true then ([], 60) else ((rowB d f (blocksN size).toNat).take size.toNat, 0) := by
          rw [HR.out]; unfold getF; rw [if_neg (by rw [← HAR.out]; simp; omega)]
        obtain ⟨nb, hnb⟩ : ∃ n : Nat, blocksN size = (n : Int) := ⟨(blocksN size).toNat, by unfold blocksN; split <;> omega⟩
        have hnb2 : (size = 0 ∧ nb = 0) ∨ (0 < size ∧ (nb : Int) = (size - 1) / 64 + 1) := by
          unfold blocksN at hnb
          split at hnb <;> omega
        have hnb3 : (nb : Int) ≤ room := by omega
        have HGE := Lib.hid hge
        have HNB := Lib.hid hnb
        have HNB2 := Lib.hid hnb2
        have HCODE : Hid (∀ i : Nat, i < nb → d.code (f + i) = if d.down = true then 60 else 0) := Lib.hid (fun i hi => by
          unfold DK.code
          split
          · rfl
          · rw [if_neg (by omega)])
        clear hge hnb hnb2
        go_enter Try.func16, Try.ntmps16
        go_upto_region 4 with (first
          | (go_at_call 26; refine (areaD_any HD.out f room hf HMANY.out).mono ?_; rw [← HAR.out]; rintro e _ ⟨rfl, rfl⟩)
          | (go_at_call 11; refine (iblocks_any size _ hsz.1 hsz.2).mono ?_; rw [HNB.out]; rintro e _ ⟨rfl, rfl⟩))
        have hm0 : m0 = m0 := rfl
        clear hm0
        go_loopw [8, 30] (fun v i wx => ∃ m : Nat, m ≤ nb ∧ i = .int .i64 m ∧ (m = 0 ∨ d.down = false) ∧ wx.ownsRow w.heap.size 5 1 v (rowB d f m).length ((rowB d f m).map (Value.int .u8)) ∧ Upd [] w wx) (fun _ i _ => nb - (intOf i).toNat)
        case atStart => exact ⟨0, Nat.zero_le _, rfl, .inl rfl, World.ownsRow_nil _ _ _ _, Upd.refl _ _⟩
        case round =>
          obtain ⟨m, hm, rfl, hup, ho, hu⟩ := hrel
          obtain ⟨oa, oc, rfl⟩ := own_slice ho
          have HUP := Lib.hid hup
          have HO := Lib.hid ho
          have HU := Lib.hid hu
          have hz := hu.size
          clear hup ho hu
          by_cases hlt : m < nb
          · obtain ⟨n, hn⟩ : ∃ n, n = f + (m : Int) := ⟨_, rfl⟩
            have hwn : IntKind.i64.wrap (f + (m : Int)) = n := by rw [IntWalk.i64_in _ (by omega)]; exact hn.symm
            have hcn : d.code n = if d.down = true then 60 else 0 := by rw [hn]; exact HCODE.out m hlt
            have HN := Lib.hid hn
            have HDX := Lib.hid (HD.out.upd0 HU.out)
            have i0 : (m : Int) < (nb : Int) := by omega
            clear hn
            by_cases hdn : d.down = true
            · rw [if_pos hdn] at hcn
              have HCN := Lib.hid hcn
              have HRE : Hid (R = ([], 60)) := Lib.hid (by rw [HGE.out, if_neg (by have := HNB2.out; omega), if_pos hdn])
              clear hcn hdn
              go_wp2_with (first
                | (go_at_call 21; refine (read_any b S d n wr HDX.out).mono ?_; rw [HCN.out]; rintro e w5 ⟨rfl, -, hu5⟩)
                | (refine wpList_alloc rfl 32 rfl zero_arr fun w6 hb6 hu6 hs6 => ?_)
                | (refine wpList_store rfl (.tmp 11) (.tmp 39) rfl rfl rfl hb6 DK.zeros_len (DK.rd_len HWF.out _) fun w7 hb7 hu7 hs7 => ?_))
              go_ret2
              have hz5 := hu5.size
              exact ⟨_, by rw [HRE.out]; rfl, by rw [HRE.out]; exact HNIL.out _, ((HU.out.trans hu5).trans hu6).then hu7 (fun q hq => .inr (by simp at hq; omega))⟩
            · rw [if_neg hdn] at hcn
              have HDN : Hid (d.down = false) := Lib.hid (by simpa using hdn)
              have HCN := Lib.hid hcn
              have HLEN := Lib.hid (rowB_len HWF.out f m)
              clear hcn hdn
              go_upto_region 9 with (first
                | (go_at_call 21; refine (read_any b S d n wr HDX.out).mono ?_; rw [HCN.out]; rintro e w5 ⟨rfl, -, hu5⟩)
                | (refine wpList_alloc rfl 32 rfl zero_arr fun w6 hb6 hu6 hs6 => ?_)
                | (refine wpList_store rfl (.tmp 11) (.tmp 39) rfl rfl rfl hb6 DK.zeros_len (DK.rd_len HWF.out _) fun w7 hb7 hu7 hs7 => ?_))
              have hz5 := hu5.size
              have hz6 := hu6.size
              have hz7 := hu7.size
              have hut : Upd [] wr w7 := (hu5.trans hu6).then hu7 (fun q hq => .inr (by simp at hq; omega))
              have HUT := Lib.hid hut
              have HO7 := Lib.hid (own_upd HO.out hut (by simp))
              have HB7 := Lib.hid hb7
              have HBY7 : Hid (BytesAt w7 (.slice (some ⟨w5.heap.size, 0, none⟩) 64 64) (d.rd n)) := Lib.hid (by
                have h1 := BytesAt.of_blk (off := 0) hb7 64 64 (by rw [DK.rd_len HWF.out]; omega) (by omega) (by unfold maxLen; omega)
                rw [List.drop_zero, List.take_of_length_le (by rw [DK.rd_len HWF.out]; omega)] at h1
                exact h1)
              clear hu5 hb6 hu6 hs6 hb7 hu7 hs7 hut
              go_wp2_with (refine wpList_appendB (v0 := .slice oa (rowB d f m).length oc) rfl (.tmp 44) (.tmp 45) rfl w.heap.size rfl HO7.out (by omega) rfl HBY7.out (by rw [HLEN.out, DK.rd_len HWF.out]; omega) fun v8 w8 ho8 hu8 => ?_)
              go_roundw
              case rel =>
                refine ⟨m + 1, by omega, by go_num, .inr HDN.out, ?_, (HU.out.trans HUT.out).then hu8 (fun y hy => .inr ((HO.out.lt y (by simpa using hy)).1))⟩
                rw [rowB_succ, ← HN.out]
                exact ho8
              case measure => simp [intOf]; omega
          · obtain rfl : m = nb := by omega
            have HLEN := Lib.hid (rowB_len HWF.out f m)
            have HSB : Hid (BytesAt wr (.slice oa (rowB d f m).length oc) (rowB d f m)) := Lib.hid (BytesAt.of_own HO.out rfl)
            obtain ⟨k, hk⟩ : ∃ k : Nat, size = (k : Int) := ⟨size.toNat, by omega⟩
            subst hk
            have hkl : k ≤ (rowB d f m).length := by rw [HLEN.out]; have := HNB2.out; omega
            obtain ⟨bl, cp, hbl⟩ : ∃ bl cp, (Value.slice oa (rowB d f m).length oc : Value) = .slice bl (rowB d f m).length cp ∧ (rowB d f m).length ≤ cp := by
              obtain ⟨b', c', e1, e2, -⟩ := HSB.out
              exact ⟨b', c', e1, e2⟩
            have hcap : k ≤ oc := by obtain ⟨e1, e2⟩ := hbl; cases e1; omega
            clear hbl
            go_wp2_with (refine wpList_run rfl (exec_sliceH0 26 (.tmp 48) (.tmp 49) rfl Try.underlying26 (k := 1) info_u8 rfl rfl hcap) ?_)
            go_ret2
            have hfin : R = ((rowB d f m).take k, 0) := by
              rw [HGE.out]
              by_cases h0 : (k : Int) = 0
              · have : k = 0 := by omega
                subst this
                rw [if_pos (by rfl)]; simp
              · have h1 := HNB2.out
                rcases HUP.out with h3 | h3
                · omega
                · rw [if_neg h0, if_neg (by simp [h3]), HNB.out]; simp
            exact ⟨_, by rw [hfin]; rfl, by rw [hfin]; exact HSB.out.takeH hkl, HU.out⟩

end Go.Proofs.Ytpeboaoephkfhaa
