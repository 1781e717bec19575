/- The walk of settle. -/
import Derived.Test.YtpeboaoephkfhaaDiskC
import Derived.Test.YtpeboaoephkfhaaSame
namespace Go.Proofs.Ytpeboaoephkfhaa
open Go.ChangeShapes Go.WideShapes Go.ChangeAt Go.RowKit

theorem settleL_snoc (many : Nat → Int) (p : Int × Blok) : ∀ (f : List (Int × Blok)) (i : Nat) (l : List Blok), DK.settleL many i (f ++ [p]) l =
    (DK.settleL many i f l).set p.1.toNat (DK.lay (DK.kOf (many (i + f.length))) p.2 ((DK.settleL many i f l).getD p.1.toNat [])) := by
  intro f
  induction f with
  | nil => intro i l; simp [DK.settleL]
  | cons q t ih =>
    intro i l
    simp only [List.cons_append, DK.settleL]
    rw [ih, List.length_cons, show i + 1 + t.length = i + (t.length + 1) by omega]

theorem mget_nodup {α : Type} : ∀ (L : List (Int × α)), (L.map (·.1)).Nodup → ∀ (k : Nat) (h : k < L.length), mget L L[k].1 = some L[k].2 := by
  intro L
  induction L with
  | nil => intro _ k h; simp at h
  | cons p t ih =>
    intro hn k h
    rw [List.map_cons, List.nodup_cons] at hn
    rcases k with _ | k
    · unfold mget; simp
    · have hk : k < t.length := by simpa using h
      have h1 := ih hn.2 k hk
      unfold mget at h1 ⊢
      rw [List.getElem_cons_succ, List.find?_cons_of_neg]
      · exact h1
      · simp only [beq_iff_eq]
        intro e; apply hn.1; rw [e]; exact List.mem_map_of_mem (List.getElem_mem hk)

theorem settle_sizes {d : DK} (hw : d.WF) (many : Nat → Int) (k : Nat) : ∀ b ∈ DK.settleL many 0 (d.fresh.take k) d.last, b.length = 64 :=
  DK.settleL_wf many _ 0 d.last hw.last (fun p hp => hw.size p (List.mem_of_mem_take hp)) (fun p hp => ⟨hw.lo p (List.mem_of_mem_take hp), hw.hi p (List.mem_of_mem_take hp)⟩)

theorem settle_step {d : DK} (hw : d.WF) (many : Nat → Int) {k n ko : Nat} {p : Int × Blok} {x : Blok} (hk : k < d.fresh.length) (hp : p = d.fresh[k]) (hn : p.1 = n) (hx : x = p.2) (hko : ko = DK.kOf (many k)) (hko' : ko ≤ 64) :
    splice (DK.settleL many 0 (d.fresh.take k) d.last).flatten (n * 64) (x.take ko) = (DK.settleL many 0 (d.fresh.take (k + 1)) d.last).flatten := by
  have hpm : p ∈ d.fresh := hp ▸ List.getElem_mem hk
  have h2 := hw.size p hpm
  have h1 := hw.hi p hpm
  rw [List.take_succ_eq_append_getElem hk, settleL_snoc, ← hp, hn, ← hx, List.length_take, Nat.min_eq_left (by omega), Nat.zero_add, ← hko, Int.toNat_natCast, Nat.mul_comm]
  exact flatten_set (settle_sizes hw many k) (by rw [DK.settleL_len]; omega) (by rw [hx]; omega) (by rw [hx]; exact h2)

theorem settle_any (b lb mb : Nat) (ov : Value) (d : DK) (f : Nat) (cap : Array Value) (many : Nat → Int) (w : World) (hn : (b :: lb :: mb :: ov.ownBlock.toList).Nodup) (hw : d.WF)
    (h1 : Blk w b #[.slice (some ⟨lb, 0, none⟩) (d.last.length * 64) (d.last.length * 64), .map (some mb), ov, .bool d.down] 58) (h2 : Blk w lb (U8 d.last.flatten) 5) (h3 : MapAt w mb (freshV d.fresh))
    (h4 : w.ownsRow 0 3 1 ov d.fresh.length ((d.fresh.map (·.1)).map (Value.int .i64)))
    (hcf : ∀ args w, (callFunc f args).run Try.prog w = .ok (.enter f args) w)
    (hm : ∀ i : Nat, i < d.fresh.length → ∀ w', Upd [lb] w w' → Calls Try.prog f (#[.int .i64 i] ++ cap) w' fun e w'' => e = .returned (.int .i64 (many i)) ∧ w' = w'') :
    Calls Try.prog 35 #[.pointer (some ⟨b, 0, none⟩), .func (.func f) #[] cap] w fun e w' => e = .returned (.tuple #[]) ∧ DiskAt w' b [b, lb, mb] (d.settle many) ∧ Upd [b, lb, mb] w w' := by
  have H1 := Lib.hid h1
  have H2 := Lib.hid h2
  have H3 := Lib.hid h3
  have H4 := Lib.hid h4
  have HM := Lib.hid hm
  have c2 := h1.cell (o := 2) rfl
  obtain ⟨oa, oc, rfl⟩ := own_slice h4
  have hlen := hw.len
  have hN := hw.many
  clear h1 h2 h3 h4 hm
  go_enter Try.func35, Try.ntmps35
  go_wp2
  go_loopw [12] (fun i wr => ∃ k : Nat, k ≤ d.fresh.length ∧ i = .int .i64 k ∧ Blk wr lb (U8 (DK.settleL many 0 (d.fresh.take k) d.last).flatten) 5 ∧ Upd [lb] w wr) (fun i _ => d.fresh.length - (intOf i).toNat)
  case atStart => exact ⟨0, Nat.zero_le _, rfl, H2.out, Upd.refl _ _⟩
  case round =>
    obtain ⟨k, hk, rfl, hlb, hu⟩ := hrel
    by_cases hkl : k < d.fresh.length
    · have hIn := IntsAt.of_own (l := d.fresh.map (·.1)) (own_upd H4.out hu (by simp only [List.nodup_cons, List.mem_cons, not_or, Option.mem_toList] at hn; intro g hg e; simp at e; exact hn.2.1.2 (e ▸ hg))) (by simp)
      obtain ⟨_, _, hs, -, hcell⟩ := hIn
      obtain ⟨g, off, rfl, -, hcell⟩ := hcell (fun e => by have := congrArg List.length e; rw [List.length_map, List.length_nil] at this; omega)
      simp only [Value.slice.injEq] at hs
      obtain ⟨rfl, -, -⟩ := hs
      have ck := hcell k (by simpa using hkl)
      obtain ⟨p, hp⟩ : ∃ p, p = d.fresh[k] := ⟨_, rfl⟩
      have hpm : p ∈ d.fresh := hp ▸ List.getElem_mem hkl
      have ep : (d.fresh.map (·.1)).getD k 0 = p.1 := by rw [List.getD_eq_getElem?_getD, List.getElem?_map, List.getElem?_eq_getElem hkl, hp]; rfl
      rw [ep] at ck
      have hget : (mget d.fresh p.1).getD DK.zeros = p.2 := by rw [hp, mget_nodup d.fresh hw.keys k hkl]; rfl
      have hp0 := hw.lo p hpm
      have hp1 := hw.hi p hpm
      have hp2 := hw.size p hpm
      obtain ⟨n, hnn⟩ := Int.eq_ofNat_of_zero_le hp0
      obtain ⟨x, hx⟩ : ∃ x, x = p.2 := ⟨_, rfl⟩
      rw [hnn] at hp1
      rw [hnn] at ck hget
      rw [← hx] at hp2 hget
      have hk1 : k < (d.fresh.map (·.1)).length := by simpa using hkl
      have hbl : b ≠ lb ∧ mb ≠ lb := by
        simp only [List.nodup_cons, List.mem_cons, not_or] at hn
        exact ⟨hn.1.1, fun e => hn.2.1.1 e.symm⟩
      have hlt : b < w.heap.size ∧ mb < w.heap.size := ⟨H1.out.lt, H3.out.lt⟩
      have HU := Lib.hid hu
      have HL := Lib.hid hlb
      have HP := Lib.hid hp
      have HN := Lib.hid hnn
      have HX := Lib.hid hx
      have c1 := (H1.out.upd hu (by simp; exact hbl.1)).cell (o := 1) rfl
      clear hcell hp hnn hx hu hlb ep
      go_wp2_with (first
        | (refine wpList_run rfl (disk_lookup1 (.tmp 20) (.tmp 21) rfl rfl rfl (H3.out.upd HU.out (by simp; exact hbl.2))) ?_; rw [hget])
        | (refine wpList_alloc rfl 32 rfl zero_arr fun w1 hb1 hu1 hs1 => ?_)
        | (refine wpList_store rfl (.tmp 6) (.tmp 22) rfl rfl rfl hb1 DK.zeros_len hp2 fun w2 hb2 hu2 hs2 => ?_))
      have hu4 : Upd [] wr w2 := hu1.then hu2 (by simp)
      have HU4 := Lib.hid hu4
      have HB := Lib.hid hb2
      clear hb1 hu1 hb2 hu2 hu4 hs1 hs2 hget
      refine (place_any b lb d.last.length n w2 _ ((H1.out.upd HU.out (by simp; exact hbl.1)).upd HU4.out (by simp)) rfl (by omega) hw.many).mono ?_
      rintro e w2' ⟨rfl, rfl⟩
      go_wp2_with fail
      refine (HM.out k hkl w2 (HU.out.then HU4.out (by simp))).mono ?_
      rintro e w2' ⟨rfl, rfl⟩
      have hko := DK.kOf_le (many k)
      have hke : min (max (many k) 0) 64 = ((DK.kOf (many k) : Nat) : Int) := by unfold DK.kOf; omega
      obtain ⟨ko, hkoo⟩ : ∃ ko, ko = DK.kOf (many k) := ⟨_, rfl⟩
      rw [← hkoo] at hko hke
      have hko' : (ko : Int) ≤ 64 := by omega
      have HK := Lib.hid hkoo
      have HKE := Lib.hid hke
      clear hkoo hke
      go_wp2_with (first
        | (refine wpList_run rfl (exec_max (.tmp 28) (.const (.int .i64 0)) rfl rfl rfl) ?_)
        | (refine wpList_run rfl (exec_min (.tmp 29) (.const (.int .i64 64)) rfl rfl rfl) ?_; rw [HKE.out])
        | (refine wpList_copy rfl (.tmp 25) (.tmp 31) rfl rfl rfl (HL.out.upd HU4.out (by simp)) HB.out ?c1 ?c2 fun w3 hb3 hu3 hs3 => ?_))
      case c1 => rw [flatten_len (settle_sizes hw many k), DK.settleL_len]; omega
      case c2 => rw [hp2]; omega
      have e3 := settle_step hw many hkl HP.out HN.out HX.out HK.out hko
      rw [List.drop_zero, show Nat.min ko 64 = ko from Nat.min_eq_left hko, e3] at hb3
      have HB3 := Lib.hid hb3
      have HU3 := Lib.hid ((HU.out.then HU4.out (by simp)).trans hu3)
      clear hb3 hu3 e3
      go_roundw
      case rel => exact ⟨k + 1, by omega, by go_num, HB3.out, HU3.out⟩
      case measure => simp [intOf]; omega
    · obtain rfl : k = d.fresh.length := by omega
      have hbl : b ≠ lb ∧ mb ≠ lb ∧ b ≠ mb := by
        simp only [List.nodup_cons, List.mem_cons, not_or] at hn
        exact ⟨hn.1.1, fun e => hn.2.1.1 e.symm, hn.1.2.1⟩
      rw [List.take_length] at hlb
      have c1 := (H1.out.upd hu (by simp; exact hbl.1)).cell (o := 1) rfl
      have HU := Lib.hid hu
      have HL := Lib.hid hlb
      clear hu hlb
      go_wp2_with (refine wpList_clear rfl (.tmp 37) rfl rfl (H3.out.upd HU.out (by simp; exact hbl.2.1)) fun w2 hm2 hu2 => ?_
                   have k1 := (H1.out.upd HU.out (by simp; exact hbl.1)).upd hu2 (by simp; exact hbl.2.2)
                   have c2 := k1.cell (o := 2) rfl
                   have f2 := k1.free 2)
      have HM2 := Lib.hid hm2
      go_end0
      have hu3 : Upd [b] w2 (w2.setCell ⟨b, 2, none⟩ (.slice none 0 0)) := (Upd.refl _ _).setCell (by simp) _
      refine ⟨rfl, ⟨lb, mb, .slice none 0 0, rfl, ?_, hw.settle many, ?_, ?_, ?_, World.ownsRow_nil _ _ _ _⟩, ?_⟩
      · simp; exact ⟨⟨hbl.1, hbl.2.2⟩, fun e => hbl.2.1 e.symm⟩
      · have := k1.set 2 (.slice none 0 0)
        show Blk _ _ #[.slice (some ⟨lb, 0, none⟩) ((DK.settleL many 0 d.fresh d.last).length * 64) ((DK.settleL many 0 d.fresh d.last).length * 64), _, _, _] _
        rw [DK.settleL_len]; exact this
      · exact (HL.out.upd hu2 (by simp; exact fun e => hbl.2.1 e.symm)).upd hu3 (by simp; exact fun e => hbl.1 e.symm)
      · exact HM2.out.upd hu3 (by simp; exact fun e => hbl.2.2 e.symm)
      · exact ((HU.out.mono (by simp)).trans (hu2.mono (by simp))).trans (hu3.mono (by simp))

end Go.Proofs.Ytpeboaoephkfhaa
