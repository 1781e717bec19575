/- Plain laws of disks: what is read behind a write, a flush, a crash. No program in sight. -/
import Derived.Test.YtpeboaoephkfhaaLaws
namespace Go.Proofs.Ytpeboaoephkfhaa
open Go.RowKit

theorem q_lay_same (K : Nat) (x : Blok) : DK.lay K x x = x := List.take_append_drop K x

theorem q_mget_cons {α : Type} (p : Int × α) (t : List (Int × α)) (n : Int) : mget (p :: t) n = if p.1 = n then some p.2 else mget t n := by
  unfold mget
  rw [List.find?_cons]
  by_cases h : p.1 = n
  · have e : (p.1 == n) = true := by simp [h]
    rw [if_pos h, e]; rfl
  · have e : (p.1 == n) = false := by simp [h]
    rw [if_neg h, e]

theorem q_mget_none {α : Type} {L : List (Int × α)} {n : Int} (h : n ∉ L.map (·.1)) : mget L n = none := by
  cases hm : mget L n with
  | none => rfl
  | some x => exact absurd (mget_isSome.1 (by rw [hm]; rfl)) h

/-- A block behind a crash: so many of the new bytes, then the ones that lasted. -/
theorem q_settleL_get (many : Nat → Int) : ∀ (f : List (Int × Blok)) (i : Nat) (l : List Blok), (f.map (·.1)).Nodup → (∀ p ∈ f, 0 ≤ p.1 ∧ p.1 < l.length) → ∀ n : Nat, n < l.length →
    ∃ K, K ≤ 64 ∧ (DK.settleL many i f l).getD n [] = DK.lay K ((mget f (n : Int)).getD (l.getD n [])) (l.getD n []) := by
  intro f
  induction f with
  | nil => intro i l _ _ n _; exact ⟨0, by omega, (q_lay_same 0 _).symm⟩
  | cons p t ih =>
    intro i l hn hr n hl
    simp only [List.map_cons, List.nodup_cons] at hn
    have hp := hr p List.mem_cons_self
    obtain ⟨K, hK, e⟩ := ih (i + 1) (l.set p.1.toNat (DK.lay (DK.kOf (many i)) p.2 (l.getD p.1.toNat []))) hn.2 (fun q hq => by rw [List.length_set]; exact hr q (List.mem_cons_of_mem _ hq)) n (by rw [List.length_set]; exact hl)
    simp only [DK.settleL]
    rw [e, q_mget_cons]
    by_cases h : p.1 = (n : Int)
    · rw [if_pos h]
      have hpn : p.1.toNat = n := by omega
      rw [q_mget_none (n := (n : Int)) (by rw [← h]; exact hn.1), hpn]
      refine ⟨DK.kOf (many i), DK.kOf_le _, ?_⟩
      simp only [Option.getD_none, Option.getD_some]
      rw [q_lay_same, List.getD_eq_getElem?_getD, List.getElem?_set_self hl]; rfl
    · rw [if_neg h]
      have hpn : p.1.toNat ≠ n := by omega
      refine ⟨K, hK, ?_⟩
      have e2 : (l.set p.1.toNat (DK.lay (DK.kOf (many i)) p.2 (l.getD p.1.toNat []))).getD n [] = l.getD n [] := by
        rw [List.getD_eq_getElem?_getD, List.getElem?_set_ne hpn, List.getD_eq_getElem?_getD]
      rw [e2]

theorem q_lay_lo {K : Nat} {x y : Blok} (hK : K ≤ 64) (hx : x.length = 64) (j : Nat) (hj : j < K) : (DK.lay K x y).getD j 0 = x.getD j 0 := by
  unfold DK.lay
  rw [List.getD_eq_getElem?_getD, List.getElem?_append_left (by simp; omega), List.getElem?_take, if_pos hj, List.getD_eq_getElem?_getD]

theorem q_lay_hi {K : Nat} {x y : Blok} (hK : K ≤ 64) (hx : x.length = 64) (j : Nat) (hj : K ≤ j) : (DK.lay K x y).getD j 0 = y.getD j 0 := by
  unfold DK.lay
  rw [List.getD_eq_getElem?_getD, List.getElem?_append_right (by simp; omega), List.getElem?_drop, List.getD_eq_getElem?_getD, List.length_take]
  congr 2; omega

theorem q_put_code (d : DK) (n k : Int) (x : Blok) : (d.write n x).code k = d.code k := by
  unfold DK.write; split <;> rfl

theorem q_get_put (d : DK) (n k : Int) (x : Blok) : (d.put n x).get k = if k = n then x else d.get k := by
  unfold DK.get DK.put
  simp only [mget_mset]
  split <;> rfl

theorem q_rd_write (d : DK) (n k : Int) (x : Blok) : (d.write n x).rd k = if k = n ∧ d.code n = 0 then x else d.rd k := by
  unfold DK.rd
  rw [q_put_code]
  unfold DK.write
  by_cases hn : d.code n = 0
  · rw [if_pos hn, q_get_put]
    by_cases hk : k = n
    · subst hk; rw [if_pos hn, if_pos rfl, if_pos ⟨rfl, hn⟩]
    · rw [if_neg hk, if_neg (c := k = n ∧ d.code n = 0) (fun h => hk h.1)]
  · rw [if_neg hn, if_neg (c := k = n ∧ d.code n = 0) (fun h => hn h.2)]


theorem q_lay_all {x y : Blok} (hx : x.length = 64) (hy : y.length = 64) : DK.lay 64 x y = x := by
  unfold DK.lay; rw [List.take_of_length_le (by omega), List.drop_of_length_le (by omega), List.append_nil]

theorem q_code_up {d : DK} (hd : d.down = false) {n : Nat} (hn : n < d.last.length) : d.code (n : Int) = 0 := by
  unfold DK.code; rw [hd]; simp; omega

theorem q_rd_up {d : DK} (hd : d.down = false) {n : Nat} (hn : n < d.last.length) : d.rd (n : Int) = (mget d.fresh (n : Int)).getD (d.last.getD n []) := by
  unfold DK.rd; rw [if_pos (q_code_up hd hn)]; rfl

theorem q_settle_all : ∀ (f : List (Int × Blok)) (i : Nat) (l : List Blok), (f.map (·.1)).Nodup → (∀ p ∈ f, 0 ≤ p.1 ∧ p.1 < l.length) → (∀ p ∈ f, p.2.length = 64) → (∀ b ∈ l, b.length = 64) → ∀ n : Nat, n < l.length →
    (DK.settleL (fun _ => 64) i f l).getD n [] = (mget f (n : Int)).getD (l.getD n []) := by
  intro f
  induction f with
  | nil => intro i l _ _ _ _ n _; rfl
  | cons p t ih =>
    intro i l hn hr h64 hl64 n hl
    simp only [List.map_cons, List.nodup_cons] at hn
    have hp := hr p List.mem_cons_self
    have hk : DK.kOf 64 = 64 := by decide
    have hlay : DK.lay (DK.kOf 64) p.2 (l.getD p.1.toNat []) = p.2 := by
      rw [hk]; exact q_lay_all (h64 p List.mem_cons_self) (hl64 _ (DK.getD_mem (by omega)))
    have e := ih (i + 1) (l.set p.1.toNat p.2) hn.2 (fun q hq => by rw [List.length_set]; exact hr q (List.mem_cons_of_mem _ hq)) (fun q hq => h64 q (List.mem_cons_of_mem _ hq)) (fun b hb => by
      rcases List.mem_or_eq_of_mem_set hb with hb | rfl
      · exact hl64 b hb
      · exact h64 p List.mem_cons_self) n (by rw [List.length_set]; exact hl)
    simp only [DK.settleL]
    rw [hlay, e, q_mget_cons]
    by_cases h : p.1 = (n : Int)
    · rw [if_pos h]
      have hpn : p.1.toNat = n := by omega
      rw [q_mget_none (n := (n : Int)) (by rw [← h]; exact hn.1), hpn]
      simp only [Option.getD_none, Option.getD_some]
      rw [List.getD_eq_getElem?_getD, List.getElem?_set_self hl]; rfl
    · rw [if_neg h]
      have hpn : p.1.toNat ≠ n := by omega
      have e2 : (l.set p.1.toNat p.2).getD n [] = l.getD n [] := by
        rw [List.getD_eq_getElem?_getD, List.getElem?_set_ne hpn, List.getD_eq_getElem?_getD]
      rw [e2]

theorem q_flush_len (d : DK) : d.flush.last.length = d.last.length := by
  unfold DK.flush; split
  · rfl
  · exact DK.settleL_len _ _ _ _
theorem q_flush_dn (d : DK) : d.flush.down = d.down := by unfold DK.flush; split <;> rfl
theorem q_flush_fresh {d : DK} (h : d.down = false) : d.flush.fresh = [] := by unfold DK.flush; rw [h]; rfl

/-- A flush changes nothing of what is read. -/
theorem q_flush_rd {d : DK} (hw : d.WF) (hd : d.down = false) {n : Nat} (hn : n < d.last.length) : d.flush.rd (n : Int) = d.rd (n : Int) := by
  rw [q_rd_up (by rw [q_flush_dn]; exact hd) (by rw [q_flush_len]; exact hn), q_rd_up hd hn, q_flush_fresh hd]
  have e1 : d.flush.last = DK.settleL (fun _ => 64) 0 d.fresh d.last := by unfold DK.flush; rw [hd]; rfl
  rw [e1]
  exact q_settle_all d.fresh 0 d.last hw.keys (fun p hp => ⟨hw.lo p hp, hw.hi p hp⟩) hw.size hw.last n hn

/-- Behind a crash each block has so many of its new bytes, then those that lasted. -/
theorem q_crash_rd {d : DK} (hw : d.WF) (hd : d.down = false) (f : List Int) {n : Nat} (hn : n < d.last.length) :
    ∃ K, K ≤ 64 ∧ ((d.crash f).start).rd (n : Int) = DK.lay K (d.rd (n : Int)) (d.last.getD n []) := by
  have e1 : ((d.crash f).start).last = DK.settleL (DK.fate f) 0 d.fresh d.last := by unfold DK.crash; rw [hd]; rfl
  have e2 : ((d.crash f).start).fresh = [] := by unfold DK.crash; rw [hd]; rfl
  have e3 : ((d.crash f).start).down = false := rfl
  have e4 : ((d.crash f).start).last.length = d.last.length := by rw [e1, DK.settleL_len]
  rw [q_rd_up e3 (by rw [e4]; exact hn), e2, q_rd_up hd hn, e1]
  exact q_settleL_get _ d.fresh 0 d.last hw.keys (fun p hp => ⟨hw.lo p hp, hw.hi p hp⟩) n hn

theorem q_new_rd {N n : Nat} (hn : n < N) : (DK.new N).rd (n : Int) = DK.zeros := by
  rw [q_rd_up rfl (by simpa [DK.new] using hn)]
  simp [DK.new, mget, List.getD_eq_getElem?_getD, hn]

end Go.Proofs.Ytpeboaoephkfhaa
