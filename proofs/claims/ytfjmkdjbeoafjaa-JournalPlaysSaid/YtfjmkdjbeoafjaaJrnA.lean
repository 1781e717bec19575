/- The walks of life and good. -/
import Derived.Test.YtfjmkdjbeoafjaaBytes
import Derived.Test.YtfjmkdjbeoafjaaHeld
import Derived.Outline
namespace Go.Proofs.Ytfjmkdjbeoafjaa
open Go.ChangeShapes Go.WideShapes Go.ChangeAt Go.RowKit

/-- Eight bytes' life; 0: it is too great. -/
def life8 (b : List Int) : Int := if 1099511627776 < num (b.take 8) then 0 else num (b.take 8)

set_option maxHeartbeats 1000000 in
theorem life_any (v : Value) (l : List Int) (w : World) (h : BytesAt w v l) (h8 : 8 ≤ l.length) (hr : U8L l) :
    Calls Try.prog 36 #[v] w fun e w' => e = .returned (.int .i64 (life8 l)) ∧ w = w' := by
  obtain ⟨a, cap, rfl, hlc, hm, hb⟩ := h
  obtain ⟨g, off, rfl, hg, hc⟩ := hb (by intro e; rw [e] at h8; simp at h8)
  have HC := Lib.hid hc
  have x1 : (8 : Int) ≤ (l.length : Int) := by omega
  have x2 : (8 : Int) ≤ (cap : Int) := by omega
  unfold maxLen at hm
  have x3 : (cap : Int) ≤ 9223372036854775807 := by omega
  have HR := Lib.hid hr
  clear hc hb hr
  go_enter Try.func36, Try.ntmps36
  go_wp2
  go_loop [3, 9] (fun n i => ∃ k : Nat, k ≤ 8 ∧ i = .int .i64 k ∧ n = .int .u64 (num (l.take k))) (fun _ i => 8 - (intOf i).toNat)
  case atStart => exact ⟨0, by omega, rfl, rfl⟩
  case round =>
    obtain ⟨k, hk, rfl, rfl⟩ := hrel
    by_cases hlt : k < 8
    · have c0 := HC.out k (by omega)
      have hx := HR.out.getD k
      obtain ⟨hn0, hn2⟩ := num_lt7 l HR.out k hlt (by omega)
      obtain ⟨x, hxe⟩ : ∃ x, x = l.getD k 0 := ⟨_, rfl⟩
      have hor := or_u64 (num (l.take k)) x hn0 (by omega) (by omega) (by omega)
      have HN := Lib.hid (num_take l k (by omega))
      rw [← hxe] at c0 hx
      obtain ⟨hx0, hx1⟩ := hx
      have hi : (0 : Int) ≤ (k : Int) := by omega
      have hi8 : (k : Int) < 8 := by omega
      have HO := Lib.hid hor
      have HXE := Lib.hid hxe
      clear hxe hor
      go_wp2
      go_round
      case rel => exact ⟨k + 1, by omega, by go_num, by rw [HN.out, ← HXE.out]; exact congrArg (Value.int .u64) HO.out⟩
      case measure => simp [intOf]; omega
    · obtain rfl : k = 8 := by omega
      have key : (decide (1099511627776 < num (l.take 8)) = true ∧ life8 l = 0) ∨ (decide (1099511627776 < num (l.take 8)) = false ∧ life8 l = num (l.take 8)) := by
        unfold life8
        by_cases h : 1099511627776 < num (l.take 8)
        · left; exact ⟨decide_eq_true h, if_pos h⟩
        · right; exact ⟨decide_eq_false h, if_neg h⟩
      have hnb := num_bound 8 (l.take 8) (by simp; omega) (HR.out.take 8)
      have hn0 := hnb.1
      clear hlt hnb
      rcases key with ⟨q1, q2⟩ | ⟨q1, q2⟩
      · have HQ := Lib.hid q2; clear q2
        go_wp2
        go_ret
        exact ⟨by rw [HQ.out]; rfl, rfl⟩
      · have HQ := Lib.hid q2; clear q2
        have hn1 : num (l.take 8) ≤ 1099511627776 := by simpa using q1
        go_wp2
        go_ret
        exact ⟨by rw [HQ.out]; rfl, rfl⟩

/-- How many bytes of a record a block says to have. -/
def cnt (b : List Int) : Int := b.getD 8 0 * 256 + b.getD 9 0

def sizeB (b : List Int) : Bool := cnt b == 44 || (b.getD 10 0 == 1 && (decide (0 < cnt b) && decide (cnt b < 44)))

/-- Is a block good, behind one of a life, within a record or not? -/
def goodB (b : List Int) (least : Int) (within : Bool) : Bool :=
  decide (max least 1 ≤ life8 b) && (!within || life8 b == least) && (life8 b == life8 (b.drop 56)) && sizeB b && decide (b.getD 10 0 ≤ 1) && (b.getD 11 0 == 0)

theorem good_key (g1 g2 g3 g4 g5 g6 g7 r : Bool) (h : r = (g1 && (!g2 || g3) && g4 && g5 && g6 && g7)) :
    (g1 = false ∧ r = false) ∨ (g1 = true ∧ g2 = true ∧ g3 = false ∧ r = false) ∨ (g1 = true ∧ (g2 = false ∨ g2 = true ∧ g3 = true) ∧
      ((g4 = false ∧ r = false) ∨ (g4 = true ∧ g5 = false ∧ r = false) ∨ (g4 = true ∧ g5 = true ∧ g6 = false ∧ r = false) ∨ (g4 = true ∧ g5 = true ∧ g6 = true ∧ g7 = false ∧ r = false) ∨ (g4 = true ∧ g5 = true ∧ g6 = true ∧ g7 = true ∧ r = true))) := by
  subst h; cases g1 <;> cases g2 <;> cases g3 <;> cases g4 <;> cases g5 <;> cases g6 <;> cases g7 <;> simp

theorem size_key (n x : Int) (r : Bool) (h : r = (n == 44 || (x == 1 && (decide (0 < n) && decide (n < 44))))) :
    ((n == 44) = true ∧ r = true) ∨ ((n == 44) = false ∧ (x == 1) = false ∧ r = false) ∨ ((n == 44) = false ∧ (x == 1) = true ∧ decide (0 < n) = false ∧ r = false) ∨
      ((n == 44) = false ∧ (x == 1) = true ∧ decide (0 < n) = true ∧ decide (n < 44) = false ∧ r = false) ∨ ((n == 44) = false ∧ (x == 1) = true ∧ decide (0 < n) = true ∧ decide (n < 44) = true ∧ r = true) := by
  subst h; cases n == 44 <;> cases x == 1 <;> cases decide (0 < n) <;> cases decide (n < 44) <;> simp

set_option maxHeartbeats 4000000 in
theorem good_core (g off cap : Nat) (b8 b9 b10 b11 n li lt least m : Int) (within sz r : Bool) (w : World) (hcap : 64 ≤ cap) (hm : cap ≤ 9223372036854775807)
    (c8 : w.cell? ⟨g, off + 8, none⟩ = some (.int .u8 b8)) (c9 : w.cell? ⟨g, off + 9, none⟩ = some (.int .u8 b9)) (c10 : w.cell? ⟨g, off + 10, none⟩ = some (.int .u8 b10)) (c11 : w.cell? ⟨g, off + 11, none⟩ = some (.int .u8 b11))
    (r8 : 0 ≤ b8 ∧ b8 < 256) (r9 : 0 ≤ b9 ∧ b9 < 256) (hmx : max least 1 = m) (hor : bits BinOp.or IntKind.i64 (b8 * 256) b9 = n)
    (C1 : ∀ nq, Calls Try.prog 36 #[.slice (some ⟨g, off, none⟩) 64 cap] (w.drewN nq) fun e w' => e = .returned (.int .i64 li) ∧ w.drewN nq = w')
    (C2 : ∀ nq, Calls Try.prog 36 #[.slice (some ⟨g, off + 56, none⟩) 8 (cap - 56)] (w.drewN nq) fun e w' => e = .returned (.int .i64 lt) ∧ w.drewN nq = w')
    (k1 : (decide (m ≤ li) = false ∧ r = false) ∨ (decide (m ≤ li) = true ∧ within = true ∧ (li == least) = false ∧ r = false) ∨ (decide (m ≤ li) = true ∧ (within = false ∨ within = true ∧ (li == least) = true) ∧
      (((li == lt) = false ∧ r = false) ∨ ((li == lt) = true ∧ sz = false ∧ r = false) ∨ ((li == lt) = true ∧ sz = true ∧ decide (b10 ≤ 1) = false ∧ r = false) ∨ ((li == lt) = true ∧ sz = true ∧ decide (b10 ≤ 1) = true ∧ (b11 == 0) = false ∧ r = false) ∨
        ((li == lt) = true ∧ sz = true ∧ decide (b10 ≤ 1) = true ∧ (b11 == 0) = true ∧ r = true))))
    (k2 : ((n == 44) = true ∧ sz = true) ∨ ((n == 44) = false ∧ (b10 == 1) = false ∧ sz = false) ∨ ((n == 44) = false ∧ (b10 == 1) = true ∧ decide (0 < n) = false ∧ sz = false) ∨
      ((n == 44) = false ∧ (b10 == 1) = true ∧ decide (0 < n) = true ∧ decide (n < 44) = false ∧ sz = false) ∨ ((n == 44) = false ∧ (b10 == 1) = true ∧ decide (0 < n) = true ∧ decide (n < 44) = true ∧ sz = true)) :
    Calls Try.prog 37 #[.slice (some ⟨g, off, none⟩) 64 cap, .int .i64 least, .bool within] w fun e w' => e = .returned (.bool r) ∧ Upd [] w w' := by
  obtain ⟨r80, r81⟩ := r8
  obtain ⟨r90, r91⟩ := r9
  have x1 : (64 : Int) ≤ (cap : Int) := by omega
  have x2 : (cap : Int) ≤ 9223372036854775807 := by omega
  have H1 := Lib.hid C1
  have H2 := Lib.hid C2
  have K1 := Lib.hid k1
  have HM := Lib.hid hmx
  have K2 := Lib.hid k2
  clear C1 C2 k1 k2 hmx
  go_enter Try.func37, Try.ntmps37
  go_upto_region 1 with fail
  go_quiet ((go_at_call 36; exact quiet_eq (H1.out _)))
  go_upto_region 2 with fail
  go_cut [9] (fun v9 wx => v9 = .bool sz ∧ ∃ nq, wx = w.drewN nq)
  case first =>
    have k2 := K2.out
    rcases k2 with ⟨q1, rfl⟩ | ⟨q1, q2, rfl⟩ | ⟨q1, q2, q3, rfl⟩ | ⟨q1, q2, q3, q4, rfl⟩ | ⟨q1, q2, q3, q4, rfl⟩
    all_goals
      go_wp2_with fail
      go_meet
      exact ⟨rfl, _, rfl⟩
  case rest =>
    obtain ⟨rfl, nr, rfl⟩ := hcut
    have k1 := K1.out
    clear K1 K2
    rcases k1 with ⟨q1, rfl⟩ | ⟨q1, rfl, q3, rfl⟩ | ⟨q1, q2 | ⟨q2, q3⟩, k1⟩
    · go_wp2_with ((with_reducible show wpList _ _ _ (⟨some 40, _, _, _, _, _⟩ :: _) _ _); refine wpList_run rfl (exec_max (.tmp 39) (.const (.int .i64 1)) rfl rfl rfl) ?_; rw [HM.out])
      go_ret
      exact ⟨rfl, (Upd.refl _ _).drewN _⟩
    · go_wp2_with ((with_reducible show wpList _ _ _ (⟨some 40, _, _, _, _, _⟩ :: _) _ _); refine wpList_run rfl (exec_max (.tmp 39) (.const (.int .i64 1)) rfl rfl rfl) ?_; rw [HM.out])
      go_ret
      exact ⟨rfl, (Upd.refl _ _).drewN _⟩
    all_goals
      subst q2
      rcases k1 with ⟨q4, rfl⟩ | ⟨q4, rfl, rfl⟩ | ⟨q4, rfl, q6, rfl⟩ | ⟨q4, rfl, q6, q7, rfl⟩ | ⟨q4, rfl, q6, q7, rfl⟩
      all_goals
        go_wp2_with (first | ((with_reducible show wpList _ _ _ (⟨some 40, _, _, _, _, _⟩ :: _) _ _); refine wpList_run rfl (exec_max (.tmp 39) (.const (.int .i64 1)) rfl rfl rfl) ?_; rw [HM.out]) | (go_at_call 36; refine (H2.out nr).mono ?_; rintro e w1 ⟨rfl, rfl⟩))
        go_ret
        exact ⟨rfl, (Upd.refl _ _).drewN _⟩

theorem good_any (v : Value) (l : List Int) (least : Int) (within : Bool) (w : World) (h : BytesAt w v l) (hl : l.length = 64) (hr : U8L l) :
    Calls Try.prog 37 #[v, .int .i64 least, .bool within] w fun e w' => e = .returned (.bool (goodB l least within)) ∧ Upd [] w w' := by
  have h' := h
  obtain ⟨a, cap, rfl, hlc, hm, hb⟩ := h
  obtain ⟨g, off, rfl, hg, hc⟩ := hb (by intro e; rw [e] at hl; simp at hl)
  rw [hl] at h' ⊢
  have h1 : (l.drop 56).length = 8 := by simp; omega
  have ht : BytesAt w (.slice (some ⟨g, off + 56, none⟩) 8 (cap - 56)) (l.drop 56) := by
    refine ⟨_, _, by rw [h1], by omega, by omega, fun _ => ⟨g, off + 56, rfl, hg, fun i hi => ?_⟩⟩
    rw [Nat.add_assoc, hc (56 + i) (by omega)]
    congr 2
    rw [List.getD_eq_getElem?_getD, List.getD_eq_getElem?_getD, List.getElem?_drop]
  unfold maxLen at hm
  exact good_core g off cap _ _ _ _ (cnt l) (life8 l) (life8 (l.drop 56)) least (max least 1) within (sizeB l) (goodB l least within) w (by omega) (by omega) (hc 8 (by omega)) (hc 9 (by omega)) (hc 10 (by omega)) (hc 11 (by omega)) (hr.getD 8) (hr.getD 9) rfl
    (or_i64 _ _ (hr.getD 8).1 (hr.getD 8).2 (hr.getD 9).1 (hr.getD 9).2)
    (fun nq => life_any _ l _ (h'.upd0 ((Upd.refl _ _).drewN nq)) (by omega) hr) (fun nq => life_any _ (l.drop 56) _ (ht.upd0 ((Upd.refl _ _).drewN nq)) (by omega) (hr.drop 56))
    (good_key _ _ _ _ _ _ _ _ rfl) (size_key _ _ _ rfl)

end Go.Proofs.Ytfjmkdjbeoafjaa
