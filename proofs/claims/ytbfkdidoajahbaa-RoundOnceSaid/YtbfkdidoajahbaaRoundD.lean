/- The walk of the document's Order. -/
import Derived.Test.YtbfkdidoajahbaaRoundB
namespace Go.Proofs.Ytbfkdidoajahbaa.Round
open Go.ChangeShapes Go.WideShapes Go.ChangeAt Go.RowKit

set_option maxHeartbeats 400000 in
theorem ref_order_no (n me d : Int) (w : World) (h : n < 1 ∨ 9 < n ∨ me < 0 ∨ n ≤ me) :
    Calls Try.prog 9 #[.int .i64 n, .int .i64 me, .int .u64 d] w fun e w' => e = .returned (.tuple #[.slice none 0 0, .int .u64 d]) ∧ Upd [] w w' := by
  have key : (decide (n < 1) = true) ∨ (decide (n < 1) = false ∧ decide (9 < n) = true) ∨ (decide (n < 1) = false ∧ decide (9 < n) = false ∧ decide (me < 0) = true) ∨ (decide (n < 1) = false ∧ decide (9 < n) = false ∧ decide (me < 0) = false ∧ decide (n ≤ me) = true) := by
    simp only [decide_eq_true_eq, decide_eq_false_iff_not]; omega
  clear h
  rcases key with h1 | ⟨h1, h2⟩ | ⟨h1, h2, h3⟩ | ⟨h1, h2, h3, h4⟩
  all_goals
    go_enter Try.func9, Try.ntmps9
    go_wp2
    go_ret2
    exact ⟨rfl, Upd.refl _ _⟩

/-- The head of the document's shuffle. -/
def RShuf (w : World) (d : Int) (n me : Nat) (m : Int) (dd : Int) (v : Value) (wr : World) : Prop :=
  ∃ l, wr.ownsRow w.heap.size 3 1 v (n - 1) (ints l) ∧ l.length = n - 1 ∧ shuf m.toNat l dd = order n me d ∧ Upd [] w wr

theorem own_set {w : World} {base n : Nat} {l : List Int} {g cap : Nat} (h : w.ownsRow base 3 1 (.slice (some ⟨g, 0, none⟩) n cap) n (ints l)) (i : Nat) (x : Int) :
    (w.setCell ⟨g, i, none⟩ (.int .i64 x)).ownsRow base 3 1 (.slice (some ⟨g, 0, none⟩) n cap) n (ints (l.set i x)) := by
  obtain ⟨h1, h2⟩ := h
  rcases h2 with ⟨h, _⟩ | ⟨g', cap', cur, hv, hb, hg, hnc, hcm, hcs, htk⟩
  · cases h
  · simp only [Value.slice.injEq, Option.some.injEq, Addr.mk.injEq] at hv
    obtain ⟨⟨rfl, -⟩, -, rfl⟩ := hv
    rw [Nat.mul_one] at htk hcs
    refine ⟨by simpa using h1, .inr ⟨g, cap, cur.setIfInBounds i (.int .i64 x), rfl, hb, Blk.set hg i _, hnc, hcm, by simp [hcs], ?_⟩⟩
    rw [Nat.mul_one]; exact row_set htk i x

theorem own_get {w : World} {base n : Nat} {l : List Int} {g cap : Nat} (h : w.ownsRow base 3 1 (.slice (some ⟨g, 0, none⟩) n cap) n (ints l)) {i : Nat} (hi : i < n) :
    w.cell? ⟨g, i, none⟩ = some (.int .i64 (l.getD i 0)) ∧ w.frozen? ⟨g, i, none⟩ = false ∧ base ≤ g := by
  obtain ⟨h1, h2⟩ := h
  rcases h2 with ⟨h, _⟩ | ⟨g', cap', cur, hv, hb, hg, hnc, hcm, hcs, htk⟩
  · cases h
  · simp only [Value.slice.injEq, Option.some.injEq, Addr.mk.injEq] at hv
    obtain ⟨⟨rfl, -⟩, -, rfl⟩ := hv
    rw [Nat.mul_one] at htk
    exact ⟨Blk.cell hg (row_get htk (by simpa using h1) hi), Blk.free hg i, hb⟩

set_option maxHeartbeats 400000 in
theorem ref_order_yes (n me : Nat) (d : Int) (w : World) (h : valid n me) :
    Calls Try.prog 9 #[.int .i64 n, .int .i64 me, .int .u64 d] w fun e w' =>
      ∃ v, e = .returned (.tuple #[v, .int .u64 (order n me d).2]) ∧ w'.ownsRow w.heap.size 3 1 v (n - 1) (ints (order n me d).1) ∧ Upd [] w w' := by
  obtain ⟨h1, h2, h3, h4⟩ := h
  have g1 : decide ((n : Int) < 1) = false := by simp; omega
  have g2 : decide ((9 : Int) < n) = false := by simp; omega
  have g3 : decide ((me : Int) < 0) = false := by simp
  have g4 : decide (n ≤ me) = false := by simp; omega
  obtain ⟨i0, hi, hz0, hz1, hz2⟩ := info_parts info_int
  go_enter Try.func9, Try.ntmps9
  go_wp2
  go_loopw [8, 9] (fun v i wr => ∃ k : Nat, k ≤ n ∧ i = .int .i64 k ∧ wr.ownsRow w.heap.size 3 1 v (others k me).length (ints (others k me)) ∧ Upd [] w wr) (fun _ i _ => n - (intOf i).toNat)
  case atStart => exact ⟨0, Nat.zero_le _, rfl, World.ownsRow_nil _ _ _ _, Upd.refl _ _⟩
  case round =>
    obtain ⟨k, hk, rfl, ho, hu⟩ := hrel
    by_cases hkn : k < n
    · by_cases hme : k = me
      · subst hme
        have e1 : others (k + 1) k = others k k := by rw [others_succ]; simp
        have E1 := Lib.hid e1
        clear e1
        have g5 : ((k : Int) != k) = false := by simp
        go_wp2
        go_roundw
        case rel => exact ⟨k + 1, by omega, by go_num, by rw [E1.out]; exact ho, hu⟩
        case measure => simp [intOf]; omega
      · have e1 : others (k + 1) me = others k me ++ [(k : Int)] := by rw [others_succ, if_neg hme]
        have E1 := Lib.hid e1
        clear e1
        have g5 : ((k : Int) != me) = true := by simp; omega
        have hlen : (others k me).length ≤ k := by rw [others_len]; split <;> omega
        have HU := Lib.hid hu
        have HO := Lib.hid ho
        clear hu ho
        go_wp2_with (at_builtin; refine wpList_append_own _ rfl _ _ 24 rfl w.heap.size 3 i0 (.int .i64 0) 1 8 Try.underlying24 hi hz0 hz1 hz2 rfl (by decide) _ _ _ rfl (HO.out.alloc _) ⟨wr.heap.size, 0, none⟩ 1 1 [.int .i64 (k : Int)] rfl rfl ?c1 ?c2 ?c3 ?c4 ?c5 ?_)
        case c1 =>
          intro j u hj
          match j, hj with
          | 0, hj => simp at hj; subst hj; simp [Addr.add]
        case c2 => intro u hu; simp at hu; subst hu; rfl
        case c3 => unfold maxLen; omega
        case c4 => omega
        case c5 => have := HU.out.size; simp; omega
        intro v' w1 ho' hgr _
        obtain ⟨g', cap', rfl⟩ := own_form ho' (by omega)
        have HI := Lib.hid ho'
        have HU2 := Lib.hid ((HU.out.alloc _).grown hgr (fun k hk => .inr (by have := HO.out.lt k hk; omega)))
        clear hgr ho'
        go_wp2
        go_roundw
        case rel => exact ⟨k + 1, by omega, by go_num, by rw [E1.out]; simpa [ints] using HI.out, HU2.out⟩
        case measure => simp [intOf]; omega
    · obtain rfl : k = n := by omega
      have hlen : (others k me).length = k - 1 := by rw [others_len, if_pos (by omega)]
      rw [hlen] at ho
      obtain ⟨a, cap, rfl⟩ := own_slice ho
      have H0 := Lib.hid (show RShuf w d k me (((k - 1 : Nat) : Int) - 1) d _ wr from ⟨others k me, ho, hlen, by unfold order; rw [hlen]; congr 1; omega, hu⟩)
      clear hu ho
      go_wp2
      go_loopw [2, 10] (fun dv i wr => ∃ (m : Int) (dd : Int), -1 ≤ m ∧ m + 1 ≤ (k - 1 : Nat) ∧ dv = .int .u64 dd ∧ i = .int .i64 m ∧ RShuf w d k me m dd (.slice a (k - 1) cap) wr) (fun _ i _ => (intOf i).toNat)
      case atStart => exact ⟨_, _, by omega, by omega, rfl, rfl, H0.out⟩
      case round =>
        obtain ⟨m, dd, hm0, hm1, rfl, rfl, l, ho, hl, hsh, hu⟩ := hrel
        by_cases hm : 0 < m
        · obtain ⟨i, rfl⟩ : ∃ i : Nat, m = (i : Int) := ⟨m.toNat, by omega⟩
          rcases ho.2 with ⟨h0, hz⟩ | ⟨g, cap', cur, h0, hgb, -⟩
          · omega
          simp only [Value.slice.injEq] at h0
          obtain ⟨rfl, -, rfl⟩ := h0
          obtain ⟨j, hj⟩ : ∃ j, j = jOf dd i := ⟨_, rfl⟩
          have hj1 : j ≤ i := hj ▸ jOf_le dd i
          have hd := drawP_wf dd
          have hjj : drawP dd / 8589934592 % ((i : Int) + 1) = (j : Int) := hj ▸ jOf_cast dd i
          have hjt : (drawP dd / 8589934592).tmod ((i : Int) + 1) = (j : Int) := by
            rw [Int.tmod_eq_emod_of_nonneg (by omega)]; exact hjj
          obtain ⟨ca, fa, -⟩ := own_get ho (show i < k - 1 by omega)
          obtain ⟨cb, fb, -⟩ := own_get ho (show j < k - 1 by omega)
          have ho2 := own_set ho i (l.getD j 0)
          have ho3 := own_set ho2 j (l.getD i 0)
          obtain ⟨cb2, fb2, -⟩ := own_get ho2 (show j < k - 1 by omega)
          have hI : RShuf w d k me ((i : Int) - 1) (drawP dd) (.slice (some ⟨g, 0, none⟩) (k - 1) cap) ((wr.setCell ⟨g, i, none⟩ (.int .i64 (l.getD j 0))).setCell ⟨g, j, none⟩ (.int .i64 (l.getD i 0))) := by
            refine ⟨swapL l i (jOf dd i), ?_, by rw [swapL_len]; exact hl, ?_, ?_⟩
            · rw [← hj]; exact ho3
            · rw [Int.toNat_natCast, shuf_step (by omega)] at hsh
              rw [← hsh]; congr 1; omega
            · exact (hu.setCell (.inr hgb) _).setCell (.inr hgb) _
          have HI := Lib.hid hI
          obtain ⟨x, hx⟩ : ∃ x, x = l.getD i 0 := ⟨_, rfl⟩
          obtain ⟨y, hy⟩ : ∃ y, y = l.getD j 0 := ⟨_, rfl⟩
          rw [← hx] at ca HI
          rw [← hy] at cb cb2 HI
          clear ho hl hsh hu hI ho2 ho3 H0 hj hjj hx hy
          go_wp2_with (go_at_call 12; refine (ref_draw_any _ _).mono ?_; rintro e w' ⟨rfl, rfl⟩)
          go_roundw
          case rel => exact ⟨(i : Int) - 1, _, by omega, by omega, rfl, rfl, HI.out⟩
          case measure => simp [intOf]; omega
        · have e1 : order k me d = (l, dd) := by rw [← hsh, show m.toNat = 0 by omega]; rfl
          have E1 := Lib.hid e1
          have HO := Lib.hid ho
          have Hu := Lib.hid hu
          clear e1 ho hu hl hsh H0
          go_wp2
          go_ret2
          refine ⟨.slice a (k - 1) cap, ?_, ?_, Hu.out⟩
          · rw [E1.out]; rfl
          · rw [E1.out]; exact HO.out

end Go.Proofs.Ytbfkdidoajahbaa.Round
