/- The walk of round.Order. -/
import Derived.Test.YtbfkdidoajahbaaRoundA
import Derived.RegionTactic
namespace Go.Proofs.Ytbfkdidoajahbaa.Round
open Go.ChangeShapes Go.WideShapes Go.ChangeAt Go.RowKit

theorem info_int : (Try.prog.info? 3).map (fun i => (i.zero, i.size, i.bytes)) = some (some (.int .i64 0), 1, 8) := by kernel_rfl

set_option maxHeartbeats 400000 in
theorem order_no (n me d : Int) (w : World) (h : n < 1 ∨ 9 < n ∨ me < 0 ∨ n ≤ me) :
    Calls Try.prog 8 #[.int .i64 n, .int .i64 me, .int .u64 d] w fun e w' => e = .returned (.tuple #[.slice none 0 0, .int .u64 d]) ∧ Upd [] w w' := by
  have hz : ∃ b : Bool, b = true := ⟨true, rfl⟩
  have key : (decide (n < 1) = true) ∨ (decide (n < 1) = false ∧ decide (9 < n) = true) ∨ (decide (n < 1) = false ∧ decide (9 < n) = false ∧ decide (me < 0) = true) ∨ (decide (n < 1) = false ∧ decide (9 < n) = false ∧ decide (me < 0) = false ∧ decide (n ≤ me) = true) := by
    simp only [decide_eq_true_eq, decide_eq_false_iff_not]; omega
  clear h hz
  rcases key with h1 | ⟨h1, h2⟩ | ⟨h1, h2, h3⟩ | ⟨h1, h2, h3, h4⟩
  all_goals
    go_enter Try.func8, Try.ntmps8
    go_wp2
    go_region
    all_goals go_wp2
    all_goals (refine bodyPost_ret (v := .tuple #[.slice none 0 0, .int .u64 d]) (by simp [results, Try.results8, go_sem]) rfl ⟨rfl, ?_⟩)
    all_goals exact (((Upd.refl _ _).alloc _).alloc _).drew

/-- What a loop's head finds: the captured draw, the captured list, all else as it was. -/
def Inv (w : World) (d : Int) (l : List Int) (wr : World) : Prop :=
  ∃ v, Blk wr (w.heap.size + 1) #[v] 24 ∧ wr.ownsRow (w.heap.size + 2) 3 1 v l.length (ints l) ∧ Blk wr w.heap.size #[.int .u64 d] 22 ∧ Upd [] w wr

theorem inv_start (w : World) (d : Int) : Inv w d [] ((w.alloc (.cells #[.int .u64 d] 22)).alloc (.cells #[.slice none 0 0] 24)) := by
  refine ⟨.slice none 0 0, ?_, World.ownsRow_nil _ _ _ _, ?_, ((Upd.refl _ _).alloc _).alloc _⟩
  · have := Blk.new (w.alloc (.cells #[.int .u64 d] 22)) #[.slice none 0 0] 24
    simpa using this
  · exact (Blk.new w _ _).alloc _

theorem inv_push {w wr w1 : World} {d x : Int} {l : List Int} {v v' : Value} (hu : Upd [] w wr) (hL : Blk wr (w.heap.size + 1) #[v] 24) (hD : Blk wr w.heap.size #[.int .u64 d] 22)
    (ho : wr.ownsRow (w.heap.size + 2) 3 1 v l.length (ints l))
    (ho' : w1.ownsRow (w.heap.size + 2) 3 1 v' (l.length + 1) (ints l ++ [.int .i64 x])) (hg : (wr.alloc (.cells #[.int .i64 x] 3)).grownBy w1 v.ownBlock) :
    w1.cell? ⟨w.heap.size + 1, 0, none⟩ = some v ∧ w1.frozen? ⟨w.heap.size + 1, 0, none⟩ = false ∧ Inv w d (l ++ [x]) (w1.setCell ⟨w.heap.size + 1, 0, none⟩ v') := by
  have hn : ∀ k, v.ownBlock = some k → w.heap.size + 2 ≤ k := fun k hk => (ho.lt k hk).1
  have hL1 : Blk w1 (w.heap.size + 1) #[v] 24 := (hL.alloc _).grown hg (fun e => by have := hn _ e.symm; omega)
  have hD1 : Blk w1 w.heap.size #[.int .u64 d] 22 := (hD.alloc _).grown hg (fun e => by have := hn _ e.symm; omega)
  refine ⟨hL1.cell rfl, hL1.free 0, v', hL1.set 0 _, ?_, hD1.set_other (by simp) _, ?_⟩
  · have h1 : (l ++ [x]).length = l.length + 1 := by simp
    have h2 : ints (l ++ [x]) = ints l ++ [.int .i64 x] := by simp [ints]
    rw [h1, h2]
    exact ownsRow_setCell_other ho' (fun e => by have := (ho'.lt _ e).1; simp at this) _
  · refine ((hu.alloc _).grown hg (fun k hk => .inr (by have := hn k hk; omega))).setCell (.inr (by simp)) _

/-- The head of the shuffle's loop. -/
def Shuf (w : World) (d : Int) (n me : Nat) (m : Int) (wr : World) : Prop :=
  ∃ l dd v, Blk wr (w.heap.size + 1) #[v] 24 ∧ wr.ownsRow (w.heap.size + 2) 3 1 v (n - 1) (ints l) ∧ Blk wr w.heap.size #[.int .u64 dd] 22 ∧ l.length = n - 1 ∧
    shuf m.toNat l dd = order n me d ∧ Upd [] w wr

set_option maxHeartbeats 400000 in
theorem order_yes (n me : Nat) (d : Int) (w : World) (h : valid n me) :
    Calls Try.prog 8 #[.int .i64 n, .int .i64 me, .int .u64 d] w fun e w' =>
      ∃ v, e = .returned (.tuple #[v, .int .u64 (order n me d).2]) ∧ w'.ownsRow (w.heap.size + 2) 3 1 v (n - 1) (ints (order n me d).1) ∧ Upd [] w w' := by
  obtain ⟨h1, h2, h3, h4⟩ := h
  have g1 : decide ((n : Int) < 1) = false := by simp; omega
  have g2 : decide ((9 : Int) < n) = false := by simp; omega
  have g3 : decide ((me : Int) < 0) = false := by simp
  have g4 : decide (n ≤ me) = false := by simp; omega
  obtain ⟨i0, hi, hz0, hz1, hz2⟩ := info_parts info_int
  have hmf : ∀ (fn : Fn) (first cap : Array Value) (w : World), (Instr.makeFunc fn first cap).run Try.prog w = .ok (.func fn first cap) w := fun _ _ _ _ => rfl
  have S0 := Lib.hid (inv_start w d)
  go_enter Try.func8, Try.ntmps8
  go_wp2
  go_loopw [28] (fun i wr => ∃ k : Nat, k ≤ n ∧ i = .int .i64 k ∧ Inv w d (others k me) wr) (fun i _ => n - (intOf i).toNat)
  case atStart => exact ⟨0, Nat.zero_le _, rfl, S0.out⟩
  case round =>
    obtain ⟨k, hk, rfl, v, hL, ho, hD, hu⟩ := hrel
    have cL := hL.cell (o := 0) rfl
    have fL := hL.free 0
    by_cases hkn : k < n
    · by_cases hme : k = me
      · subst hme
        have e1 : others (k + 1) k = others k k := by rw [others_succ]; simp
        have E1 := Lib.hid e1
        clear e1
        have g5 : ((k : Int) != k) = false := by simp
        go_wp2
        go_roundw
        case rel => exact ⟨k + 1, by omega, by go_num, by rw [E1.out]; exact ⟨v, hL, ho, hD, hu⟩⟩
        case measure => simp [intOf]; omega
      · have e1 : others (k + 1) me = others k me ++ [(k : Int)] := by rw [others_succ, if_neg hme]
        have E1 := Lib.hid e1
        clear e1
        have g5 : ((k : Int) != me) = true := by simp; omega
        have hlen : (others k me).length ≤ k := by rw [others_len]; split <;> omega
        have HL := Lib.hid hL
        have HD := Lib.hid hD
        have HU := Lib.hid hu
        have HO := Lib.hid ho
        clear hL hD hu ho
        go_wp2_with (at_builtin; refine wpList_append_own _ rfl _ _ 24 rfl (w.heap.size + 2) 3 i0 (.int .i64 0) 1 8 Try.underlying24 hi hz0 hz1 hz2 rfl (by decide) _ _ _ rfl (HO.out.alloc _) ⟨wr.heap.size, 0, none⟩ 1 1 [.int .i64 (k : Int)] rfl rfl ?c1 ?c2 ?c3 ?c4 ?c5 ?_)
        case c1 =>
          intro j u hj
          match j, hj with
          | 0, hj => simp at hj; subst hj; simp [Addr.add]
        case c2 => intro u hu; simp at hu; subst hu; rfl
        case c3 => unfold maxLen; omega
        case c4 => omega
        case c5 => have := HD.out.lt; have := HL.out.lt; simp; omega
        intro v' w1 ho' hgr _
        obtain ⟨g', cap', rfl⟩ := own_form ho' (by omega)
        obtain ⟨cL1, fL1, hinv⟩ := inv_push HU.out HL.out HD.out HO.out ho' hgr
        have HI := Lib.hid hinv
        clear hgr ho' hinv
        go_wp2
        go_roundw
        case rel => exact ⟨k + 1, by omega, by go_num, by rw [E1.out]; exact HI.out⟩
        case measure => simp [intOf]; omega
    · obtain rfl : k = n := by omega
      have hlen : (others k me).length = k - 1 := by rw [others_len, if_pos (by omega)]
      obtain ⟨a, cap, rfl⟩ := own_slice ho
      have I0 : Shuf w d k me (((k - 1 : Nat) : Int) - 1) wr := ⟨others k me, d, .slice a (others k me).length cap, hL, hlen ▸ ho, hD, hlen, by unfold order; rw [hlen]; congr 1; omega, hu⟩
      have H0 := Lib.hid I0
      rw [hlen] at cL
      clear hL hD hu ho I0
      go_wp2
      go_loopw [10] (fun i wr => ∃ m : Int, -1 ≤ m ∧ m + 1 ≤ (k - 1 : Nat) ∧ i = .int .i64 m ∧ Shuf w d k me m wr) (fun i _ => (intOf i).toNat)
      case atStart => exact ⟨_, by omega, by omega, rfl, H0.out⟩
      case round =>
        obtain ⟨m, hm0, hm1, rfl, l, dd, v, hL, ho, hD, hl, hsh, hu⟩ := hrel
        by_cases hm : 0 < m
        · obtain ⟨i, rfl⟩ : ∃ i : Nat, m = (i : Int) := ⟨m.toNat, by omega⟩
          rcases ho.2 with ⟨rfl, hz⟩ | ⟨g, cap', cur, rfl, hgb, hg, hnc, hcm, hcs, htk⟩
          · omega
          rw [Nat.mul_one] at htk hcs
          have HL := Lib.hid hL
          have HO := Lib.hid ho
          have HD := Lib.hid hD
          have Hl := Lib.hid hl
          have Hs := Lib.hid hsh
          have Hu := Lib.hid hu
          have Hg := Lib.hid (show Blk wr g cur 3 from hg)
          have Htk := Lib.hid htk
          have Hcs := Lib.hid hcs
          clear hL ho hD hl hsh hu hg htk hcs H0 cL fL
          go_wp2_with fail
          refine (swap_any w.heap.size (w.heap.size + 1) g (k - 1) cap' i dd l cur wr (by omega) (by omega) (by omega) HD.out HL.out Hg.out Htk.out Hl.out (by omega) (by omega)).mono ?_
          rintro e w1 ⟨rfl, hD1, ⟨cur1, hg1, ht1, hs1⟩, hu1⟩
          have hL1 := HL.out.upd hu1 (by simp; omega)
          have hI : Shuf w d k me ((i : Int) - 1) w1 := by
            refine ⟨swapL l i (jOf dd i), _, _, hL1, ⟨by simp [swapL_len, Hl.out], .inr ⟨g, cap', cur1, rfl, hgb, hg1, hnc, hcm, by rw [hs1, Nat.mul_one]; exact Hcs.out, by rw [Nat.mul_one]; exact ht1⟩⟩, hD1, by rw [swapL_len]; exact Hl.out, ?_, Hu.out.then hu1 ?_⟩
            · have h1 := Hs.out
              rw [Int.toNat_natCast, shuf_step (by omega)] at h1
              rw [← h1]; congr 1; omega
            · intro x hx; simp at hx; omega
          have HI := Lib.hid hI
          clear hD1 hg1 ht1 hs1 hu1 hL1 hI
          go_wp2
          go_roundw
          case rel => exact ⟨(i : Int) - 1, by omega, by omega, rfl, HI.out⟩
          case measure => simp [intOf]; omega
        · have cD := hD.cell (o := 0) rfl
          have cL := hL.cell (o := 0) rfl
          have fL := hL.free 0
          have e1 : order k me d = (l, dd) := by rw [← hsh, show m.toNat = 0 by omega]; rfl
          obtain ⟨a, cap, rfl⟩ := own_slice ho
          have E1 := Lib.hid e1
          have HO := Lib.hid ho
          have Hu := Lib.hid hu
          have cL2 := (hL.set 0 (.slice a (k - 1) cap)).cell (o := 0) (v := .slice a (k - 1) cap) rfl
          clear e1 ho hu hL hD hl hsh H0
          go_wp2
          go_region
          all_goals go_wp2
          all_goals refine bodyPost_ret (v := .tuple #[.slice a (k - 1) cap, .int .u64 dd]) (by simp [results, Try.results8, go_sem, cL2]) rfl ?_
          all_goals refine ⟨.slice a (k - 1) cap, ?_, ?_, ?_⟩
          · rw [E1.out]
          · rw [E1.out]
            exact ownsRow_setCell_other HO.out (fun e => by have := (HO.out.lt _ e).1; simp at this) _
          · exact (Hu.out.setCell (.inr (by simp)) _).drew

end Go.Proofs.Ytbfkdidoajahbaa.Round
