/- The walk of RoundOnce. -/
import Derived.Test.YtbfkdidoajahbaaRoundF
namespace Go.Proofs.Ytbfkdidoajahbaa
open Go.ChangeShapes Go.WideShapes Go.ChangeAt Go.RowKit Round

/-- A row of nine bools: who was met among the first k. -/
def Met (cur : Array Value) (l : List Int) (k : Nat) : Prop := ∀ x : Nat, x < 9 → cur[x]? = some (.bool (decide ((x : Int) ∈ l.take k)))

theorem met_set {cur : Array Value} {l : List Int} {k : Nat} (h : Met cur l k) (hk : k < l.length) (h0 : 0 ≤ l.getD k 0) : Met (cur.setIfInBounds (l.getD k 0).toNat (.bool true)) l (k + 1) := by
  intro x hx
  have e : l.getD k 0 = l[k] := by simp [List.getD_eq_getElem?_getD, hk]
  have ht : ∀ y : Int, y ∈ l.take (k + 1) ↔ y ∈ l.take k ∨ y = l[k] := fun y => by
    rw [List.take_succ_eq_append_getElem hk, List.mem_append, List.mem_singleton]
  rw [Array.getElem?_setIfInBounds]
  split
  · rename_i hxe
    have hlt : x < cur.size := (Array.getElem?_eq_some_iff.1 (h x hx)).1
    rw [if_pos (by omega)]
    have : (x : Int) = l[k] := by omega
    rw [decide_eq_true ((ht _).2 (.inr this))]
  · rename_i hxe
    rw [h x hx]
    have hne : (x : Int) ≠ l[k] := by omega
    have : ((x : Int) ∈ l.take (k + 1)) ↔ (x : Int) ∈ l.take k := by rw [ht]; exact ⟨fun h => h.resolve_right hne, .inl⟩
    simp only [this]

set_option maxHeartbeats 400000 in
theorem RoundOnce.walk (n me d : Int) (w : World) (_ : (Lit.int .i64 n).wf = true) (_ : (Lit.int .i64 me).wf = true) (_ : (Lit.int .u64 d).wf = true) :
    Calls Try.prog 4 #[.int .i64 n, .int .i64 me, .int .u64 d] w fun e w' => e = .returned (.bool true) ∧ Below w.heap.size w w' := by
  have O1 := Lib.hid (order_any n me d)
  by_cases hv : 1 ≤ n ∧ n ≤ 9 ∧ 0 ≤ me ∧ me < n
  · have e1 : orderZ n me d = order n.toNat me.toNat d := by unfold orderZ; rw [if_pos hv]
    have hlen : (order n.toNat me.toNat d).1.length = n.toNat - 1 := order_len (by omega) d
    have hperm := order_perm n.toNat me.toNat d
    obtain ⟨l, hl⟩ : ∃ l, l = (order n.toNat me.toNat d).1 := ⟨_, rfl⟩
    obtain ⟨dd, hdd⟩ : ∃ l, l = (order n.toNat me.toNat d).2 := ⟨_, rfl⟩
    rw [e1, ← hl, ← hdd] at O1
    rw [← hl] at hlen hperm
    have hnd : l.Nodup := hperm.nodup_iff.2 (others_nodup _ _)
    have hmem : ∀ x ∈ l, 0 ≤ x ∧ x < n ∧ x ≠ me := fun x hx => by
      have := others_mem.1 (hperm.mem_iff.1 hx); omega
    have Hm := Lib.hid hmem
    have Hn := Lib.hid hnd
    have hlz : (l.length : Int) = n - 1 := by omega
    have Hlz := Lib.hid hlz
    have hle : (l.length : Int) ≤ 8 := by omega
    have hle' : (l.length : Int) ≤ n - 1 := by omega
    have hge' : n - 1 ≤ (l.length : Int) := by omega
    clear e1 hlen hperm hl hdd hmem hnd hlz
    obtain ⟨h1, h2, h3, h4⟩ := hv
    have g1 : decide (n < 1) = false := by simp; omega
    have g2 : decide (9 < n) = false := by simp; omega
    have g3 : decide (me < 0) = false := by simp; omega
    have g4 : decide (n ≤ me) = false := by simp; omega
    have g5 : ((l.length : Int) == n - 1) = true := by simp; omega
    go_enter Try.func4, Try.ntmps4
    go_wp2_with fail
    refine (awake_any _).mono ?_
    rintro e w1 ⟨rfl, hu1⟩
    go_wp2_with fail
    refine (O1.out _).mono ?_
    rintro e w2 ⟨a, cap, rfl, hi, hu2⟩
    have Hu := Lib.hid (hu1.trans hu2)
    have HI := Lib.hid hi
    clear hu1 hu2 hi
    go_wp2
    go_loopw [11] (fun i wr => ∃ k : Nat, k ≤ l.length ∧ i = .int .i64 k ∧ (∃ cur, Blk wr w2.heap.size cur 31 ∧ Met cur l k) ∧ Upd [] w2 wr) (fun i _ => l.length - (intOf i).toNat)
    case atStart =>
      refine ⟨0, Nat.zero_le _, rfl, ⟨_, Blk.new _ _ _, ?_⟩, (Upd.refl _ _).alloc _⟩
      intro x hx
      rcases x with _ | _ | _ | _ | _ | _ | _ | _ | _ | x <;> first | rfl | omega
    case round =>
      obtain ⟨k, hk, rfl, ⟨cur, hc, hmet⟩, hu⟩ := hrel
      by_cases hkl : k < l.length
      · obtain ⟨_, _, hs, -, hcell⟩ := HI.out.upd0 hu
        obtain ⟨g, off, rfl, -, hcell⟩ := hcell (fun e => by rw [e] at hkl; simp at hkl)
        simp only [Value.slice.injEq] at hs
        obtain ⟨rfl, -, -⟩ := hs
        have c1 := hcell k hkl
        clear hcell
        have ex : l.getD k 0 = l[k] := by simp [List.getD_eq_getElem?_getD, hkl]
        have hx := Hm.out l[k] (List.getElem_mem hkl)
        have hnew : ((l[k].toNat : Nat) : Int) ∉ l.take k := by
          intro hin
          rw [show ((l[k].toNat : Nat) : Int) = l[k] by omega] at hin
          obtain ⟨j, hj, e⟩ := List.getElem_of_mem hin
          rw [List.getElem_take] at e
          rw [List.length_take] at hj
          exact List.pairwise_iff_getElem.1 Hn.out j k (by omega) hkl (by omega) e
        have hb := hmet l[k].toNat (by omega)
        rw [decide_eq_false hnew] at hb
        have hms := met_set hmet hkl (by rw [ex]; omega)
        rw [ex] at c1 hms
        obtain ⟨x, hxx⟩ : ∃ x, x = l[k] := ⟨_, rfl⟩
        rw [← hxx] at c1 hx hb hms
        clear hnew ex hxx
        obtain ⟨hx0, hxn, hxm⟩ := hx
        have hx9 : x < 9 := by omega
        have q1 : decide (x < 0) = false := by simp; omega
        have q2 : decide (n ≤ x) = false := by simp; omega
        have q3 : (x == me) = false := by simp; omega
        have c2 := hc.cell hb
        have f2 := hc.free x.toNat
        have HS := Lib.hid (hc.set x.toNat (.bool true))
        have HM := Lib.hid hms
        have HU := Lib.hid (hu.setCell (p := ⟨w2.heap.size, x.toNat, none⟩) (.inr (Nat.le_refl _)) (.bool true))
        clear hmet hb hms hc hu hxm
        go_wp2
        go_roundw
        case rel => exact ⟨k + 1, by omega, by go_num, ⟨_, HS.out, HM.out⟩, HU.out⟩
        case measure => simp [intOf]; omega
      · have HU := Lib.hid hu
        clear hu hmet hc
        go_wp2
        go_ret
        exact ⟨rfl, (Hu.out.then HU.out (by simp)).toBelow⟩
  · have e1 : orderZ n me d = ([], d) := by unfold orderZ; rw [if_neg hv]
    rw [e1] at O1
    have key : (decide (n < 1) = true) ∨ (decide (n < 1) = false ∧ decide (9 < n) = true) ∨ (decide (n < 1) = false ∧ decide (9 < n) = false ∧ decide (me < 0) = true) ∨ (decide (n < 1) = false ∧ decide (9 < n) = false ∧ decide (me < 0) = false ∧ decide (n ≤ me) = true) := by
      simp only [decide_eq_true_eq, decide_eq_false_iff_not]; omega
    clear hv e1
    rcases key with h1 | ⟨h1, h2⟩ | ⟨h1, h2, h3⟩ | ⟨h1, h2, h3, h4⟩
    all_goals
      have g : (d == d) = true := by simp
      go_enter Try.func4, Try.ntmps4
      go_wp2_with fail
      refine (awake_any _).mono ?_
      rintro e w1 ⟨rfl, hu1⟩
      go_wp2_with fail
      refine (O1.out _).mono ?_
      rintro e w2 ⟨a, cap, rfl, hi, hu2⟩
      clear hi
      go_wp2
      go_ret
      exact ⟨rfl, (hu1.trans hu2).toBelow⟩

end Go.Proofs.Ytbfkdidoajahbaa
