/- The walk of fact.Check. -/
import Derived.Test.YtbdmnmjdnfpfbaaLatB
namespace Go.Proofs.Ytbdmnmjdnfpfbaa
open Go.ChangeShapes Go.WideShapes Go.ChangeAt Go.RowKit

/-- What does not hang on the kind. -/
def FK.ok0 (nodes : Int) (f : FK) : Bool := decide (1 ≤ nodes) && decide (nodes ≤ 9) && decide (0 ≤ f.node) && decide (f.node < nodes) && decide (0 < (ofN f.epoch).2) && decide ((ofN f.epoch).1 < nodes)

def FK.chk (nodes : Int) (f : FK) : Int := if f.ok nodes = true then 0 else 100

theorem ok0_key (a b c d e g r : Bool) (h : r = (a && b && c && d && e && g)) : (a = false ∧ r = false) ∨ (a = true ∧ b = false ∧ r = false) ∨ (a = true ∧ b = true ∧ c = false ∧ r = false) ∨ (a = true ∧ b = true ∧ c = true ∧ d = false ∧ r = false) ∨
    (a = true ∧ b = true ∧ c = true ∧ d = true ∧ e = false ∧ r = false) ∨ (a = true ∧ b = true ∧ c = true ∧ d = true ∧ e = true ∧ g = false ∧ r = false) ∨ (a = true ∧ b = true ∧ c = true ∧ d = true ∧ e = true ∧ g = true ∧ r = true) := by
  subst h; cases a <;> cases b <;> cases c <;> cases d <;> cases e <;> cases g <;> simp

theorem ok_key (nodes : Int) (f : FK) : (f.kind = 1 ∧ ((f.ok0 nodes = false ∧ f.chk nodes = 100) ∨ (f.ok0 nodes = true ∧ (f.node == (ofN f.epoch).1) = false ∧ f.chk nodes = 100) ∨ (f.ok0 nodes = true ∧ (f.node == (ofN f.epoch).1) = true ∧ f.manCode = 50 ∧ f.chk nodes = 100) ∨ (f.ok0 nodes = true ∧ (f.node == (ofN f.epoch).1) = true ∧ f.manCode = 0 ∧ f.chk nodes = 0))) ∨
    ((f.kind = 2 ∨ f.kind = 3) ∧ ((f.ok0 nodes = false ∧ f.chk nodes = 100) ∨ (f.ok0 nodes = true ∧ f.none = false ∧ f.chk nodes = 100) ∨ (f.ok0 nodes = true ∧ f.none = true ∧ f.chk nodes = 0))) ∨
    ((f.kind == 1) = false ∧ (f.kind == 2) = false ∧ (f.kind == 3) = false ∧ f.chk nodes = 100) := by
  unfold FK.chk FK.ok FK.manCode
  have e : (decide (1 ≤ nodes) && decide (nodes ≤ 9) && decide (0 ≤ f.node) && decide (f.node < nodes) && decide (0 < (ofN f.epoch).2) && decide ((ofN f.epoch).1 < nodes)) = f.ok0 nodes := rfl
  rw [e]
  by_cases h1 : f.kind = 1
  · left
    refine ⟨h1, ?_⟩
    cases f.ok0 nodes <;> by_cases h2 : f.node = (ofN f.epoch).1 <;> cases f.manOk <;> simp [h1, h2]
  · right
    by_cases h2 : f.kind = 2 ∨ f.kind = 3
    · left
      refine ⟨h2, ?_⟩
      cases f.ok0 nodes <;> cases f.none <;> simp [h1, h2]
    · right
      rw [not_or] at h2
      simp [h1, h2.1, h2.2]

set_option maxHeartbeats 2000000 in
theorem check_any (nodes : Int) (f : FK) (T : List Nat) (cv : Value) (w : World) (hf : f.WF) (hc : ChunksAt w T cv f.chunks) :
    Calls Try.prog 20 #[.int .i64 nodes, .agg (encF f cv).toArray] w fun x w' => x = .returned (.int .i64 (f.chk nodes)) ∧ Upd [] w w' := by
  have k0 := ok0_key _ _ _ _ _ _ (f.ok0 nodes) rfl
  have k1 := ok_key nodes f
  have HOF := Lib.hid (fun w => of_any f.epoch w)
  have HMC := Lib.hid (fun w h => mcheck_any f T cv w hf h)
  have HNO := Lib.hid (fun w h => none_any f T cv w hf h)
  obtain ⟨nd, hnd⟩ : ∃ x, x = (ofN f.epoch).1 := ⟨_, rfl⟩
  obtain ⟨nn, hnn⟩ : ∃ x, x = (ofN f.epoch).2 := ⟨_, rfl⟩
  obtain ⟨ok, hok⟩ : ∃ x, x = f.ok0 nodes := ⟨_, rfl⟩
  obtain ⟨ck, hck⟩ : ∃ x, x = f.chk nodes := ⟨_, rfl⟩
  obtain ⟨mc, hmc⟩ : ∃ x, x = f.manCode := ⟨_, rfl⟩
  obtain ⟨no, hno⟩ : ∃ x, x = f.none := ⟨_, rfl⟩
  rw [← hnd, ← hnn] at HOF
  rw [← hmc] at HMC
  rw [← hno] at HNO
  rw [← hnd, ← hnn, ← hok] at k0
  rw [← hnd, ← hok, ← hck, ← hmc, ← hno] at k1
  rw [← hck]
  have HC0 := Lib.hid hc
  obtain ⟨ca, cc, rfl⟩ := hc.form
  obtain ⟨w1, hw1⟩ : ∃ w1, w1 = w.alloc (.cells (encF f (.slice ca f.chunks.length cc)).toArray 31) := ⟨_, rfl⟩
  obtain ⟨hb, hu⟩ := boxed w (encF f (.slice ca f.chunks.length cc)).toArray 31
  rw [← hw1] at hb hu
  have c0 : w1.cell? ⟨w.heap.size, 0, none⟩ = some (.int .i64 f.kind) := hb.cell (o := 0) rfl
  have c1 : w1.cell? ⟨w.heap.size, 1, none⟩ = some (.int .i64 f.epoch) := hb.cell (o := 1) rfl
  have c2 : w1.cell? ⟨w.heap.size, 2, none⟩ = some (.int .i64 f.node) := hb.cell (o := 2) rfl
  have HM := Lib.hid ((CellsAt.of_blk hb).man hf)
  have HCH := Lib.hid (HC0.out.upd0 hu)
  have HF := Lib.hid hf
  have HU := Lib.hid hu
  have HW := Lib.hid hw1
  have K0 := Lib.hid k0
  have K1 := Lib.hid k1
  clear hw1 hb hu hf hc hnd hnn hok hck hmc hno k0 k1
  go_enter Try.func20, Try.ntmps20
  go_upto_region 1 with fail
  rw [← HW.out]
  go_upto_region 2 with (go_at_call 37; refine (HOF.out _).mono ?_; rintro e w2 ⟨rfl, rfl⟩)
  go_cut [7] (fun v7 wx => v7 = .bool ok ∧ wx = w1)
  case first =>
    have k0 := K0.out
    clear K0 K1
    rcases k0 with ⟨g1, rfl⟩ | ⟨g1, g2, rfl⟩ | ⟨g1, g2, g3, rfl⟩ | ⟨g1, g2, g3, g4, rfl⟩ | ⟨g1, g2, g3, g4, g5, rfl⟩ | ⟨g1, g2, g3, g4, g5, g6, rfl⟩ | ⟨g1, g2, g3, g4, g5, g6, rfl⟩
    all_goals
      go_wp2_with fail
      go_meet
      exact ⟨rfl, rfl⟩
  case rest =>
    obtain ⟨rfl, rfl⟩ := hcut
    have k1 := K1.out
    clear K0 K1
    rcases k1 with ⟨hk, k1⟩ | ⟨hk, k1⟩ | ⟨q1, q2, q3, rfl⟩
    · rw [hk] at c0
      clear hk
      rcases k1 with ⟨rfl, rfl⟩ | ⟨rfl, q2, rfl⟩ | ⟨rfl, q2, rfl, rfl⟩ | ⟨rfl, q2, rfl, rfl⟩
      all_goals
        go_wp2_with (first
          | ((with_reducible show wpList _ _ _ (⟨some 53, _, _, _, _, _⟩ :: _) _ _); refine wpList_runW rfl (man_load (.tmp 52) rfl rfl HM.out HF.out) ?_)
          | (go_at_call 44; refine (HMC.out _ HCH.out).mono ?_; rintro e w3 ⟨rfl, hu3⟩; have HU3 := Lib.hid (HU.out.trans hu3); clear hu3))
        go_ret
        first
          | exact ⟨rfl, HU3.out⟩
          | exact ⟨rfl, HU.out⟩
    · rcases hk with hk | hk
      all_goals
        rw [hk] at c0
        clear hk
        rcases k1 with ⟨rfl, rfl⟩ | ⟨rfl, rfl, rfl⟩ | ⟨rfl, rfl, rfl⟩
        all_goals
          go_wp2_with (first
            | ((with_reducible show wpList _ _ _ (⟨some 63, _, _, _, _, _⟩ :: _) _ _); refine wpList_runW rfl (man_load (.tmp 62) rfl rfl HM.out HF.out) ?_)
            | (go_at_call 45; refine (HNO.out _ HCH.out).mono ?_; rintro e w3 ⟨rfl, hu3⟩; have HU3 := Lib.hid (HU.out.trans hu3); clear hu3))
          go_ret
          first
            | exact ⟨rfl, HU3.out⟩
            | exact ⟨rfl, HU.out⟩
    · go_wp2_with fail
      go_ret
      exact ⟨rfl, HU.out⟩

end Go.Proofs.Ytbdmnmjdnfpfbaa
