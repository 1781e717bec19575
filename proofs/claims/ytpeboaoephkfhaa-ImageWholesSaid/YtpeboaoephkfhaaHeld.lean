/- Regions that draw their order, walked by hand under a condition on the world: of no program. -/
import Derived.Test.YtpeboaoephkfhaaOps
import Derived.Deep.RegionHeld3
import Derived.Deep.DeepCutAuto
import Derived.Deep.CutBlock
import Derived.Outline
import Derived.OwnWalk
import Derived.Deep.RegionLaw
import Derived.Deep.AppendLies
import Derived.WalkMore
import Derived.WalkSpells
import Derived.RegionTactic
import Derived.BigQuiet
import Derived.Deep.QuietTactic
namespace Go.Proofs.Ytpeboaoephkfhaa
open Go.RowKit

section
variable {P : Program} {ops : Array Oper} {Q : Exit → Act → World → Prop} {md : Region.Mode} {S : World → Prop}

theorem held_start {id : Nat} {a : Act} {w : World} (S : World → Prop) (n : Nat) (hm : P.follows .mixedOrders = true) (hn : ops.size = n) (hS : S w.drew) (h : S w.drew → wpAnyH P .any ops Q S n (Array.replicate n false) a w.drew) : (Code.region id ops true).wp P Q a w :=
  wp_region_held_drew hm hS (by rw [hn]; exact h)

/-- Number i, which writes slot k, is taken first: it yields v in every world that meets S. -/
theorem held_take (i k : Nat) (v : Value) {oi : Oper} {fuel : Nat} {listed : Array Bool} {tmps : Array Value} {defers : List Deferred} {w : World} (hi : ops[i]? = some oi)
    (hs : Region.noSelect ops = true) (hf : Region.free md ops listed i = true) (hr : (Region.ready md ops listed).contains i = true) (hd : oi.dst = some k)
    (hQ : ∀ c a w, Q (.panic c) (a.put oi.dst v) w → Q (.panic c) a w) (hw : Region.wanted oi (yielded ops tmps) = true) (hS : S w)
    (hy : ∀ w, S w → (execOp (Act.eval ⟨tmps, defers⟩) oi).run P w = .ok (.value v) w)
    (h : wpAnyH P md ops Q S fuel (listed.setIfInBounds i true) ⟨tmps.setIfInBounds k v, defers⟩ w) : wpAnyH P md ops Q S (fuel + 1) listed ⟨tmps, defers⟩ w :=
  wpAnyH_take hi hs hf hr hQ (Or.inl ⟨hw, hy⟩) hS (by rw [hd]; exact h)

/-- Number i is the only one that may come up. -/
theorem held_next (i k : Nat) {oi : Oper} {fuel : Nat} {listed : Array Bool} {tmps : Array Value} {defers : List Deferred} {w : World} (hi : ops[i]? = some oi)
    (hr : Region.ready md ops listed = [i]) (hd : oi.dst = some k) (hw : Region.wanted oi (yielded ops tmps) = true)
    (h : ∀ K : Act → World → Prop, Shut (∀ v w, S w → (S w → wpAnyH P md ops Q S fuel (listed.setIfInBounds i true) ⟨tmps.setIfInBounds k v, defers⟩ w) → K (Act.put ⟨tmps, defers⟩ (some k) v) w) → Oper.wp P oi ⟨tmps, defers⟩ w K Q) :
    wpAnyH P md ops Q S (fuel + 1) listed ⟨tmps, defers⟩ w := by
  refine wpAnyH_ready hr (by simp) (AllReadyH.cons hi (fun K hK => ?_) AllReadyH.nil)
  rw [if_pos hw]
  exact h K (fun v w hS hW => hK.out _ _ hS hW)

/-- One of several that may come up. -/
theorem held_cons (i k : Nat) {oi : Oper} {fuel : Nat} {listed : Array Bool} {tmps : Array Value} {defers : List Deferred} {w : World} {rs : List Nat} (hi : ops[i]? = some oi)
    (hd : oi.dst = some k) (hw : Region.wanted oi (yielded ops tmps) = true)
    (h : ∀ K : Act → World → Prop, Shut (∀ v w, S w → (S w → wpAnyH P md ops Q S fuel (listed.setIfInBounds i true) ⟨tmps.setIfInBounds k v, defers⟩ w) → K (Act.put ⟨tmps, defers⟩ (some k) v) w) → Oper.wp P oi ⟨tmps, defers⟩ w K Q)
    (hs : AllReadyH P md ops Q S fuel listed ⟨tmps, defers⟩ w rs) : AllReadyH P md ops Q S fuel listed ⟨tmps, defers⟩ w (i :: rs) := by
  refine AllReadyH.cons hi (fun K hK => ?_) hs
  rw [if_pos hw]
  exact h K (fun v w hS hW => by have := hK.out (Act.put ⟨tmps, defers⟩ (some k) v) w hS hW; exact this)

/-- Number i, a store, is the only one that may come up. -/
theorem held_store (i : Nat) {oi : Oper} {fuel : Nat} {listed : Array Bool} {tmps : Array Value} {defers : List Deferred} {w : World} (hi : ops[i]? = some oi)
    (hr : Region.ready md ops listed = [i]) (hd : oi.dst = none) (hw : Region.wanted oi (yielded ops tmps) = true)
    (h : ∀ K : Act → World → Prop, Shut (∀ w, S w → (S w → wpAnyH P md ops Q S fuel (listed.setIfInBounds i true) ⟨tmps, defers⟩ w) → K ⟨tmps, defers⟩ w) → Oper.wp P oi ⟨tmps, defers⟩ w K Q) :
    wpAnyH P md ops Q S (fuel + 1) listed ⟨tmps, defers⟩ w := by
  refine wpAnyH_ready hr (by simp) (AllReadyH.cons hi (fun K hK => ?_) AllReadyH.nil)
  rw [if_pos hw]
  exact h K (fun w hS hW => hK.out _ _ hS hW)

theorem held_done {fuel : Nat} {listed : Array Bool} {a : Act} {w : World} (hr : Region.ready md ops listed = []) (h : Q .normal a w) : wpAnyH P md ops Q S fuel listed a w := wpAnyH_done hr h _
end

/-- A callee that leaves the world alone, in a quiet region. -/
theorem quiet_eq {P : Program} {f : FuncId} {args : Array Value} {w : World} {n : Nat} {v : Value} (h : Calls P f args (w.drewN n) fun e w' => e = .returned v ∧ w.drewN n = w') : Calls P f args (w.drewN n) fun e w'' => e = .returned v ∧ ∃ m, w'' = w.drewN m :=
  h.mono fun _ _ ⟨he, hm⟩ => ⟨he, n, hm.symm⟩

end Go.Proofs.Ytpeboaoephkfhaa
