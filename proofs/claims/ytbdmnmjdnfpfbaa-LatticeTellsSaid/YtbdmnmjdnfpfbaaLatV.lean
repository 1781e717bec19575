/- One more step of a region that draws its order. -/
import Derived.Test.YtbdmnmjdnfpfbaaLatU
import Derived.Test.YtbdmnmjdnfpfbaaHeld
namespace Go.Proofs.Ytbdmnmjdnfpfbaa
open Go.RowKit

section
variable {P : Program} {ops : Array Oper} {Q : Exit → Act → World → Prop} {md : Region.Mode} {S : World → Prop}

/-- Number i, which writes slot k, is not wanted. -/
theorem held_skip (i k : Nat) {oi : Oper} {fuel : Nat} {listed : Array Bool} {tmps : Array Value} {defers : List Deferred} {w : World} (hi : ops[i]? = some oi)
    (hs : Region.noSelect ops = true) (hf : Region.free md ops listed i = true) (hr : (Region.ready md ops listed).contains i = true) (hd : oi.dst = some k)
    (hQ : ∀ c a w, Q (.panic c) (a.put oi.dst undef) w → Q (.panic c) a w) (hw : Region.wanted oi (yielded ops tmps) = false) (hS : S w)
    (h : wpAnyH P md ops Q S fuel (listed.setIfInBounds i true) ⟨tmps.setIfInBounds k undef, defers⟩ w) : wpAnyH P md ops Q S (fuel + 1) listed ⟨tmps, defers⟩ w :=
  wpAnyH_take hi hs hf hr hQ (Or.inr ⟨hw, rfl⟩) hS (by rw [hd]; exact h)
end

end Go.Proofs.Ytbdmnmjdnfpfbaa
