/- Plain: a disk of two blocks that goes down while it is pointed at. No program in sight. -/
import Derived.Test.YtpeboaoephkfhaaImgN
namespace Go.Proofs.Ytpeboaoephkfhaa
open Go.RowKit

theorem D2.fill {a b x y : Blok} (ha : a.length = 64) (hb : b.length = 64) (hx : x.length = 64) (hy : y.length = 64) : ((((D2 a b).write 0 x).write 1 y).flush) = D2 x y := by
  have e : ((D2 a b).write 0 x) = ⟨[a, b], [(0, x)], false⟩ := by rw [write_ok (D2.code a b 0 (.inl rfl))]; rfl
  have c : (⟨[a, b], [(0, x)], false⟩ : DK).code 1 = 0 := rfl
  rw [e, write_ok c]
  show D2 (DK.lay 64 x a) (DK.lay 64 y b) = _
  rw [lay_64 hx ha, lay_64 hy hb]

theorem D2.crash0 (x y z : Blok) (f : Int) : ((((D2 x y).write 0 z).crash [f]).start) = D2 (DK.lay (DK.kOf f) z x) y := by
  rw [write_ok (D2.code x y 0 (.inl rfl))]; rfl
theorem D2.crash1 (x y z : Blok) (f : Int) : ((((D2 x y).write 1 z).crash [f]).start) = D2 x (DK.lay (DK.kOf f) z y) := by
  rw [write_ok (D2.code x y 1 (.inr rfl))]; rfl

theorem Has.ne {m t : Nat} {z old : Blok} {b c : BK} (hz : Has m z b) (ho : Has t old c) (hm : (m : Int) ≤ 1099511627776) (ht : (t : Int) ≤ 1099511627776) (h : t ≠ m) : (z == old) = false := by
  cases he : z == old with
  | false => rfl
  | true =>
    have e : z = old := by simpa using he
    have h1 := hz.head hm
    rw [e, ho.head ht] at h1
    omega

/-- A disk of two blocks, told n times. -/
def Told (d : DK) (n : Nat) (was : BK) : Prop := ∃ prev x y, d = D2 x y ∧ St n was prev x y

theorem Told.point {d : DK} {n : Nat} {was : BK} (h : Told d n was) (hn : n ≤ 1000) {b : BK} (hb : b.WF) (hr : -9223372036854775808 ≤ b.area ∧ b.area ≤ 9223372036854775807) :
    pointF d 0 b = (d, 1) ∨ ∃ d', pointF d 0 b = (d', 0) ∧ Told d' (n + 1) b := by
  obtain ⟨prev, x, y, rfl, hs⟩ := h
  rcases hs.point hn hb hr with ⟨-, h1⟩ | ⟨-, z, -, h1, h2⟩
  · exact .inl h1
  · right
    split at h1
    · rename_i hp
      rw [if_pos hp] at h2
      exact ⟨_, h1, was, z, y, rfl, h2⟩
    · rename_i hp
      rw [if_neg hp] at h2
      exact ⟨_, h1, was, x, z, rfl, h2⟩

theorem Told.byt {d : DK} {n : Nat} {was : BK} (h : Told d n was) : d.Byt := by
  obtain ⟨prev, x, y, rfl, hs⟩ := h
  exact ⟨fun b hb => by simp [D2] at hb; rcases hb with rfl | rfl; exact hs.u8.1; exact hs.u8.2, fun p hp => by simp [D2] at hp⟩

theorem Told.start {d : DK} {n : Nat} {was : BK} (h : Told d n was) (hn : (n : Int) ≤ 1099511627776) : startF d 0 = if n = 0 then (BK.zero, 0, 81) else (was, (n : Int), 0) := by
  obtain ⟨prev, x, y, rfl, hs⟩ := h
  exact hs.start hn
theorem Told.wf {d : DK} {n : Nat} {was : BK} (h : Told d n was) : was.whole.length = 32 := by
  obtain ⟨prev, x, y, rfl, hs⟩ := h
  exact hs.wf

end Go.Proofs.Ytpeboaoephkfhaa
