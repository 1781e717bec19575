/- The document's side: Of, Less, chunks, the check of manifests, none. -/
import Derived.Test.YtbdmnmjdnfpfbaaLatZ
namespace Go.Proofs.Ytbdmnmjdnfpfbaa
open Go.ChangeShapes Go.WideShapes Go.ChangeAt Go.RowKit

theorem rof_any (e : Int) (w : World) :
    Calls Try.prog 54 #[.int .i64 e] w fun x w' => x = .returned (.tuple #[.int .i64 (ofN e).1, .int .i64 (ofN e).2]) ∧ w = w' := by
  have key : (decide (e < 16) = true ∧ ofN e = (0, 0)) ∨ (decide (e < 16) = false ∧ decide (1099511627776 < e) = true ∧ ofN e = (0, 0)) ∨ (decide (e < 16) = false ∧ decide (1099511627776 < e) = false ∧ 16 ≤ e ∧ e ≤ 1099511627776 ∧ ofN e = (e % 16, e / 16)) := by
    unfold ofN
    by_cases h1 : e < 16
    · left; exact ⟨decide_eq_true h1, if_pos (.inl h1)⟩
    · by_cases h2 : 1099511627776 < e
      · right; left; exact ⟨decide_eq_false h1, decide_eq_true h2, if_pos (.inr h2)⟩
      · right; right; exact ⟨decide_eq_false h1, decide_eq_false h2, by omega, by omega, if_neg (by omega)⟩
  rcases key with ⟨h1, h2⟩ | ⟨h1, h2, h3⟩ | ⟨h1, h2, h3, h4, h5⟩
  · have H := Lib.hid h2; clear h2
    go_enter Try.func54, Try.ntmps54
    go_wp2
    go_ret2
    exact ⟨by rw [H.out]; rfl, rfl⟩
  · have H := Lib.hid h3; clear h3
    go_enter Try.func54, Try.ntmps54
    go_wp2
    go_ret2
    exact ⟨by rw [H.out]; rfl, rfl⟩
  · have H := Lib.hid h5; clear h5
    go_enter Try.func54, Try.ntmps54
    go_wp2
    go_ret2
    exact ⟨by rw [H.out]; rfl, rfl⟩

set_option maxRecDepth 100000 in
set_option maxHeartbeats 1000000 in
theorem rless_any (f g : FK) (cv dv : Value) (w : World) :
    Calls Try.prog 51 #[.agg (encF f cv).toArray, .agg (encF g dv).toArray] w fun x w' => x = .returned (.bool (f.less g)) ∧ Upd [] w w' := by
  have key : ((f.epoch != g.epoch) = true ∧ f.less g = decide (f.epoch < g.epoch)) ∨ ((f.epoch != g.epoch) = false ∧ (f.kind != g.kind) = true ∧ f.less g = decide (f.kind < g.kind)) ∨ ((f.epoch != g.epoch) = false ∧ (f.kind != g.kind) = false ∧ f.less g = decide (f.node < g.node)) := by
    unfold FK.less
    by_cases h1 : f.epoch = g.epoch
    · right
      by_cases h2 : f.kind = g.kind
      · right; simp [h1, h2]
      · left; simp [h1, h2]
    · left; simp [h1]
  obtain ⟨r, hr⟩ : ∃ r, r = f.less g := ⟨_, rfl⟩
  rw [← hr] at key ⊢
  obtain ⟨w2, hw2⟩ : ∃ w2, w2 = (w.alloc (.cells (encF f cv).toArray 31)).alloc (.cells (encF g dv).toArray 31) := ⟨_, rfl⟩
  obtain ⟨hb1, hb2, hu⟩ := boxed2 w (encF f cv).toArray (encF g dv).toArray 31 31
  rw [← hw2] at hb1 hb2 hu
  obtain ⟨tb, htb⟩ : ∃ x, x = w.heap.size := ⟨_, rfl⟩
  rw [← htb] at hb1 hb2
  have c0 : w2.cell? ⟨tb, 0, none⟩ = some (.int .i64 f.kind) := hb1.cell (o := 0) rfl
  have c1 : w2.cell? ⟨tb, 1, none⟩ = some (.int .i64 f.epoch) := hb1.cell (o := 1) rfl
  have c2 : w2.cell? ⟨tb, 2, none⟩ = some (.int .i64 f.node) := hb1.cell (o := 2) rfl
  have d0 : w2.cell? ⟨tb + 1, 0, none⟩ = some (.int .i64 g.kind) := hb2.cell (o := 0) rfl
  have d1 : w2.cell? ⟨tb + 1, 1, none⟩ = some (.int .i64 g.epoch) := hb2.cell (o := 1) rfl
  have d2 : w2.cell? ⟨tb + 1, 2, none⟩ = some (.int .i64 g.node) := hb2.cell (o := 2) rfl
  have HU := Lib.hid hu
  have HW2 := Lib.hid hw2
  have HTB := Lib.hid htb
  clear hw2 hb1 hb2 hu hr htb
  rcases key with ⟨k1, k2⟩ | ⟨k1, k2, k3⟩ | ⟨k1, k2, k3⟩
  · have HK := Lib.hid k2
    clear k2
    go_enter Try.func51, Try.ntmps51
    go_upto_region 1 with fail
    rw [← HW2.out, ← HTB.out]
    go_wp2_with fail
    go_ret
    exact ⟨by rw [HK.out]; rfl, HU.out⟩
  · have HK := Lib.hid k3
    clear k3
    go_enter Try.func51, Try.ntmps51
    go_upto_region 1 with fail
    rw [← HW2.out, ← HTB.out]
    go_wp2_with fail
    go_ret
    exact ⟨by rw [HK.out]; rfl, HU.out⟩
  · have HK := Lib.hid k3
    clear k3
    go_enter Try.func51, Try.ntmps51
    go_upto_region 1 with fail
    rw [← HW2.out, ← HTB.out]
    go_wp2_with fail
    go_ret
    exact ⟨by rw [HK.out]; rfl, HU.out⟩

/-- The ceiling, found by counting. -/
theorem ceil_spec {size chunk : Int} (h1 : 1 ≤ size) (h2 : 1 ≤ chunk) (m : Nat) : ((m : Int) * chunk < size ↔ (m : Int) < (size + chunk - 1) / chunk) := by
  have e : ((m : Int) < (size + chunk - 1) / chunk) = ((m : Int) + 1 ≤ (size + chunk - 1) / chunk) := rfl
  rw [e, Int.le_ediv_iff_mul_le (by omega), Int.add_mul]
  omega

set_option maxRecDepth 100000 in
set_option maxHeartbeats 1000000 in
theorem rchunks_any (size chunk : Int) (w : World) :
    Calls Try.prog 64 #[.int .i64 size, .int .i64 chunk] w fun x w' => x = .returned (.int .i64 (chunksN size chunk)) ∧ w = w' := by
  have key : (decide (size < 1) = true ∧ chunksN size chunk = 0) ∨ (decide (size < 1) = false ∧ decide (65536 < size) = true ∧ chunksN size chunk = 0) ∨ (decide (size < 1) = false ∧ decide (65536 < size) = false ∧ decide (chunk < 1) = true ∧ chunksN size chunk = 0) ∨
      (decide (size < 1) = false ∧ decide (65536 < size) = false ∧ decide (chunk < 1) = false ∧ decide (4096 < chunk) = true ∧ chunksN size chunk = 0) ∨
      (decide (size < 1) = false ∧ decide (65536 < size) = false ∧ decide (chunk < 1) = false ∧ decide (4096 < chunk) = false ∧ 1 ≤ size ∧ size ≤ 65536 ∧ 1 ≤ chunk ∧ chunk ≤ 4096 ∧
        chunksN size chunk = if 64 < (size + chunk - 1) / chunk then 0 else (size + chunk - 1) / chunk) := by
    unfold chunksN
    by_cases h1 : size < 1
    · left; exact ⟨decide_eq_true h1, if_pos (by omega)⟩
    · right
      by_cases h2 : 65536 < size
      · left; exact ⟨decide_eq_false h1, decide_eq_true h2, if_pos (by omega)⟩
      · right
        by_cases h3 : chunk < 1
        · left; exact ⟨decide_eq_false h1, decide_eq_false h2, decide_eq_true h3, if_pos (by omega)⟩
        · right
          by_cases h4 : 4096 < chunk
          · left; exact ⟨decide_eq_false h1, decide_eq_false h2, decide_eq_false h3, decide_eq_true h4, if_pos (by omega)⟩
          · right
            exact ⟨decide_eq_false h1, decide_eq_false h2, decide_eq_false h3, decide_eq_false h4, by omega, by omega, by omega, by omega, if_neg (by omega)⟩
  obtain ⟨r, hr⟩ : ∃ r, r = chunksN size chunk := ⟨_, rfl⟩
  rw [← hr] at key ⊢
  clear hr
  rcases key with ⟨h1, rfl⟩ | ⟨h1, h2, rfl⟩ | ⟨h1, h2, h3, rfl⟩ | ⟨h1, h2, h3, h4, rfl⟩ | ⟨h1, h2, h3, h4, g1, g2, g3, g4, key⟩
  · go_enter Try.func64, Try.ntmps64
    go_wp2
    go_ret
    exact ⟨rfl, rfl⟩
  · go_enter Try.func64, Try.ntmps64
    go_wp2
    go_ret
    exact ⟨rfl, rfl⟩
  · go_enter Try.func64, Try.ntmps64
    go_wp2
    go_ret
    exact ⟨rfl, rfl⟩
  · go_enter Try.func64, Try.ntmps64
    go_wp2
    go_ret
    exact ⟨rfl, rfl⟩
  · have HCE := Lib.hid (fun m => ceil_spec (size := size) (chunk := chunk) g1 g3 m)
    obtain ⟨q, hq⟩ : ∃ q : Int, q = (size + chunk - 1) / chunk := ⟨_, rfl⟩
    rw [← hq] at key HCE
    have hq0 : 0 ≤ q := by rw [hq]; exact Int.ediv_nonneg (by omega) (by omega)
    have hq1 : q ≤ 65536 := by
      rcases Int.lt_or_le 65536 q with h | h
      · have h1 := (HCE.out 65536).2 (by omega)
        omega
      · exact h
    have HKEY := Lib.hid key
    clear hq key
    go_enter Try.func64, Try.ntmps64
    go_upto_region 4 with fail
    go_loopw [5] (fun i wx => ∃ (m : Nat), (m : Int) ≤ q ∧ i = .int .i64 m ∧ w = wx) (fun i _ => q.toNat - (intOf i).toNat)
    case atStart => exact ⟨0, hq0, rfl, rfl⟩
    case round =>
      obtain ⟨m, hm, rfl, rfl⟩ := hrel
      have hmc : 0 ≤ (m : Int) * chunk ∧ (m : Int) * chunk ≤ 65536 * 4096 := ⟨Int.mul_nonneg (by omega) (by omega), Int.mul_le_mul (by omega) g4 (by omega) (by omega)⟩
      have hwr : IntKind.i64.wrap ((m : Int) * chunk) = (m : Int) * chunk := IntWalk.i64_in _ (by omega)
      by_cases hlt : (m : Int) < q
      · have hd : decide ((m : Int) * chunk < size) = true := decide_eq_true ((HCE.out m).2 hlt)
        go_wp2_with fail
        go_roundw
        case rel => exact ⟨m + 1, by omega, by go_num, trivial⟩
        case measure => simp [intOf]; omega
      · have hd : decide ((m : Int) * chunk < size) = false := decide_eq_false (fun h => hlt ((HCE.out m).1 h))
        have hqm : q = (m : Int) := by omega
        have hk := HKEY.out
        rw [hqm] at hk
        clear hlt hm hqm
        by_cases h64 : (64 : Int) < (m : Int)
        · rw [if_pos h64] at hk
          have HK := Lib.hid hk
          clear hk
          go_wp2_with fail
          go_ret
          exact ⟨by rw [HK.out]; rfl, rfl⟩
        · rw [if_neg h64] at hk
          have HK := Lib.hid hk
          clear hk
          go_wp2_with fail
          go_ret
          exact ⟨by rw [HK.out]; rfl, rfl⟩

end Go.Proofs.Ytbdmnmjdnfpfbaa
