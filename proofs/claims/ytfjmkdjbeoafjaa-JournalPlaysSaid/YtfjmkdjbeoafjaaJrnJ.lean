/- The walk of shipwrightref07.Same at lists that are alike. -/
import Derived.Test.YtfjmkdjbeoafjaaJrnI
namespace Go.Proofs.Ytfjmkdjbeoafjaa
open Go.ChangeShapes Go.WideShapes Go.ChangeAt Go.RowKit

theorem exec_strneq {a : Act} {o : Oper} {w : World} {s : ByteArray} (x y : Operand) {u : TypeId} (ho : o.op = .binOp .neq 9 x y u) (hx : a.eval x = .string s) (hy : a.eval y = .string s) :
    (execOp a.eval o).run Try.prog w = .ok (.value (.bool false)) w := by
  unfold execOp
  simp [ho, hx, hy]
  go_simp

set_option maxHeartbeats 1000000 in
theorem bsame_any (u v : Value) (L : List (List Int)) (T U : List Nat) (w : World) (hu : ListsAt w T u L) (hv : ListsAt w U v L) :
    Calls Try.prog 19 #[u, v] w fun e w' => e = .returned (.bool true) ∧ Upd [] w w' := by
  obtain ⟨a, cap, rfl, hm, hc⟩ := hu
  obtain ⟨a2, cap2, rfl, -, hc2⟩ := hv
  unfold maxLen at hm
  obtain ⟨n, hn⟩ : ∃ n, n = L.length := ⟨_, rfl⟩
  rw [← hn] at hm hc hc2 ⊢
  have HC := Lib.hid hc
  have HC2 := Lib.hid hc2
  have HN := Lib.hid hn
  clear hc hc2 hn
  go_enter Try.func19, Try.ntmps19
  go_wp2
  go_loopw [5] (fun i wx => ∃ m : Nat, m ≤ n ∧ i = .int .i64 m ∧ Upd [] w wx) (fun i _ => n - (intOf i).toNat)
  case atStart => exact ⟨0, Nat.zero_le _, rfl, Upd.refl _ _⟩
  case round =>
    obtain ⟨m, hm2, rfl, hu⟩ := hrel
    by_cases hlt : m < n
    · have hne : L ≠ [] := by intro e; rw [HN.out, e] at hlt; simp at hlt
      obtain ⟨g, off, rfl, hg, -, h1⟩ := HC.out hne
      obtain ⟨g2, off2, rfl, hg2, -, h2⟩ := HC2.out hne
      obtain ⟨u1, hc1, hb1, -⟩ := h1 m hlt
      obtain ⟨u2, hc2, hb2, -⟩ := h2 m hlt
      have c1 := (World.cell?_of_block (a := ⟨g, off + m, none⟩) (hu.block g hg (by simp))).trans hc1
      have c2 := (World.cell?_of_block (a := ⟨g2, off2 + m, none⟩) (hu.block g2 hg2 (by simp))).trans hc2
      have HB1 := Lib.hid (hb1.upd0 hu)
      have HB2 := Lib.hid (hb2.upd0 hu)
      have HU := Lib.hid hu
      have hx0 : (0 : Int) ≤ (m : Int) := by omega
      have hx1 : (m : Int) < (n : Int) := by omega
      clear h1 h2 hc1 hb1 hc2 hb2 hu hne
      go_upto_region 6 with fail
      refine wp_region_still_lit mixed (by kernel_rfl) ?_
      still_step
      still_step
      still_step
      still_step
      refine still_run rfl (exec_str (.tmp 20) rfl rfl (HB1.out.upd0 ((Upd.refl _ _).drew))) ?_
      still_step
      still_step
      still_step
      still_step
      refine still_run rfl (exec_str (.tmp 25) rfl rfl (HB2.out.upd0 ((Upd.refl _ _).drew))) ?_
      refine still_run rfl (exec_strneq (.tmp 21) (.tmp 26) rfl rfl rfl) ?_
      refine wpStill_nil ?_
      have HU2 := Lib.hid (HU.out.drew)
      clear HB1 HB2 HU c1 c2
      go_wp2
      go_roundw
      case rel => exact ⟨m + 1, by omega, by go_num, HU2.out⟩
      case measure => simp [intOf]; omega
    · obtain rfl : m = n := by omega
      have HU := Lib.hid hu
      clear hu hlt
      go_wp2
      go_ret
      exact ⟨rfl, HU.out⟩

end Go.Proofs.Ytfjmkdjbeoafjaa
