/- The walks of Flush, Crash, Dirty. -/
import Derived.Test.YtpeboaoephkfhaaDiskD
namespace Go.Proofs.Ytpeboaoephkfhaa
open Go.ChangeShapes Go.WideShapes Go.ChangeAt Go.RowKit

theorem flush1_any (i : Int) (w : World) : Calls Try.prog 36 #[.int .i64 i] w fun e w' => e = .returned (.int .i64 64) ∧ w = w' := by
  go_enter Try.func36, Try.ntmps36
  go_wp2
  go_ret
  exact ⟨rfl, rfl⟩

/-- What the fate of the i-th block is. -/
theorem crash1_any (c : Nat) (v : Value) (fs : List Int) (i : Nat) (w : World) (hc : Blk w c #[v] 54) (hv : IntsAt w v fs) :
    Calls Try.prog 37 #[.int .i64 i, .pointer (some ⟨c, 0, none⟩)] w fun e w' => e = .returned (.int .i64 (DK.fate fs i)) ∧ w = w' := by
  obtain ⟨a, cap, rfl, hm, hv⟩ := hv
  have c0 := hc.cell (o := 0) rfl
  clear hc
  unfold maxLen at hm
  unfold DK.fate
  by_cases hi : i < fs.length
  · rw [if_pos hi]
    obtain ⟨g, off, rfl, -, hv⟩ := hv (fun e => by rw [e] at hi; simp at hi)
    have ci := hv i hi
    clear hv
    obtain ⟨x, hx⟩ : ∃ x, x = fs.getD i 0 := ⟨_, rfl⟩
    rw [← hx] at ci ⊢
    clear hx
    go_enter Try.func37, Try.ntmps37
    go_wp2
    go_ret
    exact ⟨rfl, rfl⟩
  · rw [if_neg hi]
    clear hv
    have hi' : fs.length ≤ i := by omega
    go_enter Try.func37, Try.ntmps37
    go_wp2
    go_ret
    exact ⟨rfl, rfl⟩

theorem flush_nil (w : World) : Calls Try.prog 22 #[.pointer none] w fun e w' => e = .returned (.int .i64 1) ∧ w = w' := by
  go_enter Try.func22, Try.ntmps22
  go_wp2
  go_ret
  exact ⟨rfl, rfl⟩

/-- What Flush answers. -/
def DK.fcode (d : DK) : Int := if d.down = true then 60 else 0

theorem flush_any (b : Nat) (S : List Nat) (d : DK) (w : World) (h : DiskAt w b S d) :
    Calls Try.prog 22 #[.pointer (some ⟨b, 0, none⟩)] w fun e w' => e = .returned (.int .i64 d.fcode) ∧ ∃ S', DiskAt w' b S' d.flush ∧ Upd S w w' ∧ ∀ k ∈ S', k ∈ S := by
  have H := Lib.hid h
  obtain ⟨lb, mb, ov, rfl, hn, hw, h1, h2, h3, h4⟩ := h
  have c3 := h1.cell (o := 3) rfl
  unfold DK.fcode DK.flush
  by_cases hd : d.down = true
  · rw [if_pos hd, if_pos hd]
    rw [hd] at c3
    clear h1 h2 h3 h4 hn
    go_enter Try.func22, Try.ntmps22
    go_wp2
    go_ret
    exact ⟨rfl, _, H.out, Upd.refl _ _, fun k hk => hk⟩
  · rw [if_neg hd, if_neg hd]
    have hd' : d.down = false := by simpa using hd
    rw [hd'] at c3
    have hcf : ∀ args w, (callFunc 36 args).run Try.prog w = .ok (.enter 36 args) w := by
      intro args w; go_simp
    have C := settle_any b lb mb ov d 36 #[] (fun _ => 64) w hn hw h1 h2 h3 h4 hcf (fun i _ w' _ => flush1_any i w')
    have HC := Lib.hid C
    clear h1 h2 h3 h4 hn hcf C hd
    go_enter Try.func22, Try.ntmps22
    go_wp2_with (go_at_call 35; refine HC.out.mono ?_; rintro e w1 ⟨rfl, hd1, hu1⟩)
    go_ret
    exact ⟨rfl, _, hd1, hu1.mono (fun k hk => .inl (by simp only [List.mem_cons, List.not_mem_nil, or_false] at hk ⊢; rcases hk with h | h | h <;> simp [h])), fun k hk => by simp only [List.mem_cons, List.not_mem_nil, or_false] at hk ⊢; rcases hk with h | h | h <;> simp [h]⟩

theorem crash_nil (v : Value) (w : World) (hv : ∃ a n cap, v = .slice a n cap) : Calls Try.prog 23 #[.pointer none, v] w fun e w' => e = .returned (.tuple #[]) ∧ Upd [] w w' := by
  obtain ⟨a, n, cap, rfl⟩ := hv
  go_enter Try.func23, Try.ntmps23
  go_wp2
  exact bodyPost_ret (results_none rfl _ _ _) rfl ⟨rfl, (Upd.refl _ _).alloc _⟩

set_option maxHeartbeats 400000 in
theorem crash_any (b : Nat) (S : List Nat) (d : DK) (v : Value) (fs : List Int) (w : World) (h : DiskAt w b S d) (hv : IntsAt w v fs) (hvS : IntsOut v fs S) :
    Calls Try.prog 23 #[.pointer (some ⟨b, 0, none⟩), v] w fun e w' => e = .returned (.tuple #[]) ∧ ∃ S', DiskAt w' b S' (d.crash fs) ∧ Upd S w w' ∧ ∀ k ∈ S', k ∈ S := by
  have H := Lib.hid h
  have hlt := h.lt
  obtain ⟨lb, mb, ov, rfl, hn, hw, h1, h2, h3, h4⟩ := h
  have c3 := h1.cell (o := 3) rfl
  obtain ⟨a, cap, rfl, hv2⟩ := id hv
  have hb : b < w.heap.size := hlt b (by simp)
  unfold DK.crash
  by_cases hd : d.down = true
  · rw [if_pos hd]
    rw [hd] at c3
    have hu := (Upd.refl [] w).alloc (.cells #[.slice a fs.length cap] 54)
    have HU := Lib.hid hu
    clear h1 h2 h3 h4 hn hu hv hv2 hvS hlt
    go_enter Try.func23, Try.ntmps23
    go_wp2
    exact bodyPost_ret (results_none rfl _ _ _) rfl ⟨rfl, _, H.out.upd0 HU.out, HU.out.mono (by simp), fun k hk => hk⟩
  · rw [if_neg hd]
    have hd' : d.down = false := by simpa using hd
    rw [hd'] at c3
    obtain ⟨w0, hw0⟩ : ∃ w0, w0 = w.alloc (.cells #[.slice a fs.length cap] 54) := ⟨_, rfl⟩
    have hu : Upd [] w w0 := by rw [hw0]; exact (Upd.refl [] w).alloc _
    have hB : Blk w0 w.heap.size #[.slice a fs.length cap] 54 := by rw [hw0]; exact Blk.new _ _ _
    have hcf : ∀ args w, (callFunc 37 args).run Try.prog w = .ok (.enter 37 args) w := by
      intro args w; go_simp
    have hlb : lb < w.heap.size := hlt lb (by simp)
    have C := settle_any b lb mb ov d 37 #[.pointer (some ⟨w.heap.size, 0, none⟩)] (DK.fate fs) w0 hn hw (h1.upd hu (by simp)) (h2.upd hu (by simp)) (h3.upd hu (by simp)) (own_upd h4 hu (by simp)) hcf (fun i _ w' hu' => by
      refine crash1_any w.heap.size _ fs i w' (hB.upd hu' (by simp; omega)) ((hv.upd0 hu).upd hu' ?_)
      intro g off n cap' hne e hg
      simp only [List.mem_singleton] at hg
      subst hg
      exact hvS g off n cap' hne e (by simp))
    have HC := Lib.hid C
    have HU := Lib.hid hu
    have HW := Lib.hid hw0
    clear h1 h2 h3 h4 hn hcf C hd hu hB hv hv2 hvS hlt hw0
    go_enter Try.func23, Try.ntmps23
    go_wp2_with fail
    rw [← HW.out]
    refine HC.out.mono ?_
    rintro e w1 ⟨rfl, hd1, hu1⟩
    obtain ⟨lb', mb', ov', hS, hn', hw', k1, k2, k3, k4⟩ := hd1
    have c3' := k1.cell (o := 3) rfl
    have f3' := k1.free 3
    have K1 := Lib.hid (k1.set 3 (.bool true))
    have hu2 : Upd [b] w1 (w1.setCell ⟨b, 3, none⟩ (.bool true)) := (Upd.refl _ _).setCell (by simp) _
    have HN := Lib.hid hn'
    have HS := Lib.hid hS
    have HU1 := Lib.hid hu1
    rw [hS] at hn'
    simp only [List.nodup_cons, List.mem_cons, not_or, Option.mem_toList] at hn'
    have K2 := Lib.hid (k2.upd hu2 (by simp; exact fun e => hn'.1.1 e.symm))
    have K3 := Lib.hid (k3.upd hu2 (by simp; exact fun e => hn'.1.2.1 e.symm))
    have K4 := Lib.hid (own_upd k4 hu2 (fun g hg e => by simp at e; exact hn'.1.2.2 (e ▸ hg)))
    have HU2 := Lib.hid hu2
    clear k1 k2 k3 k4 hu2 hn' hS hu1 c3
    go_wp2
    go_end0
    refine ⟨rfl, [b, lb, mb], ⟨lb', mb', ov', HS.out, HN.out, hw'.setDown true, K1.out, K2.out, K3.out, K4.out⟩, ?_, ?_⟩
    · refine (HU.out.mono (by simp)).trans ((HU1.out.mono ?_).trans (HU2.out.mono (by simp)))
      intro k hk; simp only [List.mem_cons, List.not_mem_nil, or_false] at hk; left; rcases hk with h | h | h <;> simp [h]
    · intro k hk; simp only [List.mem_cons, List.not_mem_nil, or_false] at hk; rcases hk with h | h | h <;> simp [h]

end Go.Proofs.Ytpeboaoephkfhaa
