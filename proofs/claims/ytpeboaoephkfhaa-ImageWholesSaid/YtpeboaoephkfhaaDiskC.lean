/- The walk of Read. -/
import Derived.Test.YtpeboaoephkfhaaDiskB
namespace Go.Proofs.Ytpeboaoephkfhaa
open Go.ChangeShapes Go.WideShapes Go.ChangeAt Go.RowKit

theorem results_arr_tmp {fn : Func} {p t : Tmp} (h : fn.results = #[.cell p 32, .tmp t]) {tmps : Array Value} {w : World} {g : Nat} {T : TypeId} {c : Blok} (hp : tmps.getD p undef = .pointer (some ⟨g, 0, none⟩)) (hb : Blk w g (U8 c) T) (hc : c.length = 64) :
    (results fn tmps).run Try.prog w = .ok (.tuple #[.agg (U8 c), tmps.getD t undef]) w := by
  have hp' : tmps[p]?.getD undef = .pointer (some ⟨g, 0, none⟩) := by simpa using hp
  have hl := run_loadVar_row (P := Try.prog) w g T 32 (U8 c) (0, 0) _ hb Try.underlying32 rfl (by rw [info_arr, U8_size, hc])
  simp [results, h, hp', asAddr, hl]

set_option maxRecDepth 100000 in
theorem read_no (b : Nat) (S : List Nat) (d : DK) (n : Int) (w : World) (h : DiskAt w b S d) (hc : d.code n ≠ 0) :
    Calls Try.prog 21 #[.pointer (some ⟨b, 0, none⟩), .int .i64 n] w fun e w' => e = .returned (.tuple #[.agg (U8 DK.zeros), .int .i64 (d.code n)]) ∧ Upd [] w w' := by
  have H := Lib.hid h
  obtain ⟨c, hcc⟩ : ∃ c, c = d.code n := ⟨_, rfl⟩
  have C := fun w => is_any b S d n w
  rw [← hcc] at C hc ⊢
  have HC := Lib.hid C
  have g : (c != 0) = true := by simp [hc]
  clear C h hcc hc
  go_enter Try.func21, Try.ntmps21
  go_wp2_with (first
    | (refine wpList_alloc rfl 32 rfl zero_arr fun w1 hb1 hu1 hs1 => ?_)
    | (go_at_call 25; refine (HC.out w1 (H.out.upd0 hu1)).mono ?_; rintro e w2 ⟨rfl, rfl⟩)
    | (refine wpList_run rfl (arr_load (.tmp 4) rfl rfl hb1 DK.zeros_len) ?_)
    | (refine wpList_store rfl (.tmp 4) (.tmp 12) rfl rfl rfl hb1 DK.zeros_len DK.zeros_len fun w2 hb2 hu2 hs2 => ?_))
  exact bodyPost_ret (results_arr_tmp rfl rfl hb2 DK.zeros_len) rfl ⟨rfl, hu1.then hu2 (by simp)⟩

set_option maxRecDepth 100000 in
theorem read_nil (n : Int) (w : World) :
    Calls Try.prog 21 #[.pointer none, .int .i64 n] w fun e w' => e = .returned (.tuple #[.agg (U8 DK.zeros), .int .i64 1]) ∧ Upd [] w w' := by
  go_enter Try.func21, Try.ntmps21
  go_wp2_with (first
    | (refine wpList_alloc rfl 32 rfl zero_arr fun w1 hb1 hu1 hs1 => ?_)
    | (go_at_call 25; refine (is_nil _ _).mono ?_; rintro e w2 ⟨rfl, rfl⟩)
    | (refine wpList_run rfl (arr_load (.tmp 4) rfl rfl hb1 DK.zeros_len) ?_)
    | (refine wpList_store rfl (.tmp 4) (.tmp 12) rfl rfl rfl hb1 DK.zeros_len DK.zeros_len fun w2 hb2 hu2 hs2 => ?_))
  exact bodyPost_ret (results_arr_tmp rfl rfl hb2 DK.zeros_len) rfl ⟨rfl, hu1.then hu2 (by simp)⟩

set_option maxRecDepth 100000 in
set_option maxHeartbeats 1000000 in
theorem read_yes (b : Nat) (S : List Nat) (d : DK) (n : Int) (w : World) (h : DiskAt w b S d) (hc : d.code n = 0) :
    Calls Try.prog 21 #[.pointer (some ⟨b, 0, none⟩), .int .i64 n] w fun e w' => e = .returned (.tuple #[.agg (U8 (d.get n)), .int .i64 0]) ∧ Upd [] w w' := by
  have H := Lib.hid h
  obtain ⟨_, n0, n1⟩ := DK.code_zero hc
  have C := fun w => is_any b S d n w
  rw [hc] at C
  have HC := Lib.hid C
  obtain ⟨lb, mb, ov, rfl, hn, hw, h1, h2, h3, h4⟩ := h
  have H1 := Lib.hid h1
  have H2 := Lib.hid h2
  have H3 := Lib.hid h3
  have hlen := DK.get_len hw n0 n1
  clear C h1 h2 h3 h4
  cases hm : mget d.fresh n with
  | some old =>
    have hol : old.length = 64 := hw.size _ (mget_mem hm)
    have e1 : d.get n = old := by unfold DK.get; rw [hm]; rfl
    have hg : ((mget d.fresh n).getD DK.zeros) = old := by rw [hm]; rfl
    have hi : (mget d.fresh n).isSome = true := by rw [hm]; rfl
    rw [e1]
    clear hm e1
    go_enter Try.func21, Try.ntmps21
    go_wp2_with (first
      | (refine wpList_alloc rfl 32 rfl zero_arr fun w1 hb1 hu1 hs1 => ?_
         have c1 := (H1.out.upd hu1 (by simp)).cell (o := 1) rfl)
      | (go_at_call 25; refine (HC.out w1 (H.out.upd0 hu1)).mono ?_; rintro e w2 ⟨rfl, rfl⟩)
      | (refine wpList_run rfl (disk_lookup2 (.tmp 18) (.tmp 19) rfl rfl rfl (H3.out.upd hu1 (by simp))) ?_; rw [hg, hi])
      | (refine wpList_store rfl (.tmp 4) (.tmp 21) rfl rfl rfl hb1 DK.zeros_len hol fun w2 hb2 hu2 hs2 => ?_)
      | (refine wpList_run rfl (arr_load (.tmp 4) rfl rfl hb2 hol) ?_)
      | (refine wpList_store rfl (.tmp 4) (.tmp 30) rfl rfl rfl hb2 hol hol fun w3 hb3 hu3 hs3 => ?_))
    exact bodyPost_ret (results_arr_tmp rfl rfl hb3 hol) rfl ⟨rfl, hu1.then (hu2.trans hu3) (by simp)⟩
  | none =>
    have e1 : d.get n = d.last.getD n.toNat [] := by unfold DK.get; rw [hm]; rfl
    have hg : ((mget d.fresh n).getD DK.zeros) = DK.zeros := by rw [hm]; rfl
    have hi : (mget d.fresh n).isSome = false := by rw [hm]; rfl
    rw [e1] at hlen ⊢
    clear hm e1
    obtain ⟨k, rfl⟩ := Int.eq_ofNat_of_zero_le n0
    rw [Int.toNat_natCast] at hlen ⊢
    go_enter Try.func21, Try.ntmps21
    go_wp2_with (first
      | (refine wpList_alloc rfl 32 rfl zero_arr fun w1 hb1 hu1 hs1 => ?_
         have c1 := (H1.out.upd hu1 (by simp)).cell (o := 1) rfl)
      | (go_at_call 25; refine (HC.out w1 (H.out.upd0 hu1)).mono ?_; rintro e w2 ⟨rfl, rfl⟩)
      | (refine wpList_run rfl (disk_lookup2 (.tmp 18) (.tmp 19) rfl rfl rfl (H3.out.upd hu1 (by simp))) ?_; rw [hg, hi])
      | (refine wpList_store rfl (.tmp 4) (.tmp 21) rfl rfl rfl hb1 DK.zeros_len DK.zeros_len fun w2 hb2 hu2 hs2 => ?_))
    have hu := hu1.then hu2 (by simp)
    refine wp_region_still_tail 4 mixed (by kernel_rfl) ?_
    simp only [List.take_succ_cons, List.take_zero, List.drop_succ_cons, List.drop_zero]
    iterate 3 still_step
    still_call ((place_any b lb d.last.length k w2.drew _ (H1.out.upd hu (by simp)).drew rfl (by omega) hw.many).mono fun _ _ ⟨he, hw⟩ => ⟨he, hw.symm⟩)
    refine wpStill_nil ?_
    change wpList _ _ _ _ _ w2.drew
    have hfl := flatten_len hw.last
    refine wpList_copy rfl (.tmp 25) (.tmp 28) rfl rfl rfl hb2.drew (H2.out.upd hu (by simp)).drew (by rw [DK.zeros_len]; omega) (by rw [hfl]; omega) fun w3 hb3 hu3 hs3 => ?_
    have e2 : splice DK.zeros 0 ((d.last.flatten.drop (k * 64)).take (Nat.min 64 64)) = d.last.getD k [] := by
      rw [show Nat.min 64 64 = 64 from rfl, Nat.mul_comm, flatten_cut hw.last (by omega)]
      exact splice_all (by rw [DK.zeros_len]; exact hlen)
    rw [e2] at hb3
    go_wp2_with (first
      | (refine wpList_run rfl (arr_load (.tmp 4) rfl rfl hb3 hlen) ?_)
      | (refine wpList_store rfl (.tmp 4) (.tmp 30) rfl rfl rfl hb3 hlen hlen fun w4 hb4 hu4 hs4 => ?_))
    exact bodyPost_ret (results_arr_tmp rfl rfl hb4 hlen) rfl ⟨rfl, hu.drew.then (hu3.trans hu4) (by simp)⟩

end Go.Proofs.Ytpeboaoephkfhaa
