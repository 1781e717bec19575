/- The walks of number, of lay, and of area at a disk. -/
import Derived.Test.YtpeboaoephkfhaaImgA
import Derived.Laws.BitsAllLaws
namespace Go.Proofs.Ytpeboaoephkfhaa
open Go.ChangeShapes Go.WideShapes Go.ChangeAt Go.RowKit

theorem or_add (x b : Int) (h0 : 0 ≤ x) (h1 : x < 72057594037927936) (h2 : 0 ≤ b) (h3 : b < 256) : bits .or .u64 (x * 256) b = x * 256 + b := by
  obtain ⟨n, rfl⟩ := Int.eq_ofNat_of_zero_le h0
  obtain ⟨c, rfl⟩ := Int.eq_ofNat_of_zero_le h2
  have e : ((n : Int) * 256) = ((n * 256 : Nat) : Int) := by omega
  rw [e, u64_or_nat _ _ (by omega) (by omega)]
  have h := Nat.shiftLeft_add_eq_or_of_lt (i := 8) (b := c) (by omega) n
  rw [Nat.shiftLeft_eq] at h
  have h4 : n * 256 ||| c = n * 256 + c := by rw [show (256 : Nat) = 2 ^ 8 by rfl]; exact h.symm
  rw [h4]; omega

set_option maxRecDepth 100000 in
set_option maxHeartbeats 1000000 in
theorem number_any {w : World} {v : Value} {l : List Int} (h : BytesAt w v l) (hu : U8L l) (hl : l.length ≤ 8) :
    Calls Try.prog 39 #[v] w fun e w' => e = .returned (.int .u64 (num l)) ∧ w = w' := by
  obtain ⟨a, c, rfl⟩ := h.form
  have HB := Lib.hid h
  have HU := Lib.hid hu
  obtain ⟨n, hn⟩ : ∃ n, n = l.length := ⟨_, rfl⟩
  rw [← hn] at HB hl ⊢
  have HN := Lib.hid hn
  clear h hu hn
  go_enter Try.func39, Try.ntmps39
  go_upto_region 2 with fail
  go_loopw [2, 7] (fun x i wx => ∃ (m : Nat), m ≤ n ∧ i = .int .i64 m ∧ x = .int .u64 (num (l.take m)) ∧ w = wx) (fun _ i _ => n - (intOf i).toNat)
  case atStart => exact ⟨0, Nat.zero_le _, rfl, rfl, rfl⟩
  case round =>
    obtain ⟨m, hm, rfl, rfl, rfl⟩ := hrel
    by_cases hlt : m < n
    · have hlx : m < l.length := by rw [← HN.out]; exact hlt
      obtain ⟨g, off, rfl, -, hg, hc⟩ := HB.out.at (by omega)
      have hb := num_lt7 l HU.out m (by omega) (by omega)
      have hnt := num_take l m hlx
      have hx : 0 ≤ l.getD m 0 ∧ l.getD m 0 < 256 := HU.out _ (by simp [List.getD_eq_getElem?_getD, hlx])
      have cc := hc m hlx
      obtain ⟨x, hxe⟩ : ∃ x, x = num (l.take m) := ⟨_, rfl⟩
      obtain ⟨y, hye⟩ : ∃ x, x = l.getD m 0 := ⟨_, rfl⟩
      obtain ⟨z, hze⟩ : ∃ x, x = num (l.take (m + 1)) := ⟨_, rfl⟩
      rw [← hxe, ← hye, ← hze] at hnt
      rw [← hxe] at hb ⊢
      rw [← hye] at hx cc
      have m0 : IntKind.u64.wrap (x * 256) = x * 256 := by simp [IntKind.wrap, IntKind.bits, IntKind.signed]; omega
      have m1 : IntKind.u64.wrap y = y := by simp [IntKind.wrap, IntKind.bits, IntKind.signed]; omega
      have m2 : bits .or .u64 (x * 256) y = z := by rw [or_add x y hb.1 hb.2 hx.1 hx.2, hnt]
      have m3 : x * 256 % 18446744073709551616 = x * 256 := by omega
      have p0 : (0 : Int) ≤ (m : Int) := by omega
      have p1 : (m : Int) < (n : Int) := by omega
      have HZ := Lib.hid hze
      clear hnt hxe hye hze hb hx hc
      go_wp2_with fail
      go_roundw
      case rel => exact ⟨m + 1, by omega, by go_num, by rw [HZ.out], trivial⟩
      case measure => simp [intOf]; omega
    · obtain rfl : n = m := by omega
      have HE : Hid (l.take n = l) := Lib.hid (by rw [HN.out, List.take_length])
      clear hlt hm
      go_wp2_with fail
      go_ret
      exact ⟨by rw [HE.out]; rfl, rfl⟩

theorem areaD_any {w : World} {b : Nat} {S : List Nat} {d : DK} (h : DiskAt w b S d) (from_ room : Int) (hf : -9223372036854775808 ≤ from_ ∧ from_ ≤ 9223372036854775807) (hm : d.last.length ≤ 4096) :
    Calls Try.prog 26 #[.pointer (some ⟨b, 0, none⟩), .int .i64 from_, .int .i64 room] w fun e w' => e = .returned (.bool (areaB d.last.length from_ room)) ∧ w = w' := by
  have HB := Lib.hid (blocks_any b S d w h)
  obtain ⟨n, hn⟩ : ∃ n, n = d.last.length := ⟨_, rfl⟩
  rw [← hn] at HB hm ⊢
  clear hn h
  have key : (decide (0 ≤ from_) = false ∧ areaB n from_ room = false) ∨ (decide (0 ≤ from_) = true ∧ decide (0 ≤ room) = false ∧ areaB n from_ room = false) ∨ (decide (0 ≤ from_) = true ∧ decide (0 ≤ room) = true ∧ decide (from_ ≤ (n : Int)) = false ∧ areaB n from_ room = false) ∨
      (decide (0 ≤ from_) = true ∧ decide (0 ≤ room) = true ∧ decide (from_ ≤ (n : Int)) = true ∧ IntKind.i64.wrap ((n : Int) - from_) = (n : Int) - from_ ∧ areaB n from_ room = decide (room ≤ (n : Int) - from_)) := by
    unfold areaB
    by_cases h1 : 0 ≤ from_
    · by_cases h2 : 0 ≤ room
      · by_cases h3 : from_ ≤ (n : Int)
        · right; right; right; exact ⟨decide_eq_true h1, decide_eq_true h2, decide_eq_true h3, IntWalk.i64_in _ (by omega), by simp [h1, h2, h3]⟩
        · right; right; left; simp [h1, h2, h3]
      · right; left; simp [h1, h2]
    · left; simp [h1]
  obtain ⟨r, hr⟩ : ∃ r, r = areaB n from_ room := ⟨_, rfl⟩
  rw [← hr] at key ⊢
  clear hr
  rcases key with ⟨h1, rfl⟩ | ⟨h1, h2, rfl⟩ | ⟨h1, h2, h3, rfl⟩ | ⟨h1, h2, h3, h4, rfl⟩
  all_goals
    go_enter Try.func26, Try.ntmps26
    go_wp2_with (go_at_call 38; refine HB.out.mono ?_; rintro e _ ⟨rfl, rfl⟩)
    go_ret
    exact ⟨rfl, rfl⟩

end Go.Proofs.Ytpeboaoephkfhaa
