/- The walk of lay. -/
import Derived.Test.YtpeboaoephkfhaaImgB
namespace Go.Proofs.Ytpeboaoephkfhaa
open Go.ChangeShapes Go.WideShapes Go.ChangeAt Go.RowKit

/-- The first i of k bytes of a number, laid from the last on. -/
def layN (n : Int) (c : List Int) (off k : Nat) : Nat → List Int
  | 0 => c
  | i + 1 => (layN n c off k i).set (off + (k - 1 - i)) (n / 2 ^ (8 * i) % 256)
theorem layN_len (n : Int) (c : List Int) (off k : Nat) : ∀ i, (layN n c off k i).length = c.length
  | 0 => rfl
  | i + 1 => by rw [layN, List.length_set, layN_len n c off k i]

set_option maxRecDepth 100000 in
set_option maxHeartbeats 1000000 in
theorem lay_any {w : World} {xb off k cap : Nat} {c : List Int} {T : TypeId} (n : Int) (hb : Blk w xb (U8 c) T) (hk : off + k ≤ c.length) (hk8 : k ≤ 8) :
    Calls Try.prog 29 #[.slice (some ⟨xb, off, none⟩) k cap, .int .u64 n] w fun e w' => e = .returned (.tuple #[]) ∧ Blk w' xb (U8 (layN n c off k k)) T ∧ Upd [xb] w w' := by
  have HB := Lib.hid hb
  clear hb
  go_enter Try.func29, Try.ntmps29
  go_upto_region 1 with fail
  go_loopw [7] (fun i wx => ∃ (m : Nat), m ≤ k ∧ i = .int .i64 m ∧ Blk wx xb (U8 (layN n c off k m)) T ∧ Upd [xb] w wx) (fun i _ => k - (intOf i).toNat)
  case atStart => exact ⟨0, Nat.zero_le _, rfl, HB.out, Upd.refl _ _⟩
  case round =>
    obtain ⟨m, hm, rfl, ho, hu⟩ := hrel
    have HO := Lib.hid ho
    have HU := Lib.hid hu
    by_cases hlt : m < k
    · have hfl := layN_len n c off k m
      obtain ⟨k1, hk1⟩ : ∃ q : Nat, q = k - 1 := ⟨_, rfl⟩
      obtain ⟨q, hq⟩ : ∃ q : Nat, q = k - 1 - m := ⟨_, rfl⟩
      obtain ⟨sf, hsf⟩ : ∃ q : Nat, q = 8 * m := ⟨_, rfl⟩
      have m0 : IntKind.i64.wrap ((k : Int) - 1) = (k1 : Int) := by rw [IntWalk.i64_in _ (by omega)]; omega
      have m1 : IntKind.i64.wrap ((k1 : Int) - (m : Int)) = (q : Int) := by rw [IntWalk.i64_in _ (by omega)]; omega
      have m2 : IntKind.i64.wrap (8 * (m : Int)) = (sf : Int) := by rw [IntWalk.i64_in _ (by omega)]; omega
      have p0 : (0 : Int) ≤ (q : Int) := by omega
      have p1 : (q : Int) < (k : Int) := by omega
      have p2 : (0 : Int) ≤ (sf : Int) := by omega
      have p3 : sf ≤ 56 := by omega
      have p4 : (0 : Int) ≤ (m : Int) := by omega
      have p5 : (m : Int) < (k : Int) := by omega
      have co : wr.cell? ⟨xb, off + q, none⟩ = some (.int .u8 ((layN n c off k m).getD (off + q) 0)) := ho.cell (o := off + q) (U8_get _ _ (by rw [hfl]; omega))
      have fo := ho.free (off + q)
      have HQ : Hid (layN n c off k (m + 1) = (layN n c off k m).set (off + q) (n / 2 ^ sf % 256)) := Lib.hid (by rw [layN, hq, hsf])
      clear hfl hk1 hq hsf ho hu
      go_wp2_with fail
      go_roundw
      case rel =>
        have hn := HO.out.set (off + q) (.int .u8 (n / 2 ^ sf % 256))
        have e1 : (U8 (layN n c off k m)).setIfInBounds (off + q) (.int .u8 (n / 2 ^ sf % 256)) = U8 (layN n c off k (m + 1)) := by
          rw [HQ.out]; unfold U8; rw [List.setIfInBounds_toArray, ← List.map_set]
        rw [e1] at hn
        exact ⟨m + 1, by omega, by go_num, hn, HU.out.setCell (.inl (by simp)) _⟩
      case measure => simp [intOf]; omega
    · obtain rfl : k = m := by omega
      clear hlt hm ho hu
      go_wp2_with fail
      exact bodyPost_end (results_none rfl _ _ _) rfl ⟨rfl, HO.out, HU.out⟩

end Go.Proofs.Ytpeboaoephkfhaa
