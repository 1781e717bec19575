/- The walk of awake of the journal's statements. -/
import Derived.Test.YtfjmkdjbeoafjaaJrnJ
import Derived.Lib.SmallJoins
namespace Go.Proofs.Ytfjmkdjbeoafjaa
open Go.ChangeShapes Go.WideShapes Go.ChangeAt Go.RowKit

theorem layL_u8 (l : Int) {m : Blok} (h : U8L m) : ∀ k, U8L (layL l m k)
  | 0 => h
  | k + 1 => by
    have ih := layL_u8 l h k
    have hb : 0 ≤ lifeByte l k ∧ lifeByte l k < 256 := by unfold lifeByte; omega
    intro x hx
    rcases List.mem_or_eq_of_mem_set hx with hx | rfl
    · rcases List.mem_or_eq_of_mem_set hx with hx | rfl
      · exact ih x hx
      · exact hb
    · exact hb

theorem blockJ_u8 (l : Int) {rest : List Int} (h : U8L rest) : U8L (blockJ l rest) := by
  refine layL_u8 l ?_ 8
  have h1 : U8L (splice DK.zeros 12 (rest.take 44)) := by
    unfold splice
    exact ((zeros_u8.take _).append (h.take _)).append (zeros_u8.drop _)
  have h2 : U8L ((splice DK.zeros 12 (rest.take 44)).set 9 (min (rest.length : Int) 44)) := fun x hx => by
    rcases List.mem_or_eq_of_mem_set hx with hx | rfl
    · exact h1 x hx
    · omega
  unfold headJ
  simp only
  split
  · intro x hx
    rcases List.mem_or_eq_of_mem_set hx with hx | rfl
    · exact h2 x hx
    · omega
  · exact h2

theorem DK.Byt.layRec {d : DK} (h : d.Byt) (pos : Nat) (l : Int) {b : List Int} (hb : U8L b) : ∀ i, (d.layRec pos l b i).Byt
  | 0 => h
  | i + 1 => (DK.Byt.layRec h pos l hb i).write _ (blockJ_u8 l (hb.drop _))

theorem DK.Byt.app {d : DK} (h : d.Byt) (k : JK) {b : List Int} (hb : U8L b) : (d.app k b).Byt := by
  unfold DK.app; split
  · exact h.layRec _ _ hb _
  · exact h

namespace Awake7
def D0 : DK := DK.new (10 : Int).toNat
def K0 : JK := D0.openJ (1 : Int).toNat (8 : Int).toNat
def D1 : DK := D0.app K0 [97]
def K1 : JK := K0.app [97]
def D2 : DK := D1.flush
def z50 : List Int := List.replicate 50 0
def D3 : DK := D2.app K1 z50
def K2 : JK := K1.app z50
def D4 : DK := D3.crash [64]
def D5 : DK := D4.start
def K3 : JK := D5.openJ (1 : Int).toNat (8 : Int).toNat
theorem c0 : K0.code [97] = 0 := by decide +kernel
theorem c1 : D1.fcode = 0 := by decide +kernel
theorem c2 : K1.code z50 = 0 := by decide +kernel
theorem c3 : (K2.blocks : Int) - (K2.used : Int) = 5 := by decide +kernel
theorem c4 : K3.recs = [[97]] := by decide +kernel
theorem c5 : K3.life = 2 := by decide +kernel
theorem c6 : (K3.blocks : Int) - (K3.used : Int) = 7 := by decide +kernel
theorem l0 : D0.last.length = 10 := by decide +kernel
theorem l2 : D2.last.length = 10 := by decide +kernel
theorem l5 : D5.last.length = 10 := by decide +kernel
theorem d0 : D0.down = false := by decide +kernel
theorem d2 : D2.down = false := by decide +kernel
theorem d5 : D5.down = false := by decide +kernel
theorem k0 : K0.from_ + K0.blocks = 9 := by decide +kernel
theorem k1 : K1.from_ + K1.blocks = 9 := by decide +kernel
theorem u1 : U8L [97] := by intro x hx; simp at hx; omega
theorem u50 : U8L z50 := by intro x hx; rw [List.eq_of_mem_replicate hx]; omega
theorem b0 : D0.Byt := DK.Byt.new _
theorem b5 : D5.Byt := (((((b0.app K0 u1).flush).app K1 u50).crash [64]).start)
end Awake7

/-- Bytes in a block of their own. -/
theorem bytes_blk {w : World} {B : Nat} {l : List Int} {T : TypeId} (h : Blk w B (U8 l) T) (hm : l.length ≤ maxLen) : BytesAt w (.slice (some ⟨B, 0, none⟩) l.length l.length) l := by
  have := BytesAt.of_blk h (off := 0) l.length l.length (by omega) (by omega) hm
  rwa [List.drop_zero, List.take_of_length_le (Nat.le_refl _)] at this

/-- The bytes of a literal, in a block of their own. -/
theorem bytes_mark (w : World) (l : List Int) (T : TypeId) (fr : Nat × Nat) (hm : l.length ≤ maxLen) : BytesAt (w.alloc (.cells (U8 l) T fr)) (.slice (some ⟨w.heap.size, 0, none⟩) l.length l.length) l :=
  ⟨_, _, rfl, Nat.le_refl _, hm, fun _ => ⟨w.heap.size, 0, rfl, by simp, fun i hi => by
    rw [Nat.zero_add, World.cell?_alloc_mark]
    exact U8_get l i hi⟩⟩

set_option maxRecDepth 100000 in
set_option maxHeartbeats 1000000 in
theorem awake_any (w : World) : Calls Try.prog 10 #[] w fun e w' => e = .returned (.bool true) ∧ Upd [] w w' := by
  go_enter Try.func10, Try.ntmps10
  go_wp2_with fail
  refine (new_law 10 w (by omega) (by omega) (Upd.refl _ _)).mono ?_
  rintro e w1 ⟨p, S, rfl, hd, -, -⟩
  have HD : Hid (DInv w w1 p S Awake7.D0) := hd
  clear hd
  go_wp2_with fail
  refine (jopen_law HD.out 1 8 (by omega) (by omega) (by rw [Awake7.l0]; omega) Awake7.d0 Awake7.b0).mono ?_
  rintro e w2 ⟨j, J, rfl, hj, -, -⟩
  have HJ : Hid (JD w w2 p S Awake7.D0 j J Awake7.K0) := hj
  clear hj
  have hconv := Go.Joins.run_convert_bytes_const_at (P := Try.prog) w2 31 5 #[.int .u8 97] 1 1 w2.heap.size rfl Try.underlying31 Try.underlying5
  go_wp2_with fail
  have hb3 := bytes_mark w2 [97] 5 (1, 2) (by unfold maxLen; simp)
  have hu3 : Upd [] w2 (w2.alloc (.cells #[.int .u8 97] 5 (1, 2))) := (Upd.refl _ _).alloc _
  have HJ3 := Lib.hid (HJ.out.quiet hu3)
  have hS3 : BytesOut (.slice (some ⟨w2.heap.size, 0, none⟩) 1 1) [97] S := fun g off len cap _ e hm => by cases e; have := HJ.out.disk.disk.lt _ hm; omega
  clear hconv
  refine (japp_law HJ3.out _ [97] hb3 hS3 Awake7.u1 Awake7.d0 (by rw [Awake7.k0, Awake7.l0]; omega)).mono ?_
  rw [Awake7.c0]
  rintro e w4 ⟨rfl, S4, J4, hj, -⟩
  have HJ4 : Hid (JD w w4 p S4 Awake7.D1 j J4 Awake7.K1) := hj
  clear hj hb3 hu3 hS3 HJ HJ3
  go_wp2_with fail
  refine (jforce_law HJ4.out).mono ?_
  rw [Awake7.c1]
  rintro e w5 ⟨rfl, S5, hj, -⟩
  have HJ5 : Hid (JD w w5 p S5 Awake7.D2 j J4 Awake7.K1) := hj
  clear hj HJ4
  obtain ⟨i0, hi, hz0, hz1, hz2⟩ := info_parts info_u8
  have hzz : ∀ j, j < i0.size → (Value.int .u8 0).cells[j]! = Value.int .u8 0 := by
    intro j hj
    have e : j = 0 := by omega
    subst e; rfl
  have he50 : Array.replicate (50 * i0.size) (Value.int .u8 0) = U8 Awake7.z50 := by rw [hz1]; unfold U8 Awake7.z50; rw [List.map_replicate, List.toArray_replicate]
  have HE50 := Lib.hid he50
  clear he50
  go_wp2_with (at_make; go_loud (refine wpList_run rfl (exec_makeSlice (n := 50) 31 (.const (.int .i64 50)) rfl Try.underlying31 hi hz0 (by rw [hz1]; rfl) (by omega) hzz rfl (by rw [hz2]; omega) (by unfold maxLen; omega)) ?_); rw [HE50.out])
  have hb6 : Blk (w5.alloc (.cells (U8 Awake7.z50) 5)) w5.heap.size (U8 Awake7.z50) 5 := Blk.new _ _ _
  have hu6 : Upd [] w5 (w5.alloc (.cells (U8 Awake7.z50) 5)) := (Upd.refl _ _).alloc _
  have HJ6 := Lib.hid (HJ5.out.quiet hu6)
  have hS6 : BytesOut (.slice (some ⟨w5.heap.size, 0, none⟩) 50 50) Awake7.z50 S5 := fun g off len cap _ e hm => by cases e; have := HJ5.out.disk.disk.lt _ hm; omega
  refine (japp_law HJ6.out _ Awake7.z50 (bytes_blk hb6 (by unfold maxLen; decide)) hS6 Awake7.u50 Awake7.d2 (by rw [Awake7.k1, Awake7.l2]; omega)).mono ?_
  rw [Awake7.c2]
  rintro e w7 ⟨rfl, S7, J7, hj, -⟩
  have HJ7 : Hid (JD w w7 p S7 Awake7.D3 j J7 Awake7.K2) := hj
  clear hj hb6 hu6 hS6 HJ5 HJ6 hi hz0 hz1 hz2 hzz
  go_wp2_with fail
  refine (jroom_any j J7 p Awake7.K2 _ HJ7.out.jrn).mono ?_
  rw [Awake7.c3]
  rintro e w8 ⟨rfl, hu8⟩
  have HJ8 := Lib.hid (HJ7.out.quiet hu8)
  clear hu8 HJ7
  go_wp2_with fail
  obtain ⟨w9, hw9⟩ : ∃ w9, w9 = w8.alloc (.cells #[.int .i64 64] 3) := ⟨_, rfl⟩
  have hb9 : Blk w9 w8.heap.size #[.int .i64 64] 3 := by rw [hw9]; exact Blk.new _ _ _
  have hu9 : Upd [] w8 w9 := by rw [hw9]; exact (Upd.refl _ _).alloc _
  rw [← hw9]
  clear hw9
  have hnS : w8.heap.size ∉ S7 := fun hm => by have := HJ8.out.disk.disk.lt _ hm; omega
  refine (jcrash_law (HJ8.out.quiet hu9) _ [64] (ints_one hb9) (by intro g off n cap _ e; cases e; exact hnS)).mono ?_
  rintro e w10 ⟨rfl, S10, hj, -⟩
  have HJ10 : Hid (JD w w10 p S10 Awake7.D4 j J7 Awake7.K2) := hj
  clear hj hb9 hu9 hnS HJ8
  go_wp2_with fail
  refine (jstart_law HJ10.out).mono ?_
  rintro e w11 ⟨rfl, hj, -⟩
  have HJ11 : Hid (JD w w11 p S10 Awake7.D5 j J7 Awake7.K2) := hj
  clear hj HJ10
  go_wp2_with fail
  refine (jopen_law HJ11.out.disk 1 8 (by omega) (by omega) (by rw [Awake7.l5]; omega) Awake7.d5 Awake7.b5).mono ?_
  rintro e w12 ⟨k, JJ, rfl, hj, -, -⟩
  have HJ12 : Hid (JD w w12 p S10 Awake7.D5 k JJ Awake7.K3) := hj
  clear hj HJ11
  go_wp2_with fail
  refine (jrecords_any k JJ p Awake7.K3 _ HJ12.out.jrn).mono ?_
  rw [Awake7.c4]
  rintro e w13 ⟨rv, T, rfl, hl, -, hu13⟩
  have HJ13 := Lib.hid (HJ12.out.quiet hu13)
  obtain ⟨ra, rcap, rfl, -, hl⟩ := hl
  obtain ⟨g, off, rfl, hg, -, hl⟩ := hl (by simp)
  obtain ⟨u, hc0, hbu, -⟩ := hl 0 (by simp)
  have HBU : Hid (BytesAt w13 u [97]) := Lib.hid hbu
  have HSTR : Hid (strOfNums [97] = ⟨#[97]⟩) := Lib.hid rfl
  clear hu13 HJ12 hl hbu
  rw [Nat.add_zero] at hc0
  go_wp2_with (first
    | ((with_reducible show wpList _ _ _ (⟨some 75, _, _, _, _, _⟩ :: _) _ _); refine wpList_runW rfl (exec_str (.tmp 74) rfl rfl HBU.out) ?_; rw [HSTR.out])
    | (go_at_call 16; refine (jlife_any k JJ p Awake7.K3 _ HJ13.out.jrn).mono ?_; rw [Awake7.c5]; rintro e w14 ⟨rfl, rfl⟩)
    | (go_at_call 20; refine (jroom_any k JJ p Awake7.K3 _ HJ13.out.jrn).mono ?_; rw [Awake7.c6]; rintro e w15 ⟨rfl, hu15⟩; have HU15 := Lib.hid hu15; clear hu15)
    | (go_at_call 13; refine (append_bad (.slice none 0 0) [] j _ ⟨none, 0, rfl, by simp, by unfold maxLen; omega, fun h => absurd rfl h⟩ (.inl rfl)).mono ?_; rintro e w16 ⟨rfl, hu16⟩; have HU16 := Lib.hid hu16; clear hu16))
  go_ret
  exact ⟨rfl, (HJ13.out.disk.upd.trans HU15.out).trans HU16.out⟩

end Go.Proofs.Ytfjmkdjbeoafjaa
