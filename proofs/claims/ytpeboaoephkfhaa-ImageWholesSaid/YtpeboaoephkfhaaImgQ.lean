/- Plain: an image that is put piece by piece, and pointed at. No program in sight. -/
import Derived.Test.YtpeboaoephkfhaaImgO
import Derived.Test.YtpeboaoephkfhaaImgN
import Derived.Test.YtpeboaoephkfhaaImgJ
import Derived.Test.YtpeboaoephkfhaaDiskQ
namespace Go.Proofs.Ytpeboaoephkfhaa
open Go.RowKit

theorem rd_eq {d e : DK} (hd : d.WF) (he : e.WF) (n : Nat) (h : ∀ j, j < 64 → byt d (64 * n + j) = byt e (64 * n + j)) : d.rd (n : Int) = e.rd (n : Int) := by
  have h1 := DK.rd_len hd (n : Int)
  have h2 := DK.rd_len he (n : Int)
  apply List.ext_getElem?
  intro j
  by_cases hj : j < 64
  · have h3 := h j hj
    unfold byt at h3
    rw [show (64 * n + j) / 64 = n by omega, show (64 * n + j) % 64 = j by omega, List.getD_eq_getElem?_getD, List.getD_eq_getElem?_getD, List.getElem?_eq_getElem (by omega), List.getElem?_eq_getElem (by omega)] at h3
    rw [List.getElem?_eq_getElem (by omega), List.getElem?_eq_getElem (by omega)]
    simpa using h3
  · rw [List.getElem?_eq_none (by omega), List.getElem?_eq_none (by omega)]

/-- A disk of twenty-two blocks; where the image lies; what lies there; how it starts. -/
structure Img (d : DK) (ff : Nat) (l : List Int) : Prop where
  wf : d.WF
  up : d.down = false
  len : d.last.length = 22
  img : ∀ j, j < l.length → byt d (64 * ff + j) = l.getD j 0

theorem Img.get {d : DK} {ff : Nat} {l : List Int} (h : Img d ff l) (hf : ff + 10 ≤ 22) (hl : l.length ≤ 640) : getF d (ff : Int) 10 (l.length : Int) = (l, 0) := by
  obtain ⟨x, h1, h2, h3⟩ := getF_at h.wf h.up (ff : Int) 10 (l.length : Int) ff 10 l.length rfl rfl rfl (by rw [h.len]; exact hf) (by omega)
  rw [h1]
  congr 1
  apply List.ext_getElem?
  intro j
  by_cases hj : j < l.length
  · have e := h3 j hj
    rw [h.img j hj, List.getD_eq_getElem?_getD, List.getD_eq_getElem?_getD, List.getElem?_eq_getElem (by omega), List.getElem?_eq_getElem hj] at e
    rw [List.getElem?_eq_getElem (by omega), List.getElem?_eq_getElem hj]
    simpa using e
  · rw [List.getElem?_eq_none (by omega), List.getElem?_eq_none (by omega)]

theorem Img.whole {d : DK} {ff : Nat} {l : List Int} (h : Img d ff l) (hf : ff + 10 ≤ 22) (hl : l.length ≤ 640) (k : BK) (hk : k.size = (l.length : Int)) : wholeF d (ff : Int) 10 k = if (sumF l == k.whole) = true then 0 else 80 := by
  unfold wholeF
  rw [hk, h.get hf hl, if_neg (by simp)]

/-- The image, put in two pieces onto an empty disk. -/
theorem put_two {ff k : Nat} {b : List Int} (hff : 2 ≤ ff) (hf : ff + 10 ≤ 22) (hb : b.length ≤ 640) (hk : k ≤ b.length) :
    ∃ d1 d2, putF (DK.new 22) (ff : Int) 10 (k : Int) (b.drop k) = (d1, 0) ∧ putF d1 (ff : Int) 10 0 (b.take k) = (d2, 0) ∧ Img d2 ff b ∧ d2.rd 0 = DK.zeros ∧ d2.rd 1 = DK.zeros := by
  have hw0 : (DK.new 22).WF := DK.WF.new (by decide)
  have hz : ∀ n : Nat, n < 22 → (DK.new 22).rd (n : Int) = DK.zeros := fun n hn => q_new_rd hn
  have e10 : (10 : Int) = ((10 : Nat) : Int) := rfl
  obtain ⟨d1, p1, w1, u1, l1, b1⟩ := putF_law hw0 rfl ff 10 k (b.drop k) (by show ff + 10 ≤ (DK.new 22).last.length; rw [show (DK.new 22).last.length = 22 from List.length_replicate]; exact hf) (by rw [List.length_drop]; omega)
  rw [show (DK.new 22).last.length = 22 from List.length_replicate] at l1
  obtain ⟨d2, p2, w2, u2, l2, b2⟩ := putF_law w1 u1 ff 10 0 (b.take k) (by rw [l1]; exact hf) (by rw [List.length_take]; omega)
  rw [l1] at l2
  refine ⟨d1, d2, p1, p2, ⟨w2, u2, l2, fun j hj => ?_⟩, ?_, ?_⟩
  · rw [b2, List.length_take]
    by_cases c : j < k
    · rw [if_pos (by omega), List.getD_eq_getElem?_getD, List.getElem?_take, if_pos (by omega), List.getD_eq_getElem?_getD]
      congr 2; omega
    · rw [if_neg (by omega), b1, List.length_drop, if_pos (by omega), List.getD_eq_getElem?_getD, List.getElem?_drop, List.getD_eq_getElem?_getD]
      congr 2; omega
  · rw [← hz 0 (by omega)]
    exact rd_eq w2 hw0 0 (fun j hj => by rw [b2, if_neg (by omega), b1, if_neg (by omega)])
  · rw [← hz 1 (by omega)]
    exact rd_eq w2 hw0 1 (fun j hj => by rw [b2, if_neg (by omega), b1, if_neg (by omega)])

/-- It is pointed at. -/
theorem Img.point {d : DK} {ff : Nat} {l : List Int} (h : Img d ff l) (hff : 2 ≤ ff) (hf : ff + 10 ≤ 22) (hl : l.length ≤ 640) (h0 : d.rd 0 = DK.zeros) (h1 : d.rd 1 = DK.zeros) {k : BK} (hk : k.WF) (hok : k.Ok) :
    ∃ d', pointF d 0 k = (d', 0) ∧ Img d' ff l ∧ d'.rd 0 = bootB k 1 ∧ d'.rd 1 = DK.zeros := by
  have hs : startF d 0 = (BK.zero, 0, 81) := by
    rw [start_gen (bx := BK.zero) (cx := 0) (bby := BK.zero) (cy := 0) (by rw [h.len]; decide) h.up (by rw [h0]; exact readB_zeros) (by rw [show (0 : Int) + 1 = 1 from rfl, h1]; exact readB_zeros), better_z, better_z, if_pos rfl]
  have hz := boot_len (n := 1) hk.whole
  have hc : d.code 0 = 0 := o_code_up (n := 0) h.up (by rw [h.len]; omega)
  have hw1 : (d.write 0 (bootB k 1)).WF := h.wf.write hz
  have hu1 : (d.write 0 (bootB k 1)).down = false := by rw [write_down]; exact h.up
  have hl1 : (d.write 0 (bootB k 1)).last.length = 22 := by rw [write_last]; exact h.len
  have hrd : ∀ n : Nat, n < 22 → ((d.write 0 (bootB k 1)).flush).rd (n : Int) = if n = 0 then bootB k 1 else d.rd (n : Int) := fun n hn => by
    rw [q_flush_rd hw1 hu1 (by rw [hl1]; exact hn), o_rd_write]
    by_cases c : n = 0
    · rw [if_pos ⟨by omega, hc⟩, if_pos c]
    · rw [if_neg (fun h2 => c (by omega)), if_neg c]
  refine ⟨(d.write 0 (bootB k 1)).flush, ?_, ⟨hw1.flush, by rw [q_flush_dn]; exact hu1, by rw [q_flush_len]; exact hl1, fun j hj => ?_⟩, ?_, ?_⟩
  · unfold pointF
    rw [hs]
    rw [if_neg (by rw [hok.may]; simp), if_neg (by simp), if_neg (by simp)]
    rfl
  · rw [← h.img j hj]
    unfold byt
    rw [hrd _ (by omega), if_neg (by omega)]
  · have := hrd 0 (by omega)
    rw [if_pos rfl] at this
    exact this
  · have := hrd 1 (by omega)
    rw [if_neg (by omega)] at this
    rw [← h1]
    exact this

/-- Another byte of it. -/
theorem Img.other {d : DK} {ff : Nat} {l : List Int} (h : Img d ff l) (hff : 2 ≤ ff) (hf : ff + 10 ≤ 22) (hl : l.length ≤ 640) {t : Nat} (ht : t < l.length) (v : Int) :
    ∃ d', putF d (ff : Int) 10 (t : Int) [v] = (d', 0) ∧ Img d' ff (l.set t v) ∧ d'.rd 0 = d.rd 0 ∧ d'.rd 1 = d.rd 1 := by
  obtain ⟨d2, p2, w2, u2, l2, b2⟩ := putF_law h.wf h.up ff 10 t [v] (by rw [h.len]; exact hf) (by show t + 1 ≤ 10 * 64; omega)
  rw [h.len] at l2
  simp only [List.length_cons, List.length_nil] at b2
  refine ⟨d2, p2, ⟨w2, u2, l2, fun j hj => ?_⟩, ?_, ?_⟩
  · rw [List.length_set] at hj
    rw [b2]
    by_cases c : j = t
    · subst c
      rw [if_pos (by omega), show 64 * ff + j - (64 * ff + j) = 0 by omega, List.getD_eq_getElem?_getD, List.getD_eq_getElem?_getD, List.getElem?_set_self hj]; rfl
    · rw [if_neg (by omega), h.img j hj, List.getD_eq_getElem?_getD, List.getD_eq_getElem?_getD, List.getElem?_set_ne (by omega)]
  · exact rd_eq w2 h.wf 0 (fun j hj => by rw [b2, if_neg (by omega)])
  · exact rd_eq w2 h.wf 1 (fun j hj => by rw [b2, if_neg (by omega)])

theorem Img.start {d : DK} {ff : Nat} {l : List Int} (h : Img d ff l) {k : BK} (hk : k.WF) (hok : k.Ok) (h0 : d.rd 0 = bootB k 1) (h1 : d.rd 1 = DK.zeros) : startF d 0 = (k, 1, 0) := by
  rw [start_gen (bx := k) (cx := 1) (bby := BK.zero) (cy := 0) (by rw [h.len]; decide) h.up (by rw [h0]; exact readB_boot hk.whole hok (by omega) (by omega)) (by rw [show (0 : Int) + 1 = 1 from rfl, h1]; exact readB_zeros),
    better_up (p := (BK.zero, 0)) (b := k) (c := 1) (by show (0 : Int) < 1; omega), better_no (p := (k, 1)) (b := BK.zero) (c := 0) (by show ¬ (1 : Int) < 0; omega), if_neg (by show ¬ (1 : Int) = 0; omega)]

end Go.Proofs.Ytpeboaoephkfhaa
