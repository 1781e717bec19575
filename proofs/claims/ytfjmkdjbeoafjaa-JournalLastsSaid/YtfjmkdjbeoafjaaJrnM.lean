/- The plain law of journals over a disk without a crash: behind what was laid stand zeros. -/
import Derived.Test.YtfjmkdjbeoafjaaJrnL
import Derived.Test.YtfjmkdjbeoafjaaDiskQ
namespace Go.Proofs.Ytfjmkdjbeoafjaa
open Go.RowKit

theorem rd_layRec {d : DK} (hd : d.down = false) (pos : Nat) (l : Int) (b : List Int) : ∀ m, pos + m ≤ d.last.length → ∀ n : Nat, n < d.last.length →
    (d.layRec pos l b m).rd (n : Int) = if pos ≤ n ∧ n < pos + m then blockJ l (b.drop (44 * (n - pos))) else d.rd (n : Int)
  | 0, _, n, _ => by rw [if_neg (by omega)]; rfl
  | m + 1, hm, n, hn => by
    have ih := rd_layRec hd pos l b m (by omega) n hn
    show ((d.layRec pos l b m).write ((pos + m : Nat) : Int) (blockJ l (b.drop (44 * m)))).rd (n : Int) = _
    rw [q_rd_write, ih]
    have hc : (d.layRec pos l b m).code ((pos + m : Nat) : Int) = 0 := q_code_up (by rw [DK.layRec_down]; exact hd) (by rw [DK.layRec_last]; omega)
    by_cases e : n = pos + m
    · subst e
      rw [if_pos ⟨rfl, hc⟩, if_pos (by omega), Nat.add_sub_cancel_left]
    · rw [if_neg (fun h => e (by have := h.1; omega))]
      by_cases e2 : pos ≤ n ∧ n < pos + m
      · rw [if_pos e2, if_pos (by omega)]
      · rw [if_neg e2, if_neg (by omega)]

theorem area_layRec {d : DK} (hd : d.down = false) {f n u m : Nat} (l : Int) (b : List Int) (hf : f + n ≤ d.last.length) (hm : u + m ≤ n) :
    (d.layRec (f + u) l b m).area f n = (d.area f n).take u ++ (blocksJ l b m ++ (d.area f n).drop (u + m)) := by
  have hlen : ((d.area f n).take u).length = u := by rw [List.length_take, area_len]; omega
  have hbl : (blocksJ l b m).length = m := by simp [blocksJ]
  apply List.ext_getElem?
  intro i
  by_cases hi : i < n
  · have e1 : ((d.layRec (f + u) l b m).area f n)[i]? = some ((d.layRec (f + u) l b m).rd ((f + i : Nat) : Int)) := by unfold DK.area; rw [List.getElem?_map, List.getElem?_range hi]; rfl
    have e2 : (d.area f n)[i]? = some (d.rd ((f + i : Nat) : Int)) := by unfold DK.area; rw [List.getElem?_map, List.getElem?_range hi]; rfl
    rw [e1, rd_layRec hd (f + u) l b m (by omega) (f + i) (by omega)]
    by_cases h1 : i < u
    · rw [if_neg (by omega), List.getElem?_append_left (by omega), List.getElem?_take, if_pos h1, e2]
    · rw [List.getElem?_append_right (by omega), hlen]
      by_cases h2 : i < u + m
      · rw [if_pos (by omega), List.getElem?_append_left (by omega)]
        unfold blocksJ
        rw [List.getElem?_map, List.getElem?_range (by omega), show f + i - (f + u) = i - u by omega]; rfl
      · rw [if_neg (by omega), List.getElem?_append_right (by omega), hbl, List.getElem?_drop, show u + m + (i - u - m) = i by omega, e2]
  · rw [List.getElem?_eq_none (by rw [area_len]; omega), List.getElem?_eq_none (by rw [List.length_append, List.length_append, hlen, hbl, List.length_drop, area_len]; omega)]

theorem life8_zeros : life8 DK.zeros = 0 := by decide +kernel
theorem life8_zeros56 : life8 (DK.zeros.drop 56) = 0 := by decide +kernel
theorem good_zeros (l : Int) (x : Bool) : goodB DK.zeros l x = false := by
  unfold goodB
  rw [life8_zeros, decide_eq_false (by omega)]; rfl

/-- Records are laid, of lives up to L, in so many blocks; zeros stand behind them. -/
structure Fr (d : DK) (f n : Nat) (L : Int) (used : Nat) (recs : List (List Int)) : Prop where
  up : d.down = false
  room : f + n ≤ d.last.length
  within : used ≤ n
  pos : 0 ≤ L
  rd : ∃ lst, lst ≤ L ∧ Rd ((d.area f n).take used) lst recs
  rest : (d.area f n).drop used = List.replicate (n - used) DK.zeros
  most : ∀ b ∈ (d.area f n).take used, life8 b ≤ L ∧ life8 (b.drop 56) ≤ L
  reach : L = 0 ∨ ∃ b ∈ (d.area f n).take used, life8 b = L

theorem Fr.new {N f n : Nat} (h : f + n ≤ N) : Fr (DK.new N) f n 0 0 [] := by
  refine ⟨rfl, by simpa [DK.new] using h, by omega, by omega, ⟨0, by omega, Rd.nil⟩, ?_, by simp, .inl rfl⟩
  rw [List.drop_zero, Nat.sub_zero]
  apply List.ext_getElem?
  intro i
  unfold DK.area
  rw [List.getElem?_map, List.getElem?_replicate]
  by_cases hi : i < n
  · rw [List.getElem?_range hi, if_pos hi]
    exact congrArg some (q_new_rd (by omega))
  · rw [if_neg hi, List.getElem?_eq_none (by simpa using hi)]; rfl

theorem Fr.read {d : DK} {f n : Nat} {L : Int} {used : Nat} {recs : List (List Int)} (h : Fr d f n L used recs) : parse (d.area f n) 0 [] 0 [] 0 = (recs, used) := by
  obtain ⟨lst, -, hr⟩ := h.rd
  have hlen : ((d.area f n).take used).length = used := by rw [List.length_take, area_len]; have := h.within; omega
  have := hr ((d.area f n).drop used)
  rw [List.take_append_drop, h.rest, hlen] at this
  rw [this]
  cases hm : n - used with
  | zero => rfl
  | succ m => rw [List.replicate_succ, parse, good_zeros, if_neg Bool.false_ne_true]

theorem fold_life (L : Int) : ∀ (bs : List Blok) (m : Int), m ≤ L + 1 → (∀ b ∈ bs, life8 b ≤ L ∧ life8 (b.drop 56) ≤ L) → m ≤ bs.foldl lifeStep m ∧ bs.foldl lifeStep m ≤ L + 1 ∧ ((∃ b ∈ bs, life8 b = L) → bs.foldl lifeStep m = L + 1) := by
  intro bs
  induction bs with
  | nil => intro m hm _; exact ⟨Int.le_refl _, hm, fun ⟨b, hb, _⟩ => by cases hb⟩
  | cons b t ih =>
    intro m hm h
    have hb := h b List.mem_cons_self
    have e : lifeStep m b = max (max m (life8 b + 1)) (life8 (b.drop 56) + 1) := rfl
    have := ih (lifeStep m b) (by omega) (fun x hx => h x (List.mem_cons_of_mem _ hx))
    rw [List.foldl_cons]
    refine ⟨by omega, this.2.1, fun ⟨x, hx, hxl⟩ => ?_⟩
    rcases List.mem_cons.1 hx with rfl | hx
    · have h1 : L + 1 ≤ lifeStep m x := by omega
      have h2 := this.1
      have h3 := this.2.1
      omega
    · exact this.2.2 ⟨x, hx, hxl⟩

theorem Fr.life {d : DK} {f n : Nat} {L : Int} {used : Nat} {recs : List (List Int)} (h : Fr d f n L used recs) : openLife (d.area f n) = L + 1 := by
  have hall : ∀ b ∈ d.area f n, life8 b ≤ L ∧ life8 (b.drop 56) ≤ L := fun b hb => by
    rw [← List.take_append_drop used (d.area f n)] at hb
    rcases List.mem_append.1 hb with hb | hb
    · exact h.most b hb
    · rw [h.rest] at hb
      rw [List.eq_of_mem_replicate hb, life8_zeros, life8_zeros56]
      have := h.pos; omega
  have hp := h.pos
  have := fold_life L (d.area f n) 1 (by omega) hall
  unfold openLife
  rcases h.reach with h0 | ⟨b, hb, hbl⟩
  · subst h0; omega
  · exact this.2.2 ⟨b, List.mem_of_mem_take hb, hbl⟩

theorem Fr.open_ {d : DK} {f n : Nat} {L : Int} {used : Nat} {recs : List (List Int)} (h : Fr d f n L used recs) : d.openJ f n = ⟨f, n, L + 1, used, recs⟩ := by
  unfold DK.openJ; rw [h.read, h.life]

theorem Fr.push {d : DK} {f n : Nat} {L l : Int} {used : Nat} {recs : List (List Int)} (h : Fr d f n L used recs) {b : List Int} (hb : 0 < b.length) (hL : L ≤ l) (h1 : 1 ≤ l) (h2 : l ≤ 1099511627776) (hn : needJ b ≤ n - used) :
    Fr (d.layRec (f + used) l b (needJ b)) f n l (used + needJ b) (recs ++ [b]) := by
  have hu := h.within
  have har := area_layRec h.up (f := f) (n := n) (u := used) (m := needJ b) l b h.room (by omega)
  have hlen : ((d.area f n).take used).length = used := by rw [List.length_take, area_len]; omega
  have hbl : (blocksJ l b (needJ b)).length = needJ b := by simp [blocksJ]
  have htk : ((d.layRec (f + used) l b (needJ b)).area f n).take (used + needJ b) = (d.area f n).take used ++ blocksJ l b (needJ b) := by
    rw [har, ← List.append_assoc, List.take_left' (by rw [List.length_append, hlen, hbl])]
  have hdr : ((d.layRec (f + used) l b (needJ b)).area f n).drop (used + needJ b) = (d.area f n).drop (used + needJ b) := by
    rw [har, ← List.append_assoc, List.drop_left' (by rw [List.length_append, hlen, hbl])]
  obtain ⟨lst, hl, hr⟩ := h.rd
  refine ⟨by rw [DK.layRec_down]; exact h.up, by rw [DK.layRec_last]; exact h.room, by omega, by omega, ⟨l, Int.le_refl _, by rw [htk]; exact hr.push hb h1 h2 (by omega)⟩, ?_, fun x hx => ?_, .inr ⟨blockJ l (b.drop (44 * 0)), ?_, life8_head l _ (by omega) h2⟩⟩
  · rw [hdr, ← List.drop_drop, h.rest, List.drop_replicate]
    congr 1; omega
  · rw [htk] at hx
    rcases List.mem_append.1 hx with hx | hx
    · have := h.most x hx; omega
    · obtain ⟨i, _, rfl⟩ := List.mem_map.1 hx
      rw [life8_head l _ (by omega) h2, life8_tail l _ (by omega) h2]; omega
  · rw [htk]
    exact List.mem_append_right _ (List.mem_map.2 ⟨0, List.mem_range.2 (by unfold needJ; omega), rfl⟩)

theorem Fr.flush {d : DK} {f n : Nat} {L : Int} {used : Nat} {recs : List (List Int)} (h : Fr d f n L used recs) (hw : d.WF) : Fr d.flush f n L used recs := by
  have ha : d.flush.area f n = d.area f n := by
    unfold DK.area
    apply List.map_congr_left
    intro i hi
    exact q_flush_rd hw h.up (by have h1 := List.mem_range.1 hi; have h2 := h.room; omega)
  exact ⟨by rw [q_flush_dn]; exact h.up, by rw [q_flush_len]; exact h.room, h.within, h.pos, by rw [ha]; exact h.rd, by rw [ha]; exact h.rest, by rw [ha]; exact h.most, by rw [ha]; exact h.reach⟩

/-- The journal k lies on the disk d. -/
def JI (d : DK) (k : JK) (L : Int) : Prop := Fr d k.from_ k.blocks L k.used k.recs ∧ L ≤ k.life ∧ 1 ≤ k.life ∧ k.life ≤ 1099511627776

theorem JI.app {d : DK} {k : JK} {L : Int} (h : JI d k L) (b : List Int) : JI (d.app k b) (k.app b) (if k.code b = 0 then k.life else L) := by
  rcases code_cases k b with ⟨hc, h1⟩ | ⟨hc, h0, h1, h2⟩ | ⟨hc, h0, h1, h2⟩
  · have e1 : d.app k b = d := by unfold DK.app; rw [hc]; rfl
    have e2 : k.app b = k := by unfold JK.app; rw [hc]; rfl
    rw [hc, e1, e2]; exact h
  · have e1 : d.app k b = d := by unfold DK.app; rw [hc]; rfl
    have e2 : k.app b = k := by unfold JK.app; rw [hc]; rfl
    rw [hc, e1, e2]; exact h
  · have e1 : d.app k b = d.layRec (k.from_ + k.used) k.life b (needJ b) := by unfold DK.app; rw [hc]; rfl
    have e2 : k.app b = k.push b := by unfold JK.app; rw [hc]; rfl
    rw [hc, e1, e2, if_pos rfl]
    exact ⟨h.1.push h0 h.2.1 h.2.2.1 h.2.2.2 h2, Int.le_refl _, h.2.2.1, h.2.2.2⟩

end Go.Proofs.Ytfjmkdjbeoafjaa
