/- The plain law of journals behind a crash, fourth part: appends, flushes and crashes. No program in sight. -/
import Derived.Test.YtfjmkdjbeoafjaaJrnS
namespace Go.Proofs.Ytfjmkdjbeoafjaa
open Go.RowKit

attribute [local irreducible] blockJ

/-- What lasts of an area. -/
def DK.areaL (d : DK) (f n : Nat) : List Blok := (List.range n).map fun i => d.last.getD (f + i) []

theorem areaL_len (d : DK) (f n : Nat) : (d.areaL f n).length = n := by simp [DK.areaL]
theorem areaL_get (d : DK) (f n i : Nat) (h : i < n) : (d.areaL f n).getD i [] = d.last.getD (f + i) [] := by
  unfold DK.areaL; rw [List.getD_eq_getElem?_getD, List.getElem?_map, List.getElem?_range h]; rfl

/-- A journal was opened over the blocks O, with a life L and the records r0 in u0 blocks; F was forced, U was not. -/
structure LS (d : DK) (f n : Nat) (O : List Blok) (L : Int) (r0 : List (List Int)) (u0 : Nat) (F U : List (List Int)) : Prop where
  up : d.down = false
  room : f + n ≤ d.last.length
  len : O.length = n
  sz : ∀ b ∈ O, b.length = 64
  sm : ∀ b ∈ O, Sm b
  u8 : ∀ b ∈ O, U8L b
  alive : openLife O = L
  small : L < 256
  got : parse O 0 [] 0 [] 0 = (r0, u0)
  pos : ∀ b ∈ F ++ U, 0 < b.length
  fit : u0 + (recB L (F ++ U)).length ≤ n
  lasts : d.areaL f n = over O u0 (recB L F)
  now : d.area f n = over O u0 (recB L (F ++ U))

theorem LS.lives {d : DK} {f n : Nat} {O : List Blok} {L : Int} {r0 : List (List Int)} {u0 : Nat} {F U : List (List Int)} (h : LS d f n O L r0 u0 F U) : 1 ≤ L ∧ ∀ b ∈ O, life8 b < L ∧ life8 (b.drop 56) < L := by
  have := fold_le O 1
  have e := h.alive
  unfold openLife at e
  rw [e] at this
  exact ⟨this.1, fun b hb => by have := this.2 b hb; omega⟩

theorem LS.new {N f n : Nat} (h : f + n ≤ N) : LS (DK.new N) f n (List.replicate n DK.zeros) 1 [] 0 [] [] := by
  have hl : openLife (List.replicate n DK.zeros) = 1 := by
    unfold openLife
    have hs : lifeStep 1 DK.zeros = 1 := by unfold lifeStep; rw [life8_zeros, life8_zeros56]; decide
    induction n with
    | zero => rfl
    | succ n ih => rw [List.replicate_succ, List.foldl_cons, hs]; exact ih (by omega)
  refine ⟨rfl, by simpa [DK.new] using h, List.length_replicate, ?_, ?_, ?_, hl, by decide, ?_, by simp, by show 0 + 0 ≤ n; omega, ?_, ?_⟩
  · intro b hb; rw [List.eq_of_mem_replicate hb]; decide
  · intro b hb; rw [List.eq_of_mem_replicate hb]; exact Sm.zeros
  · intro b hb; rw [List.eq_of_mem_replicate hb]; exact zeros_u8
  · cases n with
    | zero => rfl
    | succ n => rw [List.replicate_succ, parse, good_zeros, if_neg Bool.false_ne_true]
  · show _ = over _ _ []
    rw [over_nil]
    refine ext_blocks (by rw [areaL_len, List.length_replicate]) fun i hi => ?_
    rw [areaL_len] at hi
    rw [areaL_get _ _ _ _ hi]
    simp [DK.new, List.getD_eq_getElem?_getD, hi, show f + i < N by omega]
  · show _ = over _ _ []
    rw [over_nil]
    refine ext_blocks (by rw [area_len, List.length_replicate]) fun i hi => ?_
    rw [area_len] at hi
    rw [area_get _ _ _ _ hi, q_new_rd (by omega)]
    simp [List.getD_eq_getElem?_getD, hi]

theorem LS.push {d : DK} {f n : Nat} {O : List Blok} {L : Int} {r0 : List (List Int)} {u0 : Nat} {F U : List (List Int)} (h : LS d f n O L r0 u0 F U) {b : List Int} (hb : 0 < b.length) (hn : u0 + (recB L (F ++ U)).length + needJ b ≤ n) :
    LS (d.layRec (f + (u0 + (recB L (F ++ U)).length)) L b (needJ b)) f n O L r0 u0 F (U ++ [b]) := by
  have hl := h.len
  have e : recB L (F ++ (U ++ [b])) = recB L (F ++ U) ++ blocksJ L b (needJ b) := by
    rw [← List.append_assoc, recB_append L (F ++ U) [b]]
    congr 1
    show _ ++ [] = _
    rw [List.append_nil]
  refine ⟨by rw [DK.layRec_down]; exact h.up, by rw [DK.layRec_last]; exact h.room, hl, h.sz, h.sm, h.u8, h.alive, h.small, h.got, ?_, ?_, ?_, ?_⟩
  · intro x hx
    rw [← List.append_assoc] at hx
    rcases List.mem_append.1 hx with hx | hx
    · exact h.pos x hx
    · rw [List.mem_singleton.1 hx]; exact hb
  · rw [e, List.length_append, blocksJ_len]; omega
  · have e2 : (d.layRec (f + (u0 + (recB L (F ++ U)).length)) L b (needJ b)).areaL f n = d.areaL f n := by unfold DK.areaL; rw [DK.layRec_last]
    rw [e2]; exact h.lasts
  · have hm := over_more (O := O) (u := u0) (W := recB L (F ++ U)) (V := blocksJ L b (needJ b)) (by rw [blocksJ_len]; omega)
    rw [area_layRec h.up L b h.room (by omega), h.now, e, ← hm]
    unfold over
    rw [blocksJ_len]

theorem LS.flush {d : DK} {f n : Nat} {O : List Blok} {L : Int} {r0 : List (List Int)} {u0 : Nat} {F U : List (List Int)} (h : LS d f n O L r0 u0 F U) (hw : d.WF) : LS d.flush f n O L r0 u0 (F ++ U) [] := by
  have hup : d.flush.down = false := by rw [q_flush_dn]; exact h.up
  have ha : d.flush.area f n = d.area f n := by
    unfold DK.area
    apply List.map_congr_left
    intro i hi
    exact q_flush_rd hw h.up (by have h1 := List.mem_range.1 hi; have h2 := h.room; omega)
  have hb : d.flush.areaL f n = d.flush.area f n := by
    unfold DK.area DK.areaL
    apply List.map_congr_left
    intro i hi
    have h1 := List.mem_range.1 hi
    have h2 := h.room
    rw [q_rd_up hup (by rw [q_flush_len]; omega), q_flush_fresh h.up]
    rfl
  refine ⟨hup, by rw [q_flush_len]; exact h.room, h.len, h.sz, h.sm, h.u8, h.alive, h.small, h.got, by rw [List.append_nil]; exact h.pos, by rw [List.append_nil]; exact h.fit, by rw [hb, ha]; exact h.now, by rw [ha, List.append_nil]; exact h.now⟩

/-- Behind a crash. -/
theorem LS.crash {d : DK} {f n : Nat} {O : List Blok} {L : Int} {r0 : List (List Int)} {u0 : Nat} {F U : List (List Int)} (h : LS d f n O L r0 u0 F U) (hw : d.WF) (hby : d.Byt) (hL : L + 1 < 256) (fates : List Int) :
    ∃ m L' u' O', m ≤ U.length ∧ L ≤ L' ∧ L' ≤ L + 1 ∧ ((d.crash fates).start).openJ f n = ⟨f, n, L', u', r0 ++ F ++ U.take m⟩ ∧ LS ((d.crash fates).start) f n O' L' (r0 ++ F ++ U.take m) u' [] [] := by
  obtain ⟨h1, hlv⟩ := h.lives
  have hl := h.len
  have hfit := h.fit
  have hroom := h.room
  rw [recB_append, List.length_append] at hfit
  have hd' : ((d.crash fates).start).down = false := rfl
  have hlast : ((d.crash fates).start).last.length = d.last.length := by
    have e1 : ((d.crash fates).start).last = DK.settleL (DK.fate fates) 0 d.fresh d.last := by unfold DK.crash; rw [h.up]; rfl
    rw [e1, DK.settleL_len]
  have hfresh : ((d.crash fates).start).fresh = [] := by unfold DK.crash; rw [h.up]; rfl
  have hw' : ((d.crash fates).start).WF := (hw.crash fates).start
  have hby' : ((d.crash fates).start).Byt := (hby.crash fates).start
  generalize hO : ((d.crash fates).start).area f n = O'
  have hO'l : O'.length = n := by rw [← hO, area_len]
  have hO'g : ∀ i, i < n → O'.getD i [] = ((d.crash fates).start).rd ((f + i : Nat) : Int) := fun i hi => by rw [← hO, area_get _ _ _ _ hi]
  have hnow : ∀ i, i < n → d.rd ((f + i : Nat) : Int) = (over O u0 (recB L (F ++ U))).getD i [] := fun i hi => by rw [← h.now, area_get _ _ _ _ hi]
  have hold : ∀ i, i < n → d.last.getD (f + i) [] = (over O u0 (recB L F)).getD i [] := fun i hi => by rw [← h.lasts, areaL_get _ _ _ _ hi]
  have hlay : ∀ i, i < n → ∃ K, K ≤ 64 ∧ O'.getD i [] = DK.lay K ((over O u0 (recB L (F ++ U))).getD i []) ((over O u0 (recB L F)).getD i []) := fun i hi => by
    obtain ⟨K, hK, e⟩ := q_crash_rd hw h.up fates (n := f + i) (by omega)
    exact ⟨K, hK, by rw [hO'g i hi, e, hnow i hi, hold i hi]⟩
  have hov : ∀ i, (over O u0 (recB L (F ++ U))).getD i [] = if u0 ≤ i ∧ i < u0 + (recB L F).length then (recB L F).getD (i - u0) [] else if u0 + (recB L F).length ≤ i ∧ i < u0 + (recB L F).length + (recB L U).length then (recB L U).getD (i - (u0 + (recB L F).length)) [] else O.getD i [] := fun i => by
    rw [recB_append, over_get (by rw [List.length_append]; omega), List.length_append]
    by_cases c1 : u0 ≤ i ∧ i < u0 + (recB L F).length
    · rw [if_pos (by omega), if_pos c1, List.getD_eq_getElem?_getD, List.getElem?_append_left (by omega), ← List.getD_eq_getElem?_getD]
    · rw [if_neg c1]
      by_cases c2 : u0 + (recB L F).length ≤ i ∧ i < u0 + (recB L F).length + (recB L U).length
      · rw [if_pos (by omega), if_pos c2, List.getD_eq_getElem?_getD, List.getElem?_append_right (by omega), ← List.getD_eq_getElem?_getD]
        congr 1; omega
      · rw [if_neg (by omega), if_neg c2]
  have hov0 : ∀ i, (over O u0 (recB L F)).getD i [] = if u0 ≤ i ∧ i < u0 + (recB L F).length then (recB L F).getD (i - u0) [] else O.getD i [] := fun i => over_get (by omega) i
  -- each block
  have hout : ∀ i, i < n → ¬ (u0 ≤ i ∧ i < u0 + (recB L F).length) → ¬ (u0 + (recB L F).length ≤ i ∧ i < u0 + (recB L F).length + (recB L U).length) → O'.getD i [] = O.getD i [] := fun i hi c1 c2 => by
    obtain ⟨K, hK, e⟩ := hlay i hi
    rw [e, hov, hov0, if_neg c1, if_neg c2, if_neg c1, q_lay_same]
  have hforced : ∀ i, i < n → (u0 ≤ i ∧ i < u0 + (recB L F).length) → O'.getD i [] = (recB L F).getD (i - u0) [] := fun i hi c1 => by
    obtain ⟨K, hK, e⟩ := hlay i hi
    rw [e, hov, hov0, if_pos c1, if_pos c1, q_lay_same]
  have hmix : ∀ i, i < n → (u0 + (recB L F).length ≤ i ∧ i < u0 + (recB L F).length + (recB L U).length) →
      O'.getD i [] = (recB L U).getD (i - (u0 + (recB L F).length)) [] ∨ O'.getD i [] = O.getD i [] ∨ (life8 (O'.getD i []) = L ∧ life8 ((O'.getD i []).drop 56) < L) := fun i hi c2 => by
    obtain ⟨K, hK, e⟩ := hlay i hi
    have c1 : ¬ (u0 ≤ i ∧ i < u0 + (recB L F).length) := by omega
    rw [hov, hov0, if_neg c1, if_pos c2, if_neg c1] at e
    have hm : (recB L U).getD (i - (u0 + (recB L F).length)) [] ∈ recB L U := getD_mem' (by omega)
    obtain ⟨c, hc⟩ := recB_mem hm
    rw [hc] at e ⊢
    have hOi : O.getD i [] ∈ O := getD_mem' (by omega)
    rw [e]
    exact lay_mix h1 h.small (h.sm _ hOi) (h.sz _ hOi) hK (hlv _ hOi).2
  have hblk : ∀ c, life8 (blockJ L c) = L ∧ life8 ((blockJ L c).drop 56) = L := fun c => ⟨life8_head L c (by omega) (by have := h.small; omega), life8_tail L c (by omega) (by have := h.small; omega)⟩
  have hcase : ∀ i, i < n → O'.getD i [] = O.getD i [] ∨ (life8 (O'.getD i []) = L ∧ life8 ((O'.getD i []).drop 56) ≤ L) := fun i hi => by
    by_cases c1 : u0 ≤ i ∧ i < u0 + (recB L F).length
    · right
      have hm : (recB L F).getD (i - u0) [] ∈ recB L F := getD_mem' (by omega)
      obtain ⟨c, hc⟩ := recB_mem hm
      rw [hforced i hi c1, hc, (hblk c).1, (hblk c).2]
      exact ⟨rfl, Int.le_refl _⟩
    · by_cases c2 : u0 + (recB L F).length ≤ i ∧ i < u0 + (recB L F).length + (recB L U).length
      · rcases hmix i hi c2 with e | e | e
        · right
          have hm : (recB L U).getD (i - (u0 + (recB L F).length)) [] ∈ recB L U := getD_mem' (by omega)
          obtain ⟨c, hc⟩ := recB_mem hm
          rw [e, hc, (hblk c).1, (hblk c).2]
          exact ⟨rfl, Int.le_refl _⟩
        · exact .inl e
        · exact .inr ⟨e.1, by omega⟩
      · exact .inl (hout i hi c1 c2)
  have hget : ∀ b ∈ O', ∃ i, i < n ∧ b = O'.getD i [] := fun b hb => by
    obtain ⟨i, hi, e⟩ := List.mem_iff_getElem.1 hb
    exact ⟨i, by omega, by rw [List.getD_eq_getElem?_getD, List.getElem?_eq_getElem hi, e]; rfl⟩
  have hlo : openLife O ≤ openLife O' := life_grows (by omega) fun i hi => by
    rcases hcase i (by omega) with e | e
    · exact .inl e
    · exact .inr (by rw [h.alive]; exact e.1)
  have hhi : openLife O' ≤ L + 1 := fold_top O' 1 (by omega) fun b hb => by
    obtain ⟨i, hi, rfl⟩ := hget b hb
    rcases hcase i hi with e | e
    · rw [e]
      have := hlv _ (getD_mem' (l := O) (i := i) (by omega))
      omega
    · omega
  -- what is read
  have hXO : ∃ X : List Blok, X.length = (recB L U).length ∧ (∀ j, j < X.length → X.getD j [] = O'.getD (u0 + (recB L F).length + j) []) ∧ O' = O.take u0 ++ (recB L F ++ (X ++ O.drop (u0 + (recB L F).length + X.length))) := by
    refine ⟨(List.range (recB L U).length).map fun j => O'.getD (u0 + (recB L F).length + j) [], by simp, fun j hj => ?_, ?_⟩
    · rw [List.length_map, List.length_range] at hj
      rw [List.getD_eq_getElem?_getD, List.getElem?_map, List.getElem?_range hj]; rfl
    · generalize hXd : ((List.range (recB L U).length).map fun j => O'.getD (u0 + (recB L F).length + j) []) = X
      have hXl : X.length = (recB L U).length := by rw [← hXd]; simp
      have hXg : ∀ j, j < X.length → X.getD j [] = O'.getD (u0 + (recB L F).length + j) [] := fun j hj => by
        rw [hXl] at hj
        rw [← hXd, List.getD_eq_getElem?_getD, List.getElem?_map, List.getElem?_range hj]; rfl
      have e : O.take u0 ++ (recB L F ++ (X ++ O.drop (u0 + (recB L F).length + X.length))) = over O u0 (recB L F ++ X) := by
        unfold over; rw [List.length_append, List.append_assoc, Nat.add_assoc]
      rw [e]
      refine ext_blocks (by rw [over_len (by rw [List.length_append]; omega)]; omega) fun i hi => ?_
      rw [over_get (by rw [List.length_append]; omega), List.length_append]
      by_cases c1 : u0 ≤ i ∧ i < u0 + (recB L F).length
      · rw [if_pos (by omega), hforced i (by omega) c1, List.getD_eq_getElem?_getD, List.getD_eq_getElem?_getD, List.getElem?_append_left (by omega)]
      · by_cases c2 : u0 + (recB L F).length ≤ i ∧ i < u0 + (recB L F).length + (recB L U).length
        · rw [if_pos (by omega)]
          have e2 : (recB L F ++ X).getD (i - u0) [] = X.getD (i - (u0 + (recB L F).length)) [] := by
            rw [List.getD_eq_getElem?_getD, List.getElem?_append_right (by omega), ← List.getD_eq_getElem?_getD]
            congr 1; omega
          rw [e2, hXg _ (by omega)]
          congr 1; omega
        · rw [if_neg (by omega)]
          exact hout i (by omega) c1 c2
  obtain ⟨X, hXl, hXg, hXO⟩ := hXO
  obtain ⟨m, hm, hp⟩ := crash_read h.got (fun b hb => (hlv b hb).1) h.u8 h.sz h1 (by have := h.small; omega) (F := F) (U := U) (fun b hb => h.pos b (List.mem_append_left _ hb)) (fun b hb => h.pos b (List.mem_append_right _ hb)) hXl (by omega) (fun j hj => by
    rw [hXg j hj]
    rcases hmix (u0 + (recB L F).length + j) (by omega) (by omega) with e | e | e
    · left; rw [e]; congr 1; omega
    · exact .inr (.inl e)
    · exact .inr (.inr (by omega)))
  rw [← hXO] at hp
  have hpar : parse O' 0 [] 0 [] 0 = (r0 ++ F ++ U.take m, (parse O' 0 [] 0 [] 0).2) := by rw [← hp]
  obtain ⟨_, _, _, _, hule⟩ := parse_split hpar
  have hLA : ((d.crash fates).start).areaL f n = O' := by
    rw [← hO]
    unfold DK.area DK.areaL
    apply List.map_congr_left
    intro i hi
    have h1 := List.mem_range.1 hi
    rw [q_rd_up hd' (by omega), hfresh]
    rfl
  refine ⟨m, openLife O', (parse O' 0 [] 0 [] 0).2, O', hm, by have := h.alive; omega, hhi, ?_, hd', by omega, hO'l, ?_, ?_, ?_, rfl, by omega, hpar, by simp, ?_, ?_, ?_⟩
  · unfold DK.openJ; rw [hO, hp]
  · intro b hb
    obtain ⟨i, hi, rfl⟩ := hget b hb
    rw [hO'g i hi]; exact DK.rd_len hw' _
  · intro b hb
    obtain ⟨i, hi, rfl⟩ := hget b hb
    by_cases c1 : u0 ≤ i ∧ i < u0 + (recB L F).length
    · have hmm : (recB L F).getD (i - u0) [] ∈ recB L F := getD_mem' (by omega)
      obtain ⟨c, hc⟩ := recB_mem hmm
      rw [hforced i hi c1, hc]; exact Sm.block (by omega) h.small c
    · by_cases c2 : u0 + (recB L F).length ≤ i ∧ i < u0 + (recB L F).length + (recB L U).length
      · obtain ⟨K, hK, e⟩ := hlay i hi
        rw [hov, hov0, if_neg c1, if_pos c2, if_neg c1] at e
        have hmm : (recB L U).getD (i - (u0 + (recB L F).length)) [] ∈ recB L U := getD_mem' (by omega)
        obtain ⟨c, hc⟩ := recB_mem hmm
        rw [e, hc]
        exact (Sm.block (by omega) h.small c).lay (h.sm _ (getD_mem' (by omega))) hK (blockJ_len L c)
      · rw [hout i hi c1 c2]; exact h.sm _ (getD_mem' (by omega))
  · intro b hb
    obtain ⟨i, hi, rfl⟩ := hget b hb
    rw [hO'g i hi]; exact hby'.rd _
  · show _ + 0 ≤ n
    omega
  · show _ = over _ _ []
    rw [over_nil]; exact hLA
  · show _ = over _ _ []
    rw [over_nil]; exact hO

/-- The journal k of such a state. -/
def kOf (f n : Nat) (L : Int) (r0 : List (List Int)) (u0 : Nat) (F U : List (List Int)) : JK := ⟨f, n, L, u0 + (recB L (F ++ U)).length, r0 ++ F ++ U⟩

theorem LS.app {d : DK} {f n : Nat} {O : List Blok} {L : Int} {r0 : List (List Int)} {u0 : Nat} {F U : List (List Int)} (h : LS d f n O L r0 u0 F U) (b : List Int) :
    ∃ U', LS (d.app (kOf f n L r0 u0 F U) b) f n O L r0 u0 F U' ∧ (kOf f n L r0 u0 F U).app b = kOf f n L r0 u0 F U' := by
  rcases code_cases (kOf f n L r0 u0 F U) b with ⟨hc, h1⟩ | ⟨hc, h0, h1, h2⟩ | ⟨hc, h0, h1, h2⟩
  · exact ⟨U, by unfold DK.app; rw [hc]; exact h, by unfold JK.app; rw [hc]; rfl⟩
  · exact ⟨U, by unfold DK.app; rw [hc]; exact h, by unfold JK.app; rw [hc]; rfl⟩
  · have h2' : needJ b ≤ n - (u0 + (recB L (F ++ U)).length) := h2
    have hf := h.fit
    refine ⟨U ++ [b], ?_, ?_⟩
    · unfold DK.app; rw [if_pos hc]
      exact h.push h0 (by omega)
    · unfold JK.app; rw [if_pos hc]
      have e : recB L (F ++ (U ++ [b])) = recB L (F ++ U) ++ blocksJ L b (needJ b) := by
        rw [← List.append_assoc, recB_append L (F ++ U) [b]]
        congr 1
        show _ ++ [] = _
        rw [List.append_nil]
      unfold JK.push kOf
      rw [e, List.length_append, blocksJ_len, ← List.append_assoc, Nat.add_assoc]

theorem LS.force {f n : Nat} {L : Int} {r0 : List (List Int)} {u0 : Nat} {F U : List (List Int)} : kOf f n L r0 u0 (F ++ U) [] = kOf f n L r0 u0 F U := by
  unfold kOf; rw [List.append_nil, List.append_nil, List.append_assoc]

end Go.Proofs.Ytfjmkdjbeoafjaa
