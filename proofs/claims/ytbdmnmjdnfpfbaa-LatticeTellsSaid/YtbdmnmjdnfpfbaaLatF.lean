/- The walks of own, about.is, kept and all. -/
import Derived.Test.YtbdmnmjdnfpfbaaLatE
namespace Go.Proofs.Ytbdmnmjdnfpfbaa
open Go.ChangeShapes Go.WideShapes Go.ChangeAt Go.RowKit

/-- A whole variable, written. -/
theorem wpList_storeA {P : Program} {a : Act} {o : Oper} {w : World} {ops : Array Oper} {Q : Exit → Act → World → Prop} {rest : List Oper} (hgd : o.guard = none) (t : TypeId) (x y : Operand) (ho : o.op = .store t x y) {g k : Nat} {T : TypeId} {c news : Array Value} (hx : a.eval x = .pointer (some ⟨g, 0, none⟩)) (hy : a.eval y = .agg news) (hb : Blk w g c T)
    (hi : (P.info? t).map (·.size) = some k) (hn : news.size = k) (hc : c.size = k) (h1 : ∀ v ∈ news.toList, v.oneCell' = true)
    (h : ∀ w', Blk w' g news T → Upd [g] w w' → w'.heap.size = w.heap.size → wpList P ops Q rest (a.put o.dst undef) w') : wpList P ops Q (o :: rest) a w := by
  have hr := exec_store (P := P) t x y ho hx hy hb hi hn (by omega) h1
  rw [splice_all (by simp; omega), Array.toArray_toList] at hr
  exact wpList_runU hgd hr (h _ (setRow_blk hb _) (setRow_upd (Upd.refl _ _) (.inl (by simp)) _) (by simp))

theorem FK.zero_wf : FK.zero.WF := ⟨zeros32_len, fun x hx => by rw [List.eq_of_mem_replicate hx]; omega, fun c hc => by simp [FK.zero] at hc⟩

theorem encF_size {f : FK} (h : f.WF) (cv : Value) : (encF f cv).toArray.size = 38 := by rw [List.size_toArray, encF_len h]

theorem encF_set (f : FK) (cv dv : Value) : (encF f cv).toArray.setIfInBounds 5 dv = (encF f dv).toArray := by unfold encF; simp

theorem encF_one' {f : FK} {T : List Nat} {cv : Value} {w : World} (h : ChunksAt w T cv f.chunks) : ∀ v ∈ (encF f cv).toArray.toList, v.oneCell' = true := by
  obtain ⟨a, c, rfl⟩ := h.form
  exact encF_one rfl

theorem results_fact {fn : Func} {p : Tmp} (h : fn.results = #[.cell p 31]) {tmps : Array Value} {w : World} {g : Nat} {T : TypeId} {f : FK} {cv : Value} (hp : tmps.getD p undef = .pointer (some ⟨g, 0, none⟩)) (hb : Blk w g (encF f cv).toArray T) (hf : f.WF) :
    (results fn tmps).run Try.prog w = .ok (.agg (encF f cv).toArray) w :=
  results_cell_row h tmps w g T (encF f cv).toArray (0, 0) _ hp hb Try.underlying31 rfl (by rw [info_fact, encF_size hf])

set_option maxHeartbeats 1000000 in
theorem own_any (f : FK) (T : List Nat) (cv : Value) (w : World) (hf : f.WF) (hc : ChunksAt w T cv f.chunks) (hl : f.chunks.length ≤ 1000) :
    Calls Try.prog 43 #[.agg (encF f cv).toArray] w fun e w' => ∃ cv', e = .returned (.agg (encF f cv').toArray) ∧ ChunksAt w' cv'.ownBlock.toList cv' f.chunks ∧ (∀ g, cv'.ownBlock = some g → w.heap.size ≤ g ∧ g < w'.heap.size) ∧ Upd [] w w' := by
  have hu1 : Upd [] w (w.alloc (.cells (encF f cv).toArray 31)) := (Upd.refl _ _).alloc _
  have HCL := Lib.hid (fun w1 (h : ChunksAt w1 T cv f.chunks) => cloneC_any cv T f.chunks w1 h hf.each hl)
  have HF := Lib.hid hf
  have HC := Lib.hid hc
  obtain ⟨w1, hw1⟩ : ∃ w1, w1 = w.alloc (.cells (encF f cv).toArray 31) := ⟨_, rfl⟩
  obtain ⟨hb, hu⟩ := boxed w (encF f cv).toArray 31
  rw [← hw1] at hb hu
  obtain ⟨B, hB⟩ : ∃ B, B = w.heap.size := ⟨_, rfl⟩
  rw [← hB] at hb
  have HU1 := Lib.hid hu
  have HB1 := Lib.hid hb
  have HW1 := Lib.hid hw1
  have HBE := Lib.hid hB
  clear hw1 hb hu hu1 hf hc hl hB
  go_enter Try.func43, Try.ntmps43
  go_upto_region 1 with (refine wpList_alloc rfl 31 rfl zero_fact fun w2 hb2 hu2 hs2 => ?_)
  rw [← HW1.out] at hb2 hu2 hs2
  rw [← HW1.out, ← HBE.out]
  obtain ⟨B2, hB2⟩ : ∃ x, x = w1.heap.size := ⟨_, rfl⟩
  rw [← hB2] at hb2 ⊢
  have hlt := HB1.out.lt
  have hne : B ≠ B2 := by omega
  have hB2w : w1.heap.size ≤ B2 := by omega
  have hBw : w.heap.size ≤ B := by have := HBE.out; omega
  have hb1 := HB1.out.upd hu2 (by simp)
  have c5 : w2.cell? ⟨B, 5, none⟩ = some cv := hb1.cell (o := 5) rfl
  have HB12 := Lib.hid hb1
  have HB22 := Lib.hid hb2
  have HU2 := Lib.hid (HU1.out.trans hu2)
  have hwz := HU1.out.size
  have hw2z := HU2.out.size
  clear hb1 hb2 hu2 hs2 hB2
  go_upto_region 2 with (go_at_call 57; refine (HCL.out _ (HC.out.upd0 HU2.out)).mono ?_; rintro e w3 ⟨cv', rfl, hc3, hn3, hu3⟩
                         obtain ⟨ca, cc, rfl⟩ := hc3.form
                         have hb3 := HB12.out.upd hu3 (by simp)
                         have c5' : w3.cell? ⟨B, 5, none⟩ = some cv := hb3.cell (o := 5) rfl
                         have f5 := hb3.free 5
                         have HB13 := Lib.hid (hb3.set 5 (.slice ca f.chunks.length cc))
                         have HB23 := Lib.hid (HB22.out.upd hu3 (by simp))
                         have HU3 := Lib.hid (HU2.out.trans hu3)
                         have HC3 := Lib.hid hc3
                         have HN3 := Lib.hid hn3
                         clear hc3 hn3 hu3 hb3)
  generalize hw4 : w3.setCell ⟨B, 5, none⟩ (.slice ca f.chunks.length cc) = w4
  rw [hw4] at HB13
  have hu34 : Upd [B] w3 w4 := by rw [← hw4]; exact (Upd.refl _ _).setCell (.inl (by simp)) _
  have hb13 := HB13.out
  rw [encF_set] at hb13
  have HL := Lib.hid (CellsAt.of_blk hb13)
  have HB24 := Lib.hid (HB23.out.upd hu34 (by simp; omega))
  have HC4 := Lib.hid (HC3.out.upd hu34 (fun k hk => by simp; intro e; have := (HN3.out k (by simpa using hk)).1; have := HB12.out.lt; omega))
  have HU4 := Lib.hid (HU3.out.then hu34 (by simp; omega))
  have HN4 : Hid (∀ g, (Value.slice ca f.chunks.length cc).ownBlock = some g → w.heap.size ≤ g ∧ g < w4.heap.size) := Lib.hid (fun g hg => by have h1 := HN3.out g hg; have h2 := hu34.size; omega)
  clear hw4 hu34 hb13 HB13 HB23 c5 c5' f5
  go_wp2_with (first
    | ((with_reducible show wpList _ _ _ (⟨some 9, _, _, _, _, _⟩ :: _) _ _); refine wpList_run rfl (fact_load (.tmp 1) rfl rfl HL.out HF.out) ?_)
    | (refine wpList_storeA rfl 31 (.tmp 2) (.tmp 9) rfl rfl rfl HB24.out info_fact (encF_size HF.out _) (encF_size FK.zero_wf _) (encF_one' HC4.out) fun w5 hb5 hu5 hs5 => ?_))
  exact bodyPost_ret (results_fact rfl rfl hb5 HF.out) rfl ⟨_, rfl, HC4.out.upd hu5 (fun k hk => by simp; intro e; have := (HN3.out k (by simpa using hk)).1; have := HB22.out.lt; omega), fun g hg => by have h1 := HN4.out g hg; omega, HU4.out.then hu5 (by simp; omega)⟩

end Go.Proofs.Ytbdmnmjdnfpfbaa
