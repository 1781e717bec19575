/- Disks in memory; the walks of New, Blocks, Down, Start, is, place. -/
import Derived.Test.YtpeboaoephkfhaaRows
import Derived.Test.YtpeboaoephkfhaaDiskP
import Derived.ProofKit
import Derived.OpenShut
import Derived.Outline
import Derived.OwnWalk
namespace Go.Proofs.Ytpeboaoephkfhaa
open Go.ChangeShapes Go.WideShapes Go.ChangeAt Go.RowKit

theorem mixed : Try.prog.follows .mixedOrders = true := by kernel_rfl
theorem info_int : (Try.prog.info? 3).map (fun i => (i.zero, i.size, i.bytes)) = some (some (.int .i64 0), 1, 8) := by kernel_rfl
theorem info_u8 : (Try.prog.info? 5).map (fun i => (i.zero, i.size, i.bytes)) = some (some (.int .u8 0), 1, 1) := by kernel_rfl
theorem info_arr : (Try.prog.info? 32).map (·.size) = some 64 := by kernel_rfl
theorem zero_arr : (Try.prog.info? 32).map (·.zero) = some (some (.agg (U8 DK.zeros))) := by kernel_rfl

def freshV (L : List (Int × Blok)) : List (Int × Value) := L.map fun p => (p.1, Value.agg (U8 p.2))

/-- The disk d lies at block b; S: all its blocks. -/
def DiskAt (w : World) (b : Nat) (S : List Nat) (d : DK) : Prop :=
  ∃ (lb mb : Nat) (ov : Value), S = b :: lb :: mb :: ov.ownBlock.toList ∧ S.Nodup ∧ d.WF ∧
    Blk w b #[.slice (some ⟨lb, 0, none⟩) (d.last.length * 64) (d.last.length * 64), .map (some mb), ov, .bool d.down] 58 ∧
    Blk w lb (U8 d.last.flatten) 5 ∧ MapAt w mb (freshV d.fresh) ∧ w.ownsRow 0 3 1 ov d.fresh.length ((d.fresh.map (·.1)).map (Value.int .i64))

theorem fresh_get (L : List (Int × Blok)) (n : Int) : (mget (freshV L) n).getD (.agg (U8 DK.zeros)) = .agg (U8 ((mget L n).getD DK.zeros)) ∧ (mget (freshV L) n).isSome = (mget L n).isSome := by
  have h := mget_map (fun b : Blok => Value.agg (U8 b)) L n
  unfold freshV
  rw [h]
  cases mget L n <;> exact ⟨rfl, rfl⟩

theorem fresh_set (L : List (Int × Blok)) (n : Int) (b : Blok) : mset (freshV L) n (.agg (U8 b)) = freshV (mset L n b) := mset_map (fun b : Blok => Value.agg (U8 b)) L n b

/-- 'v, ok := d.fresh[n]'. -/
theorem disk_lookup2 {a : Act} {o : Oper} {w : World} {m : Nat} {n : Int} {L : List (Int × Blok)} (x y : Operand) (ho : o.op = .lookup 56 x y true) (hx : a.eval x = .map (some m)) (hy : a.eval y = .int .i64 n) (hm : MapAt w m (freshV L)) :
    (execOp a.eval o).run Try.prog w = .ok (.value (.tuple #[.agg (U8 ((mget L n).getD DK.zeros)), .bool (mget L n).isSome])) w := by
  have h := exec_lookup2 (P := Try.prog) 56 x y ho Try.underlying56 Try.underlying3 zero_arr hx hy hm
  rw [(fresh_get L n).1, (fresh_get L n).2] at h
  exact h

/-- 'd.fresh[n]'. -/
theorem disk_lookup1 {a : Act} {o : Oper} {w : World} {m : Nat} {n : Int} {L : List (Int × Blok)} (x y : Operand) (ho : o.op = .lookup 56 x y false) (hx : a.eval x = .map (some m)) (hy : a.eval y = .int .i64 n) (hm : MapAt w m (freshV L)) :
    (execOp a.eval o).run Try.prog w = .ok (.value (.agg (U8 ((mget L n).getD DK.zeros)))) w := by
  have h := exec_lookup1 (P := Try.prog) 56 x y ho Try.underlying56 Try.underlying3 zero_arr hx hy hm
  rw [(fresh_get L n).1] at h
  exact h

/-- 'd.fresh[n] = b'. -/
theorem disk_update {a : Act} {o : Oper} {w : World} {m : Nat} {n : Int} {L : List (Int × Blok)} {b : Blok} (x y z : Operand) (ho : o.op = .mapUpdate 56 x y z) (hx : a.eval x = .map (some m)) (hy : a.eval y = .int .i64 n) (hz : a.eval z = .agg (U8 b)) (hm : MapAt w m (freshV L)) :
    ∃ w', (execOp a.eval o).run Try.prog w = .ok .skip w' ∧ MapAt w' m (freshV (mset L n b)) ∧ Upd [m] w w' := by
  have h := exec_mapUpdate (P := Try.prog) 56 x y z ho Try.underlying56 Try.underlying3 hx hy hm
  rw [hz, fresh_set] at h
  exact h

/-- '[64]byte{}'. -/
theorem arr_zero {a : Act} {o : Oper} {w : World} (ho : o.op = .build 32 #[]) : (execOp a.eval o).run Try.prog w = .ok (.value (.agg (U8 DK.zeros))) w := by
  have hz := run_zero (P := Try.prog) (w := w) zero_arr
  have hs : ∀ w, (sizeOf 5).run Try.prog w = .ok 1 w := by
    intro w
    have h : (Try.prog.info? 5).map (·.size) = some 1 := by kernel_rfl
    cases hq : Try.prog.info? 5 with
    | none => simp [hq] at h
    | some i => simp [hq] at h; simp [sizeOf, typeInfo, hq, h]
  unfold execOp
  simp [ho, Instr.build, hz, underlying, Try.underlying32, hs, Instr.fill, Value.cells]

theorem wpList_update {ops : Array Oper} {Q : Exit → Act → World → Prop} {rest : List Oper} {a : Act} {o : Oper} {w : World} {m : Nat} {n : Int} {L : List (Int × Blok)} {b : Blok} (hgd : o.guard = none) (x y z : Operand) (ho : o.op = .mapUpdate 56 x y z)
    (hx : a.eval x = .map (some m)) (hy : a.eval y = .int .i64 n) (hz : a.eval z = .agg (U8 b)) (hm : MapAt w m (freshV L))
    (h : ∀ w', MapAt w' m (freshV (mset L n b)) → Upd [m] w w' → wpList Try.prog ops Q rest (a.put o.dst undef) w') : wpList Try.prog ops Q (o :: rest) a w := by
  obtain ⟨w', hr, h1, h2⟩ := disk_update x y z ho hx hy hz hm
  exact wpList_runU hgd hr (h w' h1 h2)

theorem wpList_clear {ops : Array Oper} {Q : Exit → Act → World → Prop} {rest : List Oper} {a : Act} {o : Oper} {w : World} {m : Nat} {L : List (Int × Blok)} (hgd : o.guard = none) (x : Operand) (ho : o.op = .call { callee := .builtin .clear, args := #[x], argTypes := #[56] })
    (hx : a.eval x = .map (some m)) (hm : MapAt w m (freshV L))
    (h : ∀ w', MapAt w' m (freshV []) → Upd [m] w w' → wpList Try.prog ops Q rest (a.put o.dst (.tuple #[])) w') : wpList Try.prog ops Q (o :: rest) a w := by
  obtain ⟨w', hr, h1, h2⟩ := exec_clear (P := Try.prog) x 56 ho Try.underlying56 hx hm
  exact wpList_run hgd hr (h w' h1 h2)

/-- A block is laid into a variable of its own. -/
theorem arr_store {a : Act} {o : Oper} {w : World} {g : Nat} {T : TypeId} {c l : Blok} (x y : Operand) (ho : o.op = .store 32 x y) (hx : a.eval x = .pointer (some ⟨g, 0, none⟩)) (hy : a.eval y = .agg (U8 l)) (hb : Blk w g (U8 c) T) (hc : c.length = 64) (hl : l.length = 64) :
    (execOp a.eval o).run Try.prog w = .ok .skip (w.setRow g (U8 l)) := by
  have h := exec_store (P := Try.prog) 32 x y ho hx hy hb info_arr (by rw [U8_size, hl]) (by rw [U8_size, hc]; omega) (U8_one l)
  rw [U8_splice, splice_all (by omega)] at h
  exact h

theorem wpList_store {ops : Array Oper} {Q : Exit → Act → World → Prop} {rest : List Oper} {a : Act} {o : Oper} {w : World} {g : Nat} {T : TypeId} {c l : Blok} (hgd : o.guard = none) (x y : Operand) (ho : o.op = .store 32 x y) (hx : a.eval x = .pointer (some ⟨g, 0, none⟩)) (hy : a.eval y = .agg (U8 l)) (hb : Blk w g (U8 c) T) (hc : c.length = 64) (hl : l.length = 64)
    (h : ∀ w', Blk w' g (U8 l) T → Upd [g] w w' → w'.heap.size = w.heap.size → wpList Try.prog ops Q rest (a.put o.dst undef) w') : wpList Try.prog ops Q (o :: rest) a w :=
  wpList_runU hgd (arr_store x y ho hx hy hb hc hl) (h _ (setRow_blk hb _) (setRow_upd (Upd.refl _ _) (.inl (by simp)) _) (by simp))

theorem wpList_copy {ops : Array Oper} {Q : Exit → Act → World → Prop} {rest : List Oper} {a : Act} {o : Oper} {w : World} (hgd : o.guard = none) (x y : Operand) (ho : o.op = .call { callee := .builtin .copy, args := #[x, y], argTypes := #[26, 26] })
    {g off n cp h offh m cph : Nat} {c d : List Int} {T U : TypeId} (hx : a.eval x = .slice (some ⟨g, off, none⟩) n cp) (hy : a.eval y = .slice (some ⟨h, offh, none⟩) m cph)
    (hb : Blk w g (U8 c) T) (hd : Blk w h (U8 d) U) (hf : off + n ≤ c.length) (hg : offh + m ≤ d.length)
    (hk : ∀ w', Blk w' g (U8 (splice c off ((d.drop offh).take (Nat.min m n)))) T → Upd [g] w w' → w'.heap.size = w.heap.size → wpList Try.prog ops Q rest (a.put o.dst (.int .i64 (Nat.min m n))) w') : wpList Try.prog ops Q (o :: rest) a w := by
  have hi : (Try.prog.info? 5).map (·.size) = some 1 := by kernel_rfl
  have hr := exec_copy (P := Try.prog) x y 26 26 ho Try.underlying26 hi hx hy hb hd (by rw [U8_size]; exact hf) (by rw [U8_size]; exact hg) (U8_one d)
  have e1 : offh + Nat.min m n - offh = Nat.min m n := by omega
  rw [U8_extract, U8_splice, e1] at hr
  exact wpList_run hgd hr (hk _ (setRow_blk hb _) (setRow_upd (Upd.refl _ _) (.inl (by simp)) _) (by simp))

/-- A block is read out of its variable. -/
theorem arr_load {a : Act} {o : Oper} {w : World} {g : Nat} {T : TypeId} {c : Blok} (x : Operand) (ho : o.op = .load 32 x) (hx : a.eval x = .pointer (some ⟨g, 0, none⟩)) (hb : Blk w g (U8 c) T) (hc : c.length = 64) :
    (execOp a.eval o).run Try.prog w = .ok (.value (.agg (U8 c))) w := by
  have h := exec_load (P := Try.prog) 32 x ho hx hb Try.underlying32 info_arr (by rw [U8_size, hc]; omega)
  rw [U8_extract, List.drop_zero, Nat.zero_add, Nat.sub_zero, List.take_of_length_le (by omega)] at h
  exact h

theorem wpList_loadW {ops : Array Oper} {Q : Exit → Act → World → Prop} {rest : List Oper} {a : Act} {o : Oper} {w : World} {g : Nat} {T : TypeId} {c : Blok} (x : Operand) (ho : o.op = .load 32 x) (hx : a.eval x = .pointer (some ⟨g, 0, none⟩)) (hw : Region.wanted o (yielded ops a.tmps) = true) (hb : Blk w g (U8 c) T) (hc : c.length = 64)
    (h : wpList Try.prog ops Q rest (a.put o.dst (.agg (U8 c))) w) : wpList Try.prog ops Q (o :: rest) a w := wpList_runW hw (arr_load x ho hx hb hc) h

theorem wpList_zeroW {ops : Array Oper} {Q : Exit → Act → World → Prop} {rest : List Oper} {a : Act} {o : Oper} {w : World} (ho : o.op = .build 32 #[]) (hw : Region.wanted o (yielded ops a.tmps) = true)
    (h : wpList Try.prog ops Q rest (a.put o.dst (.agg (U8 DK.zeros))) w) : wpList Try.prog ops Q (o :: rest) a w := wpList_runW hw (arr_zero ho) h

/-- Two blocks, compared. -/
theorem arr_eq {a : Act} {o : Oper} {w : World} {l m : Blok} {u : TypeId} (x y : Operand) (ho : o.op = .binOp .eql 32 x y u) (hx : a.eval x = .agg (U8 l)) (hy : a.eval y = .agg (U8 m)) (hl : l.length = 64) (hm : m.length = 64) :
    (execOp a.eval o).run Try.prog w = .ok (.value (.bool (l == m))) w :=
  exec_eq_ints (P := Try.prog) 32 x y ho Try.underlying32 Try.underlying5 (by kernel_rfl) (by kernel_rfl) hl hm hx hy

theorem wpList_eqW {ops : Array Oper} {Q : Exit → Act → World → Prop} {rest : List Oper} {a : Act} {o : Oper} {w : World} {l m : Blok} {u : TypeId} (x y : Operand) (ho : o.op = .binOp .eql 32 x y u) (hx : a.eval x = .agg (U8 l)) (hy : a.eval y = .agg (U8 m)) (hw : Region.wanted o (yielded ops a.tmps) = true) (hl : l.length = 64) (hm : m.length = 64)
    {r : Bool} (hr : (l == m) = r) (h : wpList Try.prog ops Q rest (a.put o.dst (.bool r)) w) : wpList Try.prog ops Q (o :: rest) a w := by
  subst hr; exact wpList_runW hw (arr_eq x y ho hx hy hl hm) h

/-- Blocks in a row: one is written. -/
theorem wpList_storeAt {ops : Array Oper} {Q : Exit → Act → World → Prop} {rest : List Oper} {a : Act} {o : Oper} {w : World} {g n : Nat} {T : TypeId} {L : List Blok} {l : Blok} (x y : Operand) (ho : o.op = .store 32 x y) (hgd : o.guard = none) (hx : a.eval x = .pointer (some ⟨g, n * 64, none⟩)) (hy : a.eval y = .agg (U8 l))
    (hb : Blk w g (U8 L.flatten) T) (hL : ∀ b ∈ L, b.length = 64) (hn : n < L.length) (hl : l.length = 64)
    (h : ∀ w', Blk w' g (U8 (L.set n l).flatten) T → Upd [g] w w' → w'.heap.size = w.heap.size → wpList Try.prog ops Q rest (a.put o.dst undef) w') : wpList Try.prog ops Q (o :: rest) a w := by
  have hfl := flatten_len hL
  have hr := exec_store (P := Try.prog) 32 x y ho hx hy hb info_arr (by rw [U8_size, hl]) (by rw [U8_size, hfl]; omega) (U8_one l)
  have e := flatten_set hL (k := 64) hn (by omega) hl
  rw [List.take_of_length_le (by omega)] at e
  have e2 : DK.lay 64 l (L.getD n []) = l := by
    unfold DK.lay
    have : (L.getD n []).length = 64 := hL _ (DK.getD_mem hn)
    rw [List.take_of_length_le (by omega), List.drop_of_length_le (by omega), List.append_nil]
  rw [e2, Nat.mul_comm] at e
  rw [U8_splice, e] at hr
  exact wpList_runU hgd hr (h _ (setRow_blk hb _) (setRow_upd (Upd.refl _ _) (.inl (by simp)) _) (by simp))

/-- Blocks in a row: one is read. -/
theorem arr_loadAt {a : Act} {o : Oper} {w : World} {g n : Nat} {T : TypeId} {L : List Blok} (x : Operand) (ho : o.op = .load 32 x) (hx : a.eval x = .pointer (some ⟨g, n * 64, none⟩)) (hb : Blk w g (U8 L.flatten) T) (hL : ∀ b ∈ L, b.length = 64) (hn : n < L.length) :
    (execOp a.eval o).run Try.prog w = .ok (.value (.agg (U8 (L.getD n [])))) w := by
  have hfl := flatten_len hL
  have h := exec_load (P := Try.prog) 32 x ho hx hb Try.underlying32 info_arr (by rw [U8_size, hfl]; omega)
  rw [U8_extract, Nat.add_sub_cancel_left, Nat.mul_comm, flatten_cut hL hn] at h
  exact h

theorem arr_neq {a : Act} {o : Oper} {w : World} {l m : Blok} {u : TypeId} (x y : Operand) (ho : o.op = .binOp .neq 32 x y u) (hx : a.eval x = .agg (U8 l)) (hy : a.eval y = .agg (U8 m)) (hl : l.length = 64) (hm : m.length = 64) :
    (execOp a.eval o).run Try.prog w = .ok (.value (.bool (!(l == m)))) w :=
  exec_neq_ints (P := Try.prog) 32 x y ho Try.underlying32 Try.underlying5 (by kernel_rfl) (by kernel_rfl) hl hm hx hy

theorem own_upd {S : List Nat} {w w' : World} {base : Nat} {e : TypeId} {size n : Nat} {v : Value} {xs : List Value} (h : w.ownsRow base e size v n xs) (hu : Upd S w w') (hS : ∀ g, v.ownBlock = some g → g ∉ S) : w'.ownsRow base e size v n xs := by
  refine ⟨h.1, ?_⟩
  rcases h.2 with h2 | ⟨g, cap, cur, rfl, hg, hh, r⟩
  · exact .inl h2
  · exact .inr ⟨g, cap, cur, rfl, hg, hu.heap hh (hS g rfl), r⟩

theorem DiskAt.wf {w : World} {b : Nat} {S : List Nat} {d : DK} (h : DiskAt w b S d) : d.WF := by obtain ⟨_, _, _, _, _, h, _⟩ := h; exact h

theorem DiskAt.lt {w : World} {b : Nat} {S : List Nat} {d : DK} (h : DiskAt w b S d) : ∀ k ∈ S, k < w.heap.size := by
  obtain ⟨lb, mb, ov, rfl, _, _, h1, h2, h3, h4⟩ := h
  intro k hk
  simp only [List.mem_cons, Option.mem_toList] at hk
  rcases hk with rfl | rfl | rfl | hk
  · exact h1.lt
  · exact h2.lt
  · exact h3.lt
  · exact (h4.lt k hk).2

theorem DiskAt.mem {w : World} {b : Nat} {S : List Nat} {d : DK} (h : DiskAt w b S d) : b ∈ S := by obtain ⟨lb, mb, ov, rfl, _⟩ := h; simp

/-- What turns other blocks leaves a disk. -/
theorem DiskAt.upd {T : List Nat} {w w' : World} {b : Nat} {S : List Nat} {d : DK} (h : DiskAt w b S d) (hu : Upd T w w') (hT : ∀ k ∈ S, k ∉ T) : DiskAt w' b S d := by
  obtain ⟨lb, mb, ov, rfl, hn, hw, h1, h2, h3, h4⟩ := h
  refine ⟨lb, mb, ov, rfl, hn, hw, h1.upd hu (hT _ (by simp)), h2.upd hu (hT _ (by simp)), h3.upd hu (hT _ (by simp)), own_upd h4 hu fun g hg => hT _ (by simp [hg])⟩

theorem DiskAt.upd0 {w w' : World} {b : Nat} {S : List Nat} {d : DK} (h : DiskAt w b S d) (hu : Upd [] w w') : DiskAt w' b S d := h.upd hu (by simp)

theorem blocks_any (b : Nat) (S : List Nat) (d : DK) (w : World) (h : DiskAt w b S d) :
    Calls Try.prog 38 #[.pointer (some ⟨b, 0, none⟩)] w fun e w' => e = .returned (.int .i64 d.last.length) ∧ w = w' := by
  obtain ⟨lb, mb, ov, rfl, hn, hw, h1, -⟩ := h
  have c0 := h1.cell (o := 0) rfl
  have hm := hw.many
  obtain ⟨N, hN⟩ : ∃ N, N = d.last.length := ⟨_, rfl⟩
  rw [← hN] at c0 hm ⊢
  clear h1 hN
  have e1 : ((N * 64 : Nat) : Int) / 64 = N := by omega
  have E1 := Lib.hid e1
  clear e1
  go_enter Try.func38, Try.ntmps38
  go_wp2
  go_ret
  exact ⟨rfl, rfl⟩

theorem blocks_nil (w : World) : Calls Try.prog 38 #[.pointer none] w fun e w' => e = .returned (.int .i64 0) ∧ w = w' := by
  go_enter Try.func38, Try.ntmps38
  go_wp2
  go_ret
  exact ⟨rfl, rfl⟩

theorem is_any (b : Nat) (S : List Nat) (d : DK) (n : Int) (w : World) (h : DiskAt w b S d) :
    Calls Try.prog 25 #[.pointer (some ⟨b, 0, none⟩), .int .i64 n] w fun e w' => e = .returned (.int .i64 (d.code n)) ∧ w = w' := by
  have H := Lib.hid h
  obtain ⟨lb, mb, ov, rfl, hn, hw, h1, -⟩ := h
  have c3 := h1.cell (o := 3) rfl
  have hc : (d.down = true ∧ d.code n = 60) ∨ (d.down = false ∧ decide (n < 0) = true ∧ d.code n = 61) ∨ (d.down = false ∧ decide (n < 0) = false ∧ decide ((d.last.length : Int) ≤ n) = true ∧ d.code n = 61) ∨
      (d.down = false ∧ decide (n < 0) = false ∧ decide ((d.last.length : Int) ≤ n) = false ∧ d.code n = 0) := by
    unfold DK.code
    by_cases h1 : d.down = true
    · left; simp [h1]
    · by_cases h2 : n < 0
      · right; left; simp [h1, h2]
      · by_cases h3 : (d.last.length : Int) ≤ n
        · right; right; left; simp [h1, h2, h3]
        · right; right; right; simp [h1, h2, h3]
  clear h1
  rcases hc with ⟨h1, h2⟩ | ⟨h1, h2, h3⟩ | ⟨h1, h2, h3, h4⟩ | ⟨h1, h2, h3, h4⟩
  · rw [h2]; clear h2
    go_enter Try.func25, Try.ntmps25
    go_wp2
    go_ret
    exact ⟨rfl, rfl⟩
  · rw [h3]; clear h3
    go_enter Try.func25, Try.ntmps25
    go_wp2
    go_ret
    exact ⟨rfl, rfl⟩
  · rw [h4]; clear h4
    go_enter Try.func25, Try.ntmps25
    go_wp2_with (go_at_call 38; refine (blocks_any b _ d _ H.out).mono ?_; rintro e w' ⟨rfl, rfl⟩)
    go_ret
    exact ⟨rfl, rfl⟩
  · rw [h4]; clear h4
    go_enter Try.func25, Try.ntmps25
    go_wp2_with (go_at_call 38; refine (blocks_any b _ d _ H.out).mono ?_; rintro e w' ⟨rfl, rfl⟩)
    go_ret
    exact ⟨rfl, rfl⟩

theorem is_nil (n : Int) (w : World) : Calls Try.prog 25 #[.pointer none, .int .i64 n] w fun e w' => e = .returned (.int .i64 1) ∧ w = w' := by
  go_enter Try.func25, Try.ntmps25
  go_wp2
  go_ret
  exact ⟨rfl, rfl⟩

/-- The bytes of a block that last: told by the disk's own cells alone. -/
theorem place_any (b lb N : Nat) (n : Nat) (w : World) (c : Array Value) (h : Blk w b c 58) (h0 : c[0]? = some (.slice (some ⟨lb, 0, none⟩) (N * 64) (N * 64))) (hn : n < N) (hN : N ≤ 4096) :
    Calls Try.prog 34 #[.pointer (some ⟨b, 0, none⟩), .int .i64 n] w fun e w' => e = .returned (.slice (some ⟨lb, n * 64, none⟩) 64 64) ∧ w = w' := by
  have c0 := h.cell (o := 0) h0
  clear h h0
  have q1 : (n : Int) * 64 + 64 ≤ (N : Int) * 64 := by omega
  go_enter Try.func34, Try.ntmps34
  go_wp2
  go_ret
  rw [show n * 64 + 64 - n * 64 = 64 by omega]
  exact ⟨rfl, rfl⟩

theorem start_any (b : Nat) (S : List Nat) (d : DK) (w : World) (h : DiskAt w b S d) :
    Calls Try.prog 24 #[.pointer (some ⟨b, 0, none⟩)] w fun e w' => e = .returned (.tuple #[]) ∧ DiskAt w' b S d.start ∧ Upd S w w' := by
  obtain ⟨lb, mb, ov, rfl, hn, hw, h1, h2, h3, h4⟩ := h
  have c3 := h1.cell (o := 3) rfl
  have f3 := h1.free 3
  have hn' := hn
  simp only [List.nodup_cons, List.mem_cons, not_or, Option.mem_toList] at hn'
  have R : DiskAt (w.setCell ⟨b, 3, none⟩ (.bool false)) b (b :: lb :: mb :: ov.ownBlock.toList) d.start := by
    refine ⟨lb, mb, ov, rfl, hn, hw.start, h1.set 3 _, h2.set_other (fun e => hn'.1.1 e.symm) _, ?_, ownsRow_setCell_other h4 (fun e => hn'.1.2.2 e) _⟩
    exact h3.upd ((Upd.refl [b] w).setCell (.inl (by simp)) _) (by simp; exact fun e => hn'.1.2.1 e.symm)
  have R' := Lib.hid R
  clear R h1 h2 h3 h4 hn hn'
  go_enter Try.func24, Try.ntmps24
  go_wp2
  go_end0
  exact ⟨rfl, R'.out, (Upd.refl _ _).setCell (by simp) _⟩

theorem start_nil (w : World) : Calls Try.prog 24 #[.pointer none] w fun e w' => e = .returned (.tuple #[]) ∧ w = w' := by
  go_enter Try.func24, Try.ntmps24
  go_wp2
  go_end0
  exact ⟨rfl, rfl⟩

theorem new_no (n : Int) (w : World) (h : n < 0 ∨ 4096 < n) :
    Calls Try.prog 12 #[.int .i64 n] w fun e w' => e = .returned (.tuple #[.pointer none, .int .i64 1]) ∧ w = w' := by
  have key : decide (n < 0) = true ∨ (decide (n < 0) = false ∧ decide (4096 < n) = true) := by
    simp only [decide_eq_true_eq, decide_eq_false_iff_not]; omega
  clear h
  rcases key with h1 | ⟨h1, h2⟩
  all_goals
    go_enter Try.func12, Try.ntmps12
    go_wp2
    go_ret2
    exact ⟨rfl, rfl⟩

theorem new_yes (n : Nat) (w : World) (h : n ≤ 4096) :
    Calls Try.prog 12 #[.int .i64 n] w fun e w' => ∃ b S, e = .returned (.tuple #[.pointer (some ⟨b, 0, none⟩), .int .i64 0]) ∧ DiskAt w' b S (DK.new n) ∧ Upd [] w w' ∧ ∀ k ∈ S, w.heap.size ≤ k := by
  have g1 : decide ((n : Int) < 0) = false := by simp
  have g2 : decide ((4096 : Int) < n) = false := by simp; omega
  obtain ⟨i0, hi, hz0, hz1, hz2⟩ := info_parts info_u8
  have hzz : ∀ j, j < i0.size → (Value.int .u8 0).cells[j]! = Value.int .u8 0 := by
    intro j hj
    have e : j = 0 := by omega
    subst e; rfl
  have hcast : Value.int .i64 ((n : Int) * 64) = Value.int .i64 ((n * 64 : Nat) : Int) := by go_num
  have Hcast := Lib.hid hcast
  clear hcast
  have hmm := @run_makeMap Try.prog
  go_enter Try.func12, Try.ntmps12
  go_wp2_with (at_make; go_loud (refine wpList_run rfl (exec_makeSlice (n := n * 64) 26 (.tmp 11) rfl Try.underlying26 hi hz0 (by rw [hz1]; rfl) (by omega) hzz Hcast.out (by rw [hz2]; omega) (by unfold maxLen; omega)) ?_))
  go_ret2
  refine ⟨w.heap.size + 1 + 1, [w.heap.size + 1 + 1, w.heap.size, w.heap.size + 1], rfl, ⟨w.heap.size, w.heap.size + 1, .slice none 0 0, rfl, by simp; omega, DK.WF.new h, ?_, ?_, ?_, World.ownsRow_nil _ _ _ _⟩, (((Upd.refl _ _).alloc _).alloc _).alloc _, by simp; omega⟩
  · have := Blk.new ((w.alloc (.cells (Array.replicate (n * 64) (Value.int .u8 0)) 5)).alloc (.map #[] 0)) #[.slice (some ⟨w.heap.size, 0, none⟩) (n * 64) (n * 64), .map (some (w.heap.size + 1)), .slice none 0 0, .bool false] 58
    simpa [DK.new] using this
  · have := ((Blk.new w (Array.replicate (n * 64) (Value.int .u8 0)) 5).alloc (.map #[] 0)).alloc (.cells #[.slice (some ⟨w.heap.size, 0, none⟩) (n * 64) (n * 64), .map (some (w.heap.size + 1)), .slice none 0 0, .bool false] 58)
    have e : U8 (DK.new n).last.flatten = Array.replicate (n * 64) (Value.int .u8 0) := by
      unfold DK.new; rw [flatten_zeros]; unfold U8; rw [List.map_replicate, List.toArray_replicate]
    rw [e]; exact this
  · refine ⟨#[], 0, ?_, rfl⟩
    have h1 := heap_alloc_new (w.alloc (.cells (Array.replicate (n * 64) (Value.int .u8 0)) 5)) (.map #[] 0)
    rw [World.size_alloc] at h1
    rw [Below.heap_alloc _ _ _ (by simp)]
    exact h1

end Go.Proofs.Ytpeboaoephkfhaa
