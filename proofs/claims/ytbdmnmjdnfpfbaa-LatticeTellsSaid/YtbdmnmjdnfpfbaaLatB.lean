/- The walks of Of, chunks, the checks of manifests and of facts. -/
import Derived.Test.YtbdmnmjdnfpfbaaLatA
namespace Go.Proofs.Ytbdmnmjdnfpfbaa
open Go.ChangeShapes Go.WideShapes Go.ChangeAt Go.RowKit

theorem of_any (e : Int) (w : World) :
    Calls Try.prog 37 #[.int .i64 e] w fun x w' => x = .returned (.tuple #[.int .i64 (ofN e).1, .int .i64 (ofN e).2]) ∧ w = w' := by
  have key : (decide (e < 16) = true ∧ ofN e = (0, 0)) ∨ (decide (e < 16) = false ∧ decide (1099511627776 < e) = true ∧ ofN e = (0, 0)) ∨ (decide (e < 16) = false ∧ decide (1099511627776 < e) = false ∧ 16 ≤ e ∧ e ≤ 1099511627776 ∧ ofN e = (e % 16, e / 16)) := by
    unfold ofN
    by_cases h1 : e < 16
    · left; exact ⟨decide_eq_true h1, if_pos (.inl h1)⟩
    · by_cases h2 : 1099511627776 < e
      · right; left; exact ⟨decide_eq_false h1, decide_eq_true h2, if_pos (.inr h2)⟩
      · right; right; exact ⟨decide_eq_false h1, decide_eq_false h2, by omega, by omega, if_neg (by omega)⟩
  rcases key with ⟨h1, h2⟩ | ⟨h1, h2, h3⟩ | ⟨h1, h2, h3, h4, h5⟩
  · have H := Lib.hid h2; clear h2
    go_enter Try.func37, Try.ntmps37
    go_wp2
    go_ret2
    exact ⟨by rw [H.out]; rfl, rfl⟩
  · have H := Lib.hid h3; clear h3
    go_enter Try.func37, Try.ntmps37
    go_wp2
    go_ret2
    exact ⟨by rw [H.out]; rfl, rfl⟩
  · have H := Lib.hid h5; clear h5
    go_enter Try.func37, Try.ntmps37
    go_wp2
    go_ret2
    exact ⟨by rw [H.out]; rfl, rfl⟩

theorem chunks_any (size chunk : Int) (w : World) :
    Calls Try.prog 58 #[.int .i64 size, .int .i64 chunk] w fun x w' => x = .returned (.int .i64 (chunksN size chunk)) ∧ w = w' := by
  have key : (decide (size < 1) = true ∧ chunksN size chunk = 0) ∨ (decide (size < 1) = false ∧ decide (65536 < size) = true ∧ chunksN size chunk = 0) ∨ (decide (size < 1) = false ∧ decide (65536 < size) = false ∧ decide (chunk < 1) = true ∧ chunksN size chunk = 0) ∨
      (decide (size < 1) = false ∧ decide (65536 < size) = false ∧ decide (chunk < 1) = false ∧ decide (4096 < chunk) = true ∧ chunksN size chunk = 0) ∨
      (decide (size < 1) = false ∧ decide (65536 < size) = false ∧ decide (chunk < 1) = false ∧ decide (4096 < chunk) = false ∧ 1 ≤ size ∧ size ≤ 65536 ∧ 1 ≤ chunk ∧ chunk ≤ 4096 ∧
        ((decide (64 < (size + chunk - 1) / chunk) = true ∧ chunksN size chunk = 0) ∨ (decide (64 < (size + chunk - 1) / chunk) = false ∧ chunksN size chunk = (size + chunk - 1) / chunk))) := by
    unfold chunksN
    by_cases h1 : size < 1
    · left; exact ⟨decide_eq_true h1, if_pos (by omega)⟩
    · right
      by_cases h2 : 65536 < size
      · left; exact ⟨decide_eq_false h1, decide_eq_true h2, if_pos (by omega)⟩
      · right
        by_cases h3 : chunk < 1
        · left; exact ⟨decide_eq_false h1, decide_eq_false h2, decide_eq_true h3, if_pos (by omega)⟩
        · right
          by_cases h4 : 4096 < chunk
          · left; exact ⟨decide_eq_false h1, decide_eq_false h2, decide_eq_false h3, decide_eq_true h4, if_pos (by omega)⟩
          · right
            refine ⟨decide_eq_false h1, decide_eq_false h2, decide_eq_false h3, decide_eq_false h4, by omega, by omega, by omega, by omega, ?_⟩
            rw [if_neg (by omega)]
            by_cases h5 : 64 < (size + chunk - 1) / chunk
            · left; exact ⟨decide_eq_true h5, if_pos h5⟩
            · right; exact ⟨decide_eq_false h5, if_neg h5⟩
  obtain ⟨r, hr⟩ : ∃ r, r = chunksN size chunk := ⟨_, rfl⟩
  rw [← hr] at key ⊢
  clear hr
  rcases key with ⟨h1, rfl⟩ | ⟨h1, h2, rfl⟩ | ⟨h1, h2, h3, rfl⟩ | ⟨h1, h2, h3, h4, rfl⟩ | ⟨h1, h2, h3, h4, g1, g2, g3, g4, key⟩
  · go_enter Try.func58, Try.ntmps58
    go_wp2
    go_ret
    exact ⟨rfl, rfl⟩
  · go_enter Try.func58, Try.ntmps58
    go_wp2
    go_ret
    exact ⟨rfl, rfl⟩
  · go_enter Try.func58, Try.ntmps58
    go_wp2
    go_ret
    exact ⟨rfl, rfl⟩
  · go_enter Try.func58, Try.ntmps58
    go_wp2
    go_ret
    exact ⟨rfl, rfl⟩
  · have g5 : 0 ≤ size + chunk - 1 := by omega
    have g6 : (chunk == 0) = false := by simp; omega
    rcases key with ⟨h5, rfl⟩ | ⟨h5, rfl⟩
    · go_enter Try.func58, Try.ntmps58
      go_wp2
      go_ret
      exact ⟨rfl, rfl⟩
    · go_enter Try.func58, Try.ntmps58
      go_wp2
      go_ret
      exact ⟨rfl, rfl⟩

/-- A manifest's cells. -/
def encM (f : FK) (cv : Value) : List Value := [.int .i64 f.size, .int .i64 f.chunk, cv] ++ f.whole.map (Value.int .u8)

theorem encM_len {f : FK} (h : f.WF) (cv : Value) : (encM f cv).length = 35 := by unfold encM; simp [h.whole]
theorem encF_man (f : FK) (cv : Value) : (encF f cv).drop 3 = encM f cv := rfl
theorem encM_whole (f : FK) (cv : Value) : (encM f cv).drop 3 = f.whole.map (Value.int .u8) := rfl
theorem encF_whole (f : FK) (cv : Value) : (encF f cv).drop 6 = f.whole.map (Value.int .u8) := rfl

theorem info_man : (Try.prog.info? 29).map (·.size) = some 35 := by kernel_rfl
theorem info_fact : (Try.prog.info? 31).map (·.size) = some 38 := by kernel_rfl
theorem info_32 : (Try.prog.info? 27).map (·.size) = some 32 := by kernel_rfl
theorem zero_32 : (Try.prog.info? 27).map (·.zero) = some (some (.agg (U8 zeros32))) := by kernel_rfl
theorem zero_fact : (Try.prog.info? 31).map (·.zero) = some (some (.agg (encF FK.zero (.slice none 0 0)).toArray)) := by kernel_rfl

/-- The manifest of a fact that lies there. -/
theorem CellsAt.man {w : World} {g off : Nat} {f : FK} {cv : Value} (h : CellsAt w g off (encF f cv)) (hf : f.WF) : CellsAt w g (off + 3) (encM f cv) := by
  have := h.sub 3 35
  rwa [encF_man, List.take_of_length_le (by rw [encM_len hf]; omega)] at this

theorem CellsAt.wholeM {w : World} {g off : Nat} {f : FK} {cv : Value} (h : CellsAt w g off (encM f cv)) (hf : f.WF) : CellsAt w g (off + 3) (f.whole.map (Value.int .u8)) := by
  have := h.sub 3 32
  rwa [encM_whole, List.take_of_length_le (by simp [hf.whole])] at this

theorem man_load {a : Act} {o : Oper} {w : World} {g off : Nat} {f : FK} {cv : Value} (x : Operand) (ho : o.op = .load 29 x) (hx : a.eval x = .pointer (some ⟨g, off, none⟩)) (hc : CellsAt w g off (encM f cv)) (hf : f.WF) :
    (execOp a.eval o).run Try.prog w = .ok (.value (.agg (encM f cv).toArray)) w :=
  exec_loadC (P := Try.prog) 29 x ho hx hc (.inr ⟨_, Try.underlying29⟩) info_man (encM_len hf cv)

theorem fact_load {a : Act} {o : Oper} {w : World} {g off : Nat} {f : FK} {cv : Value} (x : Operand) (ho : o.op = .load 31 x) (hx : a.eval x = .pointer (some ⟨g, off, none⟩)) (hc : CellsAt w g off (encF f cv)) (hf : f.WF) :
    (execOp a.eval o).run Try.prog w = .ok (.value (.agg (encF f cv).toArray)) w :=
  exec_loadC (P := Try.prog) 31 x ho hx hc (.inr ⟨_, Try.underlying31⟩) info_fact (encF_len hf cv)

theorem arr_load32 {a : Act} {o : Oper} {w : World} {g off : Nat} {b : List Int} (x : Operand) (ho : o.op = .load 27 x) (hx : a.eval x = .pointer (some ⟨g, off, none⟩)) (hc : CellsAt w g off (b.map (Value.int .u8))) (hb : b.length = 32) :
    (execOp a.eval o).run Try.prog w = .ok (.value (.agg (U8 b))) w :=
  exec_loadC (P := Try.prog) 27 x ho hx hc (.inl ⟨_, _, Try.underlying27⟩) info_32 (by simp [hb])

theorem arr_eq32 {a : Act} {o : Oper} {w : World} {l m : List Int} {u : TypeId} (x y : Operand) (ho : o.op = .binOp .eql 27 x y u) (hx : a.eval x = .agg (U8 l)) (hy : a.eval y = .agg (U8 m)) (hl : l.length = 32) (hm : m.length = 32) :
    (execOp a.eval o).run Try.prog w = .ok (.value (.bool (l == m))) w :=
  exec_eq_ints (P := Try.prog) 27 x y ho Try.underlying27 Try.underlying5 (by kernel_rfl) (by kernel_rfl) hl hm hx hy

theorem arr_neq32 {a : Act} {o : Oper} {w : World} {l m : List Int} {u : TypeId} (x y : Operand) (ho : o.op = .binOp .neq 27 x y u) (hx : a.eval x = .agg (U8 l)) (hy : a.eval y = .agg (U8 m)) (hl : l.length = 32) (hm : m.length = 32) :
    (execOp a.eval o).run Try.prog w = .ok (.value (.bool (!(l == m)))) w :=
  exec_neq_ints (P := Try.prog) 27 x y ho Try.underlying27 Try.underlying5 (by kernel_rfl) (by kernel_rfl) hl hm hx hy

/-- The zero value of an array type, built. -/
theorem exec_build0 {P : Program} {a : Act} {o : Oper} {w : World} (t : TypeId) (ho : o.op = .build t #[]) {e : TypeId} {n k : Nat} (ht : P.underlying t = some (.array n e)) (hs : (P.info? e).map (·.size) = some k) {c : Array Value} (hz : (P.info? t).map (·.zero) = some (some (.agg c))) :
    (execOp a.eval o).run P w = .ok (.value (.agg c)) w := by
  have hz' := run_zero (P := P) (w := w) hz
  have hs' : ∀ w, (sizeOf e).run P w = .ok k w := by
    intro w
    cases hq : P.info? e with
    | none => simp [hq] at hs
    | some i => simp [hq] at hs; simp [sizeOf, typeInfo, hq, hs]
  unfold execOp
  simp [ho, Instr.build, hz', underlying, ht, hs', Instr.fill, Value.cells]

theorem arr_zero32 {a : Act} {o : Oper} {w : World} (ho : o.op = .build 27 #[]) : (execOp a.eval o).run Try.prog w = .ok (.value (.agg (U8 zeros32))) w :=
  exec_build0 (P := Try.prog) 27 ho Try.underlying27 (by kernel_rfl : _ = some 1) zero_32

/-- A block of its own that holds an argument. -/
theorem boxed (w : World) (c : Array Value) (T : TypeId) : Blk (w.alloc (.cells c T)) w.heap.size c T ∧ Upd [] w (w.alloc (.cells c T)) := ⟨Blk.new _ _ _, (Upd.refl _ _).alloc _⟩

def FK.manCode (f : FK) : Int := if f.manOk = true then 0 else 50

theorem mcheck_any (f : FK) (T : List Nat) (cv : Value) (w : World) (hf : f.WF) (hc : ChunksAt w T cv f.chunks) :
    Calls Try.prog 44 #[.agg (encM f cv).toArray] w fun x w' => x = .returned (.int .i64 f.manCode) ∧ Upd [] w w' := by
  obtain ⟨ca, cc, rfl, -⟩ := hc
  obtain ⟨n, hn⟩ : ∃ n, n = f.chunks.length := ⟨_, rfl⟩
  have key : ((chunksN f.size f.chunk == 0) = true ∧ f.manCode = 50) ∨ ((chunksN f.size f.chunk == 0) = false ∧ ((n : Int) != chunksN f.size f.chunk) = true ∧ f.manCode = 50) ∨ ((chunksN f.size f.chunk == 0) = false ∧ ((n : Int) != chunksN f.size f.chunk) = false ∧ f.manCode = 0) := by
    unfold FK.manCode FK.manOk
    rw [← hn]
    by_cases h1 : chunksN f.size f.chunk = 0
    · left; simp [h1]
    · right
      by_cases h2 : (n : Int) = chunksN f.size f.chunk
      · right; simp [h1, h2]
      · left; simp [h1, h2]
  have HCH := Lib.hid (fun w => chunks_any f.size f.chunk w)
  rw [← hn]
  obtain ⟨ch, hch⟩ : ∃ c, c = chunksN f.size f.chunk := ⟨_, rfl⟩
  obtain ⟨mc, hmc⟩ : ∃ c, c = f.manCode := ⟨_, rfl⟩
  rw [← hch] at HCH
  rw [← hch, ← hmc] at key
  rw [← hmc]
  obtain ⟨w1, hw1⟩ : ∃ w1, w1 = w.alloc (.cells (encM f (.slice ca n cc)).toArray 29) := ⟨_, rfl⟩
  obtain ⟨hb, hu⟩ := boxed w (encM f (.slice ca n cc)).toArray 29
  rw [← hw1] at hb hu
  have c0 : w1.cell? ⟨w.heap.size, 0, none⟩ = some (.int .i64 f.size) := hb.cell (o := 0) rfl
  have c1 : w1.cell? ⟨w.heap.size, 1, none⟩ = some (.int .i64 f.chunk) := hb.cell (o := 1) rfl
  have c2 : w1.cell? ⟨w.heap.size, 2, none⟩ = some (.slice ca n cc) := hb.cell (o := 2) rfl
  have HU := Lib.hid hu
  have HW := Lib.hid hw1
  clear hw1 hb hu hch hmc hn hf
  rcases key with ⟨k1, rfl⟩ | ⟨k1, k2, rfl⟩ | ⟨k1, k2, rfl⟩
  all_goals
    go_enter Try.func44, Try.ntmps44
    go_upto_region 1 with fail
    rw [← HW.out]
    go_wp2_with (go_at_call 58; refine (HCH.out _).mono ?_; rintro e w2 ⟨rfl, rfl⟩)
    go_ret
    exact ⟨rfl, HU.out⟩

theorem none_any (f : FK) (T : List Nat) (cv : Value) (w : World) (hf : f.WF) (hc : ChunksAt w T cv f.chunks) :
    Calls Try.prog 45 #[.agg (encM f cv).toArray] w fun x w' => x = .returned (.bool f.none) ∧ Upd [] w w' := by
  obtain ⟨ca, cc, rfl, -⟩ := hc
  obtain ⟨n, hn⟩ : ∃ n, n = f.chunks.length := ⟨_, rfl⟩
  have key : ((f.size == 0) = false ∧ f.none = false) ∨ ((f.size == 0) = true ∧ (f.chunk == 0) = false ∧ f.none = false) ∨ ((f.size == 0) = true ∧ (f.chunk == 0) = true ∧ ((n : Int) == 0) = false ∧ f.none = false) ∨ ((f.size == 0) = true ∧ (f.chunk == 0) = true ∧ ((n : Int) == 0) = true ∧ f.none = (f.whole == zeros32)) := by
    unfold FK.none
    rw [← hn]
    by_cases h1 : f.size = 0
    · right
      by_cases h2 : f.chunk = 0
      · right
        by_cases h3 : n = 0
        · right; simp [h1, h2, h3]; rw [Bool.eq_iff_iff]; simp
        · left; simp [h1, h2, h3]
      · left; simp [h1, h2]
    · left; simp [h1]
  rw [← hn]
  obtain ⟨r, hr⟩ : ∃ c, c = f.none := ⟨_, rfl⟩
  obtain ⟨eq, heq⟩ : ∃ c, c = (f.whole == zeros32) := ⟨_, rfl⟩
  rw [← hr, ← heq] at key
  rw [← hr]
  obtain ⟨w1, hw1⟩ : ∃ w1, w1 = w.alloc (.cells (encM f (.slice ca n cc)).toArray 29) := ⟨_, rfl⟩
  obtain ⟨hb, hu⟩ := boxed w (encM f (.slice ca n cc)).toArray 29
  rw [← hw1] at hb hu
  have c0 : w1.cell? ⟨w.heap.size, 0, none⟩ = some (.int .i64 f.size) := hb.cell (o := 0) rfl
  have c1 : w1.cell? ⟨w.heap.size, 1, none⟩ = some (.int .i64 f.chunk) := hb.cell (o := 1) rfl
  have c2 : w1.cell? ⟨w.heap.size, 2, none⟩ = some (.slice ca n cc) := hb.cell (o := 2) rfl
  have HC := Lib.hid ((CellsAt.of_blk hb).wholeM hf)
  have HU := Lib.hid hu
  have HW := Lib.hid hw1
  have HL := Lib.hid hf.whole
  have HEQ := Lib.hid heq
  clear hw1 hb hu hr hn hf heq
  rcases key with ⟨k1, rfl⟩ | ⟨k1, k2, rfl⟩ | ⟨k1, k2, k3, rfl⟩ | ⟨k1, k2, k3, rfl⟩
  all_goals
    go_enter Try.func45, Try.ntmps45
    go_upto_region 1 with fail
    rw [← HW.out]
    go_wp2_with (first
      | ((with_reducible show wpList _ _ _ (⟨some 19, _, _, _, _, _⟩ :: _) _ _); refine wpList_runW rfl (arr_load32 (.tmp 18) rfl rfl HC.out HL.out) ?_)
      | ((with_reducible show wpList _ _ _ (⟨some 20, _, _, _, _, _⟩ :: _) _ _); refine wpList_runW rfl (arr_zero32 rfl) ?_)
      | ((with_reducible show wpList _ _ _ (⟨some 21, _, _, _, _, _⟩ :: _) _ _); refine wpList_runW rfl (arr_eq32 (.tmp 19) (.tmp 20) rfl rfl rfl HL.out zeros32_len) ?_; rw [← HEQ.out]))
    go_ret
    exact ⟨rfl, HU.out⟩

end Go.Proofs.Ytbdmnmjdnfpfbaa
