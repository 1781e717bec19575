/- Facts in memory: 38 cells each; lists of them. -/
import Derived.Test.YtbdmnmjdnfpfbaaLatP
import Derived.Test.YtbdmnmjdnfpfbaaPush
namespace Go.Proofs.Ytbdmnmjdnfpfbaa
open Go.ChangeShapes Go.WideShapes Go.ChangeAt Go.RowKit

/-- These cells lie there, wherever that is. -/
def CellsAt (w : World) (g off : Nat) (cs : List Value) : Prop := ∀ j v, cs[j]? = some v → w.cell? ⟨g, off + j, none⟩ = some v

theorem CellsAt.upd {S : List Nat} {w w' : World} {g off : Nat} {cs : List Value} (h : CellsAt w g off cs) (hu : Upd S w w') (hg : g < w.heap.size) (hS : g ∉ S) : CellsAt w' g off cs :=
  fun j v hj => (World.cell?_of_block (a := ⟨g, off + j, none⟩) (hu.block g hg hS)).trans (h j v hj)

theorem own_upd {S : List Nat} {w w' : World} {base : Nat} {e : TypeId} {size n : Nat} {v : Value} {xs : List Value} (h : w.ownsRow base e size v n xs) (hu : Upd S w w') (hS : ∀ g, v.ownBlock = some g → g ∉ S) : w'.ownsRow base e size v n xs := by
  refine ⟨h.1, ?_⟩
  rcases h.2 with h2 | ⟨g, cap, cur, rfl, hg, hh, r⟩
  · exact .inl h2
  · exact .inr ⟨g, cap, cur, rfl, hg, hu.heap hh (hS g rfl), r⟩

theorem own_zero {w : World} {base : Nat} {e : TypeId} {size n : Nat} {v : Value} {xs : List Value} (h : w.ownsRow base e size v n xs) : w.ownsRow 0 e size v n xs := by
  refine ⟨h.1, ?_⟩
  rcases h.2 with h2 | ⟨g, cap, cur, rfl, hg, r⟩
  · exact .inl h2
  · exact .inr ⟨g, cap, cur, rfl, Nat.zero_le _, r⟩

section
variable {P : Program} {a : Act} {o : Oper} {w : World}

/-- A whole array or struct, read, wherever it lies. -/
theorem exec_loadC (ty : TypeId) (x : Operand) (ho : o.op = .load ty x) {g off k : Nat} {cs : List Value} (hx : a.eval x = .pointer (some ⟨g, off, none⟩)) (hc : CellsAt w g off cs)
    (hu : (∃ n e, P.underlying ty = some (.array n e)) ∨ ∃ fs, P.underlying ty = some (.struct fs)) (hi : (P.info? ty).map (·.size) = some k) (hk : cs.length = k) : (execOp a.eval o).run P w = .ok (.value (.agg cs.toArray)) w := by
  have hl := run_loadCells_list (P := P) w ⟨g, off, none⟩ cs (fun j v hv => by
    have hadd : (⟨g, off, none⟩ : Addr).add j = ⟨g, off + j, none⟩ := by unfold Addr.add; split <;> simp_all
    rw [hadd]; exact hc j v hv)
  rw [hk] at hl
  cases hq : P.info? ty with
  | none => simp [hq] at hi
  | some i =>
    have hs : i.size = k := by simpa [hq] using hi
    unfold execOp
    rcases hu with ⟨n, e, hu⟩ | ⟨fs, hu⟩ <;> simp [ho, hx, Instr.loadAt, Instr.sureAddr, loadVar, isAgg, underlying, hu, sizeOf, typeInfo, hq, hs, hl]
end

theorem CellsAt.sub {w : World} {g off : Nat} {cs : List Value} (h : CellsAt w g off cs) (i n : Nat) : CellsAt w g (off + i) ((cs.drop i).take n) := by
  intro j v hj
  rw [List.getElem?_take] at hj
  split at hj
  · rw [List.getElem?_drop] at hj
    rw [Nat.add_assoc]; exact h _ v hj
  · cases hj

theorem CellsAt.of_blk {w : World} {g : Nat} {T : TypeId} {c : Array Value} (h : Blk w g c T) : CellsAt w g 0 c.toList := fun j v hj => by
  rw [Nat.zero_add]; exact h.cell (by rw [← Array.getElem?_toList]; exact hj)

structure FK.WF (f : FK) : Prop where
  whole : f.whole.length = 32
  bytes : U8L f.whole
  each : ∀ c ∈ f.chunks, c.length = 32

def FK.zero : FK := ⟨0, 0, 0, 0, 0, [], zeros32⟩

/-- A fact's cells; cv: the slice of its chunks. -/
def encF (f : FK) (cv : Value) : List Value := [.int .i64 f.kind, .int .i64 f.epoch, .int .i64 f.node, .int .i64 f.size, .int .i64 f.chunk, cv] ++ f.whole.map (Value.int .u8)

theorem encF_len {f : FK} (h : f.WF) (cv : Value) : (encF f cv).length = 38 := by unfold encF; simp [h.whole]

/-- A slice of chunks' digests; all in blocks T. -/
def ChunksAt (w : World) (T : List Nat) (cv : Value) (cs : List (List Int)) : Prop :=
  ∃ a cap, cv = .slice a cs.length cap ∧ cs.length ≤ cap ∧ cap ≤ maxLen ∧ (cs ≠ [] → ∃ g off, a = some ⟨g, off, none⟩ ∧ g < w.heap.size ∧ g ∈ T ∧ ∀ i, i < cs.length → CellsAt w g (off + i * 32) ((cs.getD i []).map (Value.int .u8)))

theorem ChunksAt.upd {S T : List Nat} {w w' : World} {cv : Value} {cs : List (List Int)} (h : ChunksAt w T cv cs) (hu : Upd S w w') (hT : ∀ k ∈ T, k ∉ S) : ChunksAt w' T cv cs := by
  obtain ⟨a, cap, rfl, h1, h2, h⟩ := h
  refine ⟨a, cap, rfl, h1, h2, fun hne => ?_⟩
  obtain ⟨g, off, rfl, hg, hgT, hc⟩ := h hne
  exact ⟨g, off, rfl, Nat.lt_of_lt_of_le hg hu.size, hgT, fun i hi => (hc i hi).upd hu hg (hT g hgT)⟩

theorem ChunksAt.upd0 {T : List Nat} {w w' : World} {cv : Value} {cs : List (List Int)} (h : ChunksAt w T cv cs) (hu : Upd [] w w') : ChunksAt w' T cv cs := h.upd hu (by simp)

theorem ChunksAt.mono {T T' : List Nat} {w : World} {cv : Value} {cs : List (List Int)} (h : ChunksAt w T cv cs) (hT : ∀ k ∈ T, k ∈ T') : ChunksAt w T' cv cs := by
  obtain ⟨a, cap, rfl, h1, h2, h⟩ := h
  refine ⟨a, cap, rfl, h1, h2, fun hne => ?_⟩
  obtain ⟨g, off, rfl, hg, hgT, hc⟩ := h hne
  exact ⟨g, off, rfl, hg, hT g hgT, hc⟩

theorem ChunksAt.nil (w : World) (T : List Nat) : ChunksAt w T (.slice none 0 0) [] := ⟨none, 0, rfl, by simp, by unfold maxLen; omega, fun h => absurd rfl h⟩

theorem ChunksAt.form {T : List Nat} {w : World} {cv : Value} {cs : List (List Int)} (h : ChunksAt w T cv cs) : ∃ a cap, cv = .slice a cs.length cap := by
  obtain ⟨a, cap, e, -⟩ := h; exact ⟨a, cap, e⟩

/-- The cells of a list of facts. -/
def encL : List FK → List Value → List Value
  | f :: L, cv :: cvs => encF f cv ++ encL L cvs
  | _, _ => []

/-- The chunks of a list of facts. -/
def ChunksL (w : World) (T : List Nat) (L : List FK) (cvs : List Value) : Prop :=
  cvs.length = L.length ∧ ∀ i, i < L.length → ChunksAt w T (cvs.getD i undef) (L.getD i FK.zero).chunks

theorem ChunksL.nil (w : World) (T : List Nat) : ChunksL w T [] [] := ⟨rfl, fun i hi => by simp at hi⟩

theorem ChunksL.upd {S T : List Nat} {w w' : World} {L : List FK} {cvs : List Value} (h : ChunksL w T L cvs) (hu : Upd S w w') (hT : ∀ k ∈ T, k ∉ S) : ChunksL w' T L cvs := ⟨h.1, fun i hi => (h.2 i hi).upd hu hT⟩
theorem ChunksL.upd0 {T : List Nat} {w w' : World} {L : List FK} {cvs : List Value} (h : ChunksL w T L cvs) (hu : Upd [] w w') : ChunksL w' T L cvs := h.upd hu (by simp)
theorem ChunksL.mono {T T' : List Nat} {w : World} {L : List FK} {cvs : List Value} (h : ChunksL w T L cvs) (hT : ∀ k ∈ T, k ∈ T') : ChunksL w T' L cvs := ⟨h.1, fun i hi => (h.2 i hi).mono hT⟩

theorem ChunksL.app {w : World} {T : List Nat} {L M : List FK} {cvs dvs : List Value} (h : ChunksL w T L cvs) (k : ChunksL w T M dvs) : ChunksL w T (L ++ M) (cvs ++ dvs) := by
  refine ⟨by simp [h.1, k.1], fun i hi => ?_⟩
  rw [List.length_append] at hi
  by_cases hl : i < L.length
  · rw [List.getD_eq_getElem?_getD, List.getD_eq_getElem?_getD, List.getElem?_append_left hl, List.getElem?_append_left (by rw [h.1]; exact hl), ← List.getD_eq_getElem?_getD, ← List.getD_eq_getElem?_getD]
    exact h.2 i hl
  · rw [List.getD_eq_getElem?_getD, List.getD_eq_getElem?_getD, List.getElem?_append_right (by rw [h.1]; omega), List.getElem?_append_right (by omega), h.1, ← List.getD_eq_getElem?_getD, ← List.getD_eq_getElem?_getD]
    exact k.2 _ (by omega)

theorem ChunksL.one {w : World} {T : List Nat} {f : FK} {cv : Value} (h : ChunksAt w T cv f.chunks) : ChunksL w T [f] [cv] := ⟨rfl, fun i hi => by
  have : i = 0 := by simpa using hi
  subst this; exact h⟩

theorem ChunksL.take {w : World} {T : List Nat} {L : List FK} {cvs : List Value} (h : ChunksL w T L cvs) (n : Nat) : ChunksL w T (L.take n) (cvs.take n) := by
  refine ⟨by simp [h.1], fun i hi => ?_⟩
  rw [List.length_take] at hi
  rw [List.getD_eq_getElem?_getD, List.getD_eq_getElem?_getD, List.getElem?_take, List.getElem?_take, if_pos (by omega), if_pos (by omega), ← List.getD_eq_getElem?_getD, ← List.getD_eq_getElem?_getD]
  exact h.2 i (by omega)

theorem ChunksL.drop {w : World} {T : List Nat} {L : List FK} {cvs : List Value} (h : ChunksL w T L cvs) (n : Nat) : ChunksL w T (L.drop n) (cvs.drop n) := by
  refine ⟨by simp [h.1], fun i hi => ?_⟩
  rw [List.length_drop] at hi
  rw [List.getD_eq_getElem?_getD, List.getD_eq_getElem?_getD, List.getElem?_drop, List.getElem?_drop, ← List.getD_eq_getElem?_getD, ← List.getD_eq_getElem?_getD]
  exact h.2 _ (by omega)

def WFL (L : List FK) : Prop := ∀ f ∈ L, f.WF

theorem encL_len : ∀ (L : List FK) (cvs : List Value), cvs.length = L.length → WFL L → (encL L cvs).length = L.length * 38
  | [], [], _, _ => rfl
  | f :: L, cv :: cvs, h, hw => by
    rw [encL, List.length_append, encF_len (hw f List.mem_cons_self), encL_len L cvs (by simpa using h) (fun x hx => hw x (List.mem_cons_of_mem _ hx)), List.length_cons]; omega
  | [], _ :: _, h, _ => by simp at h
  | _ :: _, [], h, _ => by simp at h

theorem encL_app : ∀ (L M : List FK) (cvs dvs : List Value), cvs.length = L.length → encL (L ++ M) (cvs ++ dvs) = encL L cvs ++ encL M dvs
  | [], M, [], dvs, _ => rfl
  | f :: L, M, cv :: cvs, dvs, h => by
    rw [List.cons_append, List.cons_append, encL, encL, encL_app L M cvs dvs (by simpa using h), List.append_assoc]
  | [], _, _ :: _, _, h => by simp at h
  | _ :: _, _, [], _, h => by simp at h

theorem encL_one (f : FK) (cv : Value) : encL [f] [cv] = encF f cv := by simp [encL]

theorem encL_take {L : List FK} {cvs : List Value} (h : cvs.length = L.length) (hw : WFL L) {n : Nat} (hn : n ≤ L.length) : (encL L cvs).take (n * 38) = encL (L.take n) (cvs.take n) := by
  have e := encL_app (L.take n) (L.drop n) (cvs.take n) (cvs.drop n) (by simp [h])
  rw [List.take_append_drop, List.take_append_drop] at e
  have hl := encL_len (L.take n) (cvs.take n) (by simp [h]) (fun f hf => hw f (List.mem_of_mem_take hf))
  rw [List.length_take, Nat.min_eq_left hn] at hl
  rw [e, List.take_append_of_le_length (by omega), List.take_of_length_le (by omega)]

theorem encL_drop {L : List FK} {cvs : List Value} (h : cvs.length = L.length) (hw : WFL L) {n : Nat} (hn : n ≤ L.length) : (encL L cvs).drop (n * 38) = encL (L.drop n) (cvs.drop n) := by
  have e := encL_app (L.take n) (L.drop n) (cvs.take n) (cvs.drop n) (by simp [h])
  rw [List.take_append_drop, List.take_append_drop] at e
  have hl := encL_len (L.take n) (cvs.take n) (by simp [h]) (fun f hf => hw f (List.mem_of_mem_take hf))
  rw [List.length_take, Nat.min_eq_left hn] at hl
  rw [e, ← hl, List.drop_left]

theorem encL_get {L : List FK} {cvs : List Value} (h : cvs.length = L.length) (hw : WFL L) {i : Nat} (hi : i < L.length) : ((encL L cvs).drop (i * 38)).take 38 = encF (L.getD i FK.zero) (cvs.getD i undef) := by
  have hi2 : i < cvs.length := by rw [h]; exact hi
  rw [encL_drop h hw (by omega), List.drop_eq_getElem_cons hi, List.drop_eq_getElem_cons hi2, encL]
  have hf : (L[i]).WF := hw _ (List.getElem_mem hi)
  rw [List.take_append_of_le_length (by rw [encF_len hf]; omega), List.take_of_length_le (by rw [encF_len hf]; omega)]
  rw [List.getD_eq_getElem?_getD, List.getD_eq_getElem?_getD, List.getElem?_eq_getElem hi, List.getElem?_eq_getElem hi2]; rfl

theorem encF_one {f : FK} {cv : Value} (h : cv.oneCell' = true) : ∀ v ∈ encF f cv, v.oneCell' = true := by
  intro v hv
  unfold encF at hv
  rcases List.mem_append.1 hv with hv | hv
  · simp at hv
    rcases hv with rfl | rfl | rfl | rfl | rfl | rfl
    · rfl
    · rfl
    · rfl
    · rfl
    · rfl
    · exact h
  · obtain ⟨x, -, rfl⟩ := List.mem_map.1 hv; rfl

theorem encL_oneC : ∀ (L : List FK) (cvs : List Value), (∀ cv ∈ cvs, cv.oneCell' = true) → ∀ v ∈ encL L cvs, v.oneCell' = true
  | f :: L, cv :: cvs, h, v, hv => by
    rw [encL] at hv
    rcases List.mem_append.1 hv with hv | hv
    · exact encF_one (h cv List.mem_cons_self) v hv
    · exact encL_oneC L cvs (fun c hc => h c (List.mem_cons_of_mem _ hc)) v hv
  | [], _, _, v, hv => by simp [encL] at hv
  | _ :: _, [], _, v, hv => by simp [encL] at hv

theorem ChunksL.ones {w : World} {T : List Nat} {L : List FK} {cvs : List Value} (h : ChunksL w T L cvs) : ∀ cv ∈ cvs, cv.oneCell' = true := by
  intro cv hcv
  obtain ⟨i, hi, rfl⟩ := List.getElem_of_mem hcv
  have := h.2 i (by rw [← h.1]; exact hi)
  rw [List.getD_eq_getElem?_getD, List.getElem?_eq_getElem hi] at this
  obtain ⟨a, cap, e⟩ := this.form
  have e' : cvs[i] = _ := e
  rw [e']; rfl

theorem encL_one' {w : World} {T : List Nat} {L : List FK} {cvs : List Value} (h : ChunksL w T L cvs) : ∀ v ∈ encL L cvs, v.oneCell' = true := encL_oneC L cvs h.ones

/-- A list of facts, wherever it lies; T: its blocks. -/
def FsAt (w : World) (T : List Nat) (v : Value) (L : List FK) : Prop :=
  ∃ a cap cvs, v = .slice a L.length cap ∧ L.length ≤ cap ∧ cap ≤ maxLen ∧ WFL L ∧ ChunksL w T L cvs ∧ (L ≠ [] → ∃ g off, a = some ⟨g, off, none⟩ ∧ g < w.heap.size ∧ g ∈ T ∧ CellsAt w g off (encL L cvs))

theorem FsAt.upd {S T : List Nat} {w w' : World} {v : Value} {L : List FK} (h : FsAt w T v L) (hu : Upd S w w') (hT : ∀ k ∈ T, k ∉ S) : FsAt w' T v L := by
  obtain ⟨a, cap, cvs, rfl, h1, h2, h3, h4, h⟩ := h
  refine ⟨a, cap, cvs, rfl, h1, h2, h3, h4.upd hu hT, fun hne => ?_⟩
  obtain ⟨g, off, rfl, hg, hgT, hc⟩ := h hne
  exact ⟨g, off, rfl, Nat.lt_of_lt_of_le hg hu.size, hgT, hc.upd hu hg (hT g hgT)⟩

theorem FsAt.upd0 {T : List Nat} {w w' : World} {v : Value} {L : List FK} (h : FsAt w T v L) (hu : Upd [] w w') : FsAt w' T v L := h.upd hu (by simp)

theorem FsAt.mono {T T' : List Nat} {w : World} {v : Value} {L : List FK} (h : FsAt w T v L) (hT : ∀ k ∈ T, k ∈ T') : FsAt w T' v L := by
  obtain ⟨a, cap, cvs, rfl, h1, h2, h3, h4, h⟩ := h
  refine ⟨a, cap, cvs, rfl, h1, h2, h3, h4.mono hT, fun hne => ?_⟩
  obtain ⟨g, off, rfl, hg, hgT, hc⟩ := h hne
  exact ⟨g, off, rfl, hg, hT g hgT, hc⟩

theorem FsAt.wf {w : World} {T : List Nat} {v : Value} {L : List FK} (h : FsAt w T v L) : WFL L := by obtain ⟨_, _, _, _, _, _, h, _⟩ := h; exact h

theorem FsAt.nil (w : World) (T : List Nat) : FsAt w T (.slice none 0 0) [] := ⟨none, 0, [], rfl, by simp, by unfold maxLen; omega, fun f hf => by simp at hf, ChunksL.nil _ _, fun h => absurd rfl h⟩

/-- One fact of the list. -/
theorem FsAt.get {w : World} {T : List Nat} {a : Option Addr} {n cap : Nat} {L : List FK} (h : FsAt w T (.slice a n cap) L) {i : Nat} (hi : i < L.length) :
    ∃ g off cv, a = some ⟨g, off, none⟩ ∧ g < w.heap.size ∧ g ∈ T ∧ CellsAt w g (off + i * 38) (encF (L.getD i FK.zero) cv) ∧ ChunksAt w T cv (L.getD i FK.zero).chunks ∧ (L.getD i FK.zero).WF := by
  obtain ⟨a', cap', cvs, e, h1, h2, h3, h4, h⟩ := h
  cases e
  obtain ⟨g, off, rfl, hg, hgT, hc⟩ := h (by intro e; rw [e] at hi; simp at hi)
  refine ⟨g, off, cvs.getD i undef, rfl, hg, hgT, ?_, h4.2 i hi, ?_⟩
  · rw [← encL_get h4.1 h3 hi]; exact hc.sub (i * 38) 38
  · rw [List.getD_eq_getElem?_getD, List.getElem?_eq_getElem hi]; exact h3 _ (List.getElem_mem hi)

/-- A list in a row of the call's own. -/
structure OL (w : World) (lo : Nat) (v : Value) (L : List FK) (cvs : List Value) (T : List Nat) : Prop where
  own : w.ownsRow lo 31 38 v L.length (encL L cvs)
  chunks : ChunksL w T L cvs
  wf : WFL L

theorem OL.upd {S T : List Nat} {w w' : World} {lo : Nat} {v : Value} {L : List FK} {cvs : List Value} (h : OL w lo v L cvs T) (hu : Upd S w w') (hv : ∀ g, v.ownBlock = some g → g ∉ S) (hT : ∀ k ∈ T, k ∉ S) : OL w' lo v L cvs T :=
  ⟨own_upd h.own hu hv, h.chunks.upd hu hT, h.wf⟩
theorem OL.upd0 {T : List Nat} {w w' : World} {lo : Nat} {v : Value} {L : List FK} {cvs : List Value} (h : OL w lo v L cvs T) (hu : Upd [] w w') : OL w' lo v L cvs T := h.upd hu (by simp) (by simp)

theorem OL.at {T : List Nat} {w : World} {lo : Nat} {v : Value} {L : List FK} {cvs : List Value} (h : OL w lo v L cvs T) : FsAt w (v.ownBlock.toList ++ T) v L := by
  rcases h.own.2 with ⟨rfl, hn⟩ | ⟨g, cap, cur, rfl, hb, hg, hnc, hcm, hcs, htk⟩
  · have : L = [] := List.eq_nil_of_length_eq_zero hn
    subst this; exact FsAt.nil _ _
  · refine ⟨_, cap, cvs, rfl, hnc, hcm, h.wf, h.chunks.mono (fun k hk => List.mem_append_right _ hk), fun _ => ⟨g, 0, rfl, Blk.lt hg, by simp [Value.ownBlock], fun j v hj => ?_⟩⟩
    have := h.own.cells (g := g) rfl j v hj
    have hadd : (⟨g, 0, none⟩ : Addr).add j = ⟨g, 0 + j, none⟩ := by unfold Addr.add; split <;> simp_all
    rwa [hadd] at this

end Go.Proofs.Ytbdmnmjdnfpfbaa
