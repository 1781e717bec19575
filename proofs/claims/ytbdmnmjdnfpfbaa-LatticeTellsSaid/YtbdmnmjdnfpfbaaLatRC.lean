/- Steps for the document's Add: slices of a list of facts, appended; the walk of the document's Has. -/
import Derived.Test.YtbdmnmjdnfpfbaaLatZC
import Derived.Test.YtbdmnmjdnfpfbaaLatRB
namespace Go.Proofs.Ytbdmnmjdnfpfbaa
open Go.ChangeShapes Go.WideShapes Go.ChangeAt Go.RowKit

section
variable {P : Program} {a : Act} {w : World} {o : Oper}
/-- 's[:h]'. -/
theorem exec_sliceH0 (t : TypeId) (x z : Operand) (ho : o.op = .slice t x none (some z) none) (ht : P.underlying t = some (.slice (P.elem t))) {k : Nat} (hs : (P.info? (P.elem t)).map (·.size) = some k)
    {b : Option Addr} {n cap h : Nat} {kh : IntKind} (hx : a.eval x = .slice b n cap) (hz : a.eval z = .int kh h) (h2 : h ≤ cap) :
    (execOp a.eval o).run P w = .ok (.value (sliced b 0 h cap k)) w := by
  have e1 := run_slice_h (P := P) (w := w) t b n cap ht kh (h : Int) (by omega) (by omega)
  rw [size_run hs, Result.andThen_ok] at e1
  unfold execOp
  simp only [ho, hx, hz, Option.map_some, Option.map_none, Sem.run_bind, run_sliceAt_slice _ t _ _ _ _ ht, e1, Result.andThen_ok, Sem.run_pure, Int.toNat_natCast]
end

/-- An empty row, built. -/
theorem wp_none {o : Oper} {a : Act} {w : World} {K : Act → World → Prop} {Q : Exit → Act → World → Prop} (ho : o.op = .buildSlice 23 0 #[])
    (h : K (a.put o.dst (.slice (some ⟨w.heap.size, 0, none⟩) 0 0)) (w.alloc (.cells #[] 31))) : o.wp Try.prog a w K Q := by
  obtain ⟨ie, hie, hz, hisz, hib⟩ := info_parts info_factB
  have hr : (Instr.buildSlice 23 0 #[]).run Try.prog w = .ok (.slice (some ⟨w.heap.size, 0, none⟩) 0 0) (w.alloc (.cells #[] 31)) := by
    simp [Instr.buildSlice, run_underlying Try.underlying23, sizeOf, typeInfo, hie, Instr.fill, newRow]
    congr 2
    exact Array.eq_empty_of_size_eq_zero (by simp)
  unfold Oper.wp execOp
  simp only [ho, Array.map_empty, Sem.run_bind, hr, Result.andThen_ok]
  exact h

theorem FsAt.slicedH {w : World} {T : List Nat} {a : Option Addr} {cap : Nat} {L : List FK} (h : FsAt w T (.slice a L.length cap) L) {i : Nat} (hi : i ≤ L.length) : FsAt w T (sliced a 0 i cap 38) (L.take i) := by
  obtain ⟨a', cap', cvs, e, h1, h2, h3, h4, h5⟩ := h
  cases e
  have hv : sliced a 0 i cap 38 = .slice (if cap = 0 then a else a.map (·.add 0)) (L.take i).length cap := by
    unfold sliced
    rw [List.length_take, Nat.min_eq_left hi]; simp
  refine ⟨_, cap, cvs.take i, hv, by rw [List.length_take]; omega, h2, fun f hf => h3 f (List.mem_of_mem_take hf), h4.take i, fun hne => ?_⟩
  have hL : L ≠ [] := fun e => hne (by rw [e]; simp)
  obtain ⟨g, off, rfl, hg, hgT, hc⟩ := h5 hL
  refine ⟨g, off, ?_, hg, hgT, ?_⟩
  · have hadd : (⟨g, off, none⟩ : Addr).add 0 = ⟨g, off, none⟩ := by unfold Addr.add; split <;> simp_all
    split
    · rfl
    · simp [hadd]
  · rw [← encL_take h4.1 h3 hi]
    intro j v hj
    rw [List.getElem?_take] at hj
    split at hj
    · exact hc j v hj
    · cases hj

theorem FsAt.slicedL {w : World} {T : List Nat} {a : Option Addr} {cap : Nat} {L : List FK} (h : FsAt w T (.slice a L.length cap) L) {i : Nat} (hi : i ≤ L.length) : FsAt w T (sliced a i L.length cap 38) (L.drop i) := by
  obtain ⟨a', cap', cvs, e, h1, h2, h3, h4, h5⟩ := h
  cases e
  have hv : sliced a i L.length cap 38 = .slice (if cap = i then a else a.map (·.add (i * 38))) (L.drop i).length (cap - i) := by
    unfold sliced
    rw [List.length_drop]
  refine ⟨_, cap - i, cvs.drop i, hv, by rw [List.length_drop]; omega, by omega, fun f hf => h3 f (List.mem_of_mem_drop hf), h4.drop i, fun hne => ?_⟩
  have hL : L ≠ [] := fun e => hne (by rw [e]; simp)
  have hlt : i < L.length := by
    rcases Nat.lt_or_ge i L.length with h | h
    · exact h
    · exact absurd (List.drop_of_length_le h) hne
  obtain ⟨g, off, rfl, hg, hgT, hc⟩ := h5 hL
  refine ⟨g, off + i * 38, ?_, hg, hgT, ?_⟩
  · have hadd : (⟨g, off, none⟩ : Addr).add (i * 38) = ⟨g, off + i * 38, none⟩ := by unfold Addr.add; split <;> simp_all
    rw [if_neg (by omega)]
    simp [hadd]
  · rw [← encL_drop h4.1 h3 hi]
    intro j v hj
    rw [List.getElem?_drop] at hj
    rw [Nat.add_assoc]
    exact hc _ v hj

set_option maxHeartbeats 1000000 in
/-- A list of facts, appended behind another of the call's own. -/
theorem wp_appendF {w : World} {o : Oper} {a : Act} {K : Act → World → Prop} {Q : Exit → Act → World → Prop} (s x : Operand)
    (ho : o.op = .call { callee := .builtin .append, args := #[s, x], argTypes := #[23, 23] }) {base : Nat} {v0 : Value} {K0 : List FK} {kvs : List Value} {T : List Nat} (hs : a.eval s = v0) (hol : OL w base v0 K0 kvs T) (hbase : base ≤ w.heap.size)
    {sv : Value} (hx : a.eval x = sv) {T2 : List Nat} {M : List FK} (h : FsAt w T2 sv M) (hT : ∀ y ∈ T, y ∉ v0.ownBlock.toList) (hT2 : ∀ y ∈ T2, y ∉ v0.ownBlock.toList) (hl : K0.length + M.length ≤ 1000)
    (hk : ∀ v' w' cvs, OL w' base v' (K0 ++ M) cvs (T2 ++ T) → Upd v0.ownBlock.toList w w' → (v'.ownBlock = v0.ownBlock ∨ v'.ownBlock = some w.heap.size) → K (a.put o.dst v') w') : o.wp Try.prog a w K Q := by
  have hwf := h.wf
  obtain ⟨i0, hi, hz0, hz1, hz2⟩ := info_parts info_factB
  obtain ⟨aa, ac, hv⟩ : ∃ a c, sv = .slice a M.length c := by obtain ⟨a, c, _, e, -⟩ := h; exact ⟨a, c, e⟩
  subst hv
  cases aa with
  | none =>
    have hM : M = [] := by
      obtain ⟨_, _, _, e, -, -, -, -, hc⟩ := h
      cases M with
      | nil => rfl
      | cons f t => obtain ⟨g, off, e2, -⟩ := hc (by simp); rw [e2] at e; cases e
    subst hM
    have hrun := run_append_noneC (P := Try.prog) (w := w) base 23 o.type 31 i0 38 ac Try.underlying23 hi v0 K0.length _ hol.own
    have hres := hk v0 w kvs (by rw [List.append_nil]; exact ⟨hol.own, hol.chunks.mono (fun k hk => List.mem_append_right _ hk), hol.wf⟩) (Upd.refl _ _) (.inl rfl)
    unfold Oper.wp
    simp [execOp, ho, resolve, invoke, builtin, hs, hx, hrun, Result.andThen]
    exact hres
  | some ad =>
    obtain ⟨cvs, hch, hnews, hblk⟩ := h.news
    have hel := encL_len M cvs hch.1 hwf
    have hone := encL_one' hch
    obtain ⟨v', w1, hr, ho', hg, -, hat⟩ := run_append_own_at (P := Try.prog) w base 23 o.type 31 i0 (.agg (encF FK.zero (.slice none 0 0)).toArray) 38 96 Try.underlying23 hi hz0 hz1 hz2 rfl (by decide) v0 K0.length _ hol.own ad M.length ac (encL M cvs) hel hnews hone (by unfold maxLen; omega) (by omega) hbase
    have hu : Upd v0.ownBlock.toList w w1 := (Upd.refl _ _).grown hg (fun k hk => .inl (by simp [hk]))
    have hres := hk v' w1 (kvs ++ cvs) ⟨by rw [encL_app _ _ _ _ hol.chunks.1, List.length_append]; exact ho', (hol.chunks.mono (fun k hk => List.mem_append_right _ hk)).upd hu (fun y hy => ?_) |>.app ((hch.mono (fun k hk => List.mem_append_left _ hk)).upd hu (fun y hy => ?_)), fun f hf => ?_⟩ hu hat
    · unfold Oper.wp execOp
      simp only [ho, resolve, invoke, builtin, Sem.run_bind, Sem.run_pure, Result.andThen_ok, List.map_toArray, List.map_cons, List.map_nil, hs, hx, hr]
      exact hres
    · rcases List.mem_append.1 hy with h1 | h1
      · exact hT2 y h1
      · exact hT y h1
    · rcases List.mem_append.1 hy with h1 | h1
      · exact hT2 y h1
      · exact hT y h1
    · rcases List.mem_append.1 hf with h1 | h1
      · exact hol.wf f h1
      · exact hwf f h1

theorem hasL_any (L : List FK) (k e n : Int) : hasL L k e n = L.any (fun f => decide (f.kind = k) && decide (f.epoch = e) && decide (f.node = n)) := by
  unfold hasL allL FK.is
  induction L with
  | nil => rfl
  | cons f t ih =>
    rw [List.any_cons, List.filter_cons]
    split
    · rename_i h; rw [List.any_cons, ih, h]; simp
    · rename_i h
      rw [ih]
      have : (decide (f.kind = k) && decide (f.epoch = e)) = false := by simpa using h
      rw [this]; simp
theorem any_snoc (p : FK → Bool) (L : List FK) (i : Nat) (h : i < L.length) : (L.take (i + 1)).any p = ((L.take i).any p || p (L.getD i FK.zero)) := by
  rw [take_snoc L i h FK.zero, List.any_append]; simp

set_option maxRecDepth 100000 in
set_option maxHeartbeats 2000000 in
theorem rhas_fi {w : World} {v : Value} {L : List FK} (kind epoch node : Int) (h : FI w v L) :
    Calls Try.prog 36 #[v, .int .i64 kind, .int .i64 epoch, .int .i64 node] w fun e w' => e = .returned (.bool (hasL L kind epoch node)) ∧ Upd [] w w' := by
  have hnm : L.length ≤ maxLen := by obtain ⟨T, ⟨_, cap', _, e, h1, h2, -⟩, -⟩ := h; omega
  unfold maxLen at hnm
  rw [hasL_any]
  obtain ⟨p, hp⟩ : ∃ p : FK → Bool, p = fun f => decide (f.kind = kind) && decide (f.epoch = epoch) && decide (f.node = node) := ⟨_, rfl⟩
  rw [← hp]
  have HP := Lib.hid hp
  have HF := Lib.hid h
  obtain ⟨a, cap, rfl⟩ := h.form
  obtain ⟨n, hn⟩ : ∃ n, n = L.length := ⟨_, rfl⟩
  rw [← hn] at HF hnm ⊢
  have HN := Lib.hid hn
  clear hn h hp
  go_enter Try.func36, Try.ntmps36
  go_upto_region 2 with fail
  go_loopw [9] (fun i wx => ∃ (m : Nat), m ≤ n ∧ i = .int .i64 m ∧ (L.take m).any p = false ∧ w = wx) (fun i _ => n - (intOf i).toNat)
  case atStart => exact ⟨0, Nat.zero_le _, rfl, by simp, rfl⟩
  case round =>
    obtain ⟨m, hm, rfl, hno, rfl⟩ := hrel
    have HNO := Lib.hid hno
    clear hno
    by_cases hlt : m < n
    · have hlx : m < L.length := by rw [← HN.out]; exact hlt
      obtain ⟨g, off, cv, rfl, hg, hcl, -, -⟩ := HF.out.get hlx
      have hsn := any_snoc p L m hlx
      have hmem := getD_mem hlx
      obtain ⟨f, hf⟩ : ∃ x, x = L.getD m FK.zero := ⟨_, rfl⟩
      rw [← hf] at hcl hsn hmem
      have hpf : p f = (decide (f.kind = kind) && decide (f.epoch = epoch) && decide (f.node = node)) := by rw [HP.out]
      obtain ⟨kd, hkd⟩ : ∃ x, x = f.kind := ⟨_, rfl⟩
      obtain ⟨ep, hep⟩ : ∃ x, x = f.epoch := ⟨_, rfl⟩
      obtain ⟨nd, hnd⟩ : ∃ x, x = f.node := ⟨_, rfl⟩
      rw [← hkd, ← hep, ← hnd] at hpf
      have c0 : w.cell? ⟨g, off + m * 38, none⟩ = some (.int .i64 kd) := by rw [hkd]; exact hcl 0 _ rfl
      have c1 : w.cell? ⟨g, off + m * 38 + 1, none⟩ = some (.int .i64 ep) := by rw [hep]; exact hcl 1 _ rfl
      have c2 : w.cell? ⟨g, off + m * 38 + 2, none⟩ = some (.int .i64 nd) := by rw [hnd]; exact hcl 2 _ rfl
      have hx0 : (0 : Int) ≤ (m : Int) := by omega
      have hx1 : (m : Int) < (n : Int) := by omega
      rw [HNO.out, Bool.false_or] at hsn
      have HSN := Lib.hid hsn
      have HMEM := Lib.hid hmem
      clear hcl hsn hmem hf hkd hep hnd
      by_cases h1 : kd = kind
      · by_cases h2 : ep = epoch
        · by_cases h3 : nd = node
          · have HYES : Hid (L.any p = true) := Lib.hid (List.any_eq_true.2 ⟨f, HMEM.out, by rw [hpf]; simp [h1, h2, h3]⟩)
            subst h1 h2 h3
            clear hpf
            go_wp2_with fail
            go_ret
            exact ⟨by rw [HYES.out]; rfl, Upd.refl _ _⟩
          · have HNF : Hid (p f = false) := Lib.hid (by rw [hpf]; simp [h3])
            subst h1 h2
            have h3' : (nd == node) = false := by simpa using h3
            clear hpf
            go_wp2_with fail
            go_roundw
            case rel => exact ⟨m + 1, by omega, by go_num, by rw [HSN.out]; exact HNF.out, trivial⟩
            case measure => simp [intOf]; omega
        · have HNF : Hid (p f = false) := Lib.hid (by rw [hpf]; simp [h2])
          subst h1
          have h2' : (ep == epoch) = false := by simpa using h2
          clear hpf
          go_wp2_with fail
          go_roundw
          case rel => exact ⟨m + 1, by omega, by go_num, by rw [HSN.out]; exact HNF.out, trivial⟩
          case measure => simp [intOf]; omega
      · have HNF : Hid (p f = false) := Lib.hid (by rw [hpf]; simp [h1])
        have h1' : (kd == kind) = false := by simpa using h1
        clear hpf
        go_wp2_with fail
        go_roundw
        case rel => exact ⟨m + 1, by omega, by go_num, by rw [HSN.out]; exact HNF.out, trivial⟩
        case measure => simp [intOf]; omega
    · obtain rfl : n = m := by omega
      have HALL : Hid (L.any p = false) := Lib.hid (by have h1 := HNO.out; rwa [HN.out, List.take_length] at h1)
      clear hlt hm
      go_wp2_with fail
      go_ret
      exact ⟨by rw [HALL.out]; rfl, Upd.refl _ _⟩

end Go.Proofs.Ytbdmnmjdnfpfbaa
