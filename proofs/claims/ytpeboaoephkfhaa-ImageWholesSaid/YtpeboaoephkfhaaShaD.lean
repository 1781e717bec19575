/- The plain model of a digest; bytes.Join of one part. -/
import Derived.Test.YtpeboaoephkfhaaShaC
import Derived.Laws.OwnMore
namespace Go.Proofs.Ytpeboaoephkfhaa
open Go.ChangeShapes Go.WideShapes Go.ChangeAt Go.RowKit

def padK (n : Nat) : Nat := (119 - n % 64) % 64
def lenB (n i : Nat) : Int := ((8 * n : Nat) : Int) / 2 ^ (56 - 8 * i) % 256
def padF (b : List Int) : List Int := b ++ 128 :: List.replicate (padK b.length) 0 ++ (List.range 8).map (lenB b.length)
def runF (ks s B : List Int) : Nat → List Int
  | 0 => s
  | j + 1 => blockF ks (runF ks s B j) (B.drop (64 * j))
def outB (s : List Int) (i : Nat) : Int := s.getD (i / 4) 0 / 2 ^ (24 - 8 * (i % 4)) % 256
def outF (s : List Int) : List Int := (List.range 32).map (outB s)
/-- The digest of bytes. -/
def sumF (b : List Int) : List Int := outF (runF KK HH (padF b) ((padF b).length / 64))

theorem padF_len (b : List Int) : (padF b).length = b.length + 1 + padK b.length + 8 ∧ (padF b).length % 64 = 0 := by
  unfold padF
  have h : (b ++ 128 :: List.replicate (padK b.length) 0 ++ (List.range 8).map (lenB b.length)).length = b.length + 1 + padK b.length + 8 := by simp; omega
  refine ⟨h, ?_⟩
  rw [h]
  unfold padK
  omega
theorem sumF_len (b : List Int) : (sumF b).length = 32 := by simp [sumF, outF]
theorem runF_len {ks s B : List Int} (h : s.length = 8) : ∀ j, (runF ks s B j).length = 8
  | 0 => h
  | _ + 1 => rfl
theorem sumF_u8 (b : List Int) : U8L (sumF b) := by
  intro x hx
  unfold sumF outF outB at hx
  obtain ⟨i, -, rfl⟩ := List.mem_map.1 hx
  omega
theorem padF_u8 {b : List Int} (h : U8L b) : U8L (padF b) := by
  intro x hx
  unfold padF at hx
  rcases List.mem_append.1 hx with h1 | h1
  · rcases List.mem_append.1 h1 with h2 | h2
    · exact h x h2
    · rcases List.mem_cons.1 h2 with rfl | h3
      · omega
      · rw [List.eq_of_mem_replicate h3]; omega
  · unfold lenB at h1
    obtain ⟨i, -, rfl⟩ := List.mem_map.1 h1
    omega

section
variable {P : Program} {w : World}
theorem run_append_noneC (base : Nat) (t ty e : TypeId) (i : TypeInfo) (size c : Nat) (ht : P.underlying t = some (.slice e)) (hi : P.info? e = some i)
    (v : Value) (n : Nat) (xs : List Value) (hown : w.ownsRow base e size v n xs) :
    (Builtin.append_ #[t, t] ty #[v, .slice none 0 c]).run P w = .ok v w := by
  rcases hown.2 with ⟨rfl, rfl⟩ | ⟨g, cap, cur, rfl, _, _, hnc, _⟩
  · simp [Builtin.append_, run_underlying ht, sizeOf, typeInfo, hi, Builtin.lenOf, Builtin.firstCells]
  · simp [Builtin.append_, run_underlying ht, sizeOf, typeInfo, hi, Builtin.lenOf, Builtin.firstCells, hnc, storeCells]
end

set_option maxHeartbeats 1000000 in
/-- Bytes, appended behind others of the call's own. -/
theorem wpList_appendB {w : World} {ops : Array Oper} {rest : List Oper} {o : Oper} {a : Act} {Q : Exit → Act → World → Prop} (hgd : o.guard = none) (s x : Operand)
    (ho : o.op = .call { callee := .builtin .append, args := #[s, x], argTypes := #[26, 26] }) (base : Nat) {v0 : Value} {l0 : List Int} (hs : a.eval s = v0) (hown : w.ownsRow base 5 1 v0 l0.length (l0.map (Value.int .u8))) (hbase : base ≤ w.heap.size)
    {sv : Value} (hx : a.eval x = sv) {l : List Int} (h : BytesAt w sv l) (hl : l0.length + l.length ≤ 1000000)
    (hk : ∀ v' w', w'.ownsRow base 5 1 v' (l0 ++ l).length ((l0 ++ l).map (Value.int .u8)) → Upd v0.ownBlock.toList w w' → wpList Try.prog ops Q rest (a.put o.dst v') w') : wpList Try.prog ops Q (o :: rest) a w := by
  obtain ⟨i0, hi, hz0, hz1, hz2⟩ := info_parts info_u8B
  obtain ⟨aa, ac, hv, hc1, hc2, hcell⟩ := h
  subst hv
  cases aa with
  | none =>
    have hl0 : l = [] := by
      cases l with
      | nil => rfl
      | cons f t => obtain ⟨g, off, e2, -⟩ := hcell (by simp); cases e2
    subst hl0
    refine wpList_plain hgd fun K hK => ?_
    have hrun := run_append_noneC (P := Try.prog) (w := w) base 26 o.type 5 i0 1 ac Try.underlying26 hi v0 l0.length _ hown
    unfold Oper.wp
    simp [execOp, ho, resolve, invoke, builtin, hs, hx, hrun, Result.andThen]
    exact hK _ _ (hk v0 w (by rw [List.append_nil]; exact hown) (Upd.refl _ _))
  | some ad =>
    refine wpList_append_own w hgd s x 26 ho base 5 i0 (.int .u8 0) 1 1 Try.underlying26 hi hz0 hz1 hz2 rfl (by decide) v0 l0.length _ hs hown ad l.length ac (l.map (Value.int .u8)) hx (by simp) ?_ (fun u hu => by obtain ⟨y, -, rfl⟩ := List.mem_map.1 hu; rfl) (by unfold maxLen; omega) (by omega) hbase fun v' w1 ho' hg _ => ?_
    · intro j u hj
      have hjl : j < l.length := by
        rcases Nat.lt_or_ge j l.length with h1 | h1
        · exact h1
        · rw [List.getElem?_eq_none (by simpa using h1)] at hj; cases hj
      obtain ⟨g, off, e2, -, hc⟩ := hcell (by intro e; rw [e] at hjl; simp at hjl)
      cases e2
      have hadd : (⟨g, off, none⟩ : Addr).add j = ⟨g, off + j, none⟩ := by unfold Addr.add; split <;> simp_all
      rw [hadd, hc j hjl, ← hj]
      simp [List.getD_eq_getElem?_getD, hjl]
    · refine hk v' w1 ?_ ((Upd.refl _ _).grown hg (fun k hk => .inl (by simp [hk])))
      rw [List.length_append, List.map_append]; exact ho'

set_option maxRecDepth 100000 in
set_option maxHeartbeats 1000000 in
theorem join_any {w : World} {b : List Int} {bv : Value} {pb po pc : Nat} (hp : w.cell? ⟨pb, po, none⟩ = some bv) (hb : BytesAt w bv b) (hl : b.length ≤ 500000) :
    Calls Try.prog 30 #[.slice (some ⟨pb, po, none⟩) 1 pc, .slice none 0 0] w fun e w' => ∃ v', e = .returned v' ∧ w'.ownsRow w.heap.size 5 1 v' b.length (b.map (Value.int .u8)) ∧ Upd [] w w' := by
  obtain ⟨ba, bc, rfl⟩ := hb.form
  have HB := Lib.hid hb
  clear hb
  go_enter Try.func30, Try.ntmps30
  go_upto_region 4 with fail
  go_wp2_with (at_builtin; go_loud (refine wpList_appendB (l0 := []) (v0 := .slice none 0 0) rfl (.const (.slice none 0 0)) (.tmp 21) rfl w.heap.size rfl (World.ownsRow_nil _ _ _ _) (Nat.le_refl _) rfl HB.out (by simp; omega) fun v1 w1 ho1 hu1 => ?_)
               have HO := Lib.hid ho1
               have HU := Lib.hid hu1
               clear ho1 hu1)
  go_ret
  exact ⟨_, rfl, by simpa using HO.out, HU.out.mono (by simp [Value.ownBlock])⟩

end Go.Proofs.Ytpeboaoephkfhaa
