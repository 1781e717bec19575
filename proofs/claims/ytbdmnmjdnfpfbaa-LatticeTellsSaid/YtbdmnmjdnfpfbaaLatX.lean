/- Plain laws of LatticeMany; a fact that is built of three numbers. -/
import Derived.Test.YtbdmnmjdnfpfbaaLatW
namespace Go.Proofs.Ytbdmnmjdnfpfbaa
open Go.ChangeShapes Go.WideShapes Go.ChangeAt Go.RowKit

/-- A fact without a manifest. -/
def FK.bare (k e n : Int) : FK := ⟨k, e, n, 0, 0, [], zeros32⟩
theorem bare_wf (k e n : Int) : (FK.bare k e n).WF := ⟨zeros32_len, FK.zero_wf.bytes, fun c hc => by simp [FK.bare] at hc⟩

theorem exec_bare {a : Act} {o : Oper} {w : World} {x y z : Operand} {k e n : Int} (ho : o.op = .build 31 #[(0, x), (1, y), (2, z)]) (hx : a.eval x = .int .i64 k) (hy : a.eval y = .int .i64 e) (hz : a.eval z = .int .i64 n) :
    (execOp a.eval o).run Try.prog w = .ok (.value (.agg (encF (FK.bare k e n) (.slice none 0 0)).toArray)) w := by
  have hz' := run_zero (P := Try.prog) (w := w) zero_fact
  unfold execOp
  simp [ho, Instr.build, hz', underlying, Try.underlying31, Instr.fill, Value.cells, hx, hy, hz, encF, FK.zero, FK.bare, encM]
  rfl

/-- The facts of LatticeMany. -/
def stepF (i : Nat) : FK := FK.bare 2 (1600 + 16 * ((i / 9 : Nat) : Int)) ((i % 9 : Nat) : Int)
theorem stepF_wf (i : Nat) : (stepF i).WF := bare_wf _ _ _
theorem stepF_ci (w : World) (i : Nat) : CI w (.slice none 0 0) (stepF i).chunks := CI.nil w
def manyL : Nat → List FK
  | 0 => []
  | i + 1 => addL 9 (manyL i) (stepF i)

theorem ofN_step {q : Nat} (h : q ≤ 1000) : ofN (1600 + 16 * (q : Int)) = (0, 100 + (q : Int)) := by
  unfold ofN
  rw [if_neg (by omega), show (1600 + 16 * (q : Int)) % 16 = 0 by omega, show (1600 + 16 * (q : Int)) / 16 = 100 + (q : Int) by omega]

theorem stepF_ok {i : Nat} (h : i ≤ 1000) : (stepF i).ok 9 = true := by
  have hq : i / 9 ≤ 1000 := by omega
  have hm : i % 9 < 9 := Nat.mod_lt _ (by omega)
  unfold FK.ok FK.none stepF FK.bare
  simp only [ofN_step hq]
  simp
  omega

theorem many_inv : ∀ (i : Nat), i ≤ 1000 → (manyL i).length = min i 200 ∧ ∀ f ∈ manyL i, ∃ j, j < i ∧ f = stepF j
  | 0, _ => ⟨rfl, fun f hf => by simp [manyL] at hf⟩
  | i + 1, h => by
    obtain ⟨h1, h2⟩ := many_inv i (by omega)
    have hn : hasL (manyL i) (stepF i).kind (stepF i).epoch (stepF i).node = false := by
      cases hh : hasL (manyL i) (stepF i).kind (stepF i).epoch (stepF i).node with
      | false => rfl
      | true =>
        obtain ⟨f, hf, -, he, hk⟩ := hasL_iff.1 hh
        obtain ⟨j, hj, rfl⟩ := h2 f hf
        simp only [stepF, FK.bare] at he hk
        omega
    have hok := stepF_ok (i := i) (by omega)
    unfold manyL addL
    rw [if_neg (by simp [hok]), if_neg (by simp [hn])]
    split
    · exact ⟨by omega, fun f hf => by obtain ⟨j, hj, e⟩ := h2 f hf; exact ⟨j, by omega, e⟩⟩
    · refine ⟨by rw [insL_len]; omega, fun f hf => ?_⟩
      rcases mem_insL.1 hf with rfl | hf
      · exact ⟨i, by omega, rfl⟩
      · obtain ⟨j, hj, e⟩ := h2 f hf; exact ⟨j, by omega, e⟩

theorem many_code {i : Nat} (h : i ≤ 999) : addCode 9 (manyL i) (stepF i) = if i < 200 then 0 else 110 := by
  obtain ⟨h1, h2⟩ := many_inv i (by omega)
  have hn : hasL (manyL i) (stepF i).kind (stepF i).epoch (stepF i).node = false := by
    cases hh : hasL (manyL i) (stepF i).kind (stepF i).epoch (stepF i).node with
    | false => rfl
    | true =>
      obtain ⟨f, hf, -, he, hk⟩ := hasL_iff.1 hh
      obtain ⟨j, hj, rfl⟩ := h2 f hf
      simp only [stepF, FK.bare] at he hk
      omega
  have hok := stepF_ok (i := i) (by omega)
  unfold addCode
  rw [if_neg (by simp [hok]), if_neg (by simp [hn])]
  by_cases hi : i < 200
  · rw [if_neg (by omega), if_pos hi]
  · rw [if_pos (by omega), if_neg hi]

theorem many_last (L : List FK) (f : FK) (hl : L.length ≤ 200) : (addL 9 L f).length ≤ 200 := by
  unfold addL
  split
  · exact hl
  · split
    · exact hl
    · split
      · exact hl
      · rw [insL_len]; omega

end Go.Proofs.Ytbdmnmjdnfpfbaa
