/- Plain laws of a disk that was written. -/
import Derived.Test.YtmdioojaaneacaaDiskG
import Derived.Test.YtmdioojaaneacaaOpen
namespace Go.Proofs.Ytmdioojaaneacaa
open Go.ChangeShapes Go.WideShapes Go.ChangeAt Go.RowKit

theorem code_new20 (n : Int) : (DK.new (20 : Int).toNat).code n = if 0 ≤ n ∧ n < 20 then 0 else 61 := by
  unfold DK.code DK.new
  simp
  split <;> split <;> omega

theorem put_code (d : DK) (n k : Int) (x : Blok) : (d.write n x).code k = d.code k := by
  unfold DK.write; split <;> rfl

theorem get_put (d : DK) (n k : Int) (x : Blok) : (d.put n x).get k = if k = n then x else d.get k := by
  unfold DK.get DK.put
  simp only [mget_mset]
  split <;> rfl

theorem rd_write (d : DK) (n k : Int) (x : Blok) : (d.write n x).rd k = if k = n ∧ d.code n = 0 then x else d.rd k := by
  unfold DK.rd
  rw [put_code]
  unfold DK.write
  by_cases hn : d.code n = 0
  · rw [if_pos hn, get_put]
    by_cases hk : k = n
    · subst hk; rw [if_pos hn, if_pos rfl, if_pos ⟨rfl, hn⟩]
    · rw [if_neg hk, if_neg (c := k = n ∧ d.code n = 0) (fun h => hk h.1)]
  · rw [if_neg hn, if_neg (c := k = n ∧ d.code n = 0) (fun h => hn h.2)]

theorem rd_new20 (n : Int) : (DK.new (20 : Int).toNat).rd n = DK.zeros := by
  unfold DK.rd
  split
  · rename_i h
    rw [code_new20] at h
    have h2 : 0 ≤ n ∧ n < 20 := by
      by_cases h2 : 0 ≤ n ∧ n < 20
      · exact h2
      · rw [if_neg h2] at h; cases h
    unfold DK.get DK.new
    simp only [mget, List.find?_nil, Option.map_none, Option.getD_none, List.getD_eq_getElem?_getD]
    rw [List.getElem?_replicate, if_pos (by omega)]; rfl
  · rfl

end Go.Proofs.Ytmdioojaaneacaa
