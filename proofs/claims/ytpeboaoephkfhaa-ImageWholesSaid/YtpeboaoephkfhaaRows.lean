/-
  No cell of these rows narrows 'for every input' (looked for: loops, veiled, ifaces, maps, wideKeys, modest, calm, conditions, laid).
  DERIVED. THE GIVEN ROWS OF THIS SEAT. 7 by the template 'for every input the law returns true; each argument reads behind the call as it read before'; 0 by the template 'total and deterministic' (their statements: YtpeboaoephkfhaaTotals.lean).
  GIVEN WITH THE SEED: the statements are not yours to turn. If you find one false, say at which input.
  Laid BY PROGRAM, IN A SANDBOX (cutbox-rows.mjs): the forced cells as the released guide's own fill.sh prints them over the translation ff4a2850be787092… (all of the seat's roots in one cut). By AI agents, Wed Nov 11 2026. No macro, syntax, notation, axiom, sorry.
-/
import Derived.Test.YtpeboaoephkfhaaChecked
import GoSem.Claim
import GoSem.ClaimJoined
import GoSem.ClaimMapViews
import Derived.JoinedTies
import Derived.KernelRfl
namespace Go.Proofs.Ytpeboaoephkfhaa
/- THE CELL 'sum', in the pinned program and in every row, IS THE sha256 OF THE DUMP (.gsa) THAT YtpeboaoephkfhaaProg.lean LOADS. Nothing in Lean hashes anything: it is a label: what it is worth is what the hold of that sum in a sandbox is worth. -/
noncomputable def Try.pinned : Pinned := { name := "ytpeboaoephkfhaa", sum := "ff4a2850be787092bce3473ef86658fd8b294d179eb3f749c594601b8f962702", checked := Try.checked }
namespace Rows
def none {H : Type} : Left H := { results := [], args := [] }

/-- 'shipwrightlaw08.ImageNames': WHATEVER THE INPUT: true; the input reads as it did. -/
def imageNamesSpec : ChangeSpec := { name := "imageNames", fn := fun _ => fun
  | [] => { results := [.lit (.bool true)], args := [] }
  | _ => none }
def imageNamesRow : OpenClaim := { program := "ytpeboaoephkfhaa", sum := "ff4a2850be787092bce3473ef86658fd8b294d179eb3f749c594601b8f962702", func := "shipwright/shipwrightlaw08.ImageNames", spec := "imageNames", inPlace := ["internal/bytealg.MakeNoZero"], unfollowed := true, recurses := true, apart := false }
def ImageNamesSaid : Prop := imageNamesRow.holds Try.pinned (OpenSpec.ofChange imageNamesSpec)

/-- ITS FALSE NEIGHBOUR: 'it returns false'. Refute it at one input. -/
def imageNamesWrong : ChangeSpec := { name := "imageNames", fn := fun _ => fun
  | [] => { results := [.lit (.bool false)], args := [] }
  | _ => none }
def ImageNamesWrongFalsely : Prop := imageNamesRow.holds Try.pinned (OpenSpec.ofChange imageNamesWrong)

/-- 'shipwrightlaw08.ImageBlocks': WHATEVER THE INPUT: true; the input reads as it did. -/
def imageBlocksSpec : ChangeSpec := { name := "imageBlocks", fn := fun _ => fun
  | [d] => { results := [.lit (.bool true)], args := [d] }
  | _ => none }
def imageBlocksRow : OpenClaim := { program := "ytpeboaoephkfhaa", sum := "ff4a2850be787092bce3473ef86658fd8b294d179eb3f749c594601b8f962702", func := "shipwright/shipwrightlaw08.ImageBlocks", spec := "imageBlocks", inPlace := ["internal/bytealg.MakeNoZero"], unfollowed := true, recurses := true, apart := false }
def ImageBlocksSaid : Prop := imageBlocksRow.holds Try.pinned (OpenSpec.ofChange imageBlocksSpec)

/-- ITS FALSE NEIGHBOUR: 'it returns false'. Refute it at one input. -/
def imageBlocksWrong : ChangeSpec := { name := "imageBlocks", fn := fun _ => fun
  | [d] => { results := [.lit (.bool false)], args := [d] }
  | _ => none }
def ImageBlocksWrongFalsely : Prop := imageBlocksRow.holds Try.pinned (OpenSpec.ofChange imageBlocksWrong)

/-- 'shipwrightlaw08.ImageBack': WHATEVER THE INPUT: true; the input reads as it did. -/
def imageBackSpec : ChangeSpec := { name := "imageBack", fn := fun _ => fun
  | [d1, d2, d3, d4, d5] => { results := [.lit (.bool true)], args := [d1, d2, d3, d4, d5] }
  | _ => none }
def imageBackRow : OpenClaim := { program := "ytpeboaoephkfhaa", sum := "ff4a2850be787092bce3473ef86658fd8b294d179eb3f749c594601b8f962702", func := "shipwright/shipwrightlaw08.ImageBack", spec := "imageBack", inPlace := ["internal/bytealg.MakeNoZero"], unfollowed := true, recurses := true, apart := false }
def ImageBackSaid : Prop := imageBackRow.holds Try.pinned (OpenSpec.ofChange imageBackSpec)

/-- ITS FALSE NEIGHBOUR: 'it returns false'. Refute it at one input. -/
def imageBackWrong : ChangeSpec := { name := "imageBack", fn := fun _ => fun
  | [d1, d2, d3, d4, d5] => { results := [.lit (.bool false)], args := [d1, d2, d3, d4, d5] }
  | _ => none }
def ImageBackWrongFalsely : Prop := imageBackRow.holds Try.pinned (OpenSpec.ofChange imageBackWrong)

/-- 'shipwrightlaw08.ImageNil': WHATEVER THE INPUT: true; the input reads as it did. -/
def imageNilSpec : ChangeSpec := { name := "imageNil", fn := fun _ => fun
  | [d1, d2] => { results := [.lit (.bool true)], args := [d1, d2] }
  | _ => none }
def imageNilRow : OpenClaim := { program := "ytpeboaoephkfhaa", sum := "ff4a2850be787092bce3473ef86658fd8b294d179eb3f749c594601b8f962702", func := "shipwright/shipwrightlaw08.ImageNil", spec := "imageNil", inPlace := ["internal/bytealg.MakeNoZero"], unfollowed := true, recurses := true, apart := false }
def ImageNilSaid : Prop := imageNilRow.holds Try.pinned (OpenSpec.ofChange imageNilSpec)

/-- ITS FALSE NEIGHBOUR: 'it returns false'. Refute it at one input. -/
def imageNilWrong : ChangeSpec := { name := "imageNil", fn := fun _ => fun
  | [d1, d2] => { results := [.lit (.bool false)], args := [d1, d2] }
  | _ => none }
def ImageNilWrongFalsely : Prop := imageNilRow.holds Try.pinned (OpenSpec.ofChange imageNilWrong)

/-- 'shipwrightlaw08.ImageWholes': WHATEVER THE INPUT: true; the input reads as it did. -/
def imageWholesSpec : ChangeSpec := { name := "imageWholes", fn := fun _ => fun
  | [d1, d2, d3, d4] => { results := [.lit (.bool true)], args := [d1, d2, d3, d4] }
  | _ => none }
def imageWholesRow : OpenClaim := { program := "ytpeboaoephkfhaa", sum := "ff4a2850be787092bce3473ef86658fd8b294d179eb3f749c594601b8f962702", func := "shipwright/shipwrightlaw08.ImageWholes", spec := "imageWholes", inPlace := ["internal/bytealg.MakeNoZero"], unfollowed := true, recurses := true, apart := false }
def ImageWholesSaid : Prop := imageWholesRow.holds Try.pinned (OpenSpec.ofChange imageWholesSpec)

/-- ITS FALSE NEIGHBOUR: 'it returns false'. Refute it at one input. -/
def imageWholesWrong : ChangeSpec := { name := "imageWholes", fn := fun _ => fun
  | [d1, d2, d3, d4] => { results := [.lit (.bool false)], args := [d1, d2, d3, d4] }
  | _ => none }
def ImageWholesWrongFalsely : Prop := imageWholesRow.holds Try.pinned (OpenSpec.ofChange imageWholesWrong)

/-- 'shipwrightlaw08.ImageBoth': WHATEVER THE INPUT: true; the input reads as it did. -/
def imageBothSpec : ChangeSpec := { name := "imageBoth", fn := fun _ => fun
  | [d1, d2, d3, d4] => { results := [.lit (.bool true)], args := [d1, d2, d3, d4] }
  | _ => none }
def imageBothRow : OpenClaim := { program := "ytpeboaoephkfhaa", sum := "ff4a2850be787092bce3473ef86658fd8b294d179eb3f749c594601b8f962702", func := "shipwright/shipwrightlaw08.ImageBoth", spec := "imageBoth", inPlace := ["internal/bytealg.MakeNoZero"], unfollowed := true, recurses := true, apart := false }
def ImageBothSaid : Prop := imageBothRow.holds Try.pinned (OpenSpec.ofChange imageBothSpec)

/-- ITS FALSE NEIGHBOUR: 'it returns false'. Refute it at one input. -/
def imageBothWrong : ChangeSpec := { name := "imageBoth", fn := fun _ => fun
  | [d1, d2, d3, d4] => { results := [.lit (.bool false)], args := [d1, d2, d3, d4] }
  | _ => none }
def ImageBothWrongFalsely : Prop := imageBothRow.holds Try.pinned (OpenSpec.ofChange imageBothWrong)

/-- 'shipwrightlaw08.ImageCrash': WHATEVER THE INPUT: true; the input reads as it did. -/
def imageCrashSpec : ChangeSpec := { name := "imageCrash", fn := fun _ => fun
  | [d1, d2, d3] => { results := [.lit (.bool true)], args := [d1, d2, d3] }
  | _ => none }
def imageCrashRow : OpenClaim := { program := "ytpeboaoephkfhaa", sum := "ff4a2850be787092bce3473ef86658fd8b294d179eb3f749c594601b8f962702", func := "shipwright/shipwrightlaw08.ImageCrash", spec := "imageCrash", inPlace := ["internal/bytealg.MakeNoZero"], unfollowed := true, recurses := true, apart := false }
def ImageCrashSaid : Prop := imageCrashRow.holds Try.pinned (OpenSpec.ofChange imageCrashSpec)

/-- ITS FALSE NEIGHBOUR: 'it returns false'. Refute it at one input. -/
def imageCrashWrong : ChangeSpec := { name := "imageCrash", fn := fun _ => fun
  | [d1, d2, d3] => { results := [.lit (.bool false)], args := [d1, d2, d3] }
  | _ => none }
def ImageCrashWrongFalsely : Prop := imageCrashRow.holds Try.pinned (OpenSpec.ofChange imageCrashWrong)

/- THE SECOND FORM. 'bulk': how many values and letters a reading holds, each counted each time it is reached (what is shared counts as often as it is met; a slice's spare places count too). A statement '..UptoSaid' is the law's where the arguments, and the package variables that the reading takes, are together of bulk at most 1048576: NARROWER than '..Said'. Prove '..Said' where nothing that the law and all that it calls make is longer than what came in: it says more and counts as full. Else prove '..UptoSaid'. A law counts once. -/
mutual
def uptoBulk {H : Type} : DataW H → Nat
  | .lit (.string bytes) => bytes.length + 1
  | .lit _ => 1
  | .nil => 1
  | .ptr d => uptoBulk d + 1
  | .slice elems spare => uptoBulkAll elems + uptoBulkAll spare + 1
  | .agg parts => uptoBulkAll parts + 1
  | .iface _ d => uptoBulk d + 1
  | .map entries => uptoBulkEntries entries + 1
  | .held _ => 1
def uptoBulkAll {H : Type} : List (DataW H) → Nat
  | [] => 0
  | d :: r => uptoBulk d + uptoBulkAll r
def uptoBulkEntries {H : Type} : List (Lit × DataW H) → Nat
  | [] => 0
  | x :: r => uptoBulkEntry x + uptoBulkEntries r
def uptoBulkEntry {H : Type} : Lit × DataW H → Nat
  | (.string bytes, d) => bytes.length + uptoBulk d + 1
  | (_, d) => uptoBulk d + 1
 end
def uptoSmall : (H : Type) → List (DataW H) → Bool := fun _ ds => decide (uptoBulkAll ds ≤ 1048576)
def OpenSpec.upto (s : _root_.Go.ChangeSpec) : _root_.Go.OpenSpec := { _root_.Go.OpenSpec.ofChange s with cond := some uptoSmall }

/-- 'shipwrightlaw08.ImageNames', WHERE WHAT IT READS IS OF BULK AT MOST 1048576: true; the input reads as it did. -/
def imageNamesUptoRow : OpenClaim := { program := "ytpeboaoephkfhaa", sum := "ff4a2850be787092bce3473ef86658fd8b294d179eb3f749c594601b8f962702", func := "shipwright/shipwrightlaw08.ImageNames", spec := "imageNames", inPlace := ["internal/bytealg.MakeNoZero"], unfollowed := true, recurses := true, apart := false, narrowed := true }
def ImageNamesUptoSaid : Prop := imageNamesUptoRow.holds Try.pinned (OpenSpec.upto imageNamesSpec)

/-- 'shipwrightlaw08.ImageBlocks', WHERE WHAT IT READS IS OF BULK AT MOST 1048576: true; the input reads as it did. -/
def imageBlocksUptoRow : OpenClaim := { program := "ytpeboaoephkfhaa", sum := "ff4a2850be787092bce3473ef86658fd8b294d179eb3f749c594601b8f962702", func := "shipwright/shipwrightlaw08.ImageBlocks", spec := "imageBlocks", inPlace := ["internal/bytealg.MakeNoZero"], unfollowed := true, recurses := true, apart := false, narrowed := true }
def ImageBlocksUptoSaid : Prop := imageBlocksUptoRow.holds Try.pinned (OpenSpec.upto imageBlocksSpec)

/-- 'shipwrightlaw08.ImageBack', WHERE WHAT IT READS IS OF BULK AT MOST 1048576: true; the input reads as it did. -/
def imageBackUptoRow : OpenClaim := { program := "ytpeboaoephkfhaa", sum := "ff4a2850be787092bce3473ef86658fd8b294d179eb3f749c594601b8f962702", func := "shipwright/shipwrightlaw08.ImageBack", spec := "imageBack", inPlace := ["internal/bytealg.MakeNoZero"], unfollowed := true, recurses := true, apart := false, narrowed := true }
def ImageBackUptoSaid : Prop := imageBackUptoRow.holds Try.pinned (OpenSpec.upto imageBackSpec)

/-- 'shipwrightlaw08.ImageNil', WHERE WHAT IT READS IS OF BULK AT MOST 1048576: true; the input reads as it did. -/
def imageNilUptoRow : OpenClaim := { program := "ytpeboaoephkfhaa", sum := "ff4a2850be787092bce3473ef86658fd8b294d179eb3f749c594601b8f962702", func := "shipwright/shipwrightlaw08.ImageNil", spec := "imageNil", inPlace := ["internal/bytealg.MakeNoZero"], unfollowed := true, recurses := true, apart := false, narrowed := true }
def ImageNilUptoSaid : Prop := imageNilUptoRow.holds Try.pinned (OpenSpec.upto imageNilSpec)

/-- 'shipwrightlaw08.ImageWholes', WHERE WHAT IT READS IS OF BULK AT MOST 1048576: true; the input reads as it did. -/
def imageWholesUptoRow : OpenClaim := { program := "ytpeboaoephkfhaa", sum := "ff4a2850be787092bce3473ef86658fd8b294d179eb3f749c594601b8f962702", func := "shipwright/shipwrightlaw08.ImageWholes", spec := "imageWholes", inPlace := ["internal/bytealg.MakeNoZero"], unfollowed := true, recurses := true, apart := false, narrowed := true }
def ImageWholesUptoSaid : Prop := imageWholesUptoRow.holds Try.pinned (OpenSpec.upto imageWholesSpec)

/-- 'shipwrightlaw08.ImageBoth', WHERE WHAT IT READS IS OF BULK AT MOST 1048576: true; the input reads as it did. -/
def imageBothUptoRow : OpenClaim := { program := "ytpeboaoephkfhaa", sum := "ff4a2850be787092bce3473ef86658fd8b294d179eb3f749c594601b8f962702", func := "shipwright/shipwrightlaw08.ImageBoth", spec := "imageBoth", inPlace := ["internal/bytealg.MakeNoZero"], unfollowed := true, recurses := true, apart := false, narrowed := true }
def ImageBothUptoSaid : Prop := imageBothUptoRow.holds Try.pinned (OpenSpec.upto imageBothSpec)

/-- 'shipwrightlaw08.ImageCrash', WHERE WHAT IT READS IS OF BULK AT MOST 1048576: true; the input reads as it did. -/
def imageCrashUptoRow : OpenClaim := { program := "ytpeboaoephkfhaa", sum := "ff4a2850be787092bce3473ef86658fd8b294d179eb3f749c594601b8f962702", func := "shipwright/shipwrightlaw08.ImageCrash", spec := "imageCrash", inPlace := ["internal/bytealg.MakeNoZero"], unfollowed := true, recurses := true, apart := false, narrowed := true }
def ImageCrashUptoSaid : Prop := imageCrashUptoRow.holds Try.pinned (OpenSpec.upto imageCrashSpec)

end Rows
end Go.Proofs.Ytpeboaoephkfhaa
