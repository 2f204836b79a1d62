/-
  No cell of these rows narrows 'for every input' (looked for: loops, veiled, ifaces, maps, wideKeys, modest, calm, conditions, laid).
  DERIVED. THE GIVEN ROWS OF THIS SEAT. 12 by the template 'for every input the law returns true; each argument reads behind the call as it read before'; 0 by the template 'total and deterministic' (their statements: YtkacbjhiobnbfaaTotals.lean).
  GIVEN WITH THE SEED: the statements are not yours to turn. If you find one false, say at which input.
  Laid BY PROGRAM, IN A SANDBOX (cutbox-rows.mjs): the forced cells as the released guide's own fill.sh prints them over the translation fdd7394dda9d0101… (all of the seat's roots in one cut). By AI agents, Wed Nov 11 2026. No macro, syntax, notation, axiom, sorry.
-/
import Derived.Test.YtkacbjhiobnbfaaChecked
import GoSem.Claim
import GoSem.ClaimJoined
import GoSem.ClaimMapViews
import Derived.JoinedTies
import Derived.KernelRfl
namespace Go.Proofs.Ytkacbjhiobnbfaa
/- THE CELL 'sum', in the pinned program and in every row, IS THE sha256 OF THE DUMP (.gsa) THAT YtkacbjhiobnbfaaProg.lean LOADS. Nothing in Lean hashes anything: it is a label: what it is worth is what the hold of that sum in a sandbox is worth. -/
noncomputable def Try.pinned : Pinned := { name := "ytkacbjhiobnbfaa", sum := "fdd7394dda9d0101f305385306d26d428b7a088b6fcd643b6ec16be41d93d342", checked := Try.checked }
namespace Rows
def none {H : Type} : Left H := { results := [], args := [] }

/-- 'presagelaw05.ShowTexts': WHATEVER THE INPUT: true; the input reads as it did. -/
def showTextsSpec : ChangeSpec := { name := "showTexts", fn := fun _ => fun
  | [d] => { results := [.lit (.bool true)], args := [d] }
  | _ => none }
def showTextsRow : OpenClaim := { program := "ytkacbjhiobnbfaa", sum := "fdd7394dda9d0101f305385306d26d428b7a088b6fcd643b6ec16be41d93d342", func := "presage/presagelaw05.ShowTexts", spec := "showTexts", inPlace := ["internal/abi.NoEscape"], unfollowed := true, recurses := true, apart := false }
def ShowTextsSaid : Prop := showTextsRow.holds Try.pinned (OpenSpec.ofChange showTextsSpec)

/-- ITS FALSE NEIGHBOUR: 'it returns false'. Refute it at one input. -/
def showTextsWrong : ChangeSpec := { name := "showTexts", fn := fun _ => fun
  | [d] => { results := [.lit (.bool false)], args := [d] }
  | _ => none }
def ShowTextsWrongFalsely : Prop := showTextsRow.holds Try.pinned (OpenSpec.ofChange showTextsWrong)

/-- 'presagelaw05.ShowTwo': WHATEVER THE INPUT: true; the input reads as it did. -/
def showTwoSpec : ChangeSpec := { name := "showTwo", fn := fun _ => fun
  | [d1, d2] => { results := [.lit (.bool true)], args := [d1, d2] }
  | _ => none }
def showTwoRow : OpenClaim := { program := "ytkacbjhiobnbfaa", sum := "fdd7394dda9d0101f305385306d26d428b7a088b6fcd643b6ec16be41d93d342", func := "presage/presagelaw05.ShowTwo", spec := "showTwo", inPlace := ["internal/abi.NoEscape"], unfollowed := true, recurses := true, apart := false }
def ShowTwoSaid : Prop := showTwoRow.holds Try.pinned (OpenSpec.ofChange showTwoSpec)

/-- ITS FALSE NEIGHBOUR: 'it returns false'. Refute it at one input. -/
def showTwoWrong : ChangeSpec := { name := "showTwo", fn := fun _ => fun
  | [d1, d2] => { results := [.lit (.bool false)], args := [d1, d2] }
  | _ => none }
def ShowTwoWrongFalsely : Prop := showTwoRow.holds Try.pinned (OpenSpec.ofChange showTwoWrong)

/-- 'presagelaw05.ShowSmall': WHATEVER THE INPUT: true; the input reads as it did. -/
def showSmallSpec : ChangeSpec := { name := "showSmall", fn := fun _ => fun
  | [d1, d2, d3] => { results := [.lit (.bool true)], args := [d1, d2, d3] }
  | _ => none }
def showSmallRow : OpenClaim := { program := "ytkacbjhiobnbfaa", sum := "fdd7394dda9d0101f305385306d26d428b7a088b6fcd643b6ec16be41d93d342", func := "presage/presagelaw05.ShowSmall", spec := "showSmall", inPlace := ["internal/abi.NoEscape"], unfollowed := true, recurses := true, apart := false }
def ShowSmallSaid : Prop := showSmallRow.holds Try.pinned (OpenSpec.ofChange showSmallSpec)

/-- ITS FALSE NEIGHBOUR: 'it returns false'. Refute it at one input. -/
def showSmallWrong : ChangeSpec := { name := "showSmall", fn := fun _ => fun
  | [d1, d2, d3] => { results := [.lit (.bool false)], args := [d1, d2, d3] }
  | _ => none }
def ShowSmallWrongFalsely : Prop := showSmallRow.holds Try.pinned (OpenSpec.ofChange showSmallWrong)

/-- 'presagelaw05.ShowAll': WHATEVER THE INPUT: true; the input reads as it did. -/
def showAllSpec : ChangeSpec := { name := "showAll", fn := fun _ => fun
  | [d1, d2, d3] => { results := [.lit (.bool true)], args := [d1, d2, d3] }
  | _ => none }
def showAllRow : OpenClaim := { program := "ytkacbjhiobnbfaa", sum := "fdd7394dda9d0101f305385306d26d428b7a088b6fcd643b6ec16be41d93d342", func := "presage/presagelaw05.ShowAll", spec := "showAll", inPlace := ["internal/abi.NoEscape"], unfollowed := true, recurses := true, apart := false }
def ShowAllSaid : Prop := showAllRow.holds Try.pinned (OpenSpec.ofChange showAllSpec)

/-- ITS FALSE NEIGHBOUR: 'it returns false'. Refute it at one input. -/
def showAllWrong : ChangeSpec := { name := "showAll", fn := fun _ => fun
  | [d1, d2, d3] => { results := [.lit (.bool false)], args := [d1, d2, d3] }
  | _ => none }
def ShowAllWrongFalsely : Prop := showAllRow.holds Try.pinned (OpenSpec.ofChange showAllWrong)

/-- 'presagelaw20.TreeReads': WHATEVER THE INPUT: true; the input reads as it did. -/
def treeReadsSpec : ChangeSpec := { name := "treeReads", fn := fun _ => fun
  | [d1, d2] => { results := [.lit (.bool true)], args := [d1, d2] }
  | _ => none }
def treeReadsRow : OpenClaim := { program := "ytkacbjhiobnbfaa", sum := "fdd7394dda9d0101f305385306d26d428b7a088b6fcd643b6ec16be41d93d342", func := "presage/presagelaw20.TreeReads", spec := "treeReads", inPlace := ["internal/abi.NoEscape"], unfollowed := true, recurses := true, apart := false }
def TreeReadsSaid : Prop := treeReadsRow.holds Try.pinned (OpenSpec.ofChange treeReadsSpec)

/-- ITS FALSE NEIGHBOUR: 'it returns false'. Refute it at one input. -/
def treeReadsWrong : ChangeSpec := { name := "treeReads", fn := fun _ => fun
  | [d1, d2] => { results := [.lit (.bool false)], args := [d1, d2] }
  | _ => none }
def TreeReadsWrongFalsely : Prop := treeReadsRow.holds Try.pinned (OpenSpec.ofChange treeReadsWrong)

/-- 'presagelaw20.TreeDerives': WHATEVER THE INPUT: true; the input reads as it did. -/
def treeDerivesSpec : ChangeSpec := { name := "treeDerives", fn := fun _ => fun
  | [d1, d2, d3, d4] => { results := [.lit (.bool true)], args := [d1, d2, d3, d4] }
  | _ => none }
def treeDerivesRow : OpenClaim := { program := "ytkacbjhiobnbfaa", sum := "fdd7394dda9d0101f305385306d26d428b7a088b6fcd643b6ec16be41d93d342", func := "presage/presagelaw20.TreeDerives", spec := "treeDerives", inPlace := ["internal/abi.NoEscape"], unfollowed := true, recurses := true, apart := false }
def TreeDerivesSaid : Prop := treeDerivesRow.holds Try.pinned (OpenSpec.ofChange treeDerivesSpec)

/-- ITS FALSE NEIGHBOUR: 'it returns false'. Refute it at one input. -/
def treeDerivesWrong : ChangeSpec := { name := "treeDerives", fn := fun _ => fun
  | [d1, d2, d3, d4] => { results := [.lit (.bool false)], args := [d1, d2, d3, d4] }
  | _ => none }
def TreeDerivesWrongFalsely : Prop := treeDerivesRow.holds Try.pinned (OpenSpec.ofChange treeDerivesWrong)

/-- 'presagelaw20.TreeTexts': WHATEVER THE INPUT: true; the input reads as it did. -/
def treeTextsSpec : ChangeSpec := { name := "treeTexts", fn := fun _ => fun
  | [d1, d2, d3] => { results := [.lit (.bool true)], args := [d1, d2, d3] }
  | _ => none }
def treeTextsRow : OpenClaim := { program := "ytkacbjhiobnbfaa", sum := "fdd7394dda9d0101f305385306d26d428b7a088b6fcd643b6ec16be41d93d342", func := "presage/presagelaw20.TreeTexts", spec := "treeTexts", inPlace := ["internal/abi.NoEscape"], unfollowed := true, recurses := true, apart := false }
def TreeTextsSaid : Prop := treeTextsRow.holds Try.pinned (OpenSpec.ofChange treeTextsSpec)

/-- ITS FALSE NEIGHBOUR: 'it returns false'. Refute it at one input. -/
def treeTextsWrong : ChangeSpec := { name := "treeTexts", fn := fun _ => fun
  | [d1, d2, d3] => { results := [.lit (.bool false)], args := [d1, d2, d3] }
  | _ => none }
def TreeTextsWrongFalsely : Prop := treeTextsRow.holds Try.pinned (OpenSpec.ofChange treeTextsWrong)

/-- 'presagelaw20.TreeReplays': WHATEVER THE INPUT: true; the input reads as it did. -/
def treeReplaysSpec : ChangeSpec := { name := "treeReplays", fn := fun _ => fun
  | [d1, d2, d3, d4] => { results := [.lit (.bool true)], args := [d1, d2, d3, d4] }
  | _ => none }
def treeReplaysRow : OpenClaim := { program := "ytkacbjhiobnbfaa", sum := "fdd7394dda9d0101f305385306d26d428b7a088b6fcd643b6ec16be41d93d342", func := "presage/presagelaw20.TreeReplays", spec := "treeReplays", inPlace := ["internal/abi.NoEscape"], unfollowed := true, recurses := true, apart := false }
def TreeReplaysSaid : Prop := treeReplaysRow.holds Try.pinned (OpenSpec.ofChange treeReplaysSpec)

/-- ITS FALSE NEIGHBOUR: 'it returns false'. Refute it at one input. -/
def treeReplaysWrong : ChangeSpec := { name := "treeReplays", fn := fun _ => fun
  | [d1, d2, d3, d4] => { results := [.lit (.bool false)], args := [d1, d2, d3, d4] }
  | _ => none }
def TreeReplaysWrongFalsely : Prop := treeReplaysRow.holds Try.pinned (OpenSpec.ofChange treeReplaysWrong)

/-- 'presagelaw20.TreeGrows': WHATEVER THE INPUT: true; the input reads as it did. -/
def treeGrowsSpec : ChangeSpec := { name := "treeGrows", fn := fun _ => fun
  | [d] => { results := [.lit (.bool true)], args := [d] }
  | _ => none }
def treeGrowsRow : OpenClaim := { program := "ytkacbjhiobnbfaa", sum := "fdd7394dda9d0101f305385306d26d428b7a088b6fcd643b6ec16be41d93d342", func := "presage/presagelaw20.TreeGrows", spec := "treeGrows", inPlace := ["internal/abi.NoEscape"], unfollowed := true, recurses := true, apart := false }
def TreeGrowsSaid : Prop := treeGrowsRow.holds Try.pinned (OpenSpec.ofChange treeGrowsSpec)

/-- ITS FALSE NEIGHBOUR: 'it returns false'. Refute it at one input. -/
def treeGrowsWrong : ChangeSpec := { name := "treeGrows", fn := fun _ => fun
  | [d] => { results := [.lit (.bool false)], args := [d] }
  | _ => none }
def TreeGrowsWrongFalsely : Prop := treeGrowsRow.holds Try.pinned (OpenSpec.ofChange treeGrowsWrong)

/-- 'presagelaw20.TreeWhole': WHATEVER THE INPUT: true; the input reads as it did. -/
def treeWholeSpec : ChangeSpec := { name := "treeWhole", fn := fun _ => fun
  | [d] => { results := [.lit (.bool true)], args := [d] }
  | _ => none }
def treeWholeRow : OpenClaim := { program := "ytkacbjhiobnbfaa", sum := "fdd7394dda9d0101f305385306d26d428b7a088b6fcd643b6ec16be41d93d342", func := "presage/presagelaw20.TreeWhole", spec := "treeWhole", inPlace := ["internal/abi.NoEscape"], unfollowed := true, recurses := true, apart := false }
def TreeWholeSaid : Prop := treeWholeRow.holds Try.pinned (OpenSpec.ofChange treeWholeSpec)

/-- ITS FALSE NEIGHBOUR: 'it returns false'. Refute it at one input. -/
def treeWholeWrong : ChangeSpec := { name := "treeWhole", fn := fun _ => fun
  | [d] => { results := [.lit (.bool false)], args := [d] }
  | _ => none }
def TreeWholeWrongFalsely : Prop := treeWholeRow.holds Try.pinned (OpenSpec.ofChange treeWholeWrong)

/-- 'presagelaw20.TreeNobody': WHATEVER THE INPUT: true; the input reads as it did. -/
def treeNobodySpec : ChangeSpec := { name := "treeNobody", fn := fun _ => fun
  | [d1, d2] => { results := [.lit (.bool true)], args := [d1, d2] }
  | _ => none }
def treeNobodyRow : OpenClaim := { program := "ytkacbjhiobnbfaa", sum := "fdd7394dda9d0101f305385306d26d428b7a088b6fcd643b6ec16be41d93d342", func := "presage/presagelaw20.TreeNobody", spec := "treeNobody", inPlace := ["internal/abi.NoEscape"], unfollowed := true, recurses := true, apart := false }
def TreeNobodySaid : Prop := treeNobodyRow.holds Try.pinned (OpenSpec.ofChange treeNobodySpec)

/-- ITS FALSE NEIGHBOUR: 'it returns false'. Refute it at one input. -/
def treeNobodyWrong : ChangeSpec := { name := "treeNobody", fn := fun _ => fun
  | [d1, d2] => { results := [.lit (.bool false)], args := [d1, d2] }
  | _ => none }
def TreeNobodyWrongFalsely : Prop := treeNobodyRow.holds Try.pinned (OpenSpec.ofChange treeNobodyWrong)

/-- 'presagelaw02.GramWhich': WHATEVER THE INPUT: true; the input reads as it did. -/
def gramWhichSpec : ChangeSpec := { name := "gramWhich", fn := fun _ => fun
  | [d] => { results := [.lit (.bool true)], args := [d] }
  | _ => none }
def gramWhichRow : OpenClaim := { program := "ytkacbjhiobnbfaa", sum := "fdd7394dda9d0101f305385306d26d428b7a088b6fcd643b6ec16be41d93d342", func := "presage/presagelaw02.GramWhich", spec := "gramWhich", unfollowed := true, recurses := true, apart := false }
def GramWhichSaid : Prop := gramWhichRow.holds Try.pinned (OpenSpec.ofChange gramWhichSpec)

/-- ITS FALSE NEIGHBOUR: 'it returns false'. Refute it at one input. -/
def gramWhichWrong : ChangeSpec := { name := "gramWhich", fn := fun _ => fun
  | [d] => { results := [.lit (.bool false)], args := [d] }
  | _ => none }
def GramWhichWrongFalsely : Prop := gramWhichRow.holds Try.pinned (OpenSpec.ofChange gramWhichWrong)

/- THE SECOND FORM. 'bulk': how many values and letters a reading holds, each counted each time it is reached (what is shared counts as often as it is met; a slice's spare places count too). A statement '..UptoSaid' is the law's where the arguments, and the package variables that the reading takes, are together of bulk at most 1048576: NARROWER than '..Said'. Prove '..Said' where nothing that the law and all that it calls make is longer than what came in: it says more and counts as full. Else prove '..UptoSaid'. A law counts once. -/
mutual
def uptoBulk {H : Type} : DataW H → Nat
  | .lit (.string bytes) => bytes.length + 1
  | .lit _ => 1
  | .nil => 1
  | .ptr d => uptoBulk d + 1
  | .slice elems spare => uptoBulkAll elems + uptoBulkAll spare + 1
  | .agg parts => uptoBulkAll parts + 1
  | .iface _ d => uptoBulk d + 1
  | .map entries => uptoBulkEntries entries + 1
  | .held _ => 1
def uptoBulkAll {H : Type} : List (DataW H) → Nat
  | [] => 0
  | d :: r => uptoBulk d + uptoBulkAll r
def uptoBulkEntries {H : Type} : List (Lit × DataW H) → Nat
  | [] => 0
  | x :: r => uptoBulkEntry x + uptoBulkEntries r
def uptoBulkEntry {H : Type} : Lit × DataW H → Nat
  | (.string bytes, d) => bytes.length + uptoBulk d + 1
  | (_, d) => uptoBulk d + 1
 end
def uptoSmall : (H : Type) → List (DataW H) → Bool := fun _ ds => decide (uptoBulkAll ds ≤ 1048576)
def OpenSpec.upto (s : _root_.Go.ChangeSpec) : _root_.Go.OpenSpec := { _root_.Go.OpenSpec.ofChange s with cond := some uptoSmall }

/-- 'presagelaw05.ShowTexts', WHERE WHAT IT READS IS OF BULK AT MOST 1048576: true; the input reads as it did. -/
def showTextsUptoRow : OpenClaim := { program := "ytkacbjhiobnbfaa", sum := "fdd7394dda9d0101f305385306d26d428b7a088b6fcd643b6ec16be41d93d342", func := "presage/presagelaw05.ShowTexts", spec := "showTexts", inPlace := ["internal/abi.NoEscape"], unfollowed := true, recurses := true, apart := false, narrowed := true }
def ShowTextsUptoSaid : Prop := showTextsUptoRow.holds Try.pinned (OpenSpec.upto showTextsSpec)

/-- 'presagelaw05.ShowTwo', WHERE WHAT IT READS IS OF BULK AT MOST 1048576: true; the input reads as it did. -/
def showTwoUptoRow : OpenClaim := { program := "ytkacbjhiobnbfaa", sum := "fdd7394dda9d0101f305385306d26d428b7a088b6fcd643b6ec16be41d93d342", func := "presage/presagelaw05.ShowTwo", spec := "showTwo", inPlace := ["internal/abi.NoEscape"], unfollowed := true, recurses := true, apart := false, narrowed := true }
def ShowTwoUptoSaid : Prop := showTwoUptoRow.holds Try.pinned (OpenSpec.upto showTwoSpec)

/-- 'presagelaw05.ShowSmall', WHERE WHAT IT READS IS OF BULK AT MOST 1048576: true; the input reads as it did. -/
def showSmallUptoRow : OpenClaim := { program := "ytkacbjhiobnbfaa", sum := "fdd7394dda9d0101f305385306d26d428b7a088b6fcd643b6ec16be41d93d342", func := "presage/presagelaw05.ShowSmall", spec := "showSmall", inPlace := ["internal/abi.NoEscape"], unfollowed := true, recurses := true, apart := false, narrowed := true }
def ShowSmallUptoSaid : Prop := showSmallUptoRow.holds Try.pinned (OpenSpec.upto showSmallSpec)

/-- 'presagelaw05.ShowAll', WHERE WHAT IT READS IS OF BULK AT MOST 1048576: true; the input reads as it did. -/
def showAllUptoRow : OpenClaim := { program := "ytkacbjhiobnbfaa", sum := "fdd7394dda9d0101f305385306d26d428b7a088b6fcd643b6ec16be41d93d342", func := "presage/presagelaw05.ShowAll", spec := "showAll", inPlace := ["internal/abi.NoEscape"], unfollowed := true, recurses := true, apart := false, narrowed := true }
def ShowAllUptoSaid : Prop := showAllUptoRow.holds Try.pinned (OpenSpec.upto showAllSpec)

/-- 'presagelaw20.TreeReads', WHERE WHAT IT READS IS OF BULK AT MOST 1048576: true; the input reads as it did. -/
def treeReadsUptoRow : OpenClaim := { program := "ytkacbjhiobnbfaa", sum := "fdd7394dda9d0101f305385306d26d428b7a088b6fcd643b6ec16be41d93d342", func := "presage/presagelaw20.TreeReads", spec := "treeReads", inPlace := ["internal/abi.NoEscape"], unfollowed := true, recurses := true, apart := false, narrowed := true }
def TreeReadsUptoSaid : Prop := treeReadsUptoRow.holds Try.pinned (OpenSpec.upto treeReadsSpec)

/-- 'presagelaw20.TreeDerives', WHERE WHAT IT READS IS OF BULK AT MOST 1048576: true; the input reads as it did. -/
def treeDerivesUptoRow : OpenClaim := { program := "ytkacbjhiobnbfaa", sum := "fdd7394dda9d0101f305385306d26d428b7a088b6fcd643b6ec16be41d93d342", func := "presage/presagelaw20.TreeDerives", spec := "treeDerives", inPlace := ["internal/abi.NoEscape"], unfollowed := true, recurses := true, apart := false, narrowed := true }
def TreeDerivesUptoSaid : Prop := treeDerivesUptoRow.holds Try.pinned (OpenSpec.upto treeDerivesSpec)

/-- 'presagelaw20.TreeTexts', WHERE WHAT IT READS IS OF BULK AT MOST 1048576: true; the input reads as it did. -/
def treeTextsUptoRow : OpenClaim := { program := "ytkacbjhiobnbfaa", sum := "fdd7394dda9d0101f305385306d26d428b7a088b6fcd643b6ec16be41d93d342", func := "presage/presagelaw20.TreeTexts", spec := "treeTexts", inPlace := ["internal/abi.NoEscape"], unfollowed := true, recurses := true, apart := false, narrowed := true }
def TreeTextsUptoSaid : Prop := treeTextsUptoRow.holds Try.pinned (OpenSpec.upto treeTextsSpec)

/-- 'presagelaw20.TreeReplays', WHERE WHAT IT READS IS OF BULK AT MOST 1048576: true; the input reads as it did. -/
def treeReplaysUptoRow : OpenClaim := { program := "ytkacbjhiobnbfaa", sum := "fdd7394dda9d0101f305385306d26d428b7a088b6fcd643b6ec16be41d93d342", func := "presage/presagelaw20.TreeReplays", spec := "treeReplays", inPlace := ["internal/abi.NoEscape"], unfollowed := true, recurses := true, apart := false, narrowed := true }
def TreeReplaysUptoSaid : Prop := treeReplaysUptoRow.holds Try.pinned (OpenSpec.upto treeReplaysSpec)

/-- 'presagelaw20.TreeGrows', WHERE WHAT IT READS IS OF BULK AT MOST 1048576: true; the input reads as it did. -/
def treeGrowsUptoRow : OpenClaim := { program := "ytkacbjhiobnbfaa", sum := "fdd7394dda9d0101f305385306d26d428b7a088b6fcd643b6ec16be41d93d342", func := "presage/presagelaw20.TreeGrows", spec := "treeGrows", inPlace := ["internal/abi.NoEscape"], unfollowed := true, recurses := true, apart := false, narrowed := true }
def TreeGrowsUptoSaid : Prop := treeGrowsUptoRow.holds Try.pinned (OpenSpec.upto treeGrowsSpec)

/-- 'presagelaw20.TreeWhole', WHERE WHAT IT READS IS OF BULK AT MOST 1048576: true; the input reads as it did. -/
def treeWholeUptoRow : OpenClaim := { program := "ytkacbjhiobnbfaa", sum := "fdd7394dda9d0101f305385306d26d428b7a088b6fcd643b6ec16be41d93d342", func := "presage/presagelaw20.TreeWhole", spec := "treeWhole", inPlace := ["internal/abi.NoEscape"], unfollowed := true, recurses := true, apart := false, narrowed := true }
def TreeWholeUptoSaid : Prop := treeWholeUptoRow.holds Try.pinned (OpenSpec.upto treeWholeSpec)

/-- 'presagelaw20.TreeNobody', WHERE WHAT IT READS IS OF BULK AT MOST 1048576: true; the input reads as it did. -/
def treeNobodyUptoRow : OpenClaim := { program := "ytkacbjhiobnbfaa", sum := "fdd7394dda9d0101f305385306d26d428b7a088b6fcd643b6ec16be41d93d342", func := "presage/presagelaw20.TreeNobody", spec := "treeNobody", inPlace := ["internal/abi.NoEscape"], unfollowed := true, recurses := true, apart := false, narrowed := true }
def TreeNobodyUptoSaid : Prop := treeNobodyUptoRow.holds Try.pinned (OpenSpec.upto treeNobodySpec)

/-- 'presagelaw02.GramWhich', WHERE WHAT IT READS IS OF BULK AT MOST 1048576: true; the input reads as it did. -/
def gramWhichUptoRow : OpenClaim := { program := "ytkacbjhiobnbfaa", sum := "fdd7394dda9d0101f305385306d26d428b7a088b6fcd643b6ec16be41d93d342", func := "presage/presagelaw02.GramWhich", spec := "gramWhich", unfollowed := true, recurses := true, apart := false, narrowed := true }
def GramWhichUptoSaid : Prop := gramWhichUptoRow.holds Try.pinned (OpenSpec.upto gramWhichSpec)

end Rows
end Go.Proofs.Ytkacbjhiobnbfaa
