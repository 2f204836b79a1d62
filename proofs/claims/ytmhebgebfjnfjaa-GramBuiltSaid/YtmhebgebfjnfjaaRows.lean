/-
  No cell of these rows narrows 'for every input' (looked for: loops, veiled, ifaces, maps, wideKeys, modest, calm, conditions, laid).
  DERIVED. THE GIVEN ROWS OF THIS SEAT. 8 by the template 'for every input the law returns true; each argument reads behind the call as it read before'; 0 by the template 'total and deterministic' (their statements: YtmhebgebfjnfjaaTotals.lean).
  GIVEN WITH THE SEED: the statements are not yours to turn. If you find one false, say at which input.
  Laid BY PROGRAM, IN A SANDBOX (cutbox-rows.mjs): the forced cells as the released guide's own fill.sh prints them over the translation bff9f495e7040ddf… (all of the seat's roots in one cut). By AI agents, Wed Nov 11 2026. No macro, syntax, notation, axiom, sorry.
-/
import Derived.Test.YtmhebgebfjnfjaaChecked
import GoSem.Claim
import GoSem.ClaimJoined
import GoSem.ClaimMapViews
import Derived.JoinedTies
import Derived.KernelRfl
namespace Go.Proofs.Ytmhebgebfjnfjaa
/- THE CELL 'sum', in the pinned program and in every row, IS THE sha256 OF THE DUMP (.gsa) THAT YtmhebgebfjnfjaaProg.lean LOADS. Nothing in Lean hashes anything: it is a label: what it is worth is what the hold of that sum in a sandbox is worth. -/
noncomputable def Try.pinned : Pinned := { name := "ytmhebgebfjnfjaa", sum := "bff9f495e7040ddf0888cab710232aee5e9a97c0eb1b8addc42dd582ebf139dc", checked := Try.checked }
namespace Rows
def none {H : Type} : Left H := { results := [], args := [] }

/-- 'presagelaw02.GramNames': WHATEVER THE INPUT: true; the input reads as it did. -/
def gramNamesSpec : ChangeSpec := { name := "gramNames", fn := fun _ => fun
  | [] => { results := [.lit (.bool true)], args := [] }
  | _ => none }
def gramNamesRow : OpenClaim := { program := "ytmhebgebfjnfjaa", sum := "bff9f495e7040ddf0888cab710232aee5e9a97c0eb1b8addc42dd582ebf139dc", func := "presage/presagelaw02.GramNames", spec := "gramNames", unfollowed := true, recurses := true, apart := false }
def GramNamesSaid : Prop := gramNamesRow.holds Try.pinned (OpenSpec.ofChange gramNamesSpec)

/-- ITS FALSE NEIGHBOUR: 'it returns false'. Refute it at one input. -/
def gramNamesWrong : ChangeSpec := { name := "gramNames", fn := fun _ => fun
  | [] => { results := [.lit (.bool false)], args := [] }
  | _ => none }
def GramNamesWrongFalsely : Prop := gramNamesRow.holds Try.pinned (OpenSpec.ofChange gramNamesWrong)

/-- 'presagelaw02.GramNil': WHATEVER THE INPUT: true; the input reads as it did. -/
def gramNilSpec : ChangeSpec := { name := "gramNil", fn := fun _ => fun
  | [d1, d2] => { results := [.lit (.bool true)], args := [d1, d2] }
  | _ => none }
def gramNilRow : OpenClaim := { program := "ytmhebgebfjnfjaa", sum := "bff9f495e7040ddf0888cab710232aee5e9a97c0eb1b8addc42dd582ebf139dc", func := "presage/presagelaw02.GramNil", spec := "gramNil", unfollowed := true, recurses := true, apart := false }
def GramNilSaid : Prop := gramNilRow.holds Try.pinned (OpenSpec.ofChange gramNilSpec)

/-- ITS FALSE NEIGHBOUR: 'it returns false'. Refute it at one input. -/
def gramNilWrong : ChangeSpec := { name := "gramNil", fn := fun _ => fun
  | [d1, d2] => { results := [.lit (.bool false)], args := [d1, d2] }
  | _ => none }
def GramNilWrongFalsely : Prop := gramNilRow.holds Try.pinned (OpenSpec.ofChange gramNilWrong)

/-- 'presagelaw02.GramFull': WHATEVER THE INPUT: true; the input reads as it did. -/
def gramFullSpec : ChangeSpec := { name := "gramFull", fn := fun _ => fun
  | [d1, d2] => { results := [.lit (.bool true)], args := [d1, d2] }
  | _ => none }
def gramFullRow : OpenClaim := { program := "ytmhebgebfjnfjaa", sum := "bff9f495e7040ddf0888cab710232aee5e9a97c0eb1b8addc42dd582ebf139dc", func := "presage/presagelaw02.GramFull", spec := "gramFull", unfollowed := true, recurses := true, apart := false }
def GramFullSaid : Prop := gramFullRow.holds Try.pinned (OpenSpec.ofChange gramFullSpec)

/-- ITS FALSE NEIGHBOUR: 'it returns false'. Refute it at one input. -/
def gramFullWrong : ChangeSpec := { name := "gramFull", fn := fun _ => fun
  | [d1, d2] => { results := [.lit (.bool false)], args := [d1, d2] }
  | _ => none }
def GramFullWrongFalsely : Prop := gramFullRow.holds Try.pinned (OpenSpec.ofChange gramFullWrong)

/-- 'presagelaw02.GramSame': WHATEVER THE INPUT: true; the input reads as it did. -/
def gramSameSpec : ChangeSpec := { name := "gramSame", fn := fun _ => fun
  | [d1, d2] => { results := [.lit (.bool true)], args := [d1, d2] }
  | _ => none }
def gramSameRow : OpenClaim := { program := "ytmhebgebfjnfjaa", sum := "bff9f495e7040ddf0888cab710232aee5e9a97c0eb1b8addc42dd582ebf139dc", func := "presage/presagelaw02.GramSame", spec := "gramSame", unfollowed := true, recurses := true, apart := false }
def GramSameSaid : Prop := gramSameRow.holds Try.pinned (OpenSpec.ofChange gramSameSpec)

/-- ITS FALSE NEIGHBOUR: 'it returns false'. Refute it at one input. -/
def gramSameWrong : ChangeSpec := { name := "gramSame", fn := fun _ => fun
  | [d1, d2] => { results := [.lit (.bool false)], args := [d1, d2] }
  | _ => none }
def GramSameWrongFalsely : Prop := gramSameRow.holds Try.pinned (OpenSpec.ofChange gramSameWrong)

/-- 'presagelaw02.GramAgain': WHATEVER THE INPUT: true; the input reads as it did. -/
def gramAgainSpec : ChangeSpec := { name := "gramAgain", fn := fun _ => fun
  | [d] => { results := [.lit (.bool true)], args := [d] }
  | _ => none }
def gramAgainRow : OpenClaim := { program := "ytmhebgebfjnfjaa", sum := "bff9f495e7040ddf0888cab710232aee5e9a97c0eb1b8addc42dd582ebf139dc", func := "presage/presagelaw02.GramAgain", spec := "gramAgain", unfollowed := true, recurses := true, apart := false }
def GramAgainSaid : Prop := gramAgainRow.holds Try.pinned (OpenSpec.ofChange gramAgainSpec)

/-- ITS FALSE NEIGHBOUR: 'it returns false'. Refute it at one input. -/
def gramAgainWrong : ChangeSpec := { name := "gramAgain", fn := fun _ => fun
  | [d] => { results := [.lit (.bool false)], args := [d] }
  | _ => none }
def GramAgainWrongFalsely : Prop := gramAgainRow.holds Try.pinned (OpenSpec.ofChange gramAgainWrong)

/-- 'presagelaw02.GramPlays': WHATEVER THE INPUT: true; the input reads as it did. -/
def gramPlaysSpec : ChangeSpec := { name := "gramPlays", fn := fun _ => fun
  | [d] => { results := [.lit (.bool true)], args := [d] }
  | _ => none }
def gramPlaysRow : OpenClaim := { program := "ytmhebgebfjnfjaa", sum := "bff9f495e7040ddf0888cab710232aee5e9a97c0eb1b8addc42dd582ebf139dc", func := "presage/presagelaw02.GramPlays", spec := "gramPlays", unfollowed := true, recurses := true, apart := false }
def GramPlaysSaid : Prop := gramPlaysRow.holds Try.pinned (OpenSpec.ofChange gramPlaysSpec)

/-- ITS FALSE NEIGHBOUR: 'it returns false'. Refute it at one input. -/
def gramPlaysWrong : ChangeSpec := { name := "gramPlays", fn := fun _ => fun
  | [d] => { results := [.lit (.bool false)], args := [d] }
  | _ => none }
def GramPlaysWrongFalsely : Prop := gramPlaysRow.holds Try.pinned (OpenSpec.ofChange gramPlaysWrong)

/-- 'presagelaw02.GramBuilt': WHATEVER THE INPUT: true; the input reads as it did. -/
def gramBuiltSpec : ChangeSpec := { name := "gramBuilt", fn := fun _ => fun
  | [d] => { results := [.lit (.bool true)], args := [d] }
  | _ => none }
def gramBuiltRow : OpenClaim := { program := "ytmhebgebfjnfjaa", sum := "bff9f495e7040ddf0888cab710232aee5e9a97c0eb1b8addc42dd582ebf139dc", func := "presage/presagelaw02.GramBuilt", spec := "gramBuilt", unfollowed := true, recurses := true, apart := false }
def GramBuiltSaid : Prop := gramBuiltRow.holds Try.pinned (OpenSpec.ofChange gramBuiltSpec)

/-- ITS FALSE NEIGHBOUR: 'it returns false'. Refute it at one input. -/
def gramBuiltWrong : ChangeSpec := { name := "gramBuilt", fn := fun _ => fun
  | [d] => { results := [.lit (.bool false)], args := [d] }
  | _ => none }
def GramBuiltWrongFalsely : Prop := gramBuiltRow.holds Try.pinned (OpenSpec.ofChange gramBuiltWrong)

/-- 'presagelaw02.GramWhich': WHATEVER THE INPUT: true; the input reads as it did. -/
def gramWhichSpec : ChangeSpec := { name := "gramWhich", fn := fun _ => fun
  | [d] => { results := [.lit (.bool true)], args := [d] }
  | _ => none }
def gramWhichRow : OpenClaim := { program := "ytmhebgebfjnfjaa", sum := "bff9f495e7040ddf0888cab710232aee5e9a97c0eb1b8addc42dd582ebf139dc", func := "presage/presagelaw02.GramWhich", spec := "gramWhich", unfollowed := true, recurses := true, apart := false }
def GramWhichSaid : Prop := gramWhichRow.holds Try.pinned (OpenSpec.ofChange gramWhichSpec)

/-- ITS FALSE NEIGHBOUR: 'it returns false'. Refute it at one input. -/
def gramWhichWrong : ChangeSpec := { name := "gramWhich", fn := fun _ => fun
  | [d] => { results := [.lit (.bool false)], args := [d] }
  | _ => none }
def GramWhichWrongFalsely : Prop := gramWhichRow.holds Try.pinned (OpenSpec.ofChange gramWhichWrong)

/- THE SECOND FORM. 'bulk': how many values and letters a reading holds, each counted each time it is reached (what is shared counts as often as it is met; a slice's spare places count too). A statement '..UptoSaid' is the law's where the arguments, and the package variables that the reading takes, are together of bulk at most 1048576: NARROWER than '..Said'. Prove '..Said' where nothing that the law and all that it calls make is longer than what came in: it says more and counts as full. Else prove '..UptoSaid'. A law counts once. -/
mutual
def uptoBulk {H : Type} : DataW H → Nat
  | .lit (.string bytes) => bytes.length + 1
  | .lit _ => 1
  | .nil => 1
  | .ptr d => uptoBulk d + 1
  | .slice elems spare => uptoBulkAll elems + uptoBulkAll spare + 1
  | .agg parts => uptoBulkAll parts + 1
  | .iface _ d => uptoBulk d + 1
  | .map entries => uptoBulkEntries entries + 1
  | .held _ => 1
def uptoBulkAll {H : Type} : List (DataW H) → Nat
  | [] => 0
  | d :: r => uptoBulk d + uptoBulkAll r
def uptoBulkEntries {H : Type} : List (Lit × DataW H) → Nat
  | [] => 0
  | x :: r => uptoBulkEntry x + uptoBulkEntries r
def uptoBulkEntry {H : Type} : Lit × DataW H → Nat
  | (.string bytes, d) => bytes.length + uptoBulk d + 1
  | (_, d) => uptoBulk d + 1
 end
def uptoSmall : (H : Type) → List (DataW H) → Bool := fun _ ds => decide (uptoBulkAll ds ≤ 1048576)
def OpenSpec.upto (s : _root_.Go.ChangeSpec) : _root_.Go.OpenSpec := { _root_.Go.OpenSpec.ofChange s with cond := some uptoSmall }

/-- 'presagelaw02.GramNames', WHERE WHAT IT READS IS OF BULK AT MOST 1048576: true; the input reads as it did. -/
def gramNamesUptoRow : OpenClaim := { program := "ytmhebgebfjnfjaa", sum := "bff9f495e7040ddf0888cab710232aee5e9a97c0eb1b8addc42dd582ebf139dc", func := "presage/presagelaw02.GramNames", spec := "gramNames", unfollowed := true, recurses := true, apart := false, narrowed := true }
def GramNamesUptoSaid : Prop := gramNamesUptoRow.holds Try.pinned (OpenSpec.upto gramNamesSpec)

/-- 'presagelaw02.GramNil', WHERE WHAT IT READS IS OF BULK AT MOST 1048576: true; the input reads as it did. -/
def gramNilUptoRow : OpenClaim := { program := "ytmhebgebfjnfjaa", sum := "bff9f495e7040ddf0888cab710232aee5e9a97c0eb1b8addc42dd582ebf139dc", func := "presage/presagelaw02.GramNil", spec := "gramNil", unfollowed := true, recurses := true, apart := false, narrowed := true }
def GramNilUptoSaid : Prop := gramNilUptoRow.holds Try.pinned (OpenSpec.upto gramNilSpec)

/-- 'presagelaw02.GramFull', WHERE WHAT IT READS IS OF BULK AT MOST 1048576: true; the input reads as it did. -/
def gramFullUptoRow : OpenClaim := { program := "ytmhebgebfjnfjaa", sum := "bff9f495e7040ddf0888cab710232aee5e9a97c0eb1b8addc42dd582ebf139dc", func := "presage/presagelaw02.GramFull", spec := "gramFull", unfollowed := true, recurses := true, apart := false, narrowed := true }
def GramFullUptoSaid : Prop := gramFullUptoRow.holds Try.pinned (OpenSpec.upto gramFullSpec)

/-- 'presagelaw02.GramSame', WHERE WHAT IT READS IS OF BULK AT MOST 1048576: true; the input reads as it did. -/
def gramSameUptoRow : OpenClaim := { program := "ytmhebgebfjnfjaa", sum := "bff9f495e7040ddf0888cab710232aee5e9a97c0eb1b8addc42dd582ebf139dc", func := "presage/presagelaw02.GramSame", spec := "gramSame", unfollowed := true, recurses := true, apart := false, narrowed := true }
def GramSameUptoSaid : Prop := gramSameUptoRow.holds Try.pinned (OpenSpec.upto gramSameSpec)

/-- 'presagelaw02.GramAgain', WHERE WHAT IT READS IS OF BULK AT MOST 1048576: true; the input reads as it did. -/
def gramAgainUptoRow : OpenClaim := { program := "ytmhebgebfjnfjaa", sum := "bff9f495e7040ddf0888cab710232aee5e9a97c0eb1b8addc42dd582ebf139dc", func := "presage/presagelaw02.GramAgain", spec := "gramAgain", unfollowed := true, recurses := true, apart := false, narrowed := true }
def GramAgainUptoSaid : Prop := gramAgainUptoRow.holds Try.pinned (OpenSpec.upto gramAgainSpec)

/-- 'presagelaw02.GramPlays', WHERE WHAT IT READS IS OF BULK AT MOST 1048576: true; the input reads as it did. -/
def gramPlaysUptoRow : OpenClaim := { program := "ytmhebgebfjnfjaa", sum := "bff9f495e7040ddf0888cab710232aee5e9a97c0eb1b8addc42dd582ebf139dc", func := "presage/presagelaw02.GramPlays", spec := "gramPlays", unfollowed := true, recurses := true, apart := false, narrowed := true }
def GramPlaysUptoSaid : Prop := gramPlaysUptoRow.holds Try.pinned (OpenSpec.upto gramPlaysSpec)

/-- 'presagelaw02.GramBuilt', WHERE WHAT IT READS IS OF BULK AT MOST 1048576: true; the input reads as it did. -/
def gramBuiltUptoRow : OpenClaim := { program := "ytmhebgebfjnfjaa", sum := "bff9f495e7040ddf0888cab710232aee5e9a97c0eb1b8addc42dd582ebf139dc", func := "presage/presagelaw02.GramBuilt", spec := "gramBuilt", unfollowed := true, recurses := true, apart := false, narrowed := true }
def GramBuiltUptoSaid : Prop := gramBuiltUptoRow.holds Try.pinned (OpenSpec.upto gramBuiltSpec)

/-- 'presagelaw02.GramWhich', WHERE WHAT IT READS IS OF BULK AT MOST 1048576: true; the input reads as it did. -/
def gramWhichUptoRow : OpenClaim := { program := "ytmhebgebfjnfjaa", sum := "bff9f495e7040ddf0888cab710232aee5e9a97c0eb1b8addc42dd582ebf139dc", func := "presage/presagelaw02.GramWhich", spec := "gramWhich", unfollowed := true, recurses := true, apart := false, narrowed := true }
def GramWhichUptoSaid : Prop := gramWhichUptoRow.holds Try.pinned (OpenSpec.upto gramWhichSpec)

end Rows
end Go.Proofs.Ytmhebgebfjnfjaa
