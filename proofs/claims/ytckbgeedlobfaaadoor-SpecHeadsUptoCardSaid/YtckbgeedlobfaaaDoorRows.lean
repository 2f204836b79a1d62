/-
  NARROWER THAN 'FOR EVERY INPUT', by the rows' own cells (each row's printed sentence says how): SpecReads: laid · SpecSpread: laid · SpecBegins: laid · SpecLong: laid · SpecRows: laid · SpecQuotes: laid · SpecHeads: laid · SpecPlain: laid.
  DERIVED. THE GIVEN ROWS OF THIS SEAT. 8 by the template 'for every input the law returns true; each argument reads behind the call as it read before'; 0 by the template 'total and deterministic' (their statements: YtckbgeedlobfaaaDoorTotals.lean).
  GIVEN WITH THE SEED: the statements are not yours to turn. If you find one false, say at which input.
  Laid BY PROGRAM, IN A SANDBOX (cutbox-rows.mjs): the forced cells as the released guide's own fill.sh prints them over the translation e90823a086d37207… (all of the seat's roots in one cut). By AI agents, Wed Nov 11 2026. No macro, syntax, notation, axiom, sorry.
-/
import Derived.Test.YtckbgeedlobfaaaDoorChecked
import GoSem.Claim
import GoSem.ClaimJoined
import GoSem.ClaimMapViews
import Derived.JoinedTies
import Derived.KernelRfl
namespace Go.Proofs.YtckbgeedlobfaaaDoor
/- THE CELL 'sum', in the pinned program and in every row, IS THE sha256 OF THE DUMP (.gsa) THAT YtckbgeedlobfaaaDoorProg.lean LOADS. Nothing in Lean hashes anything: it is a label: what it is worth is what the hold of that sum in a sandbox is worth. -/
noncomputable def Tryd.pinned : Pinned := { name := "ytckbgeedlobfaaadoor", sum := "e90823a086d37207f4c1ec6a7a8be2c312318196be3aaa2fdeb0b82dd45dafa0", checked := Tryd.checked }
namespace Rows
def none {H : Type} : Left H := { results := [], args := [] }

/- WHAT THE LISTED PACKAGE-LEVEL VARIABLES READ AS WHEN THE CALL BEGINS. Each datum BY PROGRAM (the guide's laid-datum.mjs) off the statement by which the dump's own 'gosem.cut.vars' lays the variable. In a bare row this is a premise. The card (YtckbgeedlobfaaaDoorCards.lean) ties it to the program's text. -/
def laid_presage_scan_orders {H : Type} : DataW H := .slice [.lit (.string [37, 108, 101, 102, 116]), .lit (.string [37, 110, 111, 110, 97, 115, 115, 111, 99]), .lit (.string [37, 110, 111, 110, 101]), .lit (.string [37, 112, 114, 101, 99]), .lit (.string [37, 114, 105, 103, 104, 116]), .lit (.string [37, 115, 116, 97, 114, 116]), .lit (.string [37, 116, 111, 107, 101, 110])] []

/-- 'presagelaw04.SpecReads': WHATEVER THE INPUT: true; the input reads as it did. -/
def specReadsSpec : ChangeSpec := { name := "specReads", fn := fun _ => fun
  | [d1, d2] => { results := [.lit (.bool true)], args := [d1, d2] }
  | _ => none }
def specReadsRow : OpenClaim := { program := "ytckbgeedlobfaaadoor", sum := "e90823a086d37207f4c1ec6a7a8be2c312318196be3aaa2fdeb0b82dd45dafa0", func := "presage/presagelaw04.SpecReads", spec := "specReads", inPlace := ["internal/bytealg.IndexByteString"], unfollowed := true, recurses := true, named := ["presage/scan.orders"], apart := false, laid := [("presage/scan.orders", laid_presage_scan_orders)] }
def SpecReadsSaid : Prop := specReadsRow.holds Tryd.pinned (OpenSpec.ofChange specReadsSpec)

/-- ITS FALSE NEIGHBOUR: 'it returns false'. Refute it at one input. -/
def specReadsWrong : ChangeSpec := { name := "specReads", fn := fun _ => fun
  | [d1, d2] => { results := [.lit (.bool false)], args := [d1, d2] }
  | _ => none }
def SpecReadsWrongFalsely : Prop := specReadsRow.holds Tryd.pinned (OpenSpec.ofChange specReadsWrong)

/-- 'presagelaw04.SpecSpread': WHATEVER THE INPUT: true; the input reads as it did. -/
def specSpreadSpec : ChangeSpec := { name := "specSpread", fn := fun _ => fun
  | [d1, d2] => { results := [.lit (.bool true)], args := [d1, d2] }
  | _ => none }
def specSpreadRow : OpenClaim := { program := "ytckbgeedlobfaaadoor", sum := "e90823a086d37207f4c1ec6a7a8be2c312318196be3aaa2fdeb0b82dd45dafa0", func := "presage/presagelaw04.SpecSpread", spec := "specSpread", inPlace := ["internal/bytealg.IndexByteString"], unfollowed := true, recurses := true, named := ["presage/scan.orders"], apart := false, laid := [("presage/scan.orders", laid_presage_scan_orders)] }
def SpecSpreadSaid : Prop := specSpreadRow.holds Tryd.pinned (OpenSpec.ofChange specSpreadSpec)

/-- ITS FALSE NEIGHBOUR: 'it returns false'. Refute it at one input. -/
def specSpreadWrong : ChangeSpec := { name := "specSpread", fn := fun _ => fun
  | [d1, d2] => { results := [.lit (.bool false)], args := [d1, d2] }
  | _ => none }
def SpecSpreadWrongFalsely : Prop := specSpreadRow.holds Tryd.pinned (OpenSpec.ofChange specSpreadWrong)

/-- 'presagelaw04.SpecBegins': WHATEVER THE INPUT: true; the input reads as it did. -/
def specBeginsSpec : ChangeSpec := { name := "specBegins", fn := fun _ => fun
  | [d1, d2] => { results := [.lit (.bool true)], args := [d1, d2] }
  | _ => none }
def specBeginsRow : OpenClaim := { program := "ytckbgeedlobfaaadoor", sum := "e90823a086d37207f4c1ec6a7a8be2c312318196be3aaa2fdeb0b82dd45dafa0", func := "presage/presagelaw04.SpecBegins", spec := "specBegins", inPlace := ["internal/bytealg.IndexByteString"], unfollowed := true, recurses := true, named := ["presage/scan.orders"], apart := false, laid := [("presage/scan.orders", laid_presage_scan_orders)] }
def SpecBeginsSaid : Prop := specBeginsRow.holds Tryd.pinned (OpenSpec.ofChange specBeginsSpec)

/-- ITS FALSE NEIGHBOUR: 'it returns false'. Refute it at one input. -/
def specBeginsWrong : ChangeSpec := { name := "specBegins", fn := fun _ => fun
  | [d1, d2] => { results := [.lit (.bool false)], args := [d1, d2] }
  | _ => none }
def SpecBeginsWrongFalsely : Prop := specBeginsRow.holds Tryd.pinned (OpenSpec.ofChange specBeginsWrong)

/-- 'presagelaw04.SpecLong': WHATEVER THE INPUT: true; the input reads as it did. -/
def specLongSpec : ChangeSpec := { name := "specLong", fn := fun _ => fun
  | [d1, d2] => { results := [.lit (.bool true)], args := [d1, d2] }
  | _ => none }
def specLongRow : OpenClaim := { program := "ytckbgeedlobfaaadoor", sum := "e90823a086d37207f4c1ec6a7a8be2c312318196be3aaa2fdeb0b82dd45dafa0", func := "presage/presagelaw04.SpecLong", spec := "specLong", inPlace := ["internal/bytealg.IndexByteString"], unfollowed := true, recurses := true, named := ["presage/scan.orders"], apart := false, laid := [("presage/scan.orders", laid_presage_scan_orders)] }
def SpecLongSaid : Prop := specLongRow.holds Tryd.pinned (OpenSpec.ofChange specLongSpec)

/-- ITS FALSE NEIGHBOUR: 'it returns false'. Refute it at one input. -/
def specLongWrong : ChangeSpec := { name := "specLong", fn := fun _ => fun
  | [d1, d2] => { results := [.lit (.bool false)], args := [d1, d2] }
  | _ => none }
def SpecLongWrongFalsely : Prop := specLongRow.holds Tryd.pinned (OpenSpec.ofChange specLongWrong)

/-- 'presagelaw04.SpecRows': WHATEVER THE INPUT: true; the input reads as it did. -/
def specRowsSpec : ChangeSpec := { name := "specRows", fn := fun _ => fun
  | [d] => { results := [.lit (.bool true)], args := [d] }
  | _ => none }
def specRowsRow : OpenClaim := { program := "ytckbgeedlobfaaadoor", sum := "e90823a086d37207f4c1ec6a7a8be2c312318196be3aaa2fdeb0b82dd45dafa0", func := "presage/presagelaw04.SpecRows", spec := "specRows", inPlace := ["internal/bytealg.IndexByteString"], unfollowed := true, recurses := true, named := ["presage/scan.orders"], apart := false, laid := [("presage/scan.orders", laid_presage_scan_orders)] }
def SpecRowsSaid : Prop := specRowsRow.holds Tryd.pinned (OpenSpec.ofChange specRowsSpec)

/-- ITS FALSE NEIGHBOUR: 'it returns false'. Refute it at one input. -/
def specRowsWrong : ChangeSpec := { name := "specRows", fn := fun _ => fun
  | [d] => { results := [.lit (.bool false)], args := [d] }
  | _ => none }
def SpecRowsWrongFalsely : Prop := specRowsRow.holds Tryd.pinned (OpenSpec.ofChange specRowsWrong)

/-- 'presagelaw04.SpecQuotes': WHATEVER THE INPUT: true; the input reads as it did. -/
def specQuotesSpec : ChangeSpec := { name := "specQuotes", fn := fun _ => fun
  | [d] => { results := [.lit (.bool true)], args := [d] }
  | _ => none }
def specQuotesRow : OpenClaim := { program := "ytckbgeedlobfaaadoor", sum := "e90823a086d37207f4c1ec6a7a8be2c312318196be3aaa2fdeb0b82dd45dafa0", func := "presage/presagelaw04.SpecQuotes", spec := "specQuotes", inPlace := ["internal/bytealg.IndexByteString"], unfollowed := true, recurses := true, named := ["presage/scan.orders"], apart := false, laid := [("presage/scan.orders", laid_presage_scan_orders)] }
def SpecQuotesSaid : Prop := specQuotesRow.holds Tryd.pinned (OpenSpec.ofChange specQuotesSpec)

/-- ITS FALSE NEIGHBOUR: 'it returns false'. Refute it at one input. -/
def specQuotesWrong : ChangeSpec := { name := "specQuotes", fn := fun _ => fun
  | [d] => { results := [.lit (.bool false)], args := [d] }
  | _ => none }
def SpecQuotesWrongFalsely : Prop := specQuotesRow.holds Tryd.pinned (OpenSpec.ofChange specQuotesWrong)

/-- 'presagelaw04.SpecHeads': WHATEVER THE INPUT: true; the input reads as it did. -/
def specHeadsSpec : ChangeSpec := { name := "specHeads", fn := fun _ => fun
  | [d] => { results := [.lit (.bool true)], args := [d] }
  | _ => none }
def specHeadsRow : OpenClaim := { program := "ytckbgeedlobfaaadoor", sum := "e90823a086d37207f4c1ec6a7a8be2c312318196be3aaa2fdeb0b82dd45dafa0", func := "presage/presagelaw04.SpecHeads", spec := "specHeads", inPlace := ["internal/bytealg.IndexByteString"], unfollowed := true, recurses := true, named := ["presage/scan.orders"], apart := false, laid := [("presage/scan.orders", laid_presage_scan_orders)] }
def SpecHeadsSaid : Prop := specHeadsRow.holds Tryd.pinned (OpenSpec.ofChange specHeadsSpec)

/-- ITS FALSE NEIGHBOUR: 'it returns false'. Refute it at one input. -/
def specHeadsWrong : ChangeSpec := { name := "specHeads", fn := fun _ => fun
  | [d] => { results := [.lit (.bool false)], args := [d] }
  | _ => none }
def SpecHeadsWrongFalsely : Prop := specHeadsRow.holds Tryd.pinned (OpenSpec.ofChange specHeadsWrong)

/-- 'presagelaw04.SpecPlain': WHATEVER THE INPUT: true; the input reads as it did. -/
def specPlainSpec : ChangeSpec := { name := "specPlain", fn := fun _ => fun
  | [d] => { results := [.lit (.bool true)], args := [d] }
  | _ => none }
def specPlainRow : OpenClaim := { program := "ytckbgeedlobfaaadoor", sum := "e90823a086d37207f4c1ec6a7a8be2c312318196be3aaa2fdeb0b82dd45dafa0", func := "presage/presagelaw04.SpecPlain", spec := "specPlain", inPlace := ["internal/bytealg.IndexByteString"], unfollowed := true, recurses := true, named := ["presage/scan.orders"], apart := false, laid := [("presage/scan.orders", laid_presage_scan_orders)] }
def SpecPlainSaid : Prop := specPlainRow.holds Tryd.pinned (OpenSpec.ofChange specPlainSpec)

/-- ITS FALSE NEIGHBOUR: 'it returns false'. Refute it at one input. -/
def specPlainWrong : ChangeSpec := { name := "specPlain", fn := fun _ => fun
  | [d] => { results := [.lit (.bool false)], args := [d] }
  | _ => none }
def SpecPlainWrongFalsely : Prop := specPlainRow.holds Tryd.pinned (OpenSpec.ofChange specPlainWrong)

/- THE SECOND FORM. 'bulk': how many values and letters a reading holds, each counted each time it is reached (what is shared counts as often as it is met; a slice's spare places count too). A statement '..UptoSaid' is the law's where the arguments, and the package variables that the reading takes, are together of bulk at most 1048576: NARROWER than '..Said'. Prove '..Said' where nothing that the law and all that it calls make is longer than what came in: it says more and counts as full. Else prove '..UptoSaid'. A law counts once. -/
mutual
def uptoBulk {H : Type} : DataW H → Nat
  | .lit (.string bytes) => bytes.length + 1
  | .lit _ => 1
  | .nil => 1
  | .ptr d => uptoBulk d + 1
  | .slice elems spare => uptoBulkAll elems + uptoBulkAll spare + 1
  | .agg parts => uptoBulkAll parts + 1
  | .iface _ d => uptoBulk d + 1
  | .map entries => uptoBulkEntries entries + 1
  | .held _ => 1
def uptoBulkAll {H : Type} : List (DataW H) → Nat
  | [] => 0
  | d :: r => uptoBulk d + uptoBulkAll r
def uptoBulkEntries {H : Type} : List (Lit × DataW H) → Nat
  | [] => 0
  | x :: r => uptoBulkEntry x + uptoBulkEntries r
def uptoBulkEntry {H : Type} : Lit × DataW H → Nat
  | (.string bytes, d) => bytes.length + uptoBulk d + 1
  | (_, d) => uptoBulk d + 1
 end
def uptoSmall : (H : Type) → List (DataW H) → Bool := fun _ ds => decide (uptoBulkAll ds ≤ 1048576)
def OpenSpec.upto (s : _root_.Go.ChangeSpec) : _root_.Go.OpenSpec := { _root_.Go.OpenSpec.ofChange s with cond := some uptoSmall }

/-- 'presagelaw04.SpecReads', WHERE WHAT IT READS IS OF BULK AT MOST 1048576: true; the input reads as it did. -/
def specReadsUptoRow : OpenClaim := { program := "ytckbgeedlobfaaadoor", sum := "e90823a086d37207f4c1ec6a7a8be2c312318196be3aaa2fdeb0b82dd45dafa0", func := "presage/presagelaw04.SpecReads", spec := "specReads", inPlace := ["internal/bytealg.IndexByteString"], unfollowed := true, recurses := true, named := ["presage/scan.orders"], apart := false, laid := [("presage/scan.orders", laid_presage_scan_orders)], narrowed := true }
def SpecReadsUptoSaid : Prop := specReadsUptoRow.holds Tryd.pinned (OpenSpec.upto specReadsSpec)

/-- 'presagelaw04.SpecSpread', WHERE WHAT IT READS IS OF BULK AT MOST 1048576: true; the input reads as it did. -/
def specSpreadUptoRow : OpenClaim := { program := "ytckbgeedlobfaaadoor", sum := "e90823a086d37207f4c1ec6a7a8be2c312318196be3aaa2fdeb0b82dd45dafa0", func := "presage/presagelaw04.SpecSpread", spec := "specSpread", inPlace := ["internal/bytealg.IndexByteString"], unfollowed := true, recurses := true, named := ["presage/scan.orders"], apart := false, laid := [("presage/scan.orders", laid_presage_scan_orders)], narrowed := true }
def SpecSpreadUptoSaid : Prop := specSpreadUptoRow.holds Tryd.pinned (OpenSpec.upto specSpreadSpec)

/-- 'presagelaw04.SpecBegins', WHERE WHAT IT READS IS OF BULK AT MOST 1048576: true; the input reads as it did. -/
def specBeginsUptoRow : OpenClaim := { program := "ytckbgeedlobfaaadoor", sum := "e90823a086d37207f4c1ec6a7a8be2c312318196be3aaa2fdeb0b82dd45dafa0", func := "presage/presagelaw04.SpecBegins", spec := "specBegins", inPlace := ["internal/bytealg.IndexByteString"], unfollowed := true, recurses := true, named := ["presage/scan.orders"], apart := false, laid := [("presage/scan.orders", laid_presage_scan_orders)], narrowed := true }
def SpecBeginsUptoSaid : Prop := specBeginsUptoRow.holds Tryd.pinned (OpenSpec.upto specBeginsSpec)

/-- 'presagelaw04.SpecLong', WHERE WHAT IT READS IS OF BULK AT MOST 1048576: true; the input reads as it did. -/
def specLongUptoRow : OpenClaim := { program := "ytckbgeedlobfaaadoor", sum := "e90823a086d37207f4c1ec6a7a8be2c312318196be3aaa2fdeb0b82dd45dafa0", func := "presage/presagelaw04.SpecLong", spec := "specLong", inPlace := ["internal/bytealg.IndexByteString"], unfollowed := true, recurses := true, named := ["presage/scan.orders"], apart := false, laid := [("presage/scan.orders", laid_presage_scan_orders)], narrowed := true }
def SpecLongUptoSaid : Prop := specLongUptoRow.holds Tryd.pinned (OpenSpec.upto specLongSpec)

/-- 'presagelaw04.SpecRows', WHERE WHAT IT READS IS OF BULK AT MOST 1048576: true; the input reads as it did. -/
def specRowsUptoRow : OpenClaim := { program := "ytckbgeedlobfaaadoor", sum := "e90823a086d37207f4c1ec6a7a8be2c312318196be3aaa2fdeb0b82dd45dafa0", func := "presage/presagelaw04.SpecRows", spec := "specRows", inPlace := ["internal/bytealg.IndexByteString"], unfollowed := true, recurses := true, named := ["presage/scan.orders"], apart := false, laid := [("presage/scan.orders", laid_presage_scan_orders)], narrowed := true }
def SpecRowsUptoSaid : Prop := specRowsUptoRow.holds Tryd.pinned (OpenSpec.upto specRowsSpec)

/-- 'presagelaw04.SpecQuotes', WHERE WHAT IT READS IS OF BULK AT MOST 1048576: true; the input reads as it did. -/
def specQuotesUptoRow : OpenClaim := { program := "ytckbgeedlobfaaadoor", sum := "e90823a086d37207f4c1ec6a7a8be2c312318196be3aaa2fdeb0b82dd45dafa0", func := "presage/presagelaw04.SpecQuotes", spec := "specQuotes", inPlace := ["internal/bytealg.IndexByteString"], unfollowed := true, recurses := true, named := ["presage/scan.orders"], apart := false, laid := [("presage/scan.orders", laid_presage_scan_orders)], narrowed := true }
def SpecQuotesUptoSaid : Prop := specQuotesUptoRow.holds Tryd.pinned (OpenSpec.upto specQuotesSpec)

/-- 'presagelaw04.SpecHeads', WHERE WHAT IT READS IS OF BULK AT MOST 1048576: true; the input reads as it did. -/
def specHeadsUptoRow : OpenClaim := { program := "ytckbgeedlobfaaadoor", sum := "e90823a086d37207f4c1ec6a7a8be2c312318196be3aaa2fdeb0b82dd45dafa0", func := "presage/presagelaw04.SpecHeads", spec := "specHeads", inPlace := ["internal/bytealg.IndexByteString"], unfollowed := true, recurses := true, named := ["presage/scan.orders"], apart := false, laid := [("presage/scan.orders", laid_presage_scan_orders)], narrowed := true }
def SpecHeadsUptoSaid : Prop := specHeadsUptoRow.holds Tryd.pinned (OpenSpec.upto specHeadsSpec)

/-- 'presagelaw04.SpecPlain', WHERE WHAT IT READS IS OF BULK AT MOST 1048576: true; the input reads as it did. -/
def specPlainUptoRow : OpenClaim := { program := "ytckbgeedlobfaaadoor", sum := "e90823a086d37207f4c1ec6a7a8be2c312318196be3aaa2fdeb0b82dd45dafa0", func := "presage/presagelaw04.SpecPlain", spec := "specPlain", inPlace := ["internal/bytealg.IndexByteString"], unfollowed := true, recurses := true, named := ["presage/scan.orders"], apart := false, laid := [("presage/scan.orders", laid_presage_scan_orders)], narrowed := true }
def SpecPlainUptoSaid : Prop := specPlainUptoRow.holds Tryd.pinned (OpenSpec.upto specPlainSpec)

end Rows
end Go.Proofs.YtckbgeedlobfaaaDoor
