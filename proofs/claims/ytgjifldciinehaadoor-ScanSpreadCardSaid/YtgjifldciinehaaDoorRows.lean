/-
  NARROWER THAN 'FOR EVERY INPUT', by the rows' own cells (each row's printed sentence says how): ScanReads: laid · ScanEach: laid · ScanSpread: laid · ScanBegins: laid · ScanNames: laid.
  DERIVED. THE GIVEN ROWS OF THIS SEAT. 5 by the template 'for every input the law returns true; each argument reads behind the call as it read before'; 0 by the template 'total and deterministic' (their statements: YtgjifldciinehaaDoorTotals.lean).
  GIVEN WITH THE SEED: the statements are not yours to turn. If you find one false, say at which input.
  Laid BY PROGRAM, IN A SANDBOX (cutbox-rows.mjs): the forced cells as the released guide's own fill.sh prints them over the translation d00604e7c67babdd… (all of the seat's roots in one cut). By AI agents, Wed Nov 11 2026. No macro, syntax, notation, axiom, sorry.
-/
import Derived.Test.YtgjifldciinehaaDoorChecked
import GoSem.Claim
import GoSem.ClaimJoined
import GoSem.ClaimMapViews
import Derived.JoinedTies
import Derived.KernelRfl
namespace Go.Proofs.YtgjifldciinehaaDoor
/- THE CELL 'sum', in the pinned program and in every row, IS THE sha256 OF THE DUMP (.gsa) THAT YtgjifldciinehaaDoorProg.lean LOADS. Nothing in Lean hashes anything: it is a label: what it is worth is what the hold of that sum in a sandbox is worth. -/
noncomputable def Tryd.pinned : Pinned := { name := "ytgjifldciinehaadoor", sum := "d00604e7c67babdd0658a9a0f8b1344fc3b852a495fc79c9bf88ddee3d48cddf", checked := Tryd.checked }
namespace Rows
def none {H : Type} : Left H := { results := [], args := [] }

/- WHAT THE LISTED PACKAGE-LEVEL VARIABLES READ AS WHEN THE CALL BEGINS. Each datum BY PROGRAM (the guide's laid-datum.mjs) off the statement by which the dump's own 'gosem.cut.vars' lays the variable. In a bare row this is a premise. The card (YtgjifldciinehaaDoorCards.lean) ties it to the program's text. -/
def laid_presage_scan_orders {H : Type} : DataW H := .slice [.lit (.string [37, 108, 101, 102, 116]), .lit (.string [37, 110, 111, 110, 97, 115, 115, 111, 99]), .lit (.string [37, 110, 111, 110, 101]), .lit (.string [37, 112, 114, 101, 99]), .lit (.string [37, 114, 105, 103, 104, 116]), .lit (.string [37, 115, 116, 97, 114, 116]), .lit (.string [37, 116, 111, 107, 101, 110])] []

/-- 'presagelaw03.ScanReads': WHATEVER THE INPUT: true; the input reads as it did. -/
def scanReadsSpec : ChangeSpec := { name := "scanReads", fn := fun _ => fun
  | [d] => { results := [.lit (.bool true)], args := [d] }
  | _ => none }
def scanReadsRow : OpenClaim := { program := "ytgjifldciinehaadoor", sum := "d00604e7c67babdd0658a9a0f8b1344fc3b852a495fc79c9bf88ddee3d48cddf", func := "presage/presagelaw03.ScanReads", spec := "scanReads", inPlace := ["internal/bytealg.IndexByteString"], unfollowed := true, recurses := true, named := ["presage/scan.orders"], apart := false, laid := [("presage/scan.orders", laid_presage_scan_orders)] }
def ScanReadsSaid : Prop := scanReadsRow.holds Tryd.pinned (OpenSpec.ofChange scanReadsSpec)

/-- ITS FALSE NEIGHBOUR: 'it returns false'. Refute it at one input. -/
def scanReadsWrong : ChangeSpec := { name := "scanReads", fn := fun _ => fun
  | [d] => { results := [.lit (.bool false)], args := [d] }
  | _ => none }
def ScanReadsWrongFalsely : Prop := scanReadsRow.holds Tryd.pinned (OpenSpec.ofChange scanReadsWrong)

/-- 'presagelaw03.ScanEach': WHATEVER THE INPUT: true; the input reads as it did. -/
def scanEachSpec : ChangeSpec := { name := "scanEach", fn := fun _ => fun
  | [d1, d2] => { results := [.lit (.bool true)], args := [d1, d2] }
  | _ => none }
def scanEachRow : OpenClaim := { program := "ytgjifldciinehaadoor", sum := "d00604e7c67babdd0658a9a0f8b1344fc3b852a495fc79c9bf88ddee3d48cddf", func := "presage/presagelaw03.ScanEach", spec := "scanEach", inPlace := ["internal/bytealg.IndexByteString"], unfollowed := true, recurses := true, named := ["presage/scan.orders"], apart := false, laid := [("presage/scan.orders", laid_presage_scan_orders)] }
def ScanEachSaid : Prop := scanEachRow.holds Tryd.pinned (OpenSpec.ofChange scanEachSpec)

/-- ITS FALSE NEIGHBOUR: 'it returns false'. Refute it at one input. -/
def scanEachWrong : ChangeSpec := { name := "scanEach", fn := fun _ => fun
  | [d1, d2] => { results := [.lit (.bool false)], args := [d1, d2] }
  | _ => none }
def ScanEachWrongFalsely : Prop := scanEachRow.holds Tryd.pinned (OpenSpec.ofChange scanEachWrong)

/-- 'presagelaw03.ScanSpread': WHATEVER THE INPUT: true; the input reads as it did. -/
def scanSpreadSpec : ChangeSpec := { name := "scanSpread", fn := fun _ => fun
  | [d] => { results := [.lit (.bool true)], args := [d] }
  | _ => none }
def scanSpreadRow : OpenClaim := { program := "ytgjifldciinehaadoor", sum := "d00604e7c67babdd0658a9a0f8b1344fc3b852a495fc79c9bf88ddee3d48cddf", func := "presage/presagelaw03.ScanSpread", spec := "scanSpread", inPlace := ["internal/bytealg.IndexByteString"], unfollowed := true, recurses := true, named := ["presage/scan.orders"], apart := false, laid := [("presage/scan.orders", laid_presage_scan_orders)] }
def ScanSpreadSaid : Prop := scanSpreadRow.holds Tryd.pinned (OpenSpec.ofChange scanSpreadSpec)

/-- ITS FALSE NEIGHBOUR: 'it returns false'. Refute it at one input. -/
def scanSpreadWrong : ChangeSpec := { name := "scanSpread", fn := fun _ => fun
  | [d] => { results := [.lit (.bool false)], args := [d] }
  | _ => none }
def ScanSpreadWrongFalsely : Prop := scanSpreadRow.holds Tryd.pinned (OpenSpec.ofChange scanSpreadWrong)

/-- 'presagelaw03.ScanBegins': WHATEVER THE INPUT: true; the input reads as it did. -/
def scanBeginsSpec : ChangeSpec := { name := "scanBegins", fn := fun _ => fun
  | [d1, d2] => { results := [.lit (.bool true)], args := [d1, d2] }
  | _ => none }
def scanBeginsRow : OpenClaim := { program := "ytgjifldciinehaadoor", sum := "d00604e7c67babdd0658a9a0f8b1344fc3b852a495fc79c9bf88ddee3d48cddf", func := "presage/presagelaw03.ScanBegins", spec := "scanBegins", inPlace := ["internal/bytealg.IndexByteString"], unfollowed := true, recurses := true, named := ["presage/scan.orders"], apart := false, laid := [("presage/scan.orders", laid_presage_scan_orders)] }
def ScanBeginsSaid : Prop := scanBeginsRow.holds Tryd.pinned (OpenSpec.ofChange scanBeginsSpec)

/-- ITS FALSE NEIGHBOUR: 'it returns false'. Refute it at one input. -/
def scanBeginsWrong : ChangeSpec := { name := "scanBegins", fn := fun _ => fun
  | [d1, d2] => { results := [.lit (.bool false)], args := [d1, d2] }
  | _ => none }
def ScanBeginsWrongFalsely : Prop := scanBeginsRow.holds Tryd.pinned (OpenSpec.ofChange scanBeginsWrong)

/-- 'presagelaw03.ScanNames': WHATEVER THE INPUT: true; the input reads as it did. -/
def scanNamesSpec : ChangeSpec := { name := "scanNames", fn := fun _ => fun
  | [d] => { results := [.lit (.bool true)], args := [d] }
  | _ => none }
def scanNamesRow : OpenClaim := { program := "ytgjifldciinehaadoor", sum := "d00604e7c67babdd0658a9a0f8b1344fc3b852a495fc79c9bf88ddee3d48cddf", func := "presage/presagelaw03.ScanNames", spec := "scanNames", inPlace := ["internal/bytealg.IndexByteString"], unfollowed := true, recurses := true, named := ["presage/scan.orders"], apart := false, laid := [("presage/scan.orders", laid_presage_scan_orders)] }
def ScanNamesSaid : Prop := scanNamesRow.holds Tryd.pinned (OpenSpec.ofChange scanNamesSpec)

/-- ITS FALSE NEIGHBOUR: 'it returns false'. Refute it at one input. -/
def scanNamesWrong : ChangeSpec := { name := "scanNames", fn := fun _ => fun
  | [d] => { results := [.lit (.bool false)], args := [d] }
  | _ => none }
def ScanNamesWrongFalsely : Prop := scanNamesRow.holds Tryd.pinned (OpenSpec.ofChange scanNamesWrong)

/- THE SECOND FORM. 'bulk': how many values and letters a reading holds, each counted each time it is reached (what is shared counts as often as it is met; a slice's spare places count too). A statement '..UptoSaid' is the law's where the arguments, and the package variables that the reading takes, are together of bulk at most 1048576: NARROWER than '..Said'. Prove '..Said' where nothing that the law and all that it calls make is longer than what came in: it says more and counts as full. Else prove '..UptoSaid'. A law counts once. -/
mutual
def uptoBulk {H : Type} : DataW H → Nat
  | .lit (.string bytes) => bytes.length + 1
  | .lit _ => 1
  | .nil => 1
  | .ptr d => uptoBulk d + 1
  | .slice elems spare => uptoBulkAll elems + uptoBulkAll spare + 1
  | .agg parts => uptoBulkAll parts + 1
  | .iface _ d => uptoBulk d + 1
  | .map entries => uptoBulkEntries entries + 1
  | .held _ => 1
def uptoBulkAll {H : Type} : List (DataW H) → Nat
  | [] => 0
  | d :: r => uptoBulk d + uptoBulkAll r
def uptoBulkEntries {H : Type} : List (Lit × DataW H) → Nat
  | [] => 0
  | x :: r => uptoBulkEntry x + uptoBulkEntries r
def uptoBulkEntry {H : Type} : Lit × DataW H → Nat
  | (.string bytes, d) => bytes.length + uptoBulk d + 1
  | (_, d) => uptoBulk d + 1
 end
def uptoSmall : (H : Type) → List (DataW H) → Bool := fun _ ds => decide (uptoBulkAll ds ≤ 1048576)
def OpenSpec.upto (s : _root_.Go.ChangeSpec) : _root_.Go.OpenSpec := { _root_.Go.OpenSpec.ofChange s with cond := some uptoSmall }

/-- 'presagelaw03.ScanReads', WHERE WHAT IT READS IS OF BULK AT MOST 1048576: true; the input reads as it did. -/
def scanReadsUptoRow : OpenClaim := { program := "ytgjifldciinehaadoor", sum := "d00604e7c67babdd0658a9a0f8b1344fc3b852a495fc79c9bf88ddee3d48cddf", func := "presage/presagelaw03.ScanReads", spec := "scanReads", inPlace := ["internal/bytealg.IndexByteString"], unfollowed := true, recurses := true, named := ["presage/scan.orders"], apart := false, laid := [("presage/scan.orders", laid_presage_scan_orders)], narrowed := true }
def ScanReadsUptoSaid : Prop := scanReadsUptoRow.holds Tryd.pinned (OpenSpec.upto scanReadsSpec)

/-- 'presagelaw03.ScanEach', WHERE WHAT IT READS IS OF BULK AT MOST 1048576: true; the input reads as it did. -/
def scanEachUptoRow : OpenClaim := { program := "ytgjifldciinehaadoor", sum := "d00604e7c67babdd0658a9a0f8b1344fc3b852a495fc79c9bf88ddee3d48cddf", func := "presage/presagelaw03.ScanEach", spec := "scanEach", inPlace := ["internal/bytealg.IndexByteString"], unfollowed := true, recurses := true, named := ["presage/scan.orders"], apart := false, laid := [("presage/scan.orders", laid_presage_scan_orders)], narrowed := true }
def ScanEachUptoSaid : Prop := scanEachUptoRow.holds Tryd.pinned (OpenSpec.upto scanEachSpec)

/-- 'presagelaw03.ScanSpread', WHERE WHAT IT READS IS OF BULK AT MOST 1048576: true; the input reads as it did. -/
def scanSpreadUptoRow : OpenClaim := { program := "ytgjifldciinehaadoor", sum := "d00604e7c67babdd0658a9a0f8b1344fc3b852a495fc79c9bf88ddee3d48cddf", func := "presage/presagelaw03.ScanSpread", spec := "scanSpread", inPlace := ["internal/bytealg.IndexByteString"], unfollowed := true, recurses := true, named := ["presage/scan.orders"], apart := false, laid := [("presage/scan.orders", laid_presage_scan_orders)], narrowed := true }
def ScanSpreadUptoSaid : Prop := scanSpreadUptoRow.holds Tryd.pinned (OpenSpec.upto scanSpreadSpec)

/-- 'presagelaw03.ScanBegins', WHERE WHAT IT READS IS OF BULK AT MOST 1048576: true; the input reads as it did. -/
def scanBeginsUptoRow : OpenClaim := { program := "ytgjifldciinehaadoor", sum := "d00604e7c67babdd0658a9a0f8b1344fc3b852a495fc79c9bf88ddee3d48cddf", func := "presage/presagelaw03.ScanBegins", spec := "scanBegins", inPlace := ["internal/bytealg.IndexByteString"], unfollowed := true, recurses := true, named := ["presage/scan.orders"], apart := false, laid := [("presage/scan.orders", laid_presage_scan_orders)], narrowed := true }
def ScanBeginsUptoSaid : Prop := scanBeginsUptoRow.holds Tryd.pinned (OpenSpec.upto scanBeginsSpec)

/-- 'presagelaw03.ScanNames', WHERE WHAT IT READS IS OF BULK AT MOST 1048576: true; the input reads as it did. -/
def scanNamesUptoRow : OpenClaim := { program := "ytgjifldciinehaadoor", sum := "d00604e7c67babdd0658a9a0f8b1344fc3b852a495fc79c9bf88ddee3d48cddf", func := "presage/presagelaw03.ScanNames", spec := "scanNames", inPlace := ["internal/bytealg.IndexByteString"], unfollowed := true, recurses := true, named := ["presage/scan.orders"], apart := false, laid := [("presage/scan.orders", laid_presage_scan_orders)], narrowed := true }
def ScanNamesUptoSaid : Prop := scanNamesUptoRow.holds Tryd.pinned (OpenSpec.upto scanNamesSpec)

end Rows
end Go.Proofs.YtgjifldciinehaaDoor
