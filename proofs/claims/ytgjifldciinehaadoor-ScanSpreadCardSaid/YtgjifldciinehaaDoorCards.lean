/-
  DERIVED. GIVEN WITH THE SEED: THE CARDS: each row of YtgjifldciinehaaDoorRows.lean that lists a variable, with what it lists TIED to the program's text (the seventh form; the later family's looks); each row that meets fmt, with fmt's text TOLD by the authors' own Lean function (tested against real Go, not proved from fmt's source: count such statements apart). THE CARD IS WHAT COUNTS. Prove the row's statement (the work); the ties are given (YtgjifldciinehaaDoorTie.lean); close each card by the builder's one call (the guide's Derived/Test/ToyasCard.lean, 'card_holds'). Laid BY PROGRAM, IN A SANDBOX (cutbox-door.mjs). By AI agents, Wed Nov 11 2026. No macro, syntax, notation, axiom, sorry.
-/
import Derived.Test.YtgjifldciinehaaDoorRows
import GoSem.ClaimSeven
namespace Go.Proofs.YtgjifldciinehaaDoor
namespace Rows

/-- THE TIED CARD OF 'presagelaw03.ScanReads'. -/
def scanReadsCard : Claim7 := { stood := { row := scanReadsRow, standIns := [], harness := (true, "4aa645b41a13f8c4ed456f4711684a2e77fb65472a016e93d963dde6e3525bac"), looks := false }, kinds := [], alts := [], laidByText := true, laidKinds := [.widerDeep], laidTests := true, laidLooks := .later }
def ScanReadsCardSaid : Prop := Claim7.holds Tryd.pinned (.plain (OpenSpec.ofChange scanReadsSpec)) scanReadsCard

/-- THE TIED CARD OF 'presagelaw03.ScanEach'. -/
def scanEachCard : Claim7 := { stood := { row := scanEachRow, standIns := [], harness := (true, "4aa645b41a13f8c4ed456f4711684a2e77fb65472a016e93d963dde6e3525bac"), looks := false }, kinds := [], alts := [], laidByText := true, laidKinds := [.widerDeep], laidTests := true, laidLooks := .later }
def ScanEachCardSaid : Prop := Claim7.holds Tryd.pinned (.plain (OpenSpec.ofChange scanEachSpec)) scanEachCard

/-- THE TIED CARD OF 'presagelaw03.ScanSpread'. -/
def scanSpreadCard : Claim7 := { stood := { row := scanSpreadRow, standIns := [], harness := (true, "4aa645b41a13f8c4ed456f4711684a2e77fb65472a016e93d963dde6e3525bac"), looks := false }, kinds := [], alts := [], laidByText := true, laidKinds := [.widerDeep], laidTests := true, laidLooks := .later }
def ScanSpreadCardSaid : Prop := Claim7.holds Tryd.pinned (.plain (OpenSpec.ofChange scanSpreadSpec)) scanSpreadCard

/-- THE TIED CARD OF 'presagelaw03.ScanBegins'. -/
def scanBeginsCard : Claim7 := { stood := { row := scanBeginsRow, standIns := [], harness := (true, "4aa645b41a13f8c4ed456f4711684a2e77fb65472a016e93d963dde6e3525bac"), looks := false }, kinds := [], alts := [], laidByText := true, laidKinds := [.widerDeep], laidTests := true, laidLooks := .later }
def ScanBeginsCardSaid : Prop := Claim7.holds Tryd.pinned (.plain (OpenSpec.ofChange scanBeginsSpec)) scanBeginsCard

/-- THE TIED CARD OF 'presagelaw03.ScanNames'. -/
def scanNamesCard : Claim7 := { stood := { row := scanNamesRow, standIns := [], harness := (true, "4aa645b41a13f8c4ed456f4711684a2e77fb65472a016e93d963dde6e3525bac"), looks := false }, kinds := [], alts := [], laidByText := true, laidKinds := [.widerDeep], laidTests := true, laidLooks := .later }
def ScanNamesCardSaid : Prop := Claim7.holds Tryd.pinned (.plain (OpenSpec.ofChange scanNamesSpec)) scanNamesCard

/-- THE SECOND FORM's CARD OF 'presagelaw03.ScanReads'. -/
def scanReadsUptoCard : Claim7 := { stood := { row := scanReadsUptoRow, standIns := [], harness := (true, "4aa645b41a13f8c4ed456f4711684a2e77fb65472a016e93d963dde6e3525bac"), looks := false }, kinds := [], alts := [], laidByText := true, laidKinds := [.widerDeep], laidTests := true, laidLooks := .later }
def ScanReadsUptoCardSaid : Prop := Claim7.holds Tryd.pinned (.plain (OpenSpec.upto scanReadsSpec)) scanReadsUptoCard

/-- THE SECOND FORM's CARD OF 'presagelaw03.ScanEach'. -/
def scanEachUptoCard : Claim7 := { stood := { row := scanEachUptoRow, standIns := [], harness := (true, "4aa645b41a13f8c4ed456f4711684a2e77fb65472a016e93d963dde6e3525bac"), looks := false }, kinds := [], alts := [], laidByText := true, laidKinds := [.widerDeep], laidTests := true, laidLooks := .later }
def ScanEachUptoCardSaid : Prop := Claim7.holds Tryd.pinned (.plain (OpenSpec.upto scanEachSpec)) scanEachUptoCard

/-- THE SECOND FORM's CARD OF 'presagelaw03.ScanSpread'. -/
def scanSpreadUptoCard : Claim7 := { stood := { row := scanSpreadUptoRow, standIns := [], harness := (true, "4aa645b41a13f8c4ed456f4711684a2e77fb65472a016e93d963dde6e3525bac"), looks := false }, kinds := [], alts := [], laidByText := true, laidKinds := [.widerDeep], laidTests := true, laidLooks := .later }
def ScanSpreadUptoCardSaid : Prop := Claim7.holds Tryd.pinned (.plain (OpenSpec.upto scanSpreadSpec)) scanSpreadUptoCard

/-- THE SECOND FORM's CARD OF 'presagelaw03.ScanBegins'. -/
def scanBeginsUptoCard : Claim7 := { stood := { row := scanBeginsUptoRow, standIns := [], harness := (true, "4aa645b41a13f8c4ed456f4711684a2e77fb65472a016e93d963dde6e3525bac"), looks := false }, kinds := [], alts := [], laidByText := true, laidKinds := [.widerDeep], laidTests := true, laidLooks := .later }
def ScanBeginsUptoCardSaid : Prop := Claim7.holds Tryd.pinned (.plain (OpenSpec.upto scanBeginsSpec)) scanBeginsUptoCard

/-- THE SECOND FORM's CARD OF 'presagelaw03.ScanNames'. -/
def scanNamesUptoCard : Claim7 := { stood := { row := scanNamesUptoRow, standIns := [], harness := (true, "4aa645b41a13f8c4ed456f4711684a2e77fb65472a016e93d963dde6e3525bac"), looks := false }, kinds := [], alts := [], laidByText := true, laidKinds := [.widerDeep], laidTests := true, laidLooks := .later }
def ScanNamesUptoCardSaid : Prop := Claim7.holds Tryd.pinned (.plain (OpenSpec.upto scanNamesSpec)) scanNamesUptoCard
end Rows
end Go.Proofs.YtgjifldciinehaaDoor
