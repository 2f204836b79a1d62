/-
  DERIVED. GIVEN WITH THE SEED: THE CARDS: each row of YtckbgeedlobfaaaDoorRows.lean that lists a variable, with what it lists TIED to the program's text (the seventh form; the later family's looks); each row that meets fmt, with fmt's text TOLD by the authors' own Lean function (tested against real Go, not proved from fmt's source: count such statements apart). THE CARD IS WHAT COUNTS. Prove the row's statement (the work); the ties are given (YtckbgeedlobfaaaDoorTie.lean); close each card by the builder's one call (the guide's Derived/Test/ToyasCard.lean, 'card_holds'). Laid BY PROGRAM, IN A SANDBOX (cutbox-door.mjs). By AI agents, Wed Nov 11 2026. No macro, syntax, notation, axiom, sorry.
-/
import Derived.Test.YtckbgeedlobfaaaDoorRows
import GoSem.ClaimSeven
namespace Go.Proofs.YtckbgeedlobfaaaDoor
namespace Rows

/-- THE TIED CARD OF 'presagelaw04.SpecReads'. -/
def specReadsCard : Claim7 := { stood := { row := specReadsRow, standIns := [], harness := (true, "a9ec38c7a0cc2a98cae3fda16b85bb583cda7e02c51c28b0c0d5680940d34b02"), looks := true }, kinds := [], alts := [], laidByText := true, laidKinds := [.widerDeep], laidTests := true, laidLooks := .later }
def SpecReadsCardSaid : Prop := Claim7.holds Tryd.pinned (.plain (OpenSpec.ofChange specReadsSpec)) specReadsCard

/-- THE TIED CARD OF 'presagelaw04.SpecSpread'. -/
def specSpreadCard : Claim7 := { stood := { row := specSpreadRow, standIns := [], harness := (true, "a9ec38c7a0cc2a98cae3fda16b85bb583cda7e02c51c28b0c0d5680940d34b02"), looks := true }, kinds := [], alts := [], laidByText := true, laidKinds := [.widerDeep], laidTests := true, laidLooks := .later }
def SpecSpreadCardSaid : Prop := Claim7.holds Tryd.pinned (.plain (OpenSpec.ofChange specSpreadSpec)) specSpreadCard

/-- THE TIED CARD OF 'presagelaw04.SpecBegins'. -/
def specBeginsCard : Claim7 := { stood := { row := specBeginsRow, standIns := [], harness := (true, "a9ec38c7a0cc2a98cae3fda16b85bb583cda7e02c51c28b0c0d5680940d34b02"), looks := true }, kinds := [], alts := [], laidByText := true, laidKinds := [.widerDeep], laidTests := true, laidLooks := .later }
def SpecBeginsCardSaid : Prop := Claim7.holds Tryd.pinned (.plain (OpenSpec.ofChange specBeginsSpec)) specBeginsCard

/-- THE TIED CARD OF 'presagelaw04.SpecLong'. -/
def specLongCard : Claim7 := { stood := { row := specLongRow, standIns := [], harness := (true, "a9ec38c7a0cc2a98cae3fda16b85bb583cda7e02c51c28b0c0d5680940d34b02"), looks := true }, kinds := [], alts := [], laidByText := true, laidKinds := [.widerDeep], laidTests := true, laidLooks := .later }
def SpecLongCardSaid : Prop := Claim7.holds Tryd.pinned (.plain (OpenSpec.ofChange specLongSpec)) specLongCard

/-- THE TIED CARD OF 'presagelaw04.SpecRows'. -/
def specRowsCard : Claim7 := { stood := { row := specRowsRow, standIns := [], harness := (true, "a9ec38c7a0cc2a98cae3fda16b85bb583cda7e02c51c28b0c0d5680940d34b02"), looks := true }, kinds := [], alts := [], laidByText := true, laidKinds := [.widerDeep], laidTests := true, laidLooks := .later }
def SpecRowsCardSaid : Prop := Claim7.holds Tryd.pinned (.plain (OpenSpec.ofChange specRowsSpec)) specRowsCard

/-- THE TIED CARD OF 'presagelaw04.SpecQuotes'. -/
def specQuotesCard : Claim7 := { stood := { row := specQuotesRow, standIns := [], harness := (true, "a9ec38c7a0cc2a98cae3fda16b85bb583cda7e02c51c28b0c0d5680940d34b02"), looks := true }, kinds := [], alts := [], laidByText := true, laidKinds := [.widerDeep], laidTests := true, laidLooks := .later }
def SpecQuotesCardSaid : Prop := Claim7.holds Tryd.pinned (.plain (OpenSpec.ofChange specQuotesSpec)) specQuotesCard

/-- THE TIED CARD OF 'presagelaw04.SpecHeads'. -/
def specHeadsCard : Claim7 := { stood := { row := specHeadsRow, standIns := [], harness := (true, "a9ec38c7a0cc2a98cae3fda16b85bb583cda7e02c51c28b0c0d5680940d34b02"), looks := true }, kinds := [], alts := [], laidByText := true, laidKinds := [.widerDeep], laidTests := true, laidLooks := .later }
def SpecHeadsCardSaid : Prop := Claim7.holds Tryd.pinned (.plain (OpenSpec.ofChange specHeadsSpec)) specHeadsCard

/-- THE TIED CARD OF 'presagelaw04.SpecPlain'. -/
def specPlainCard : Claim7 := { stood := { row := specPlainRow, standIns := [], harness := (true, "a9ec38c7a0cc2a98cae3fda16b85bb583cda7e02c51c28b0c0d5680940d34b02"), looks := true }, kinds := [], alts := [], laidByText := true, laidKinds := [.widerDeep], laidTests := true, laidLooks := .later }
def SpecPlainCardSaid : Prop := Claim7.holds Tryd.pinned (.plain (OpenSpec.ofChange specPlainSpec)) specPlainCard

/-- THE SECOND FORM's CARD OF 'presagelaw04.SpecReads'. -/
def specReadsUptoCard : Claim7 := { stood := { row := specReadsUptoRow, standIns := [], harness := (true, "a9ec38c7a0cc2a98cae3fda16b85bb583cda7e02c51c28b0c0d5680940d34b02"), looks := true }, kinds := [], alts := [], laidByText := true, laidKinds := [.widerDeep], laidTests := true, laidLooks := .later }
def SpecReadsUptoCardSaid : Prop := Claim7.holds Tryd.pinned (.plain (OpenSpec.upto specReadsSpec)) specReadsUptoCard

/-- THE SECOND FORM's CARD OF 'presagelaw04.SpecSpread'. -/
def specSpreadUptoCard : Claim7 := { stood := { row := specSpreadUptoRow, standIns := [], harness := (true, "a9ec38c7a0cc2a98cae3fda16b85bb583cda7e02c51c28b0c0d5680940d34b02"), looks := true }, kinds := [], alts := [], laidByText := true, laidKinds := [.widerDeep], laidTests := true, laidLooks := .later }
def SpecSpreadUptoCardSaid : Prop := Claim7.holds Tryd.pinned (.plain (OpenSpec.upto specSpreadSpec)) specSpreadUptoCard

/-- THE SECOND FORM's CARD OF 'presagelaw04.SpecBegins'. -/
def specBeginsUptoCard : Claim7 := { stood := { row := specBeginsUptoRow, standIns := [], harness := (true, "a9ec38c7a0cc2a98cae3fda16b85bb583cda7e02c51c28b0c0d5680940d34b02"), looks := true }, kinds := [], alts := [], laidByText := true, laidKinds := [.widerDeep], laidTests := true, laidLooks := .later }
def SpecBeginsUptoCardSaid : Prop := Claim7.holds Tryd.pinned (.plain (OpenSpec.upto specBeginsSpec)) specBeginsUptoCard

/-- THE SECOND FORM's CARD OF 'presagelaw04.SpecLong'. -/
def specLongUptoCard : Claim7 := { stood := { row := specLongUptoRow, standIns := [], harness := (true, "a9ec38c7a0cc2a98cae3fda16b85bb583cda7e02c51c28b0c0d5680940d34b02"), looks := true }, kinds := [], alts := [], laidByText := true, laidKinds := [.widerDeep], laidTests := true, laidLooks := .later }
def SpecLongUptoCardSaid : Prop := Claim7.holds Tryd.pinned (.plain (OpenSpec.upto specLongSpec)) specLongUptoCard

/-- THE SECOND FORM's CARD OF 'presagelaw04.SpecRows'. -/
def specRowsUptoCard : Claim7 := { stood := { row := specRowsUptoRow, standIns := [], harness := (true, "a9ec38c7a0cc2a98cae3fda16b85bb583cda7e02c51c28b0c0d5680940d34b02"), looks := true }, kinds := [], alts := [], laidByText := true, laidKinds := [.widerDeep], laidTests := true, laidLooks := .later }
def SpecRowsUptoCardSaid : Prop := Claim7.holds Tryd.pinned (.plain (OpenSpec.upto specRowsSpec)) specRowsUptoCard

/-- THE SECOND FORM's CARD OF 'presagelaw04.SpecQuotes'. -/
def specQuotesUptoCard : Claim7 := { stood := { row := specQuotesUptoRow, standIns := [], harness := (true, "a9ec38c7a0cc2a98cae3fda16b85bb583cda7e02c51c28b0c0d5680940d34b02"), looks := true }, kinds := [], alts := [], laidByText := true, laidKinds := [.widerDeep], laidTests := true, laidLooks := .later }
def SpecQuotesUptoCardSaid : Prop := Claim7.holds Tryd.pinned (.plain (OpenSpec.upto specQuotesSpec)) specQuotesUptoCard

/-- THE SECOND FORM's CARD OF 'presagelaw04.SpecHeads'. -/
def specHeadsUptoCard : Claim7 := { stood := { row := specHeadsUptoRow, standIns := [], harness := (true, "a9ec38c7a0cc2a98cae3fda16b85bb583cda7e02c51c28b0c0d5680940d34b02"), looks := true }, kinds := [], alts := [], laidByText := true, laidKinds := [.widerDeep], laidTests := true, laidLooks := .later }
def SpecHeadsUptoCardSaid : Prop := Claim7.holds Tryd.pinned (.plain (OpenSpec.upto specHeadsSpec)) specHeadsUptoCard

/-- THE SECOND FORM's CARD OF 'presagelaw04.SpecPlain'. -/
def specPlainUptoCard : Claim7 := { stood := { row := specPlainUptoRow, standIns := [], harness := (true, "a9ec38c7a0cc2a98cae3fda16b85bb583cda7e02c51c28b0c0d5680940d34b02"), looks := true }, kinds := [], alts := [], laidByText := true, laidKinds := [.widerDeep], laidTests := true, laidLooks := .later }
def SpecPlainUptoCardSaid : Prop := Claim7.holds Tryd.pinned (.plain (OpenSpec.upto specPlainSpec)) specPlainUptoCard
end Rows
end Go.Proofs.YtckbgeedlobfaaaDoor
