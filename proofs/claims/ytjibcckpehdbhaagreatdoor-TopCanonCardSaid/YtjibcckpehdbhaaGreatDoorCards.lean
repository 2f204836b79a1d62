/-
  DERIVED. GIVEN WITH THE SEED: THE CARDS: each row of YtjibcckpehdbhaaGreatDoorRows.lean that lists a variable, with what it lists TIED to the program's text (the seventh form; the later family's looks); each row that meets fmt, with fmt's text TOLD by the authors' own Lean function (tested against real Go, not proved from fmt's source: count such statements apart). THE CARD IS WHAT COUNTS. Prove the row's statement (the work); the ties are given (YtjibcckpehdbhaaGreatDoorTie.lean); close each card by the builder's one call (the guide's Derived/Test/ToyasCard.lean, 'card_holds'). Laid BY PROGRAM, IN A SANDBOX (cutbox-door.mjs). By AI agents, Wed Nov 11 2026. No macro, syntax, notation, axiom, sorry.
-/
import Derived.Test.YtjibcckpehdbhaaGreatDoorRows
import GoSem.ClaimSeven
namespace Go.Proofs.YtjibcckpehdbhaaGreatDoor
namespace Rows

/-- THE TIED CARD OF 'presagetop.TopCanon'. -/
def topCanonCard : Claim7 := { stood := { row := topCanonRow, standIns := [], harness := (true, "fc85550f9e50a922883916982b14f83655d7c0c8eaf5eef14023c507290ef926"), looks := false }, kinds := [], alts := [], laidByText := true, laidKinds := [.data], laidTests := true, laidLooks := .later }
def TopCanonCardSaid : Prop := Claim7.holds Tryz.pinned (.plain (OpenSpec.ofChange topCanonSpec)) topCanonCard

/-- THE TIED CARD OF 'presagetop.TopCircles'. -/
def topCirclesCard : Claim7 := { stood := { row := topCirclesRow, standIns := [], harness := (true, "fc85550f9e50a922883916982b14f83655d7c0c8eaf5eef14023c507290ef926"), looks := false }, kinds := [], alts := [], laidByText := true, laidKinds := [.data], laidTests := true, laidLooks := .later }
def TopCirclesCardSaid : Prop := Claim7.holds Tryz.pinned (.plain (OpenSpec.ofChange topCirclesSpec)) topCirclesCard

/-- THE TIED CARD OF 'presagetop.TopMight'. -/
def topMightCard : Claim7 := { stood := { row := topMightRow, standIns := [], harness := (true, "fc85550f9e50a922883916982b14f83655d7c0c8eaf5eef14023c507290ef926"), looks := false }, kinds := [], alts := [], laidByText := true, laidKinds := [.data], laidTests := true, laidLooks := .later }
def TopMightCardSaid : Prop := Claim7.holds Tryz.pinned (.plain (OpenSpec.ofChange topMightSpec)) topMightCard

/-- THE SECOND FORM's CARD OF 'presagetop.TopCanon'. -/
def topCanonUptoCard : Claim7 := { stood := { row := topCanonUptoRow, standIns := [], harness := (true, "fc85550f9e50a922883916982b14f83655d7c0c8eaf5eef14023c507290ef926"), looks := false }, kinds := [], alts := [], laidByText := true, laidKinds := [.data], laidTests := true, laidLooks := .later }
def TopCanonUptoCardSaid : Prop := Claim7.holds Tryz.pinned (.plain (OpenSpec.upto topCanonSpec)) topCanonUptoCard

/-- THE SECOND FORM's CARD OF 'presagetop.TopCircles'. -/
def topCirclesUptoCard : Claim7 := { stood := { row := topCirclesUptoRow, standIns := [], harness := (true, "fc85550f9e50a922883916982b14f83655d7c0c8eaf5eef14023c507290ef926"), looks := false }, kinds := [], alts := [], laidByText := true, laidKinds := [.data], laidTests := true, laidLooks := .later }
def TopCirclesUptoCardSaid : Prop := Claim7.holds Tryz.pinned (.plain (OpenSpec.upto topCirclesSpec)) topCirclesUptoCard

/-- THE SECOND FORM's CARD OF 'presagetop.TopMight'. -/
def topMightUptoCard : Claim7 := { stood := { row := topMightUptoRow, standIns := [], harness := (true, "fc85550f9e50a922883916982b14f83655d7c0c8eaf5eef14023c507290ef926"), looks := false }, kinds := [], alts := [], laidByText := true, laidKinds := [.data], laidTests := true, laidLooks := .later }
def TopMightUptoCardSaid : Prop := Claim7.holds Tryz.pinned (.plain (OpenSpec.upto topMightSpec)) topMightUptoCard
end Rows
end Go.Proofs.YtjibcckpehdbhaaGreatDoor
