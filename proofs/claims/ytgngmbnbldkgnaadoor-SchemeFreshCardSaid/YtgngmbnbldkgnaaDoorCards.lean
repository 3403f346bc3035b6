/-
  DERIVED. GIVEN WITH THE SEED: THE CARDS: each row of YtgngmbnbldkgnaaDoorRows.lean that lists a variable, with what it lists TIED to the program's text (the seventh form; the later family's looks); each row that meets fmt, with fmt's text TOLD by the authors' own Lean function (tested against real Go, not proved from fmt's source: count such statements apart). THE CARD IS WHAT COUNTS. Prove the row's statement (the work); the ties are given (YtgngmbnbldkgnaaDoorTie.lean); close each card by the builder's one call (the guide's Derived/Test/ToyasCard.lean, 'card_holds'). Laid BY PROGRAM, IN A SANDBOX (cutbox-door.mjs). By AI agents, Wed Nov 11 2026. No macro, syntax, notation, axiom, sorry.
-/
import Derived.Test.YtgngmbnbldkgnaaDoorRows
import GoSem.ClaimSeven
namespace Go.Proofs.YtgngmbnbldkgnaaDoor
namespace Rows

/-- THE TIED CARD OF 'paideialaw8.SchemeFresh'. -/
def schemeFreshCard : Claim7 := { stood := { row := schemeFreshRow, standIns := [], harness := (true, "94273403e1617f85f278b95308bfab1514604c7250f54d95ad06912e601870a3"), looks := false }, kinds := [], alts := [], laidByText := true, laidKinds := [.data, .data, .data], laidTests := true, laidLooks := .later }
def SchemeFreshCardSaid : Prop := Claim7.holds Tryd.pinned (.plain (OpenSpec.ofChange schemeFreshSpec)) schemeFreshCard

/-- THE TIED CARD OF 'paideialaw8.SchemeSorts'. -/
def schemeSortsCard : Claim7 := { stood := { row := schemeSortsRow, standIns := [], harness := (true, "94273403e1617f85f278b95308bfab1514604c7250f54d95ad06912e601870a3"), looks := false }, kinds := [], alts := [], laidByText := true, laidKinds := [.data, .data, .data], laidTests := true, laidLooks := .later }
def SchemeSortsCardSaid : Prop := Claim7.holds Tryd.pinned (.plain (OpenSpec.ofChange schemeSortsSpec)) schemeSortsCard

/-- THE TIED CARD OF 'paideialaw8.SchemeFree'. -/
def schemeFreeCard : Claim7 := { stood := { row := schemeFreeRow, standIns := [], harness := (true, "94273403e1617f85f278b95308bfab1514604c7250f54d95ad06912e601870a3"), looks := false }, kinds := [], alts := [], laidByText := true, laidKinds := [.data, .data, .data], laidTests := true, laidLooks := .later }
def SchemeFreeCardSaid : Prop := Claim7.holds Tryd.pinned (.plain (OpenSpec.ofChange schemeFreeSpec)) schemeFreeCard

/-- THE SECOND FORM's CARD OF 'paideialaw8.SchemeFresh'. -/
def schemeFreshUptoCard : Claim7 := { stood := { row := schemeFreshUptoRow, standIns := [], harness := (true, "94273403e1617f85f278b95308bfab1514604c7250f54d95ad06912e601870a3"), looks := false }, kinds := [], alts := [], laidByText := true, laidKinds := [.data, .data, .data], laidTests := true, laidLooks := .later }
def SchemeFreshUptoCardSaid : Prop := Claim7.holds Tryd.pinned (.plain (OpenSpec.upto schemeFreshSpec)) schemeFreshUptoCard

/-- THE SECOND FORM's CARD OF 'paideialaw8.SchemeSorts'. -/
def schemeSortsUptoCard : Claim7 := { stood := { row := schemeSortsUptoRow, standIns := [], harness := (true, "94273403e1617f85f278b95308bfab1514604c7250f54d95ad06912e601870a3"), looks := false }, kinds := [], alts := [], laidByText := true, laidKinds := [.data, .data, .data], laidTests := true, laidLooks := .later }
def SchemeSortsUptoCardSaid : Prop := Claim7.holds Tryd.pinned (.plain (OpenSpec.upto schemeSortsSpec)) schemeSortsUptoCard

/-- THE SECOND FORM's CARD OF 'paideialaw8.SchemeFree'. -/
def schemeFreeUptoCard : Claim7 := { stood := { row := schemeFreeUptoRow, standIns := [], harness := (true, "94273403e1617f85f278b95308bfab1514604c7250f54d95ad06912e601870a3"), looks := false }, kinds := [], alts := [], laidByText := true, laidKinds := [.data, .data, .data], laidTests := true, laidLooks := .later }
def SchemeFreeUptoCardSaid : Prop := Claim7.holds Tryd.pinned (.plain (OpenSpec.upto schemeFreeSpec)) schemeFreeUptoCard
end Rows
end Go.Proofs.YtgngmbnbldkgnaaDoor
