/-
  DERIVED. GIVEN WITH THE SEED: THE CARDS: each row of YtkcpkckaahmheaaDoorRows.lean that lists a variable, with what it lists TIED to the program's text (the seventh form; the later family's looks); each row that meets fmt, with fmt's text TOLD by the authors' own Lean function (tested against real Go, not proved from fmt's source: count such statements apart). THE CARD IS WHAT COUNTS. Prove the row's statement (the work); the ties are given (YtkcpkckaahmheaaDoorTie.lean); close each card by the builder's one call (the guide's Derived/Test/ToyasCard.lean, 'card_holds'). Laid BY PROGRAM, IN A SANDBOX (cutbox-door.mjs). By AI agents, Wed Nov 11 2026. No macro, syntax, notation, axiom, sorry.
-/
import Derived.Test.YtkcpkckaahmheaaDoorRows
import GoSem.ClaimSeven
namespace Go.Proofs.YtkcpkckaahmheaaDoor
namespace Rows

/-- THE TIED CARD OF 'paideialaw8.SchemeSorts'. -/
def schemeSortsCard : Claim7 := { stood := { row := schemeSortsRow, standIns := [], harness := (true, "b48bf5e3940c97409d77d9960c7ad30b50966f2e87df241ee8b0caac09dbafd5"), looks := false }, kinds := [], alts := [], laidByText := true, laidKinds := [.data, .data, .data], laidTests := true, laidLooks := .later }
def SchemeSortsCardSaid : Prop := Claim7.holds Tryd.pinned (.plain (OpenSpec.ofChange schemeSortsSpec)) schemeSortsCard

/-- THE TIED CARD OF 'paideialaw8.SchemeFree'. -/
def schemeFreeCard : Claim7 := { stood := { row := schemeFreeRow, standIns := [], harness := (true, "b48bf5e3940c97409d77d9960c7ad30b50966f2e87df241ee8b0caac09dbafd5"), looks := false }, kinds := [], alts := [], laidByText := true, laidKinds := [.data, .data, .data], laidTests := true, laidLooks := .later }
def SchemeFreeCardSaid : Prop := Claim7.holds Tryd.pinned (.plain (OpenSpec.ofChange schemeFreeSpec)) schemeFreeCard

/-- THE TIED CARD OF 'paideialaw8.SchemeNames'. -/
def schemeNamesCard : Claim7 := { stood := { row := schemeNamesRow, standIns := [], harness := (true, "b48bf5e3940c97409d77d9960c7ad30b50966f2e87df241ee8b0caac09dbafd5"), looks := false }, kinds := [], alts := [], laidByText := true, laidKinds := [.data, .data, .data], laidTests := true, laidLooks := .later }
def SchemeNamesCardSaid : Prop := Claim7.holds Tryd.pinned (.plain (OpenSpec.ofChange schemeNamesSpec)) schemeNamesCard

/-- THE TIED CARD OF 'paideialaw8.SchemeSays'. -/
def schemeSaysCard : Claim7 := { stood := { row := schemeSaysRow, standIns := [], harness := (true, "b48bf5e3940c97409d77d9960c7ad30b50966f2e87df241ee8b0caac09dbafd5"), looks := false }, kinds := [], alts := [], laidByText := true, laidKinds := [.data, .data, .data], laidTests := true, laidLooks := .later }
def SchemeSaysCardSaid : Prop := Claim7.holds Tryd.pinned (.plain (OpenSpec.ofChange schemeSaysSpec)) schemeSaysCard

/-- THE SECOND FORM's CARD OF 'paideialaw8.SchemeSorts'. -/
def schemeSortsUptoCard : Claim7 := { stood := { row := schemeSortsUptoRow, standIns := [], harness := (true, "b48bf5e3940c97409d77d9960c7ad30b50966f2e87df241ee8b0caac09dbafd5"), looks := false }, kinds := [], alts := [], laidByText := true, laidKinds := [.data, .data, .data], laidTests := true, laidLooks := .later }
def SchemeSortsUptoCardSaid : Prop := Claim7.holds Tryd.pinned (.plain (OpenSpec.upto schemeSortsSpec)) schemeSortsUptoCard

/-- THE SECOND FORM's CARD OF 'paideialaw8.SchemeFree'. -/
def schemeFreeUptoCard : Claim7 := { stood := { row := schemeFreeUptoRow, standIns := [], harness := (true, "b48bf5e3940c97409d77d9960c7ad30b50966f2e87df241ee8b0caac09dbafd5"), looks := false }, kinds := [], alts := [], laidByText := true, laidKinds := [.data, .data, .data], laidTests := true, laidLooks := .later }
def SchemeFreeUptoCardSaid : Prop := Claim7.holds Tryd.pinned (.plain (OpenSpec.upto schemeFreeSpec)) schemeFreeUptoCard

/-- THE SECOND FORM's CARD OF 'paideialaw8.SchemeNames'. -/
def schemeNamesUptoCard : Claim7 := { stood := { row := schemeNamesUptoRow, standIns := [], harness := (true, "b48bf5e3940c97409d77d9960c7ad30b50966f2e87df241ee8b0caac09dbafd5"), looks := false }, kinds := [], alts := [], laidByText := true, laidKinds := [.data, .data, .data], laidTests := true, laidLooks := .later }
def SchemeNamesUptoCardSaid : Prop := Claim7.holds Tryd.pinned (.plain (OpenSpec.upto schemeNamesSpec)) schemeNamesUptoCard

/-- THE SECOND FORM's CARD OF 'paideialaw8.SchemeSays'. -/
def schemeSaysUptoCard : Claim7 := { stood := { row := schemeSaysUptoRow, standIns := [], harness := (true, "b48bf5e3940c97409d77d9960c7ad30b50966f2e87df241ee8b0caac09dbafd5"), looks := false }, kinds := [], alts := [], laidByText := true, laidKinds := [.data, .data, .data], laidTests := true, laidLooks := .later }
def SchemeSaysUptoCardSaid : Prop := Claim7.holds Tryd.pinned (.plain (OpenSpec.upto schemeSaysSpec)) schemeSaysUptoCard
end Rows
end Go.Proofs.YtkcpkckaahmheaaDoor
