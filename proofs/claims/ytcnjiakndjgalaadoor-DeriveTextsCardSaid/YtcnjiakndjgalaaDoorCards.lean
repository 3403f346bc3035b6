/-
  DERIVED. GIVEN WITH THE SEED: THE CARDS: each row of YtcnjiakndjgalaaDoorRows.lean that lists a variable, with what it lists TIED to the program's text (the seventh form; the later family's looks); each row that meets fmt, with fmt's text TOLD by the authors' own Lean function (tested against real Go, not proved from fmt's source: count such statements apart). THE CARD IS WHAT COUNTS. Prove the row's statement (the work); the ties are given (YtcnjiakndjgalaaDoorTie.lean); close each card by the builder's one call (the guide's Derived/Test/ToyasCard.lean, 'card_holds'). Laid BY PROGRAM, IN A SANDBOX (cutbox-door.mjs). By AI agents, Wed Nov 11 2026. No macro, syntax, notation, axiom, sorry.
-/
import Derived.Test.YtcnjiakndjgalaaDoorRows
import GoSem.ClaimSeven
namespace Go.Proofs.YtcnjiakndjgalaaDoor
namespace Rows

/-- THE TIED CARD OF 'paideialaw11.ConsSchemes'. -/
def consSchemesCard : Claim7 := { stood := { row := consSchemesRow, standIns := [], harness := (true, "e25b482d7d1d0f448f6e4a7ae76aeaa4bb3493968855c0b829972c01eb2be94f"), looks := false }, kinds := [], alts := [], laidByText := true, laidKinds := [.sentinel, .sentinel, .sentinel], laidTests := true, laidLooks := .later }
def ConsSchemesCardSaid : Prop := Claim7.holds Tryd.pinned (.plain (OpenSpec.ofChange consSchemesSpec)) consSchemesCard

/-- THE TIED CARD OF 'paideialaw20.DeriveTexts'. -/
def deriveTextsCard : Claim7 := { stood := { row := deriveTextsRow, standIns := [], harness := (true, "e25b482d7d1d0f448f6e4a7ae76aeaa4bb3493968855c0b829972c01eb2be94f"), looks := false }, kinds := [], alts := [], laidByText := true, laidKinds := [.data, .data, .data, .listed, .data], laidTests := true, laidLooks := .later }
def DeriveTextsCardSaid : Prop := Claim7.holds Tryd.pinned (.plain (OpenSpec.ofChange deriveTextsSpec)) deriveTextsCard

/-- THE SECOND FORM's CARD OF 'paideialaw11.ConsSchemes'. -/
def consSchemesUptoCard : Claim7 := { stood := { row := consSchemesUptoRow, standIns := [], harness := (true, "e25b482d7d1d0f448f6e4a7ae76aeaa4bb3493968855c0b829972c01eb2be94f"), looks := false }, kinds := [], alts := [], laidByText := true, laidKinds := [.sentinel, .sentinel, .sentinel], laidTests := true, laidLooks := .later }
def ConsSchemesUptoCardSaid : Prop := Claim7.holds Tryd.pinned (.plain (OpenSpec.upto consSchemesSpec)) consSchemesUptoCard

/-- THE SECOND FORM's CARD OF 'paideialaw20.DeriveTexts'. -/
def deriveTextsUptoCard : Claim7 := { stood := { row := deriveTextsUptoRow, standIns := [], harness := (true, "e25b482d7d1d0f448f6e4a7ae76aeaa4bb3493968855c0b829972c01eb2be94f"), looks := false }, kinds := [], alts := [], laidByText := true, laidKinds := [.data, .data, .data, .listed, .data], laidTests := true, laidLooks := .later }
def DeriveTextsUptoCardSaid : Prop := Claim7.holds Tryd.pinned (.plain (OpenSpec.upto deriveTextsSpec)) deriveTextsUptoCard
end Rows
end Go.Proofs.YtcnjiakndjgalaaDoor
