/-
  DERIVED. GIVEN WITH THE SEED: THE CARDS: each row of YtcnjiakndjgalaaGreatDoorRows.lean that lists a variable, with what it lists TIED to the program's text (the seventh form; the later family's looks); each row that meets fmt, with fmt's text TOLD by the authors' own Lean function (tested against real Go, not proved from fmt's source: count such statements apart). THE CARD IS WHAT COUNTS. Prove the row's statement (the work); the ties are given (YtcnjiakndjgalaaGreatDoorTie.lean); close each card by the builder's one call (the guide's Derived/Test/ToyasCard.lean, 'card_holds'). Laid BY PROGRAM, IN A SANDBOX (cutbox-door.mjs). By AI agents, Wed Nov 11 2026. No macro, syntax, notation, axiom, sorry.
-/
import Derived.Test.YtcnjiakndjgalaaGreatDoorRows
import GoSem.ClaimSeven
namespace Go.Proofs.YtcnjiakndjgalaaGreatDoor
namespace Rows

/-- THE TIED CARD OF 'paideialaw11.ConsSays'. -/
def consSaysCard : Claim7 := { stood := { row := consSaysRow, standIns := [], harness := (true, "1a3449f537c903d11fbf3738e7c6d4f6dfb976a6397e256105d6ea11639080e8"), looks := true }, kinds := [], alts := [], laidByText := true, laidKinds := [.sentinel, .sentinel, .sentinel, .sentinel, .sentinel, .sentinel, .sentinel, .sentinel, .sentinel, .sentinel, .sentinel, .sentinel, .sentinel, .sentinel, .sentinel], laidTests := true, laidLooks := .later }
def ConsSaysCardSaid : Prop := Claim7.holds Tryz.pinned (.plain (OpenSpec.ofChange consSaysSpec)) consSaysCard

/-- THE TIED CARD OF 'paideialaw3.ParserBinds'. -/
def parserBindsCard : Claim7 := { stood := { row := parserBindsRow, standIns := [], harness := (true, "1a3449f537c903d11fbf3738e7c6d4f6dfb976a6397e256105d6ea11639080e8"), looks := true }, kinds := [], alts := [], laidByText := true, laidKinds := [.data, .data, .data, .sentinel, .sentinel, .sentinel, .sentinel, .sentinel, .listed, .data], laidTests := true, laidLooks := .later }
def ParserBindsCardSaid : Prop := Claim7.holds Tryz.pinned (.plain (OpenSpec.ofChange parserBindsSpec)) parserBindsCard

/-- THE TIED CARD OF 'paideialaw3.ParserPlaces'. -/
def parserPlacesCard : Claim7 := { stood := { row := parserPlacesRow, standIns := [], harness := (true, "1a3449f537c903d11fbf3738e7c6d4f6dfb976a6397e256105d6ea11639080e8"), looks := true }, kinds := [], alts := [], laidByText := true, laidKinds := [.data, .data, .data, .sentinel, .sentinel, .sentinel, .sentinel, .sentinel, .listed, .data], laidTests := true, laidLooks := .later }
def ParserPlacesCardSaid : Prop := Claim7.holds Tryz.pinned (.plain (OpenSpec.ofChange parserPlacesSpec)) parserPlacesCard

/-- THE TIED CARD OF 'paideialaw3.ParserSigs'. -/
def parserSigsCard : Claim7 := { stood := { row := parserSigsRow, standIns := [], harness := (true, "1a3449f537c903d11fbf3738e7c6d4f6dfb976a6397e256105d6ea11639080e8"), looks := true }, kinds := [], alts := [], laidByText := true, laidKinds := [.data, .data, .data, .sentinel, .sentinel, .sentinel, .sentinel, .sentinel, .listed, .data], laidTests := true, laidLooks := .later }
def ParserSigsCardSaid : Prop := Claim7.holds Tryz.pinned (.plain (OpenSpec.ofChange parserSigsSpec)) parserSigsCard

/-- THE SECOND FORM's CARD OF 'paideialaw11.ConsSays'. -/
def consSaysUptoCard : Claim7 := { stood := { row := consSaysUptoRow, standIns := [], harness := (true, "1a3449f537c903d11fbf3738e7c6d4f6dfb976a6397e256105d6ea11639080e8"), looks := true }, kinds := [], alts := [], laidByText := true, laidKinds := [.sentinel, .sentinel, .sentinel, .sentinel, .sentinel, .sentinel, .sentinel, .sentinel, .sentinel, .sentinel, .sentinel, .sentinel, .sentinel, .sentinel, .sentinel], laidTests := true, laidLooks := .later }
def ConsSaysUptoCardSaid : Prop := Claim7.holds Tryz.pinned (.plain (OpenSpec.upto consSaysSpec)) consSaysUptoCard

/-- THE SECOND FORM's CARD OF 'paideialaw3.ParserBinds'. -/
def parserBindsUptoCard : Claim7 := { stood := { row := parserBindsUptoRow, standIns := [], harness := (true, "1a3449f537c903d11fbf3738e7c6d4f6dfb976a6397e256105d6ea11639080e8"), looks := true }, kinds := [], alts := [], laidByText := true, laidKinds := [.data, .data, .data, .sentinel, .sentinel, .sentinel, .sentinel, .sentinel, .listed, .data], laidTests := true, laidLooks := .later }
def ParserBindsUptoCardSaid : Prop := Claim7.holds Tryz.pinned (.plain (OpenSpec.upto parserBindsSpec)) parserBindsUptoCard

/-- THE SECOND FORM's CARD OF 'paideialaw3.ParserPlaces'. -/
def parserPlacesUptoCard : Claim7 := { stood := { row := parserPlacesUptoRow, standIns := [], harness := (true, "1a3449f537c903d11fbf3738e7c6d4f6dfb976a6397e256105d6ea11639080e8"), looks := true }, kinds := [], alts := [], laidByText := true, laidKinds := [.data, .data, .data, .sentinel, .sentinel, .sentinel, .sentinel, .sentinel, .listed, .data], laidTests := true, laidLooks := .later }
def ParserPlacesUptoCardSaid : Prop := Claim7.holds Tryz.pinned (.plain (OpenSpec.upto parserPlacesSpec)) parserPlacesUptoCard

/-- THE SECOND FORM's CARD OF 'paideialaw3.ParserSigs'. -/
def parserSigsUptoCard : Claim7 := { stood := { row := parserSigsUptoRow, standIns := [], harness := (true, "1a3449f537c903d11fbf3738e7c6d4f6dfb976a6397e256105d6ea11639080e8"), looks := true }, kinds := [], alts := [], laidByText := true, laidKinds := [.data, .data, .data, .sentinel, .sentinel, .sentinel, .sentinel, .sentinel, .listed, .data], laidTests := true, laidLooks := .later }
def ParserSigsUptoCardSaid : Prop := Claim7.holds Tryz.pinned (.plain (OpenSpec.upto parserSigsSpec)) parserSigsUptoCard
end Rows
end Go.Proofs.YtcnjiakndjgalaaGreatDoor
