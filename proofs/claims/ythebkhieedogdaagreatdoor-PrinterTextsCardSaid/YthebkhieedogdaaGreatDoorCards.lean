/-
  DERIVED. GIVEN WITH THE SEED: THE CARDS: each row of YthebkhieedogdaaGreatDoorRows.lean that lists a variable, with what it lists TIED to the program's text (the seventh form; the later family's looks); each row that meets fmt, with fmt's text TOLD by the authors' own Lean function (tested against real Go, not proved from fmt's source: count such statements apart). THE CARD IS WHAT COUNTS. Prove the row's statement (the work); the ties are given (YthebkhieedogdaaGreatDoorTie.lean); close each card by the builder's one call (the guide's Derived/Test/ToyasCard.lean, 'card_holds'). Laid BY PROGRAM, IN A SANDBOX (cutbox-door.mjs). By AI agents, Wed Nov 11 2026. No macro, syntax, notation, axiom, sorry.
-/
import Derived.Test.YthebkhieedogdaaGreatDoorRows
import GoSem.ClaimSeven
namespace Go.Proofs.YthebkhieedogdaaGreatDoor
namespace Rows

/-- THE TIED CARD OF 'paideialaw2.PrinterTexts'. -/
def printerTextsCard : Claim7 := { stood := { row := printerTextsRow, standIns := [], harness := (true, "69b24c3285ac77543bf0e426eddb5f8f016c73132b125f86d1925a057eb55edf"), looks := false }, kinds := [], alts := [], laidByText := true, laidKinds := [.data, .data, .data, .listed, .data], laidTests := true, laidLooks := .later }
def PrinterTextsCardSaid : Prop := Claim7.holds Tryz.pinned (.plain (OpenSpec.ofChange printerTextsSpec)) printerTextsCard

/-- THE SECOND FORM's CARD OF 'paideialaw2.PrinterTexts'. -/
def printerTextsUptoCard : Claim7 := { stood := { row := printerTextsUptoRow, standIns := [], harness := (true, "69b24c3285ac77543bf0e426eddb5f8f016c73132b125f86d1925a057eb55edf"), looks := false }, kinds := [], alts := [], laidByText := true, laidKinds := [.data, .data, .data, .listed, .data], laidTests := true, laidLooks := .later }
def PrinterTextsUptoCardSaid : Prop := Claim7.holds Tryz.pinned (.plain (OpenSpec.upto printerTextsSpec)) printerTextsUptoCard
end Rows
end Go.Proofs.YthebkhieedogdaaGreatDoor
