/-
  DERIVED. GIVEN WITH THE SEED: THE CARDS: each row of YtpknncihhgfpnaaDoorRows.lean that lists a variable, with what it lists TIED to the program's text (the seventh form; the later family's looks); each row that meets fmt, with fmt's text TOLD by the authors' own Lean function (tested against real Go, not proved from fmt's source: count such statements apart). THE CARD IS WHAT COUNTS. Prove the row's statement (the work); the ties are given (YtpknncihhgfpnaaDoorTie.lean); close each card by the builder's one call (the guide's Derived/Test/ToyasCard.lean, 'card_holds'). Laid BY PROGRAM, IN A SANDBOX (cutbox-door.mjs). By AI agents, Wed Nov 11 2026. No macro, syntax, notation, axiom, sorry.
-/
import Derived.Test.YtpknncihhgfpnaaDoorRows
import GoSem.ClaimSeven
namespace Go.Proofs.YtpknncihhgfpnaaDoor
namespace Rows

/-- THE TIED CARD OF 'paideialaw6.UnifySays'. -/
def unifySaysCard : Claim7 := { stood := { row := unifySaysRow, standIns := [], harness := (true, "e5952784ea71d507dc1af55c675217bfe9f5c1779aa69b2cf6d15a3dc577f26f"), looks := true }, kinds := [], alts := [], laidByText := true, laidKinds := [.sentinel, .sentinel, .sentinel, .sentinel, .sentinel, .sentinel, .sentinel, .sentinel, .sentinel, .sentinel, .sentinel, .sentinel, .sentinel, .sentinel, .sentinel], laidTests := true, laidLooks := .later }
def UnifySaysCardSaid : Prop := Claim7.holds Tryd.pinned (.plain (OpenSpec.ofChange unifySaysSpec)) unifySaysCard

/-- THE TIED CARD OF 'paideialaw6.UnifyOne'. -/
def unifyOneCard : Claim7 := { stood := { row := unifyOneRow, standIns := [], harness := (true, "e5952784ea71d507dc1af55c675217bfe9f5c1779aa69b2cf6d15a3dc577f26f"), looks := true }, kinds := [], alts := [], laidByText := true, laidKinds := [.sentinel, .sentinel], laidTests := true, laidLooks := .later }
def UnifyOneCardSaid : Prop := Claim7.holds Tryd.pinned (.plain (OpenSpec.ofChange unifyOneSpec)) unifyOneCard

/-- THE TIED CARD OF 'paideialaw6.UnifyMost'. -/
def unifyMostCard : Claim7 := { stood := { row := unifyMostRow, standIns := [], harness := (true, "e5952784ea71d507dc1af55c675217bfe9f5c1779aa69b2cf6d15a3dc577f26f"), looks := true }, kinds := [], alts := [], laidByText := true, laidKinds := [.sentinel, .sentinel], laidTests := true, laidLooks := .later }
def UnifyMostCardSaid : Prop := Claim7.holds Tryd.pinned (.plain (OpenSpec.ofChange unifyMostSpec)) unifyMostCard

/-- THE TIED CARD OF 'paideialaw6.UnifyOccurs'. -/
def unifyOccursCard : Claim7 := { stood := { row := unifyOccursRow, standIns := [], harness := (true, "e5952784ea71d507dc1af55c675217bfe9f5c1779aa69b2cf6d15a3dc577f26f"), looks := true }, kinds := [], alts := [], laidByText := true, laidKinds := [.sentinel, .sentinel, .sentinel, .sentinel, .sentinel, .sentinel, .sentinel, .sentinel, .sentinel, .sentinel, .sentinel, .sentinel, .sentinel, .sentinel, .sentinel], laidTests := true, laidLooks := .later }
def UnifyOccursCardSaid : Prop := Claim7.holds Tryd.pinned (.plain (OpenSpec.ofChange unifyOccursSpec)) unifyOccursCard

/-- THE TIED CARD OF 'paideialaw6.UnifyRows'. -/
def unifyRowsCard : Claim7 := { stood := { row := unifyRowsRow, standIns := [], harness := (true, "e5952784ea71d507dc1af55c675217bfe9f5c1779aa69b2cf6d15a3dc577f26f"), looks := true }, kinds := [], alts := [], laidByText := true, laidKinds := [.sentinel, .sentinel], laidTests := true, laidLooks := .later }
def UnifyRowsCardSaid : Prop := Claim7.holds Tryd.pinned (.plain (OpenSpec.ofChange unifyRowsSpec)) unifyRowsCard

/-- THE SECOND FORM's CARD OF 'paideialaw6.UnifySays'. -/
def unifySaysUptoCard : Claim7 := { stood := { row := unifySaysUptoRow, standIns := [], harness := (true, "e5952784ea71d507dc1af55c675217bfe9f5c1779aa69b2cf6d15a3dc577f26f"), looks := true }, kinds := [], alts := [], laidByText := true, laidKinds := [.sentinel, .sentinel, .sentinel, .sentinel, .sentinel, .sentinel, .sentinel, .sentinel, .sentinel, .sentinel, .sentinel, .sentinel, .sentinel, .sentinel, .sentinel], laidTests := true, laidLooks := .later }
def UnifySaysUptoCardSaid : Prop := Claim7.holds Tryd.pinned (.plain (OpenSpec.upto unifySaysSpec)) unifySaysUptoCard

/-- THE SECOND FORM's CARD OF 'paideialaw6.UnifyOne'. -/
def unifyOneUptoCard : Claim7 := { stood := { row := unifyOneUptoRow, standIns := [], harness := (true, "e5952784ea71d507dc1af55c675217bfe9f5c1779aa69b2cf6d15a3dc577f26f"), looks := true }, kinds := [], alts := [], laidByText := true, laidKinds := [.sentinel, .sentinel], laidTests := true, laidLooks := .later }
def UnifyOneUptoCardSaid : Prop := Claim7.holds Tryd.pinned (.plain (OpenSpec.upto unifyOneSpec)) unifyOneUptoCard

/-- THE SECOND FORM's CARD OF 'paideialaw6.UnifyMost'. -/
def unifyMostUptoCard : Claim7 := { stood := { row := unifyMostUptoRow, standIns := [], harness := (true, "e5952784ea71d507dc1af55c675217bfe9f5c1779aa69b2cf6d15a3dc577f26f"), looks := true }, kinds := [], alts := [], laidByText := true, laidKinds := [.sentinel, .sentinel], laidTests := true, laidLooks := .later }
def UnifyMostUptoCardSaid : Prop := Claim7.holds Tryd.pinned (.plain (OpenSpec.upto unifyMostSpec)) unifyMostUptoCard

/-- THE SECOND FORM's CARD OF 'paideialaw6.UnifyOccurs'. -/
def unifyOccursUptoCard : Claim7 := { stood := { row := unifyOccursUptoRow, standIns := [], harness := (true, "e5952784ea71d507dc1af55c675217bfe9f5c1779aa69b2cf6d15a3dc577f26f"), looks := true }, kinds := [], alts := [], laidByText := true, laidKinds := [.sentinel, .sentinel, .sentinel, .sentinel, .sentinel, .sentinel, .sentinel, .sentinel, .sentinel, .sentinel, .sentinel, .sentinel, .sentinel, .sentinel, .sentinel], laidTests := true, laidLooks := .later }
def UnifyOccursUptoCardSaid : Prop := Claim7.holds Tryd.pinned (.plain (OpenSpec.upto unifyOccursSpec)) unifyOccursUptoCard

/-- THE SECOND FORM's CARD OF 'paideialaw6.UnifyRows'. -/
def unifyRowsUptoCard : Claim7 := { stood := { row := unifyRowsUptoRow, standIns := [], harness := (true, "e5952784ea71d507dc1af55c675217bfe9f5c1779aa69b2cf6d15a3dc577f26f"), looks := true }, kinds := [], alts := [], laidByText := true, laidKinds := [.sentinel, .sentinel], laidTests := true, laidLooks := .later }
def UnifyRowsUptoCardSaid : Prop := Claim7.holds Tryd.pinned (.plain (OpenSpec.upto unifyRowsSpec)) unifyRowsUptoCard
end Rows
end Go.Proofs.YtpknncihhgfpnaaDoor
