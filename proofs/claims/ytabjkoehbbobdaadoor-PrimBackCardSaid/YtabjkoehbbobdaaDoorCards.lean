/-
  DERIVED. GIVEN WITH THE SEED: THE CARDS: each row of YtabjkoehbbobdaaDoorRows.lean that lists a variable, with what it lists TIED to the program's text (the seventh form; the later family's looks); each row that meets fmt, with fmt's text TOLD by the authors' own Lean function (tested against real Go, not proved from fmt's source: count such statements apart). THE CARD IS WHAT COUNTS. Prove the row's statement (the work); the ties are given (YtabjkoehbbobdaaDoorTie.lean); close each card by the builder's one call (the guide's Derived/Test/ToyasCard.lean, 'card_holds'). Laid BY PROGRAM, IN A SANDBOX (cutbox-door.mjs). By AI agents, Wed Nov 11 2026. No macro, syntax, notation, axiom, sorry.
-/
import Derived.Test.YtabjkoehbbobdaaDoorRows
import GoSem.ClaimSeven
namespace Go.Proofs.YtabjkoehbbobdaaDoor
namespace Rows

/-- THE TIED CARD OF 'paideialaw6.UnifySays'. -/
def unifySaysCard : Claim7 := { stood := { row := unifySaysRow, standIns := [], harness := (true, "bc621122787b03ffae40185568870c57fd3a1d79e054b0f25c594ac904537e90"), looks := true }, kinds := [], alts := [], laidByText := true, laidKinds := [.sentinel, .sentinel, .sentinel, .sentinel, .sentinel, .sentinel, .sentinel, .sentinel, .sentinel, .sentinel, .sentinel, .sentinel, .sentinel, .sentinel, .sentinel], laidTests := true, laidLooks := .later }
def UnifySaysCardSaid : Prop := Claim7.holds Tryd.pinned (.plain (OpenSpec.ofChange unifySaysSpec)) unifySaysCard

/-- THE TIED CARD OF 'paideialaw6.UnifyMost'. -/
def unifyMostCard : Claim7 := { stood := { row := unifyMostRow, standIns := [], harness := (true, "bc621122787b03ffae40185568870c57fd3a1d79e054b0f25c594ac904537e90"), looks := true }, kinds := [], alts := [], laidByText := true, laidKinds := [.sentinel, .sentinel], laidTests := true, laidLooks := .later }
def UnifyMostCardSaid : Prop := Claim7.holds Tryd.pinned (.plain (OpenSpec.ofChange unifyMostSpec)) unifyMostCard

/-- THE TIED CARD OF 'paideialaw6.UnifyRows'. -/
def unifyRowsCard : Claim7 := { stood := { row := unifyRowsRow, standIns := [], harness := (true, "bc621122787b03ffae40185568870c57fd3a1d79e054b0f25c594ac904537e90"), looks := true }, kinds := [], alts := [], laidByText := true, laidKinds := [.sentinel, .sentinel], laidTests := true, laidLooks := .later }
def UnifyRowsCardSaid : Prop := Claim7.holds Tryd.pinned (.plain (OpenSpec.ofChange unifyRowsSpec)) unifyRowsCard

/-- THE TIED CARD OF 'paideialaw23.PrimBack'. -/
def primBackCard : Claim7 := { stood := { row := primBackRow, standIns := [], harness := (true, "bc621122787b03ffae40185568870c57fd3a1d79e054b0f25c594ac904537e90"), looks := true }, kinds := [], alts := [], laidByText := true, laidKinds := [.data, .data, .data], laidTests := true, laidLooks := .later }
def PrimBackCardSaid : Prop := Claim7.holds Tryd.pinned (.plain (OpenSpec.ofChange primBackSpec)) primBackCard

/-- THE TIED CARD OF 'paideialaw23.PrimSays'. -/
def primSaysCard : Claim7 := { stood := { row := primSaysRow, standIns := [], harness := (true, "bc621122787b03ffae40185568870c57fd3a1d79e054b0f25c594ac904537e90"), looks := true }, kinds := [], alts := [], laidByText := true, laidKinds := [.data, .data, .data], laidTests := true, laidLooks := .later }
def PrimSaysCardSaid : Prop := Claim7.holds Tryd.pinned (.plain (OpenSpec.ofChange primSaysSpec)) primSaysCard

/-- THE SECOND FORM's CARD OF 'paideialaw6.UnifySays'. -/
def unifySaysUptoCard : Claim7 := { stood := { row := unifySaysUptoRow, standIns := [], harness := (true, "bc621122787b03ffae40185568870c57fd3a1d79e054b0f25c594ac904537e90"), looks := true }, kinds := [], alts := [], laidByText := true, laidKinds := [.sentinel, .sentinel, .sentinel, .sentinel, .sentinel, .sentinel, .sentinel, .sentinel, .sentinel, .sentinel, .sentinel, .sentinel, .sentinel, .sentinel, .sentinel], laidTests := true, laidLooks := .later }
def UnifySaysUptoCardSaid : Prop := Claim7.holds Tryd.pinned (.plain (OpenSpec.upto unifySaysSpec)) unifySaysUptoCard

/-- THE SECOND FORM's CARD OF 'paideialaw6.UnifyMost'. -/
def unifyMostUptoCard : Claim7 := { stood := { row := unifyMostUptoRow, standIns := [], harness := (true, "bc621122787b03ffae40185568870c57fd3a1d79e054b0f25c594ac904537e90"), looks := true }, kinds := [], alts := [], laidByText := true, laidKinds := [.sentinel, .sentinel], laidTests := true, laidLooks := .later }
def UnifyMostUptoCardSaid : Prop := Claim7.holds Tryd.pinned (.plain (OpenSpec.upto unifyMostSpec)) unifyMostUptoCard

/-- THE SECOND FORM's CARD OF 'paideialaw6.UnifyRows'. -/
def unifyRowsUptoCard : Claim7 := { stood := { row := unifyRowsUptoRow, standIns := [], harness := (true, "bc621122787b03ffae40185568870c57fd3a1d79e054b0f25c594ac904537e90"), looks := true }, kinds := [], alts := [], laidByText := true, laidKinds := [.sentinel, .sentinel], laidTests := true, laidLooks := .later }
def UnifyRowsUptoCardSaid : Prop := Claim7.holds Tryd.pinned (.plain (OpenSpec.upto unifyRowsSpec)) unifyRowsUptoCard

/-- THE SECOND FORM's CARD OF 'paideialaw23.PrimBack'. -/
def primBackUptoCard : Claim7 := { stood := { row := primBackUptoRow, standIns := [], harness := (true, "bc621122787b03ffae40185568870c57fd3a1d79e054b0f25c594ac904537e90"), looks := true }, kinds := [], alts := [], laidByText := true, laidKinds := [.data, .data, .data], laidTests := true, laidLooks := .later }
def PrimBackUptoCardSaid : Prop := Claim7.holds Tryd.pinned (.plain (OpenSpec.upto primBackSpec)) primBackUptoCard

/-- THE SECOND FORM's CARD OF 'paideialaw23.PrimSays'. -/
def primSaysUptoCard : Claim7 := { stood := { row := primSaysUptoRow, standIns := [], harness := (true, "bc621122787b03ffae40185568870c57fd3a1d79e054b0f25c594ac904537e90"), looks := true }, kinds := [], alts := [], laidByText := true, laidKinds := [.data, .data, .data], laidTests := true, laidLooks := .later }
def PrimSaysUptoCardSaid : Prop := Claim7.holds Tryd.pinned (.plain (OpenSpec.upto primSaysSpec)) primSaysUptoCard
end Rows
end Go.Proofs.YtabjkoehbbobdaaDoor
