/-
  DERIVED. GIVEN WITH THE SEED: THE CARDS: each row of YtjdkaoiokdfmgaaDoorRows.lean that lists a variable, with what it lists TIED to the program's text (the seventh form; the later family's looks); each row that meets fmt, with fmt's text TOLD by the authors' own Lean function (tested against real Go, not proved from fmt's source: count such statements apart). THE CARD IS WHAT COUNTS. Prove the row's statement (the work); the ties are given (YtjdkaoiokdfmgaaDoorTie.lean); close each card by the builder's one call (the guide's Derived/Test/ToyasCard.lean, 'card_holds'). Laid BY PROGRAM, IN A SANDBOX (cutbox-door.mjs). By AI agents, Wed Nov 11 2026. No macro, syntax, notation, axiom, sorry.
-/
import Derived.Test.YtjdkaoiokdfmgaaDoorRows
import GoSem.ClaimSeven
namespace Go.Proofs.YtjdkaoiokdfmgaaDoor
namespace Rows

/-- THE TIED CARD OF 'paideialaw26.ForceLimits'. -/
def forceLimitsCard : Claim7 := { stood := { row := forceLimitsRow, standIns := [], harness := (true, "b54cbedb374d5be87ca98cf5422134f99c511cfb7ec14513f497b3606c3ae712"), looks := true }, kinds := [], alts := [], laidByText := true, laidKinds := [.data, .data, .data, .sentinel, .sentinel, .sentinel, .sentinel, .sentinel, .sentinel, .sentinel, .sentinel, .sentinel, .sentinel, .sentinel, .sentinel, .sentinel, .sentinel, .sentinel], laidTests := true, laidLooks := .later }
def ForceLimitsCardSaid : Prop := Claim7.holds Tryd.pinned (.plain (OpenSpec.ofChange forceLimitsSpec)) forceLimitsCard

/-- THE TIED CARD OF 'paideialaw26.ForceEndless'. -/
def forceEndlessCard : Claim7 := { stood := { row := forceEndlessRow, standIns := [], harness := (true, "b54cbedb374d5be87ca98cf5422134f99c511cfb7ec14513f497b3606c3ae712"), looks := true }, kinds := [], alts := [], laidByText := true, laidKinds := [.data, .data, .data, .sentinel, .sentinel, .sentinel, .sentinel, .sentinel, .sentinel, .sentinel, .sentinel, .sentinel, .sentinel, .sentinel, .sentinel, .sentinel, .sentinel, .sentinel], laidTests := true, laidLooks := .later }
def ForceEndlessCardSaid : Prop := Claim7.holds Tryd.pinned (.plain (OpenSpec.ofChange forceEndlessSpec)) forceEndlessCard

/-- THE SECOND FORM's CARD OF 'paideialaw26.ForceLimits'. -/
def forceLimitsUptoCard : Claim7 := { stood := { row := forceLimitsUptoRow, standIns := [], harness := (true, "b54cbedb374d5be87ca98cf5422134f99c511cfb7ec14513f497b3606c3ae712"), looks := true }, kinds := [], alts := [], laidByText := true, laidKinds := [.data, .data, .data, .sentinel, .sentinel, .sentinel, .sentinel, .sentinel, .sentinel, .sentinel, .sentinel, .sentinel, .sentinel, .sentinel, .sentinel, .sentinel, .sentinel, .sentinel], laidTests := true, laidLooks := .later }
def ForceLimitsUptoCardSaid : Prop := Claim7.holds Tryd.pinned (.plain (OpenSpec.upto forceLimitsSpec)) forceLimitsUptoCard

/-- THE SECOND FORM's CARD OF 'paideialaw26.ForceEndless'. -/
def forceEndlessUptoCard : Claim7 := { stood := { row := forceEndlessUptoRow, standIns := [], harness := (true, "b54cbedb374d5be87ca98cf5422134f99c511cfb7ec14513f497b3606c3ae712"), looks := true }, kinds := [], alts := [], laidByText := true, laidKinds := [.data, .data, .data, .sentinel, .sentinel, .sentinel, .sentinel, .sentinel, .sentinel, .sentinel, .sentinel, .sentinel, .sentinel, .sentinel, .sentinel, .sentinel, .sentinel, .sentinel], laidTests := true, laidLooks := .later }
def ForceEndlessUptoCardSaid : Prop := Claim7.holds Tryd.pinned (.plain (OpenSpec.upto forceEndlessSpec)) forceEndlessUptoCard
end Rows
end Go.Proofs.YtjdkaoiokdfmgaaDoor
