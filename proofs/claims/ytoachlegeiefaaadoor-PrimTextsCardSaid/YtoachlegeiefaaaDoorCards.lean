/-
  DERIVED. GIVEN WITH THE SEED: THE CARDS: each row of YtoachlegeiefaaaDoorRows.lean that lists a variable, with what it lists TIED to the program's text (the seventh form; the later family's looks); each row that meets fmt, with fmt's text TOLD by the authors' own Lean function (tested against real Go, not proved from fmt's source: count such statements apart). THE CARD IS WHAT COUNTS. Prove the row's statement (the work); the ties are given (YtoachlegeiefaaaDoorTie.lean); close each card by the builder's one call (the guide's Derived/Test/ToyasCard.lean, 'card_holds'). Laid BY PROGRAM, IN A SANDBOX (cutbox-door.mjs). By AI agents, Wed Nov 11 2026. No macro, syntax, notation, axiom, sorry.
-/
import Derived.Test.YtoachlegeiefaaaDoorRows
import GoSem.ClaimSeven
namespace Go.Proofs.YtoachlegeiefaaaDoor
namespace Rows

/-- THE TIED CARD OF 'paideialaw11.ConsTwice'. -/
def consTwiceCard : Claim7 := { stood := { row := consTwiceRow, standIns := [], harness := (true, "684f11abec9811854e48192d57e89f3e90210b2b22933a48e9a2ffb3377b8c4f"), looks := false }, kinds := [], alts := [], laidByText := true, laidKinds := [.sentinel, .sentinel, .sentinel], laidTests := true, laidLooks := .later }
def ConsTwiceCardSaid : Prop := Claim7.holds Tryd.pinned (.plain (OpenSpec.ofChange consTwiceSpec)) consTwiceCard

/-- THE TIED CARD OF 'paideialaw11.ConsSchemes'. -/
def consSchemesCard : Claim7 := { stood := { row := consSchemesRow, standIns := [], harness := (true, "684f11abec9811854e48192d57e89f3e90210b2b22933a48e9a2ffb3377b8c4f"), looks := false }, kinds := [], alts := [], laidByText := true, laidKinds := [.sentinel, .sentinel, .sentinel], laidTests := true, laidLooks := .later }
def ConsSchemesCardSaid : Prop := Claim7.holds Tryd.pinned (.plain (OpenSpec.ofChange consSchemesSpec)) consSchemesCard

/-- THE TIED CARD OF 'paideialaw23.PrimTexts'. -/
def primTextsCard : Claim7 := { stood := { row := primTextsRow, standIns := [], harness := (true, "684f11abec9811854e48192d57e89f3e90210b2b22933a48e9a2ffb3377b8c4f"), looks := false }, kinds := [], alts := [], laidByText := true, laidKinds := [.data, .data, .data], laidTests := true, laidLooks := .later }
def PrimTextsCardSaid : Prop := Claim7.holds Tryd.pinned (.plain (OpenSpec.ofChange primTextsSpec)) primTextsCard

/-- THE TIED CARD OF 'paideialaw23.PrimBack'. -/
def primBackCard : Claim7 := { stood := { row := primBackRow, standIns := [], harness := (true, "684f11abec9811854e48192d57e89f3e90210b2b22933a48e9a2ffb3377b8c4f"), looks := false }, kinds := [], alts := [], laidByText := true, laidKinds := [.data, .data, .data], laidTests := true, laidLooks := .later }
def PrimBackCardSaid : Prop := Claim7.holds Tryd.pinned (.plain (OpenSpec.ofChange primBackSpec)) primBackCard

/-- THE TIED CARD OF 'paideialaw23.PrimSays'. -/
def primSaysCard : Claim7 := { stood := { row := primSaysRow, standIns := [], harness := (true, "684f11abec9811854e48192d57e89f3e90210b2b22933a48e9a2ffb3377b8c4f"), looks := false }, kinds := [], alts := [], laidByText := true, laidKinds := [.data, .data, .data], laidTests := true, laidLooks := .later }
def PrimSaysCardSaid : Prop := Claim7.holds Tryd.pinned (.plain (OpenSpec.ofChange primSaysSpec)) primSaysCard

/-- THE TIED CARD OF 'paideialaw23.PrimLaws'. -/
def primLawsCard : Claim7 := { stood := { row := primLawsRow, standIns := [], harness := (true, "684f11abec9811854e48192d57e89f3e90210b2b22933a48e9a2ffb3377b8c4f"), looks := false }, kinds := [], alts := [], laidByText := true, laidKinds := [.data, .data, .data], laidTests := true, laidLooks := .later }
def PrimLawsCardSaid : Prop := Claim7.holds Tryd.pinned (.plain (OpenSpec.ofChange primLawsSpec)) primLawsCard

/-- THE SECOND FORM's CARD OF 'paideialaw11.ConsTwice'. -/
def consTwiceUptoCard : Claim7 := { stood := { row := consTwiceUptoRow, standIns := [], harness := (true, "684f11abec9811854e48192d57e89f3e90210b2b22933a48e9a2ffb3377b8c4f"), looks := false }, kinds := [], alts := [], laidByText := true, laidKinds := [.sentinel, .sentinel, .sentinel], laidTests := true, laidLooks := .later }
def ConsTwiceUptoCardSaid : Prop := Claim7.holds Tryd.pinned (.plain (OpenSpec.upto consTwiceSpec)) consTwiceUptoCard

/-- THE SECOND FORM's CARD OF 'paideialaw11.ConsSchemes'. -/
def consSchemesUptoCard : Claim7 := { stood := { row := consSchemesUptoRow, standIns := [], harness := (true, "684f11abec9811854e48192d57e89f3e90210b2b22933a48e9a2ffb3377b8c4f"), looks := false }, kinds := [], alts := [], laidByText := true, laidKinds := [.sentinel, .sentinel, .sentinel], laidTests := true, laidLooks := .later }
def ConsSchemesUptoCardSaid : Prop := Claim7.holds Tryd.pinned (.plain (OpenSpec.upto consSchemesSpec)) consSchemesUptoCard

/-- THE SECOND FORM's CARD OF 'paideialaw23.PrimTexts'. -/
def primTextsUptoCard : Claim7 := { stood := { row := primTextsUptoRow, standIns := [], harness := (true, "684f11abec9811854e48192d57e89f3e90210b2b22933a48e9a2ffb3377b8c4f"), looks := false }, kinds := [], alts := [], laidByText := true, laidKinds := [.data, .data, .data], laidTests := true, laidLooks := .later }
def PrimTextsUptoCardSaid : Prop := Claim7.holds Tryd.pinned (.plain (OpenSpec.upto primTextsSpec)) primTextsUptoCard

/-- THE SECOND FORM's CARD OF 'paideialaw23.PrimBack'. -/
def primBackUptoCard : Claim7 := { stood := { row := primBackUptoRow, standIns := [], harness := (true, "684f11abec9811854e48192d57e89f3e90210b2b22933a48e9a2ffb3377b8c4f"), looks := false }, kinds := [], alts := [], laidByText := true, laidKinds := [.data, .data, .data], laidTests := true, laidLooks := .later }
def PrimBackUptoCardSaid : Prop := Claim7.holds Tryd.pinned (.plain (OpenSpec.upto primBackSpec)) primBackUptoCard

/-- THE SECOND FORM's CARD OF 'paideialaw23.PrimSays'. -/
def primSaysUptoCard : Claim7 := { stood := { row := primSaysUptoRow, standIns := [], harness := (true, "684f11abec9811854e48192d57e89f3e90210b2b22933a48e9a2ffb3377b8c4f"), looks := false }, kinds := [], alts := [], laidByText := true, laidKinds := [.data, .data, .data], laidTests := true, laidLooks := .later }
def PrimSaysUptoCardSaid : Prop := Claim7.holds Tryd.pinned (.plain (OpenSpec.upto primSaysSpec)) primSaysUptoCard

/-- THE SECOND FORM's CARD OF 'paideialaw23.PrimLaws'. -/
def primLawsUptoCard : Claim7 := { stood := { row := primLawsUptoRow, standIns := [], harness := (true, "684f11abec9811854e48192d57e89f3e90210b2b22933a48e9a2ffb3377b8c4f"), looks := false }, kinds := [], alts := [], laidByText := true, laidKinds := [.data, .data, .data], laidTests := true, laidLooks := .later }
def PrimLawsUptoCardSaid : Prop := Claim7.holds Tryd.pinned (.plain (OpenSpec.upto primLawsSpec)) primLawsUptoCard
end Rows
end Go.Proofs.YtoachlegeiefaaaDoor
