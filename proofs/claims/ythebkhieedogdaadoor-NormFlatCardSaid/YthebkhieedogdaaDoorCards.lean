/-
  DERIVED. GIVEN WITH THE SEED: THE CARDS: each row of YthebkhieedogdaaDoorRows.lean that lists a variable, with what it lists TIED to the program's text (the seventh form; the later family's looks); each row that meets fmt, with fmt's text TOLD by the authors' own Lean function (tested against real Go, not proved from fmt's source: count such statements apart). THE CARD IS WHAT COUNTS. Prove the row's statement (the work); the ties are given (YthebkhieedogdaaDoorTie.lean); close each card by the builder's one call (the guide's Derived/Test/ToyasCard.lean, 'card_holds'). Laid BY PROGRAM, IN A SANDBOX (cutbox-door.mjs). By AI agents, Wed Nov 11 2026. No macro, syntax, notation, axiom, sorry.
-/
import Derived.Test.YthebkhieedogdaaDoorRows
import GoSem.ClaimSeven
namespace Go.Proofs.YthebkhieedogdaaDoor
namespace Rows

/-- THE TIED CARD OF 'paideialaw11.ConsTwice'. -/
def consTwiceCard : Claim7 := { stood := { row := consTwiceRow, standIns := [], harness := (true, "3d24d735c4f306cb745ebc6c79d1f3cec5d4e9d05589921044d626c69b18c319"), looks := false }, kinds := [], alts := [], laidByText := true, laidKinds := [.sentinel, .sentinel, .sentinel], laidTests := true, laidLooks := .later }
def ConsTwiceCardSaid : Prop := Claim7.holds Tryd.pinned (.plain (OpenSpec.ofChange consTwiceSpec)) consTwiceCard

/-- THE TIED CARD OF 'paideialaw24.NormFlat'. -/
def normFlatCard : Claim7 := { stood := { row := normFlatRow, standIns := [], harness := (true, "3d24d735c4f306cb745ebc6c79d1f3cec5d4e9d05589921044d626c69b18c319"), looks := false }, kinds := [], alts := [], laidByText := true, laidKinds := [.data, .data, .data], laidTests := true, laidLooks := .later }
def NormFlatCardSaid : Prop := Claim7.holds Tryd.pinned (.plain (OpenSpec.ofChange normFlatSpec)) normFlatCard

/-- THE TIED CARD OF 'paideialaw17.TermBuilds'. -/
def termBuildsCard : Claim7 := { stood := { row := termBuildsRow, standIns := [], harness := (true, "3d24d735c4f306cb745ebc6c79d1f3cec5d4e9d05589921044d626c69b18c319"), looks := false }, kinds := [], alts := [], laidByText := true, laidKinds := [.data, .data, .data, .listed, .data], laidTests := true, laidLooks := .later }
def TermBuildsCardSaid : Prop := Claim7.holds Tryd.pinned (.plain (OpenSpec.ofChange termBuildsSpec)) termBuildsCard

/-- THE SECOND FORM's CARD OF 'paideialaw11.ConsTwice'. -/
def consTwiceUptoCard : Claim7 := { stood := { row := consTwiceUptoRow, standIns := [], harness := (true, "3d24d735c4f306cb745ebc6c79d1f3cec5d4e9d05589921044d626c69b18c319"), looks := false }, kinds := [], alts := [], laidByText := true, laidKinds := [.sentinel, .sentinel, .sentinel], laidTests := true, laidLooks := .later }
def ConsTwiceUptoCardSaid : Prop := Claim7.holds Tryd.pinned (.plain (OpenSpec.upto consTwiceSpec)) consTwiceUptoCard

/-- THE SECOND FORM's CARD OF 'paideialaw24.NormFlat'. -/
def normFlatUptoCard : Claim7 := { stood := { row := normFlatUptoRow, standIns := [], harness := (true, "3d24d735c4f306cb745ebc6c79d1f3cec5d4e9d05589921044d626c69b18c319"), looks := false }, kinds := [], alts := [], laidByText := true, laidKinds := [.data, .data, .data], laidTests := true, laidLooks := .later }
def NormFlatUptoCardSaid : Prop := Claim7.holds Tryd.pinned (.plain (OpenSpec.upto normFlatSpec)) normFlatUptoCard

/-- THE SECOND FORM's CARD OF 'paideialaw17.TermBuilds'. -/
def termBuildsUptoCard : Claim7 := { stood := { row := termBuildsUptoRow, standIns := [], harness := (true, "3d24d735c4f306cb745ebc6c79d1f3cec5d4e9d05589921044d626c69b18c319"), looks := false }, kinds := [], alts := [], laidByText := true, laidKinds := [.data, .data, .data, .listed, .data], laidTests := true, laidLooks := .later }
def TermBuildsUptoCardSaid : Prop := Claim7.holds Tryd.pinned (.plain (OpenSpec.upto termBuildsSpec)) termBuildsUptoCard
end Rows
end Go.Proofs.YthebkhieedogdaaDoor
