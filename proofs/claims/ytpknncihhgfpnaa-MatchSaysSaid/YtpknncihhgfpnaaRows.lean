/-
  No cell of these rows narrows 'for every input' (looked for: loops, veiled, ifaces, maps, wideKeys, modest, calm, conditions, laid).
  DERIVED. THE GIVEN ROWS OF THIS SEAT. 7 by the template 'for every input the law returns true; each argument reads behind the call as it read before'; 0 by the template 'total and deterministic' (their statements: YtpknncihhgfpnaaTotals.lean).
  GIVEN WITH THE SEED: the statements are not yours to turn. If you find one false, say at which input.
  Laid BY PROGRAM, IN A SANDBOX (cutbox-rows.mjs): the forced cells as the released guide's own fill.sh prints them over the translation 607c6999fb26df34… (all of the seat's roots in one cut). By AI agents, Wed Nov 11 2026. No macro, syntax, notation, axiom, sorry.
-/
import Derived.Test.YtpknncihhgfpnaaChecked
import GoSem.Claim
import GoSem.ClaimJoined
import GoSem.ClaimMapViews
import Derived.JoinedTies
import Derived.KernelRfl
namespace Go.Proofs.Ytpknncihhgfpnaa
/- THE CELL 'sum', in the pinned program and in every row, IS THE sha256 OF THE DUMP (.gsa) THAT YtpknncihhgfpnaaProg.lean LOADS. Nothing in Lean hashes anything: it is a label: what it is worth is what the hold of that sum in a sandbox is worth. -/
noncomputable def Try.pinned : Pinned := { name := "ytpknncihhgfpnaa", sum := "607c6999fb26df349a2d702c3d38ca7d309b3f3518bb424ac664b060b8933126", checked := Try.checked }
namespace Rows
def none {H : Type} : Left H := { results := [], args := [] }

/-- 'paideialaw17.TermFree': WHATEVER THE INPUT: true; the input reads as it did. -/
def termFreeSpec : ChangeSpec := { name := "termFree", fn := fun _ => fun
  | [d1, d2] => { results := [.lit (.bool true)], args := [d1, d2] }
  | _ => none }
def termFreeRow : OpenClaim := { program := "ytpknncihhgfpnaa", sum := "607c6999fb26df349a2d702c3d38ca7d309b3f3518bb424ac664b060b8933126", func := "paideia/paideialaw17.TermFree", spec := "termFree", unfollowed := true, recurses := true, apart := false }
def TermFreeSaid : Prop := termFreeRow.holds Try.pinned (OpenSpec.ofChange termFreeSpec)

/-- ITS FALSE NEIGHBOUR: 'it returns false'. Refute it at one input. -/
def termFreeWrong : ChangeSpec := { name := "termFree", fn := fun _ => fun
  | [d1, d2] => { results := [.lit (.bool false)], args := [d1, d2] }
  | _ => none }
def TermFreeWrongFalsely : Prop := termFreeRow.holds Try.pinned (OpenSpec.ofChange termFreeWrong)

/-- 'paideialaw4.TypesOrder': WHATEVER THE INPUT: true; the input reads as it did. -/
def typesOrderSpec : ChangeSpec := { name := "typesOrder", fn := fun _ => fun
  | [d1, d2, d3] => { results := [.lit (.bool true)], args := [d1, d2, d3] }
  | _ => none }
def typesOrderRow : OpenClaim := { program := "ytpknncihhgfpnaa", sum := "607c6999fb26df349a2d702c3d38ca7d309b3f3518bb424ac664b060b8933126", func := "paideia/paideialaw4.TypesOrder", spec := "typesOrder", inPlace := ["internal/bytealg.abigen_runtime_cmpstring"], unfollowed := true, recurses := true, apart := false }
def TypesOrderSaid : Prop := typesOrderRow.holds Try.pinned (OpenSpec.ofChange typesOrderSpec)

/-- ITS FALSE NEIGHBOUR: 'it returns false'. Refute it at one input. -/
def typesOrderWrong : ChangeSpec := { name := "typesOrder", fn := fun _ => fun
  | [d1, d2, d3] => { results := [.lit (.bool false)], args := [d1, d2, d3] }
  | _ => none }
def TypesOrderWrongFalsely : Prop := typesOrderRow.holds Try.pinned (OpenSpec.ofChange typesOrderWrong)

/-- 'paideialaw2.PrinterUnlike': WHATEVER THE INPUT: true; the input reads as it did. -/
def printerUnlikeSpec : ChangeSpec := { name := "printerUnlike", fn := fun _ => fun
  | [d1, d2] => { results := [.lit (.bool true)], args := [d1, d2] }
  | _ => none }
def printerUnlikeRow : OpenClaim := { program := "ytpknncihhgfpnaa", sum := "607c6999fb26df349a2d702c3d38ca7d309b3f3518bb424ac664b060b8933126", func := "paideia/paideialaw2.PrinterUnlike", spec := "printerUnlike", inPlace := ["internal/abi.NoEscape", "internal/bytealg.MakeNoZero"], unfollowed := true, recurses := true, apart := false }
def PrinterUnlikeSaid : Prop := printerUnlikeRow.holds Try.pinned (OpenSpec.ofChange printerUnlikeSpec)

/-- ITS FALSE NEIGHBOUR: 'it returns false'. Refute it at one input. -/
def printerUnlikeWrong : ChangeSpec := { name := "printerUnlike", fn := fun _ => fun
  | [d1, d2] => { results := [.lit (.bool false)], args := [d1, d2] }
  | _ => none }
def PrinterUnlikeWrongFalsely : Prop := printerUnlikeRow.holds Try.pinned (OpenSpec.ofChange printerUnlikeWrong)

/-- 'paideialaw2.PrinterTypes': WHATEVER THE INPUT: true; the input reads as it did. -/
def printerTypesSpec : ChangeSpec := { name := "printerTypes", fn := fun _ => fun
  | [d] => { results := [.lit (.bool true)], args := [d] }
  | _ => none }
def printerTypesRow : OpenClaim := { program := "ytpknncihhgfpnaa", sum := "607c6999fb26df349a2d702c3d38ca7d309b3f3518bb424ac664b060b8933126", func := "paideia/paideialaw2.PrinterTypes", spec := "printerTypes", inPlace := ["internal/abi.NoEscape", "internal/bytealg.MakeNoZero"], unfollowed := true, recurses := true, apart := false }
def PrinterTypesSaid : Prop := printerTypesRow.holds Try.pinned (OpenSpec.ofChange printerTypesSpec)

/-- ITS FALSE NEIGHBOUR: 'it returns false'. Refute it at one input. -/
def printerTypesWrong : ChangeSpec := { name := "printerTypes", fn := fun _ => fun
  | [d] => { results := [.lit (.bool false)], args := [d] }
  | _ => none }
def PrinterTypesWrongFalsely : Prop := printerTypesRow.holds Try.pinned (OpenSpec.ofChange printerTypesWrong)

/-- 'paideialaw7.MatchCases': WHATEVER THE INPUT: true; the input reads as it did. -/
def matchCasesSpec : ChangeSpec := { name := "matchCases", fn := fun _ => fun
  | [d1, d2, d3] => { results := [.lit (.bool true)], args := [d1, d2, d3] }
  | _ => none }
def matchCasesRow : OpenClaim := { program := "ytpknncihhgfpnaa", sum := "607c6999fb26df349a2d702c3d38ca7d309b3f3518bb424ac664b060b8933126", func := "paideia/paideialaw7.MatchCases", spec := "matchCases", inPlace := ["internal/bytealg.abigen_runtime_cmpstring"], unfollowed := true, recurses := true, apart := false }
def MatchCasesSaid : Prop := matchCasesRow.holds Try.pinned (OpenSpec.ofChange matchCasesSpec)

/-- ITS FALSE NEIGHBOUR: 'it returns false'. Refute it at one input. -/
def matchCasesWrong : ChangeSpec := { name := "matchCases", fn := fun _ => fun
  | [d1, d2, d3] => { results := [.lit (.bool false)], args := [d1, d2, d3] }
  | _ => none }
def MatchCasesWrongFalsely : Prop := matchCasesRow.holds Try.pinned (OpenSpec.ofChange matchCasesWrong)

/-- 'paideialaw7.MatchOnce': WHATEVER THE INPUT: true; the input reads as it did. -/
def matchOnceSpec : ChangeSpec := { name := "matchOnce", fn := fun _ => fun
  | [d1, d2] => { results := [.lit (.bool true)], args := [d1, d2] }
  | _ => none }
def matchOnceRow : OpenClaim := { program := "ytpknncihhgfpnaa", sum := "607c6999fb26df349a2d702c3d38ca7d309b3f3518bb424ac664b060b8933126", func := "paideia/paideialaw7.MatchOnce", spec := "matchOnce", inPlace := ["internal/bytealg.abigen_runtime_cmpstring"], unfollowed := true, recurses := true, apart := false }
def MatchOnceSaid : Prop := matchOnceRow.holds Try.pinned (OpenSpec.ofChange matchOnceSpec)

/-- ITS FALSE NEIGHBOUR: 'it returns false'. Refute it at one input. -/
def matchOnceWrong : ChangeSpec := { name := "matchOnce", fn := fun _ => fun
  | [d1, d2] => { results := [.lit (.bool false)], args := [d1, d2] }
  | _ => none }
def MatchOnceWrongFalsely : Prop := matchOnceRow.holds Try.pinned (OpenSpec.ofChange matchOnceWrong)

/-- 'paideialaw7.MatchSays': WHATEVER THE INPUT: true; the input reads as it did. -/
def matchSaysSpec : ChangeSpec := { name := "matchSays", fn := fun _ => fun
  | [d1, d2] => { results := [.lit (.bool true)], args := [d1, d2] }
  | _ => none }
def matchSaysRow : OpenClaim := { program := "ytpknncihhgfpnaa", sum := "607c6999fb26df349a2d702c3d38ca7d309b3f3518bb424ac664b060b8933126", func := "paideia/paideialaw7.MatchSays", spec := "matchSays", inPlace := ["internal/bytealg.abigen_runtime_cmpstring"], unfollowed := true, recurses := true, apart := false }
def MatchSaysSaid : Prop := matchSaysRow.holds Try.pinned (OpenSpec.ofChange matchSaysSpec)

/-- ITS FALSE NEIGHBOUR: 'it returns false'. Refute it at one input. -/
def matchSaysWrong : ChangeSpec := { name := "matchSays", fn := fun _ => fun
  | [d1, d2] => { results := [.lit (.bool false)], args := [d1, d2] }
  | _ => none }
def MatchSaysWrongFalsely : Prop := matchSaysRow.holds Try.pinned (OpenSpec.ofChange matchSaysWrong)

/- THE SECOND FORM. 'bulk': how many values and letters a reading holds, each counted each time it is reached (what is shared counts as often as it is met; a slice's spare places count too). A statement '..UptoSaid' is the law's where the arguments, and the package variables that the reading takes, are together of bulk at most 1048576: NARROWER than '..Said'. Prove '..Said' where nothing that the law and all that it calls make is longer than what came in: it says more and counts as full. Else prove '..UptoSaid'. A law counts once. -/
mutual
def uptoBulk {H : Type} : DataW H → Nat
  | .lit (.string bytes) => bytes.length + 1
  | .lit _ => 1
  | .nil => 1
  | .ptr d => uptoBulk d + 1
  | .slice elems spare => uptoBulkAll elems + uptoBulkAll spare + 1
  | .agg parts => uptoBulkAll parts + 1
  | .iface _ d => uptoBulk d + 1
  | .map entries => uptoBulkEntries entries + 1
  | .held _ => 1
def uptoBulkAll {H : Type} : List (DataW H) → Nat
  | [] => 0
  | d :: r => uptoBulk d + uptoBulkAll r
def uptoBulkEntries {H : Type} : List (Lit × DataW H) → Nat
  | [] => 0
  | x :: r => uptoBulkEntry x + uptoBulkEntries r
def uptoBulkEntry {H : Type} : Lit × DataW H → Nat
  | (.string bytes, d) => bytes.length + uptoBulk d + 1
  | (_, d) => uptoBulk d + 1
 end
def uptoSmall : (H : Type) → List (DataW H) → Bool := fun _ ds => decide (uptoBulkAll ds ≤ 1048576)
def OpenSpec.upto (s : _root_.Go.ChangeSpec) : _root_.Go.OpenSpec := { _root_.Go.OpenSpec.ofChange s with cond := some uptoSmall }

/-- 'paideialaw17.TermFree', WHERE WHAT IT READS IS OF BULK AT MOST 1048576: true; the input reads as it did. -/
def termFreeUptoRow : OpenClaim := { program := "ytpknncihhgfpnaa", sum := "607c6999fb26df349a2d702c3d38ca7d309b3f3518bb424ac664b060b8933126", func := "paideia/paideialaw17.TermFree", spec := "termFree", unfollowed := true, recurses := true, apart := false, narrowed := true }
def TermFreeUptoSaid : Prop := termFreeUptoRow.holds Try.pinned (OpenSpec.upto termFreeSpec)

/-- 'paideialaw4.TypesOrder', WHERE WHAT IT READS IS OF BULK AT MOST 1048576: true; the input reads as it did. -/
def typesOrderUptoRow : OpenClaim := { program := "ytpknncihhgfpnaa", sum := "607c6999fb26df349a2d702c3d38ca7d309b3f3518bb424ac664b060b8933126", func := "paideia/paideialaw4.TypesOrder", spec := "typesOrder", inPlace := ["internal/bytealg.abigen_runtime_cmpstring"], unfollowed := true, recurses := true, apart := false, narrowed := true }
def TypesOrderUptoSaid : Prop := typesOrderUptoRow.holds Try.pinned (OpenSpec.upto typesOrderSpec)

/-- 'paideialaw2.PrinterUnlike', WHERE WHAT IT READS IS OF BULK AT MOST 1048576: true; the input reads as it did. -/
def printerUnlikeUptoRow : OpenClaim := { program := "ytpknncihhgfpnaa", sum := "607c6999fb26df349a2d702c3d38ca7d309b3f3518bb424ac664b060b8933126", func := "paideia/paideialaw2.PrinterUnlike", spec := "printerUnlike", inPlace := ["internal/abi.NoEscape", "internal/bytealg.MakeNoZero"], unfollowed := true, recurses := true, apart := false, narrowed := true }
def PrinterUnlikeUptoSaid : Prop := printerUnlikeUptoRow.holds Try.pinned (OpenSpec.upto printerUnlikeSpec)

/-- 'paideialaw2.PrinterTypes', WHERE WHAT IT READS IS OF BULK AT MOST 1048576: true; the input reads as it did. -/
def printerTypesUptoRow : OpenClaim := { program := "ytpknncihhgfpnaa", sum := "607c6999fb26df349a2d702c3d38ca7d309b3f3518bb424ac664b060b8933126", func := "paideia/paideialaw2.PrinterTypes", spec := "printerTypes", inPlace := ["internal/abi.NoEscape", "internal/bytealg.MakeNoZero"], unfollowed := true, recurses := true, apart := false, narrowed := true }
def PrinterTypesUptoSaid : Prop := printerTypesUptoRow.holds Try.pinned (OpenSpec.upto printerTypesSpec)

/-- 'paideialaw7.MatchCases', WHERE WHAT IT READS IS OF BULK AT MOST 1048576: true; the input reads as it did. -/
def matchCasesUptoRow : OpenClaim := { program := "ytpknncihhgfpnaa", sum := "607c6999fb26df349a2d702c3d38ca7d309b3f3518bb424ac664b060b8933126", func := "paideia/paideialaw7.MatchCases", spec := "matchCases", inPlace := ["internal/bytealg.abigen_runtime_cmpstring"], unfollowed := true, recurses := true, apart := false, narrowed := true }
def MatchCasesUptoSaid : Prop := matchCasesUptoRow.holds Try.pinned (OpenSpec.upto matchCasesSpec)

/-- 'paideialaw7.MatchOnce', WHERE WHAT IT READS IS OF BULK AT MOST 1048576: true; the input reads as it did. -/
def matchOnceUptoRow : OpenClaim := { program := "ytpknncihhgfpnaa", sum := "607c6999fb26df349a2d702c3d38ca7d309b3f3518bb424ac664b060b8933126", func := "paideia/paideialaw7.MatchOnce", spec := "matchOnce", inPlace := ["internal/bytealg.abigen_runtime_cmpstring"], unfollowed := true, recurses := true, apart := false, narrowed := true }
def MatchOnceUptoSaid : Prop := matchOnceUptoRow.holds Try.pinned (OpenSpec.upto matchOnceSpec)

/-- 'paideialaw7.MatchSays', WHERE WHAT IT READS IS OF BULK AT MOST 1048576: true; the input reads as it did. -/
def matchSaysUptoRow : OpenClaim := { program := "ytpknncihhgfpnaa", sum := "607c6999fb26df349a2d702c3d38ca7d309b3f3518bb424ac664b060b8933126", func := "paideia/paideialaw7.MatchSays", spec := "matchSays", inPlace := ["internal/bytealg.abigen_runtime_cmpstring"], unfollowed := true, recurses := true, apart := false, narrowed := true }
def MatchSaysUptoSaid : Prop := matchSaysUptoRow.holds Try.pinned (OpenSpec.upto matchSaysSpec)

end Rows
end Go.Proofs.Ytpknncihhgfpnaa
