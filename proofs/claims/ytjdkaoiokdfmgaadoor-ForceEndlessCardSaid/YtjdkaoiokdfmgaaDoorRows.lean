/-
  NARROWER THAN 'FOR EVERY INPUT', by the rows' own cells (each row's printed sentence says how): ForceLimits: laid · ForceEndless: laid.
  DERIVED. THE GIVEN ROWS OF THIS SEAT. 2 by the template 'for every input the law returns true; each argument reads behind the call as it read before'; 0 by the template 'total and deterministic' (their statements: YtjdkaoiokdfmgaaDoorTotals.lean).
  GIVEN WITH THE SEED: the statements are not yours to turn. If you find one false, say at which input.
  Laid BY PROGRAM, IN A SANDBOX (cutbox-rows.mjs): the forced cells as the released guide's own fill.sh prints them over the translation 58cc36ff6487efe2… (all of the seat's roots in one cut). By AI agents, Wed Nov 11 2026. No macro, syntax, notation, axiom, sorry.
-/
import Derived.Test.YtjdkaoiokdfmgaaDoorChecked
import GoSem.Claim
import GoSem.ClaimJoined
import GoSem.ClaimMapViews
import Derived.JoinedTies
import Derived.KernelRfl
namespace Go.Proofs.YtjdkaoiokdfmgaaDoor
/- THE CELL 'sum', in the pinned program and in every row, IS THE sha256 OF THE DUMP (.gsa) THAT YtjdkaoiokdfmgaaDoorProg.lean LOADS. Nothing in Lean hashes anything: it is a label: what it is worth is what the hold of that sum in a sandbox is worth. -/
noncomputable def Tryd.pinned : Pinned := { name := "ytjdkaoiokdfmgaadoor", sum := "58cc36ff6487efe20846fb77bc0b25f91146bdb4611f55ddda32784ea8df3061", checked := Tryd.checked }
namespace Rows
def none {H : Type} : Left H := { results := [], args := [] }

/- WHAT THE LISTED PACKAGE-LEVEL VARIABLES READ AS WHEN THE CALL BEGINS. Each datum BY PROGRAM (the guide's laid-datum.mjs) off the statement by which the dump's own 'gosem.cut.vars' lays the variable. In a bare row this is a premise. The card (YtjdkaoiokdfmgaaDoorCards.lean) ties it to the program's text. -/
def laid_math_bits_deBruijn32tab {H : Type} : DataW H := .agg [.lit (.int .u8 0), .lit (.int .u8 1), .lit (.int .u8 28), .lit (.int .u8 2), .lit (.int .u8 29), .lit (.int .u8 14), .lit (.int .u8 24), .lit (.int .u8 3), .lit (.int .u8 30), .lit (.int .u8 22), .lit (.int .u8 20), .lit (.int .u8 15), .lit (.int .u8 25), .lit (.int .u8 17), .lit (.int .u8 4), .lit (.int .u8 8), .lit (.int .u8 31), .lit (.int .u8 27), .lit (.int .u8 13), .lit (.int .u8 23), .lit (.int .u8 21), .lit (.int .u8 19), .lit (.int .u8 16), .lit (.int .u8 7), .lit (.int .u8 26), .lit (.int .u8 12), .lit (.int .u8 18), .lit (.int .u8 6), .lit (.int .u8 11), .lit (.int .u8 5), .lit (.int .u8 10), .lit (.int .u8 9)]
def laid_math_bits_deBruijn64tab {H : Type} : DataW H := .agg [.lit (.int .u8 0), .lit (.int .u8 1), .lit (.int .u8 56), .lit (.int .u8 2), .lit (.int .u8 57), .lit (.int .u8 49), .lit (.int .u8 28), .lit (.int .u8 3), .lit (.int .u8 61), .lit (.int .u8 58), .lit (.int .u8 42), .lit (.int .u8 50), .lit (.int .u8 38), .lit (.int .u8 29), .lit (.int .u8 17), .lit (.int .u8 4), .lit (.int .u8 62), .lit (.int .u8 47), .lit (.int .u8 59), .lit (.int .u8 36), .lit (.int .u8 45), .lit (.int .u8 43), .lit (.int .u8 51), .lit (.int .u8 22), .lit (.int .u8 53), .lit (.int .u8 39), .lit (.int .u8 33), .lit (.int .u8 30), .lit (.int .u8 24), .lit (.int .u8 18), .lit (.int .u8 12), .lit (.int .u8 5), .lit (.int .u8 63), .lit (.int .u8 55), .lit (.int .u8 48), .lit (.int .u8 27), .lit (.int .u8 60), .lit (.int .u8 41), .lit (.int .u8 37), .lit (.int .u8 16), .lit (.int .u8 46), .lit (.int .u8 35), .lit (.int .u8 44), .lit (.int .u8 21), .lit (.int .u8 52), .lit (.int .u8 32), .lit (.int .u8 23), .lit (.int .u8 11), .lit (.int .u8 54), .lit (.int .u8 26), .lit (.int .u8 40), .lit (.int .u8 15), .lit (.int .u8 34), .lit (.int .u8 20), .lit (.int .u8 31), .lit (.int .u8 10), .lit (.int .u8 25), .lit (.int .u8 14), .lit (.int .u8 19), .lit (.int .u8 9), .lit (.int .u8 13), .lit (.int .u8 8), .lit (.int .u8 7), .lit (.int .u8 6)]
def laid_internal_strconv_uint64pow10 {H : Type} : DataW H := .agg [.lit (.int .u64 1), .lit (.int .u64 10), .lit (.int .u64 100), .lit (.int .u64 1000), .lit (.int .u64 10000), .lit (.int .u64 100000), .lit (.int .u64 1000000), .lit (.int .u64 10000000), .lit (.int .u64 100000000), .lit (.int .u64 1000000000), .lit (.int .u64 10000000000), .lit (.int .u64 100000000000), .lit (.int .u64 1000000000000), .lit (.int .u64 10000000000000), .lit (.int .u64 100000000000000), .lit (.int .u64 1000000000000000), .lit (.int .u64 10000000000000000), .lit (.int .u64 100000000000000000), .lit (.int .u64 1000000000000000000), .lit (.int .u64 10000000000000000000)]
def laid_paideia_api_ErrLex {H : Type} : DataW H := .iface "*errors.errorString" (.ptr (.agg [.lit (.string [110, 111, 116, 32, 97, 32, 119, 111, 114, 100])]))
def laid_paideia_api_ErrParse {H : Type} : DataW H := .iface "*errors.errorString" (.ptr (.agg [.lit (.string [110, 111, 116, 32, 97, 32, 112, 114, 111, 103, 114, 97, 109])]))
def laid_paideia_api_ErrScope {H : Type} : DataW H := .iface "*errors.errorString" (.ptr (.agg [.lit (.string [97, 32, 110, 97, 109, 101, 32, 116, 104, 97, 116, 32, 105, 115, 32, 110, 111, 98, 111, 100, 121, 39, 115])]))
def laid_paideia_api_ErrTwice {H : Type} : DataW H := .iface "*errors.errorString" (.ptr (.agg [.lit (.string [97, 32, 110, 97, 109, 101, 32, 116, 119, 105, 99, 101])]))
def laid_paideia_api_ErrClass {H : Type} : DataW H := .iface "*errors.errorString" (.ptr (.agg [.lit (.string [110, 111, 116, 32, 97, 32, 99, 108, 97, 115, 115, 44, 32, 111, 114, 32, 110, 111, 116, 32, 97, 110, 32, 105, 110, 115, 116, 97, 110, 99, 101])]))
def laid_paideia_api_ErrType {H : Type} : DataW H := .iface "*errors.errorString" (.ptr (.agg [.lit (.string [116, 121, 112, 101, 115, 32, 116, 104, 97, 116, 32, 97, 114, 101, 32, 110, 111, 116, 32, 111, 110, 101])]))
def laid_paideia_api_ErrOccur {H : Type} : DataW H := .iface "*errors.errorString" (.ptr (.agg [.lit (.string [97, 32, 116, 121, 112, 101, 32, 119, 105, 116, 104, 105, 110, 32, 105, 116, 115, 101, 108, 102])]))
def laid_paideia_api_ErrKind {H : Type} : DataW H := .iface "*errors.errorString" (.ptr (.agg [.lit (.string [97, 32, 116, 121, 112, 101, 32, 119, 105, 116, 104, 32, 111, 116, 104, 101, 114, 32, 97, 114, 103, 117, 109, 101, 110, 116, 115])]))
def laid_paideia_api_ErrAmbig {H : Type} : DataW H := .iface "*errors.errorString" (.ptr (.agg [.lit (.string [97, 32, 116, 121, 112, 101, 32, 116, 104, 97, 116, 32, 105, 115, 32, 110, 111, 116, 32, 116, 111, 108, 100])]))
def laid_paideia_api_ErrNone {H : Type} : DataW H := .iface "*errors.errorString" (.ptr (.agg [.lit (.string [110, 111, 32, 105, 110, 115, 116, 97, 110, 99, 101])]))
def laid_paideia_api_ErrLimit {H : Type} : DataW H := .iface "*errors.errorString" (.ptr (.agg [.lit (.string [109, 111, 114, 101, 32, 116, 104, 97, 110, 32, 109, 97, 121, 32, 98, 101])]))
def laid_paideia_api_ErrFuel {H : Type} : DataW H := .iface "*errors.errorString" (.ptr (.agg [.lit (.string [116, 104, 101, 32, 102, 117, 101, 108, 32, 105, 115, 32, 117, 115, 101, 100, 32, 117, 112])]))
def laid_paideia_api_ErrHeap {H : Type} : DataW H := .iface "*errors.errorString" (.ptr (.agg [.lit (.string [116, 104, 101, 32, 104, 101, 97, 112, 32, 105, 115, 32, 102, 117, 108, 108])]))
def laid_paideia_api_ErrBlack {H : Type} : DataW H := .iface "*errors.errorString" (.ptr (.agg [.lit (.string [97, 32, 118, 97, 108, 117, 101, 32, 116, 104, 97, 116, 32, 110, 101, 101, 100, 115, 32, 105, 116, 115, 101, 108, 102])]))
def laid_paideia_api_ErrMatch {H : Type} : DataW H := .iface "*errors.errorString" (.ptr (.agg [.lit (.string [110, 111, 32, 97, 108, 116, 101, 114, 110, 97, 116, 105, 118, 101, 32, 102, 105, 116, 115])]))

/-- 'paideialaw26.ForceLimits': WHATEVER THE INPUT: true; the input reads as it did. -/
def forceLimitsSpec : ChangeSpec := { name := "forceLimits", fn := fun _ => fun
  | [d1, d2] => { results := [.lit (.bool true)], args := [d1, d2] }
  | _ => none }
def forceLimitsRow : OpenClaim := { program := "ytjdkaoiokdfmgaadoor", sum := "58cc36ff6487efe20846fb77bc0b25f91146bdb4611f55ddda32784ea8df3061", func := "paideia/paideialaw26.ForceLimits", spec := "forceLimits", unfollowed := true, recurses := true, named := ["internal/strconv.uint64pow10", "math/bits.deBruijn32tab", "math/bits.deBruijn64tab", "paideia/api.ErrFuel", "paideia/api.ErrMatch", "paideia/api.ErrBlack", "paideia/api.ErrHeap", "paideia/api.ErrLimit", "paideia/api.ErrLex", "paideia/api.ErrParse", "paideia/api.ErrScope", "paideia/api.ErrTwice", "paideia/api.ErrClass", "paideia/api.ErrType", "paideia/api.ErrOccur", "paideia/api.ErrKind", "paideia/api.ErrAmbig", "paideia/api.ErrNone"], apart := false, laid := [("math/bits.deBruijn32tab", laid_math_bits_deBruijn32tab), ("math/bits.deBruijn64tab", laid_math_bits_deBruijn64tab), ("internal/strconv.uint64pow10", laid_internal_strconv_uint64pow10), ("paideia/api.ErrLex", laid_paideia_api_ErrLex), ("paideia/api.ErrParse", laid_paideia_api_ErrParse), ("paideia/api.ErrScope", laid_paideia_api_ErrScope), ("paideia/api.ErrTwice", laid_paideia_api_ErrTwice), ("paideia/api.ErrClass", laid_paideia_api_ErrClass), ("paideia/api.ErrType", laid_paideia_api_ErrType), ("paideia/api.ErrOccur", laid_paideia_api_ErrOccur), ("paideia/api.ErrKind", laid_paideia_api_ErrKind), ("paideia/api.ErrAmbig", laid_paideia_api_ErrAmbig), ("paideia/api.ErrNone", laid_paideia_api_ErrNone), ("paideia/api.ErrLimit", laid_paideia_api_ErrLimit), ("paideia/api.ErrFuel", laid_paideia_api_ErrFuel), ("paideia/api.ErrHeap", laid_paideia_api_ErrHeap), ("paideia/api.ErrBlack", laid_paideia_api_ErrBlack), ("paideia/api.ErrMatch", laid_paideia_api_ErrMatch)] }
def ForceLimitsSaid : Prop := forceLimitsRow.holds Tryd.pinned (OpenSpec.ofChange forceLimitsSpec)

/-- ITS FALSE NEIGHBOUR: 'it returns false'. Refute it at one input. -/
def forceLimitsWrong : ChangeSpec := { name := "forceLimits", fn := fun _ => fun
  | [d1, d2] => { results := [.lit (.bool false)], args := [d1, d2] }
  | _ => none }
def ForceLimitsWrongFalsely : Prop := forceLimitsRow.holds Tryd.pinned (OpenSpec.ofChange forceLimitsWrong)

/-- 'paideialaw26.ForceEndless': WHATEVER THE INPUT: true; the input reads as it did. -/
def forceEndlessSpec : ChangeSpec := { name := "forceEndless", fn := fun _ => fun
  | [d1, d2] => { results := [.lit (.bool true)], args := [d1, d2] }
  | _ => none }
def forceEndlessRow : OpenClaim := { program := "ytjdkaoiokdfmgaadoor", sum := "58cc36ff6487efe20846fb77bc0b25f91146bdb4611f55ddda32784ea8df3061", func := "paideia/paideialaw26.ForceEndless", spec := "forceEndless", unfollowed := true, recurses := true, named := ["internal/strconv.uint64pow10", "math/bits.deBruijn32tab", "math/bits.deBruijn64tab", "paideia/api.ErrFuel", "paideia/api.ErrMatch", "paideia/api.ErrBlack", "paideia/api.ErrHeap", "paideia/api.ErrLimit", "paideia/api.ErrLex", "paideia/api.ErrParse", "paideia/api.ErrScope", "paideia/api.ErrTwice", "paideia/api.ErrClass", "paideia/api.ErrType", "paideia/api.ErrOccur", "paideia/api.ErrKind", "paideia/api.ErrAmbig", "paideia/api.ErrNone"], apart := false, laid := [("math/bits.deBruijn32tab", laid_math_bits_deBruijn32tab), ("math/bits.deBruijn64tab", laid_math_bits_deBruijn64tab), ("internal/strconv.uint64pow10", laid_internal_strconv_uint64pow10), ("paideia/api.ErrLex", laid_paideia_api_ErrLex), ("paideia/api.ErrParse", laid_paideia_api_ErrParse), ("paideia/api.ErrScope", laid_paideia_api_ErrScope), ("paideia/api.ErrTwice", laid_paideia_api_ErrTwice), ("paideia/api.ErrClass", laid_paideia_api_ErrClass), ("paideia/api.ErrType", laid_paideia_api_ErrType), ("paideia/api.ErrOccur", laid_paideia_api_ErrOccur), ("paideia/api.ErrKind", laid_paideia_api_ErrKind), ("paideia/api.ErrAmbig", laid_paideia_api_ErrAmbig), ("paideia/api.ErrNone", laid_paideia_api_ErrNone), ("paideia/api.ErrLimit", laid_paideia_api_ErrLimit), ("paideia/api.ErrFuel", laid_paideia_api_ErrFuel), ("paideia/api.ErrHeap", laid_paideia_api_ErrHeap), ("paideia/api.ErrBlack", laid_paideia_api_ErrBlack), ("paideia/api.ErrMatch", laid_paideia_api_ErrMatch)] }
def ForceEndlessSaid : Prop := forceEndlessRow.holds Tryd.pinned (OpenSpec.ofChange forceEndlessSpec)

/-- ITS FALSE NEIGHBOUR: 'it returns false'. Refute it at one input. -/
def forceEndlessWrong : ChangeSpec := { name := "forceEndless", fn := fun _ => fun
  | [d1, d2] => { results := [.lit (.bool false)], args := [d1, d2] }
  | _ => none }
def ForceEndlessWrongFalsely : Prop := forceEndlessRow.holds Tryd.pinned (OpenSpec.ofChange forceEndlessWrong)

/- THE SECOND FORM. 'bulk': how many values and letters a reading holds, each counted each time it is reached (what is shared counts as often as it is met; a slice's spare places count too). A statement '..UptoSaid' is the law's where the arguments, and the package variables that the reading takes, are together of bulk at most 1048576: NARROWER than '..Said'. Prove '..Said' where nothing that the law and all that it calls make is longer than what came in: it says more and counts as full. Else prove '..UptoSaid'. A law counts once. -/
mutual
def uptoBulk {H : Type} : DataW H → Nat
  | .lit (.string bytes) => bytes.length + 1
  | .lit _ => 1
  | .nil => 1
  | .ptr d => uptoBulk d + 1
  | .slice elems spare => uptoBulkAll elems + uptoBulkAll spare + 1
  | .agg parts => uptoBulkAll parts + 1
  | .iface _ d => uptoBulk d + 1
  | .map entries => uptoBulkEntries entries + 1
  | .held _ => 1
def uptoBulkAll {H : Type} : List (DataW H) → Nat
  | [] => 0
  | d :: r => uptoBulk d + uptoBulkAll r
def uptoBulkEntries {H : Type} : List (Lit × DataW H) → Nat
  | [] => 0
  | x :: r => uptoBulkEntry x + uptoBulkEntries r
def uptoBulkEntry {H : Type} : Lit × DataW H → Nat
  | (.string bytes, d) => bytes.length + uptoBulk d + 1
  | (_, d) => uptoBulk d + 1
 end
def uptoSmall : (H : Type) → List (DataW H) → Bool := fun _ ds => decide (uptoBulkAll ds ≤ 1048576)
def OpenSpec.upto (s : _root_.Go.ChangeSpec) : _root_.Go.OpenSpec := { _root_.Go.OpenSpec.ofChange s with cond := some uptoSmall }

/-- 'paideialaw26.ForceLimits', WHERE WHAT IT READS IS OF BULK AT MOST 1048576: true; the input reads as it did. -/
def forceLimitsUptoRow : OpenClaim := { program := "ytjdkaoiokdfmgaadoor", sum := "58cc36ff6487efe20846fb77bc0b25f91146bdb4611f55ddda32784ea8df3061", func := "paideia/paideialaw26.ForceLimits", spec := "forceLimits", unfollowed := true, recurses := true, named := ["internal/strconv.uint64pow10", "math/bits.deBruijn32tab", "math/bits.deBruijn64tab", "paideia/api.ErrFuel", "paideia/api.ErrMatch", "paideia/api.ErrBlack", "paideia/api.ErrHeap", "paideia/api.ErrLimit", "paideia/api.ErrLex", "paideia/api.ErrParse", "paideia/api.ErrScope", "paideia/api.ErrTwice", "paideia/api.ErrClass", "paideia/api.ErrType", "paideia/api.ErrOccur", "paideia/api.ErrKind", "paideia/api.ErrAmbig", "paideia/api.ErrNone"], apart := false, laid := [("math/bits.deBruijn32tab", laid_math_bits_deBruijn32tab), ("math/bits.deBruijn64tab", laid_math_bits_deBruijn64tab), ("internal/strconv.uint64pow10", laid_internal_strconv_uint64pow10), ("paideia/api.ErrLex", laid_paideia_api_ErrLex), ("paideia/api.ErrParse", laid_paideia_api_ErrParse), ("paideia/api.ErrScope", laid_paideia_api_ErrScope), ("paideia/api.ErrTwice", laid_paideia_api_ErrTwice), ("paideia/api.ErrClass", laid_paideia_api_ErrClass), ("paideia/api.ErrType", laid_paideia_api_ErrType), ("paideia/api.ErrOccur", laid_paideia_api_ErrOccur), ("paideia/api.ErrKind", laid_paideia_api_ErrKind), ("paideia/api.ErrAmbig", laid_paideia_api_ErrAmbig), ("paideia/api.ErrNone", laid_paideia_api_ErrNone), ("paideia/api.ErrLimit", laid_paideia_api_ErrLimit), ("paideia/api.ErrFuel", laid_paideia_api_ErrFuel), ("paideia/api.ErrHeap", laid_paideia_api_ErrHeap), ("paideia/api.ErrBlack", laid_paideia_api_ErrBlack), ("paideia/api.ErrMatch", laid_paideia_api_ErrMatch)], narrowed := true }
def ForceLimitsUptoSaid : Prop := forceLimitsUptoRow.holds Tryd.pinned (OpenSpec.upto forceLimitsSpec)

/-- 'paideialaw26.ForceEndless', WHERE WHAT IT READS IS OF BULK AT MOST 1048576: true; the input reads as it did. -/
def forceEndlessUptoRow : OpenClaim := { program := "ytjdkaoiokdfmgaadoor", sum := "58cc36ff6487efe20846fb77bc0b25f91146bdb4611f55ddda32784ea8df3061", func := "paideia/paideialaw26.ForceEndless", spec := "forceEndless", unfollowed := true, recurses := true, named := ["internal/strconv.uint64pow10", "math/bits.deBruijn32tab", "math/bits.deBruijn64tab", "paideia/api.ErrFuel", "paideia/api.ErrMatch", "paideia/api.ErrBlack", "paideia/api.ErrHeap", "paideia/api.ErrLimit", "paideia/api.ErrLex", "paideia/api.ErrParse", "paideia/api.ErrScope", "paideia/api.ErrTwice", "paideia/api.ErrClass", "paideia/api.ErrType", "paideia/api.ErrOccur", "paideia/api.ErrKind", "paideia/api.ErrAmbig", "paideia/api.ErrNone"], apart := false, laid := [("math/bits.deBruijn32tab", laid_math_bits_deBruijn32tab), ("math/bits.deBruijn64tab", laid_math_bits_deBruijn64tab), ("internal/strconv.uint64pow10", laid_internal_strconv_uint64pow10), ("paideia/api.ErrLex", laid_paideia_api_ErrLex), ("paideia/api.ErrParse", laid_paideia_api_ErrParse), ("paideia/api.ErrScope", laid_paideia_api_ErrScope), ("paideia/api.ErrTwice", laid_paideia_api_ErrTwice), ("paideia/api.ErrClass", laid_paideia_api_ErrClass), ("paideia/api.ErrType", laid_paideia_api_ErrType), ("paideia/api.ErrOccur", laid_paideia_api_ErrOccur), ("paideia/api.ErrKind", laid_paideia_api_ErrKind), ("paideia/api.ErrAmbig", laid_paideia_api_ErrAmbig), ("paideia/api.ErrNone", laid_paideia_api_ErrNone), ("paideia/api.ErrLimit", laid_paideia_api_ErrLimit), ("paideia/api.ErrFuel", laid_paideia_api_ErrFuel), ("paideia/api.ErrHeap", laid_paideia_api_ErrHeap), ("paideia/api.ErrBlack", laid_paideia_api_ErrBlack), ("paideia/api.ErrMatch", laid_paideia_api_ErrMatch)], narrowed := true }
def ForceEndlessUptoSaid : Prop := forceEndlessUptoRow.holds Tryd.pinned (OpenSpec.upto forceEndlessSpec)

end Rows
end Go.Proofs.YtjdkaoiokdfmgaaDoor
