/-
  DERIVED. GIVEN WITH THE SEED: THE PROGRAM's TIES (one call each: nine closed facts by the kernel) AND EACH ROW's TIE, after the 31st guide's Derived/Test/Toyas{Tie, Card}.lean. No idea stands in it: it is a product of the set-up. Laid BY PROGRAM, IN A SANDBOX (cutbox-door.mjs). By AI agents, Wed Nov 11 2026. No macro, syntax, notation, axiom, sorry.
-/
import Derived.Test.YtabjkoehbbobdaaDoorRows
import Derived.LaidByTextLater
import Derived.SevenTiedAt
import Derived.LaidSub
import Derived.LaidOnce
namespace Go.Proofs.YtabjkoehbbobdaaDoor
open Go
set_option maxRecDepth 100000
theorem seatTie1 : Tryd.prog.laidByTextLater [("math/bits.deBruijn32tab", Rows.laid_math_bits_deBruijn32tab), ("math/bits.deBruijn64tab", Rows.laid_math_bits_deBruijn64tab), ("internal/strconv.uint64pow10", Rows.laid_internal_strconv_uint64pow10), ("paideia/api.ErrLex", Rows.laid_paideia_api_ErrLex), ("paideia/api.ErrParse", Rows.laid_paideia_api_ErrParse), ("paideia/api.ErrScope", Rows.laid_paideia_api_ErrScope), ("paideia/api.ErrTwice", Rows.laid_paideia_api_ErrTwice), ("paideia/api.ErrClass", Rows.laid_paideia_api_ErrClass), ("paideia/api.ErrType", Rows.laid_paideia_api_ErrType), ("paideia/api.ErrOccur", Rows.laid_paideia_api_ErrOccur), ("paideia/api.ErrKind", Rows.laid_paideia_api_ErrKind), ("paideia/api.ErrAmbig", Rows.laid_paideia_api_ErrAmbig), ("paideia/api.ErrNone", Rows.laid_paideia_api_ErrNone), ("paideia/api.ErrLimit", Rows.laid_paideia_api_ErrLimit), ("paideia/api.ErrFuel", Rows.laid_paideia_api_ErrFuel), ("paideia/api.ErrHeap", Rows.laid_paideia_api_ErrHeap), ("paideia/api.ErrBlack", Rows.laid_paideia_api_ErrBlack), ("paideia/api.ErrMatch", Rows.laid_paideia_api_ErrMatch)] [.data, .data, .data, .sentinel, .sentinel, .sentinel, .sentinel, .sentinel, .sentinel, .sentinel, .sentinel, .sentinel, .sentinel, .sentinel, .sentinel, .sentinel, .sentinel, .sentinel] true :=
  Program.laidByTextLater_by_one 309 8 65 (by kernel_rfl) (by kernel_rfl) (by kernel_rfl) (by kernel_rfl) (by kernel_rfl) (by kernel_rfl) (fun _ _ => by kernel_rfl)
theorem noOwnUnsafe : Tryd.pinned.checked.prog.headLifts.contains "ownunsafe" = false := by kernel_rfl
theorem tie : Tryd.prog.laidByTextLater [("paideia/api.ErrLex", Rows.laid_paideia_api_ErrLex), ("paideia/api.ErrParse", Rows.laid_paideia_api_ErrParse), ("paideia/api.ErrScope", Rows.laid_paideia_api_ErrScope), ("paideia/api.ErrTwice", Rows.laid_paideia_api_ErrTwice), ("paideia/api.ErrClass", Rows.laid_paideia_api_ErrClass), ("paideia/api.ErrType", Rows.laid_paideia_api_ErrType), ("paideia/api.ErrOccur", Rows.laid_paideia_api_ErrOccur), ("paideia/api.ErrKind", Rows.laid_paideia_api_ErrKind), ("paideia/api.ErrAmbig", Rows.laid_paideia_api_ErrAmbig), ("paideia/api.ErrNone", Rows.laid_paideia_api_ErrNone), ("paideia/api.ErrLimit", Rows.laid_paideia_api_ErrLimit), ("paideia/api.ErrFuel", Rows.laid_paideia_api_ErrFuel), ("paideia/api.ErrHeap", Rows.laid_paideia_api_ErrHeap), ("paideia/api.ErrBlack", Rows.laid_paideia_api_ErrBlack), ("paideia/api.ErrMatch", Rows.laid_paideia_api_ErrMatch)] [.sentinel, .sentinel, .sentinel, .sentinel, .sentinel, .sentinel, .sentinel, .sentinel, .sentinel, .sentinel, .sentinel, .sentinel, .sentinel, .sentinel, .sentinel] true :=
  Program.laidByTextLater.sub seatTie1 ["paideia/api.ErrLex", "paideia/api.ErrParse", "paideia/api.ErrScope", "paideia/api.ErrTwice", "paideia/api.ErrClass", "paideia/api.ErrType", "paideia/api.ErrOccur", "paideia/api.ErrKind", "paideia/api.ErrAmbig", "paideia/api.ErrNone", "paideia/api.ErrLimit", "paideia/api.ErrFuel", "paideia/api.ErrHeap", "paideia/api.ErrBlack", "paideia/api.ErrMatch"] (by kernel_rfl) (by kernel_rfl)
theorem unifySays_row_tie : Rows.unifySaysRow.laidByTextAt .later Tryd.pinned [.sentinel, .sentinel, .sentinel, .sentinel, .sentinel, .sentinel, .sentinel, .sentinel, .sentinel, .sentinel, .sentinel, .sentinel, .sentinel, .sentinel, .sentinel] true :=
  OpenClaim.laidByTextAt_later rfl rfl tie noOwnUnsafe
theorem tie2 : Tryd.prog.laidByTextLater [("paideia/api.ErrType", Rows.laid_paideia_api_ErrType), ("paideia/api.ErrOccur", Rows.laid_paideia_api_ErrOccur)] [.sentinel, .sentinel] true :=
  Program.laidByTextLater.sub seatTie1 ["paideia/api.ErrType", "paideia/api.ErrOccur"] (by kernel_rfl) (by kernel_rfl)
theorem unifyMost_row_tie : Rows.unifyMostRow.laidByTextAt .later Tryd.pinned [.sentinel, .sentinel] true :=
  OpenClaim.laidByTextAt_later rfl rfl tie2 noOwnUnsafe
theorem unifyRows_row_tie : Rows.unifyRowsRow.laidByTextAt .later Tryd.pinned [.sentinel, .sentinel] true :=
  OpenClaim.laidByTextAt_later rfl rfl tie2 noOwnUnsafe
theorem tie3 : Tryd.prog.laidByTextLater [("math/bits.deBruijn32tab", Rows.laid_math_bits_deBruijn32tab), ("math/bits.deBruijn64tab", Rows.laid_math_bits_deBruijn64tab), ("internal/strconv.uint64pow10", Rows.laid_internal_strconv_uint64pow10)] [.data, .data, .data] true :=
  Program.laidByTextLater.sub seatTie1 ["math/bits.deBruijn32tab", "math/bits.deBruijn64tab", "internal/strconv.uint64pow10"] (by kernel_rfl) (by kernel_rfl)
theorem primBack_row_tie : Rows.primBackRow.laidByTextAt .later Tryd.pinned [.data, .data, .data] true :=
  OpenClaim.laidByTextAt_later rfl rfl tie3 noOwnUnsafe
theorem primSays_row_tie : Rows.primSaysRow.laidByTextAt .later Tryd.pinned [.data, .data, .data] true :=
  OpenClaim.laidByTextAt_later rfl rfl tie3 noOwnUnsafe
theorem unifySaysUpto_row_tie : Rows.unifySaysUptoRow.laidByTextAt .later Tryd.pinned [.sentinel, .sentinel, .sentinel, .sentinel, .sentinel, .sentinel, .sentinel, .sentinel, .sentinel, .sentinel, .sentinel, .sentinel, .sentinel, .sentinel, .sentinel] true :=
  OpenClaim.laidByTextAt_later rfl rfl tie noOwnUnsafe
theorem unifyMostUpto_row_tie : Rows.unifyMostUptoRow.laidByTextAt .later Tryd.pinned [.sentinel, .sentinel] true :=
  OpenClaim.laidByTextAt_later rfl rfl tie2 noOwnUnsafe
theorem unifyRowsUpto_row_tie : Rows.unifyRowsUptoRow.laidByTextAt .later Tryd.pinned [.sentinel, .sentinel] true :=
  OpenClaim.laidByTextAt_later rfl rfl tie2 noOwnUnsafe
theorem primBackUpto_row_tie : Rows.primBackUptoRow.laidByTextAt .later Tryd.pinned [.data, .data, .data] true :=
  OpenClaim.laidByTextAt_later rfl rfl tie3 noOwnUnsafe
theorem primSaysUpto_row_tie : Rows.primSaysUptoRow.laidByTextAt .later Tryd.pinned [.data, .data, .data] true :=
  OpenClaim.laidByTextAt_later rfl rfl tie3 noOwnUnsafe
end Go.Proofs.YtabjkoehbbobdaaDoor
