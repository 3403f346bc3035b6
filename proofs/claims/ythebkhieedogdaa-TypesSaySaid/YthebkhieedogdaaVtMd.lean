/- Types as the maker makes them. -/
import Derived.Test.YthebkhieedogdaaVtS0
namespace Go.Vt
open Go.Am Go.Proofs
set_option maxRecDepth 100000

/-- What the maker makes. -/
inductive Made : Nat → Ty → Prop
  | va (m : Nat) : Made m (.mk 1 [97] [])
  | vb (m : Nat) : Made m (.mk 1 [98] [])
  | vc (m : Nat) : Made m (.mk 1 [99] [])
  | int (m : Nat) : Made m (.mk 2 [73, 110, 116] [])
  | bool (m : Nat) : Made m (.mk 2 [66, 111, 111, 108] [])
  | list (m : Nat) (t : Ty) : Made m t → Made (m + 1) (.mk 2 [76, 105, 115, 116] [t])
  | pair (m : Nat) (t u : Ty) : Made m t → Made m u → Made (m + 1) (.mk 2 [80, 97, 105, 114] [t, u])
  | fn (m : Nat) (t u : Ty) : Made m t → Made m u → Made (m + 1) (.mk 3 [] [t, u])

theorem Made.ok {m : Nat} {t : Ty} (h : Made m t) : okT t = true := by
  induction h <;> simp_all [okT, okTs]

theorem Made.up {m : Nat} {t : Ty} (h : Made m t) : Made (m + 1) t := by
  induction h with
  | va m => exact .va _
  | vb m => exact .vb _
  | vc m => exact .vc _
  | int m => exact .int _
  | bool m => exact .bool _
  | list m t _ i => exact .list _ _ i
  | pair m t u _ _ i j => exact .pair _ _ _ i j
  | fn m t u _ _ i j => exact .fn _ _ _ i j

end Go.Vt
