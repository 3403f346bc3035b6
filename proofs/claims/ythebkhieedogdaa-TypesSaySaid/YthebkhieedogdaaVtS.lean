/- Comparisons on the abstract machine. -/
import Derived.Test.YthebkhieedogdaaVtS0
namespace Go.Vt
open Go.Am Go.Proofs
set_option maxRecDepth 100000

section
variable {bs : List Nat} {h : List Ob} {Q : V → List Ob → Prop}

theorem nan54 (a : Int) (hq : Q (.bool false) h) : CallA ap 46 0 bs [.int .i64 a] h Q := by
  refine CallA.code (af := ac46) rfl (Nat.le_of_ble_eq_true rfl) ?_
  simp [ac46]
  exact hq

def cmpI (a b : Int) : Int := if a < b then -1 else if b < a then 1 else 0

theorem cmp35 (a b : Int) (hq : Q (.int .i64 (cmpI a b)) h) : CallA ap 35 0 bs [.int .i64 a, .int .i64 b] h Q := by
  refine CallA.code (af := ac35) rfl (Nat.le_of_ble_eq_true rfl) ?_
  simp [ac35]
  refine nan54 a ?_
  simp
  refine nan54 b ?_
  simp
  refine condA_dec (fun h1 => ?_) fun h1 => ?_
  · simp
    simpa [cmpI, h1] using hq
  · simp
    refine condA_dec (fun h2 => ?_) fun h2 => ?_
    · simp
      simpa [cmpI, h1, h2] using hq
    · simp
      simpa [cmpI, h1, h2] using hq

theorem cmp36 (a b : List UInt8) (hq : Q (.int .i64 (Lib.compareBytes a b)) h) : CallA ap 36 0 bs [.str a, .str b] h Q := by
  refine CallA.code (af := ac36) rfl (Nat.le_of_ble_eq_true rfl) ?_
  simp [ac36]
  refine CallA.code (af := ac47) rfl (Nat.le_of_ble_eq_true rfl) ?_
  simp [ac47]
  refine CallA.prim (p := cmpP) rfl rfl ?_
  simp
  exact hq

end
end Go.Vt
