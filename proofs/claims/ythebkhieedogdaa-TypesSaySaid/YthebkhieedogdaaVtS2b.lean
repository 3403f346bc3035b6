/- The chapter's first example on the abstract machine. -/
import Derived.Test.YthebkhieedogdaaVtS2
namespace Go.Vt
open Go.Am Go.Proofs
set_option maxRecDepth 100000

section
variable {bs : List Nat} {h : List Ob} {Q : V → List Ob → Prop}

theorem var27 (s : List UInt8) (hq : Q (.agg [.int .i64 1, .str s, .sl .frozen []]) h) : CallA ap 21 0 bs [.str s] h Q := by
  refine CallA.code (af := ac21) rfl (Nat.le_of_ble_eq_true rfl) ?_
  simp [ac21, splice]
  exact hq

theorem has_nil (t : Tag) (s : List UInt8) (hq : Q (.bool false) h) : CallA ap 42 0 bs [.sl t [], .str s] h Q := by
  refine CallA.code (af := ac42) rfl (Nat.le_of_ble_eq_true rfl) ?_
  simp [ac42]
  refine CallA.code (af := ac49) rfl (Nat.le_of_ble_eq_true rfl) ?_
  simp [ac49]
  refine wpA_loop (CallA.hle ap) ?_
  simp [forget, noLoc, locOf]
  exact hq

theorem has_one (t : Tag) (s : List UInt8) (hq : Q (.bool true) h) : CallA ap 42 0 bs [.sl t [.str s], .str s] h Q := by
  refine CallA.code (af := ac42) rfl (Nat.le_of_ble_eq_true rfl) ?_
  simp [ac42]
  refine CallA.code (af := ac49) rfl (Nat.le_of_ble_eq_true rfl) ?_
  simp [ac49]
  refine wpA_loop (CallA.hle ap) ?_
  simp [forget, noLoc, locOf]
  exact hq

theorem free_new (s : List UInt8) (hq : Q (.sl (.fam h.length) [.str s]) (h ++ [.fam 1 1])) : CallA ap 29 0 bs [.agg [.int .i64 1, .str s, .sl .frozen []], .sl .frozen [], .sl .clip []] h Q := by
  refine CallA.code (af := ac29) rfl (Nat.le_of_ble_eq_true rfl) ?_
  simp [ac29]
  refine has_nil _ _ ?_
  simp
  refine has_nil _ _ ?_
  simp [lim]
  refine wpA_loop (CallA.hle ap) ?_
  simp [forget, noLoc, locOf]
  exact hq

theorem free_old (r : Nat) (s : List UInt8) (hq : Q (.sl (.fam r) [.str s]) h) : CallA ap 29 0 bs [.agg [.int .i64 1, .str s, .sl .frozen []], .sl .frozen [], .sl (.fam r) [.str s]] h Q := by
  refine CallA.code (af := ac29) rfl (Nat.le_of_ble_eq_true rfl) ?_
  simp [ac29]
  refine has_nil _ _ ?_
  simp
  refine has_one _ _ ?_
  simp
  refine wpA_loop (CallA.hle ap) ?_
  simp [forget, noLoc, locOf]
  exact hq

theorem first9 (hq : Q (.bool true) h) : CallA ap 5 0 bs [] h Q := by
  refine CallA.code (af := ac5) rfl (Nat.le_of_ble_eq_true rfl) ?_
  simp [ac5]
  refine var27 _ ?_
  simp [splice]
  refine CallA.code (af := ac22) rfl (Nat.le_of_ble_eq_true rfl) ?_
  simp [ac22, splice, w1, wz]
  refine wpA_loop (CallA.hle ap) ?_
  simp [forget, noLoc, locOf, splice, wm]
  refine wpA_loop (CallA.hle ap) ?_
  simp [forget, noLoc, locOf, splice, wm]
  -- variables
  refine CallA.code (af := ac9) rfl (Nat.le_of_ble_eq_true rfl) ?_
  simp [ac9]
  refine wpA_loop (CallA.hle ap) ?_
  simp [forget, noLoc, locOf, splice]
  refine CallA.code (af := ac29) rfl (Nat.le_of_ble_eq_true rfl) ?_
  simp [ac29]
  refine wpA_loop (CallA.hle ap) ?_
  simp [forget, noLoc, locOf, splice]
  refine free_new _ ?_
  simp [w1]
  refine wpA_loop (CallA.hle ap) ?_
  simp [forget, noLoc, locOf, splice]
  refine free_old _ _ ?_
  simp [w2]
  refine wpA_loop (CallA.hle ap) ?_
  simp [forget, noLoc, locOf, splice, w1]
  refine wpA_loop (CallA.hle ap) ?_
  simp [forget, noLoc, locOf, splice, w1]
  exact hq

end
end Go.Vt
