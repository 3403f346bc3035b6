/- The chapter's first example on the abstract machine. -/
import Derived.Test.YtoachlegeiefaaaBtS2
namespace Go.Bt
open Go.Am Go.Proofs
set_option maxRecDepth 100000

section
variable {bs : List Nat} {h : List Ob} {Q : V → List Ob → Prop}

theorem var27 (s : List UInt8) (hq : Q (.agg [.int .i64 1, .str s, .sl .frozen []]) h) : CallA ap 25 0 bs [.str s] h Q := by
  refine CallA.code (af := ac25) rfl (Nat.le_of_ble_eq_true rfl) ?_
  simp [ac25, splice]
  exact hq

theorem has_nil (t : Tag) (s : List UInt8) (hq : Q (.bool false) h) : CallA ap 45 0 bs [.sl t [], .str s] h Q := by
  refine CallA.code (af := ac45) rfl (Nat.le_of_ble_eq_true rfl) ?_
  simp [ac45]
  refine CallA.code (af := ac51) rfl (Nat.le_of_ble_eq_true rfl) ?_
  simp [ac51]
  refine wpA_loop (CallA.hle ap) ?_
  simp [forget, noLoc]
  exact hq

theorem has_one (t : Tag) (s : List UInt8) (hq : Q (.bool true) h) : CallA ap 45 0 bs [.sl t [.str s], .str s] h Q := by
  refine CallA.code (af := ac45) rfl (Nat.le_of_ble_eq_true rfl) ?_
  simp [ac45]
  refine CallA.code (af := ac51) rfl (Nat.le_of_ble_eq_true rfl) ?_
  simp [ac51]
  refine wpA_loop (CallA.hle ap) ?_
  simp [forget, noLoc]
  exact hq

theorem free_new (s : List UInt8) (hq : Q (.sl (.fam h.length) [.str s]) (h ++ [.fam 1 1])) : CallA ap 34 0 bs [.agg [.int .i64 1, .str s, .sl .frozen []], .sl .frozen [], .sl .clip []] h Q := by
  refine CallA.code (af := ac34) rfl (Nat.le_of_ble_eq_true rfl) ?_
  simp [ac34]
  refine has_nil _ _ ?_
  simp
  refine has_nil _ _ ?_
  simp [lim]
  refine wpA_loop (CallA.hle ap) ?_
  simp [forget, noLoc]
  exact hq

theorem free_old (r : Nat) (s : List UInt8) (hq : Q (.sl (.fam r) [.str s]) h) : CallA ap 34 0 bs [.agg [.int .i64 1, .str s, .sl .frozen []], .sl .frozen [], .sl (.fam r) [.str s]] h Q := by
  refine CallA.code (af := ac34) rfl (Nat.le_of_ble_eq_true rfl) ?_
  simp [ac34]
  refine has_nil _ _ ?_
  simp
  refine has_one _ _ ?_
  simp
  refine wpA_loop (CallA.hle ap) ?_
  simp [forget, noLoc]
  exact hq

theorem first9 (hq : Q (.bool true) h) : CallA ap 6 0 bs [] h Q := by
  refine CallA.code (af := ac6) rfl (Nat.le_of_ble_eq_true rfl) ?_
  simp [ac6]
  refine var27 _ ?_
  simp [splice]
  refine CallA.code (af := ac10) rfl (Nat.le_of_ble_eq_true rfl) ?_
  simp [ac10, splice, w1, wz]
  refine wpA_loop (CallA.hle ap) ?_
  simp [forget, noLoc, locOf, splice, wm]
  refine wpA_loop (CallA.hle ap) ?_
  simp [forget, noLoc, locOf, splice]
  -- variables
  refine CallA.code (af := ac16) rfl (Nat.le_of_ble_eq_true rfl) ?_
  simp [ac16]
  refine wpA_loop (CallA.hle ap) ?_
  simp [forget, noLoc, splice]
  refine CallA.code (af := ac34) rfl (Nat.le_of_ble_eq_true rfl) ?_
  simp [ac34]
  refine wpA_loop (CallA.hle ap) ?_
  simp [forget, noLoc, splice]
  refine free_new _ ?_
  simp [w1]
  refine wpA_loop (CallA.hle ap) ?_
  simp [forget, noLoc, splice]
  refine free_old _ _ ?_
  simp [w2]
  refine wpA_loop (CallA.hle ap) ?_
  simp [forget, noLoc, w1]
  refine wpA_loop (CallA.hle ap) ?_
  simp [forget, noLoc]
  exact hq

end
end Go.Bt
