/- The lexer's error against the chapter's: on the abstract machine. -/
import Derived.Test.YtjfflpknmhflfaaDoorUtLg
namespace Go.Ut
open Go.Am Go.Proofs
set_option maxRecDepth 100000

section
variable {bs : List Nat} {h : List Ob} {Q : V → List Ob → Prop}

theorem sentinelL (hq : Q (.int .i64 101) h) : CallA ap 38 0 bs [.sent 1] h Q := by
  refine CallA.code (af := ac38) rfl (Nat.le_of_ble_eq_true rfl) ?_
  simp [ac38]
  refine CallA.code (af := ac58) rfl (Nat.le_of_ble_eq_true rfl) ?_
  simp [ac58, splice]
  refine wpA_loop (CallA.hle ap) ?_
  simp [forget, noLoc, locOf]
  refine CallA.code (af := ac59) rfl (Nat.le_of_ble_eq_true rfl) ?_
  simp [ac59]
  exact hq

def faultV (at_ : Int) : V := .agg [.int .i64 101, .bool true, .int .i64 at_]

theorem faultN (hq : Q (.agg [.int .i64 0, .bool false, .int .i64 0]) h) : CallA ap 21 0 bs [.nili] h Q := by
  refine CallA.code (af := ac21) rfl (Nat.le_of_ble_eq_true rfl) ?_
  simp [ac21]
  refine CallA.code (af := ac19) rfl (Nat.le_of_ble_eq_true rfl) ?_
  simp [ac19, splice]
  exact hq

theorem placed (at_ : Int) (hq : Q (faultV at_) h) : CallA ap 13 0 bs [.int .i64 101, .int .i64 at_] h Q := by
  refine CallA.code (af := ac13) rfl (Nat.le_of_ble_eq_true rfl) ?_
  simp [ac13, splice]
  exact hq

theorem faultL (q at_ : Nat) (ho : h[q]? = some (errB at_)) (hq : Q (faultV at_) h) : CallA ap 21 0 bs [errV q] h Q := by
  refine CallA.code (af := ac21) rfl (Nat.le_of_ble_eq_true rfl) ?_
  simp [ac21, errV, errB, ho]
  refine sentinelL ?_
  simp [ho, errB, splice]
  refine placed _ ?_
  simp [faultV, splice]
  exact hq

theorem sameL (q y : Nat) (z : Int) (ho : h[q]? = some (errB y)) (hq : Q (.bool ((y : Int) == z)) h) : CallA ap 12 0 bs [errV q, faultV z] h Q := by
  refine CallA.code (af := ac12) rfl (Nat.le_of_ble_eq_true rfl) ?_
  have e1 : errV q = .iface 59 (.ptr q 0) := rfl
  simp [ac12, splice, faultV, e1]
  rw [← e1]
  refine faultL q y ho ?_
  simp [faultV]
  refine CallA.code (af := ac22) rfl (Nat.le_of_ble_eq_true rfl) ?_
  simp [ac22, splice]
  exact hq

end
end Go.Ut
