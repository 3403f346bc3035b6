/- Primitives of numbers: on the abstract machine. -/
import Derived.Test.YtoachlegeiefaaaDoorDtTab
namespace Go.Dt
open Go.Am Go.Proofs
set_option maxRecDepth 100000

theorem wrap_def (n : Int) : IntKind.wrap .i64 n = if n % 18446744073709551616 ≥ 9223372036854775808 then n % 18446744073709551616 - 18446744073709551616 else n % 18446744073709551616 := by
  show (if (true && decide (n % 18446744073709551616 ≥ 9223372036854775808)) = true then n % 18446744073709551616 - 18446744073709551616 else n % 18446744073709551616) = _
  simp only [Bool.true_and, decide_eq_true_eq]

theorem wrap_back {a b : Int} (h1 : -9223372036854775808 ≤ a) (h2 : a < 9223372036854775808) : IntKind.wrap .i64 (IntKind.wrap .i64 (a + b) - b) = a := by
  rw [wrap_def, wrap_def (a + b)]
  split <;> split <;> omega

section
variable {bs : List Nat} {h : List Ob} {Q : V → List Ob → Prop}

def sAdd : List UInt8 := [112, 114, 105, 109, 73, 110, 116, 65, 100, 100]
def sSub : List UInt8 := [112, 114, 105, 109, 73, 110, 116, 83, 117, 98]
def sMul : List UInt8 := [112, 114, 105, 109, 73, 110, 116, 77, 117, 108]
def sEq : List UInt8 := [112, 114, 105, 109, 73, 110, 116, 69, 113]
def sLess : List UInt8 := [112, 114, 105, 109, 73, 110, 116, 76, 101, 115, 115]

theorem p_add (a b : Int) (hq : Q (.tup [.int .i64 (IntKind.wrap .i64 (a + b)), .bool true]) h) : CallA ap 29 0 bs [.str [112, 114, 105, 109, 73, 110, 116, 65, 100, 100], .int .i64 a, .int .i64 b] h Q := by
  refine CallA.code (af := ac29) rfl (Nat.le_of_ble_eq_true rfl) ?_
  simp [ac29]
  exact hq
theorem p_sub (a b : Int) (hq : Q (.tup [.int .i64 (IntKind.wrap .i64 (a - b)), .bool true]) h) : CallA ap 29 0 bs [.str [112, 114, 105, 109, 73, 110, 116, 83, 117, 98], .int .i64 a, .int .i64 b] h Q := by
  refine CallA.code (af := ac29) rfl (Nat.le_of_ble_eq_true rfl) ?_
  simp [ac29]
  exact hq
theorem p_mul (a b : Int) (hq : Q (.tup [.int .i64 (IntKind.wrap .i64 (a * b)), .bool true]) h) : CallA ap 29 0 bs [.str [112, 114, 105, 109, 73, 110, 116, 77, 117, 108], .int .i64 a, .int .i64 b] h Q := by
  refine CallA.code (af := ac29) rfl (Nat.le_of_ble_eq_true rfl) ?_
  simp [ac29]
  exact hq
theorem p_no (a b : Int) (hq : Q (.tup [.int .i64 0, .bool false]) h) : CallA ap 29 0 bs [.str [112, 114, 105, 109, 73, 110, 116, 69, 113], .int .i64 a, .int .i64 b] h Q := by
  refine CallA.code (af := ac29) rfl (Nat.le_of_ble_eq_true rfl) ?_
  simp [ac29]
  exact hq
theorem p_eq (a b : Int) (hq : Q (.tup [.bool (a == b), .bool true]) h) : CallA ap 31 0 bs [.str [112, 114, 105, 109, 73, 110, 116, 69, 113], .int .i64 a, .int .i64 b] h Q := by
  refine CallA.code (af := ac31) rfl (Nat.le_of_ble_eq_true rfl) ?_
  simp [ac31]
  exact hq
theorem p_less (a b : Int) (hq : Q (.tup [.bool (decide (a < b)), .bool true]) h) : CallA ap 31 0 bs [.str [112, 114, 105, 109, 73, 110, 116, 76, 101, 115, 115], .int .i64 a, .int .i64 b] h Q := by
  refine CallA.code (af := ac31) rfl (Nat.le_of_ble_eq_true rfl) ?_
  simp [ac31]
  exact hq
theorem p_text (a : Int) (hq : Q (.tup [.str [], .bool false]) h) : CallA ap 25 0 bs [.str [112, 114, 105, 109, 73, 110, 116, 65, 100, 100], .int .i64 a] h Q := by
  refine CallA.code (af := ac25) rfl (Nat.le_of_ble_eq_true rfl) ?_
  simp [ac25]
  exact hq

theorem first23 (hq : Q (.bool true) h) : CallA ap 23 0 bs [] h Q := by
  refine CallA.code (af := ac23) rfl (Nat.le_of_ble_eq_true rfl) ?_
  simp [ac23]
  refine p_add 1 2 ?_
  have : IntKind.wrap .i64 (1 + 2) = 3 := by rw [wrap_def]; decide
  simp
  exact hq

end

theorem lawP (a b : Int) (h1 : -9223372036854775808 ≤ a) (h2 : a < 9223372036854775808) : CallA ap 8 0 [] [.int .i64 a, .int .i64 b] [] fun v _ => v = .bool true := by
  refine CallA.code (af := ac8) rfl (Nat.le_of_ble_eq_true rfl) ?_
  simp [ac8]
  refine first23 ?_
  simp
  refine p_add a b ?_
  simp
  refine p_sub _ b ?_
  rw [wrap_back h1 h2]
  simp
  refine p_mul a b ?_
  simp
  refine p_mul b a ?_
  rw [Int.mul_comm b a]
  simp
  refine p_eq a b ?_
  simp
  refine p_less a b ?_
  simp
  refine p_less b a ?_
  simp
  refine p_no a b ?_
  simp
  refine p_text a ?_
  simp
  rcases Int.lt_trichotomy a b with h | h | h
  · have e1 : (a == b) = false := by simp only [beq_eq_false_iff_ne, ne_eq]; omega
    have e2 : decide (a < b) = true := by simpa using h
    have e3 : decide (b < a) = false := by simp only [decide_eq_false_iff_not]; omega
    simp [e1, e2, e3]
  · subst h
    simp
  · have e1 : (a == b) = false := by simp only [beq_eq_false_iff_ne, ne_eq]; omega
    have e2 : decide (b < a) = true := by simpa using h
    have e3 : decide (a < b) = false := by simp only [decide_eq_false_iff_not]; omega
    simp [e1, e2, e3]

end Go.Dt
