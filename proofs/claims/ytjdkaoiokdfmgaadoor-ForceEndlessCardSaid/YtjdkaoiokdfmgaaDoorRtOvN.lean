/- No functions known whole. -/
import Derived.Test.YtjdkaoiokdfmgaaDoorRtTab
import Derived.Test.YtjdkaoiokdfmgaaDoorAmU
namespace Go.Rt
open Go.Am Go.Proofs

def ov : Ov := fun _ _ _ _ => none
theorem ov_ok : OvOk ap ov := fun _ _ _ _ _ _ e => by cases e

theorem wr64 {n : Int} (h1 : -9223372036854775808 ≤ n) (h2 : n < 9223372036854775808) : IntKind.wrap .i64 n = n := by
  show (if (true && decide (n % 18446744073709551616 ≥ 9223372036854775808)) = true then n % 18446744073709551616 - 18446744073709551616 else n % 18446744073709551616) = n
  simp only [Bool.true_and, decide_eq_true_eq]
  split <;> omega

theorem mod_cases {m : Int} (hm : 0 < m) (h3 : m < 1000) (n : Int) : ∃ k : Nat, (k : Int) < m ∧ (IntKind.wrap .i64 (n.tmod m + m)).tmod m = k := by
  have h1 : n.tmod m < m := Int.tmod_lt_of_pos n hm
  have h2 : -m < n.tmod m := Int.lt_tmod_of_pos n hm
  rw [wr64 (by omega) (by omega)]
  have h4 := Int.tmod_lt_of_pos (n.tmod m + m) hm
  have h5 := Int.tmod_nonneg m (show 0 ≤ n.tmod m + m by omega)
  exact ⟨((n.tmod m + m).tmod m).toNat, by omega, by omega⟩

end Go.Rt
