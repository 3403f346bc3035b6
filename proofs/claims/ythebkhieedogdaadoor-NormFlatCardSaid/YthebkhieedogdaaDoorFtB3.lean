/- The law NormFlat on the abstract machine: run at each of its nine terms. -/
import Derived.Test.YthebkhieedogdaaDoorFtOvN
namespace Go.Ft
open Go.Am Go.Proofs
set_option maxRecDepth 100000
set_option maxHeartbeats 8000000

def slOf : V → List V
  | .sl _ xs => xs
  | _ => []

theorem normFlat (n : Int) : CallA ap 4 0 [] [.int .i64 n] [] fun v _ => v = .bool true := by
  refine modO ov_ok 3000 cut4 (af := ac4) rfl (Nat.le_of_ble_eq_true rfl) (by kernel_rfl) (mid := mid4) (rest := rest4) (by kernel_rfl) fun r l h s hs e1 e2 e3 => ?_
  have h0 : r 0 = .int .i64 n := by rw [e1, hs]; kernel_rfl
  obtain ⟨k, hk, e⟩ := mod_cases (m := 9) (by decide) (by decide) n
  have h8 : r 8 = .sl .clip (slOf (s.r 8)) := by rw [e1, hs]; kernel_rfl
  have l8 : (slOf (s.r 8)).length = 9 := by rw [hs]; kernel_rfl
  generalize hX : slOf (s.r 8) = X at h8 l8
  simp [mid4, h0, h8, l8, e]
  have hk' : k = 0 ∨ k = 1 ∨ k = 2 ∨ k = 3 ∨ k = 4 ∨ k = 5 ∨ k = 6 ∨ k = 7 ∨ k = 8 := by omega
  rcases hk' with rfl | rfl | rfl | rfl | rfl | rfl | rfl | rfl | rfl
  all_goals
    rw [← hX]
    exact restO_true ov_ok 3000 (by rw [e1, e2, e3, hs]; clear h0 h8 l8 hX e1 e2 e3 hs e hk; as_aux_lemma => kernel_rfl)

end Go.Ft
