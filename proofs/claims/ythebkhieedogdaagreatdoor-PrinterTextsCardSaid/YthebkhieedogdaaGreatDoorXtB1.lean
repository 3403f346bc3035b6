/- The law PrinterTexts on the abstract machine: run at each of its seven texts. -/
import Derived.Test.YthebkhieedogdaaGreatDoorXtOvN
namespace Go.Xt
open Go.Am Go.Proofs
set_option maxRecDepth 100000
set_option maxHeartbeats 8000000

def slOf : V → List V
  | .sl _ xs => xs
  | _ => []

theorem printerTexts (n : Int) : CallA ap 3 0 [] [.int .i64 n] [] fun v _ => v = .bool true := by
  refine modO ov_ok 3000 cut3 (af := ac3) rfl (Nat.le_of_ble_eq_true rfl) (by kernel_rfl) (mid := mid3) (rest := rest3) (by kernel_rfl) fun r l h s hs e1 e2 e3 => ?_
  have h0 : r 0 = .int .i64 n := by rw [e1, hs]; kernel_rfl
  obtain ⟨xs, h4, hx⟩ : ∃ xs, r 4 = .sl .clip xs ∧ xs.length = 7 := ⟨slOf (r 4), by rw [e1, hs]; kernel_rfl, by rw [e1, hs]; kernel_rfl⟩
  obtain ⟨k, hk, e⟩ := mod_cases (m := 7) (by decide) (by decide) n
  simp [mid3, h0, h4, hx, e]
  have hk' : k = 0 ∨ k = 1 ∨ k = 2 ∨ k = 3 ∨ k = 4 ∨ k = 5 ∨ k = 6 := by omega
  rcases hk' with rfl | rfl | rfl | rfl | rfl | rfl | rfl
  · exact restO_true ov_ok 3000 (by rw [e1, e2, e3, hs]; clear h0 h4 hx e1 e2 e3 hs; as_aux_lemma => kernel_rfl)
  · exact restO_true ov_ok 3000 (by rw [e1, e2, e3, hs]; clear h0 h4 hx e1 e2 e3 hs; as_aux_lemma => kernel_rfl)
  · exact restO_true ov_ok 3000 (by rw [e1, e2, e3, hs]; clear h0 h4 hx e1 e2 e3 hs; as_aux_lemma => kernel_rfl)
  · exact restO_true ov_ok 3000 (by rw [e1, e2, e3, hs]; clear h0 h4 hx e1 e2 e3 hs; as_aux_lemma => kernel_rfl)
  · exact restO_true ov_ok 3000 (by rw [e1, e2, e3, hs]; clear h0 h4 hx e1 e2 e3 hs; as_aux_lemma => kernel_rfl)
  · exact restO_true ov_ok 3000 (by rw [e1, e2, e3, hs]; clear h0 h4 hx e1 e2 e3 hs; as_aux_lemma => kernel_rfl)
  · exact restO_true ov_ok 3000 (by rw [e1, e2, e3, hs]; clear h0 h4 hx e1 e2 e3 hs; as_aux_lemma => kernel_rfl)

end Go.Xt
