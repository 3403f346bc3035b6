/- The law ParserSigs on the abstract machine: run at each of its three texts, as a program and within a let. -/
import Derived.Test.YtcnjiakndjgalaaGreatDoorQtOvQ
namespace Go.Qt
open Go.Am Go.Proofs
set_option maxRecDepth 100000
set_option maxHeartbeats 8000000

theorem wr64 {n : Int} (h1 : -9223372036854775808 ≤ n) (h2 : n < 9223372036854775808) : IntKind.wrap .i64 n = n := by
  show (if (true && decide (n % 18446744073709551616 ≥ 9223372036854775808)) = true then n % 18446744073709551616 - 18446744073709551616 else n % 18446744073709551616) = n
  simp only [Bool.true_and, decide_eq_true_eq]
  split <;> omega

theorem mod_cases {m : Int} (hm : 0 < m) (h3 : m < 1000) (n : Int) : ∃ k : Nat, (k : Int) < m ∧ (IntKind.wrap .i64 (n.tmod m + m)).tmod m = k := by
  have h1 : n.tmod m < m := Int.tmod_lt_of_pos n hm
  have h2 : -m < n.tmod m := Int.lt_tmod_of_pos n hm
  rw [wr64 (by omega) (by omega)]
  have h4 := Int.tmod_lt_of_pos (n.tmod m + m) hm
  have h5 := Int.tmod_nonneg m (show 0 ≤ n.tmod m + m by omega)
  exact ⟨((n.tmod m + m).tmod m).toNat, by omega, by omega⟩

theorem parserSigs (n : Int) (b : Bool) : CallA ap 6 0 [] [.int .i64 n, .bool b] [] fun v _ => v = .bool true := by
  cases b
  all_goals
    refine modO ovP_ok 3000 cut6 (af := ac6) rfl (Nat.le_of_ble_eq_true rfl) (by kernel_rfl) (mid := mid6) (rest := rest6) (by kernel_rfl) fun r l h s hs e1 e2 e3 => ?_
    have h0 : r 0 = .int .i64 n := by rw [e1, hs]; kernel_rfl
    obtain ⟨k, hk, e⟩ := mod_cases (m := 3) (by decide) (by decide) n
    simp [mid6, h0, e]
    have hk' : k = 0 ∨ k = 1 ∨ k = 2 := by omega
    rcases hk' with rfl | rfl | rfl
    all_goals
      exact restO_true ovP_ok 3000 (by rw [e1, e2, e3, hs]; clear h0 e1 e2 e3 hs e hk; as_aux_lemma => kernel_rfl)

end Go.Qt
