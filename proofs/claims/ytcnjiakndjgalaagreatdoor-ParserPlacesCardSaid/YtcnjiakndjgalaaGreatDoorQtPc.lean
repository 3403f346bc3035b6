/- The law ParserPlaces on the abstract machine: up to where it is run. -/
import Derived.Test.YtcnjiakndjgalaaGreatDoorQtOvQ
namespace Go.Qt
open Go.Am Go.Proofs
set_option maxRecDepth 100000
set_option maxHeartbeats 8000000

theorem wr64p {n : Int} (h1 : -9223372036854775808 ≤ n) (h2 : n < 9223372036854775808) : IntKind.wrap .i64 n = n := by
  show (if (true && decide (n % 18446744073709551616 ≥ 9223372036854775808)) = true then n % 18446744073709551616 - 18446744073709551616 else n % 18446744073709551616) = n
  simp only [Bool.true_and, decide_eq_true_eq]
  split <;> omega

theorem mod_casesp {m : Int} (hm : 0 < m) (h3 : m < 1000) (n : Int) : ∃ k : Nat, (k : Int) < m ∧ (IntKind.wrap .i64 (n.tmod m + m)).tmod m = k := by
  have h1 : n.tmod m < m := Int.tmod_lt_of_pos n hm
  have h2 : -m < n.tmod m := Int.lt_tmod_of_pos n hm
  rw [wr64p (by omega) (by omega)]
  have h4 := Int.tmod_lt_of_pos (n.tmod m + m) hm
  have h5 := Int.tmod_nonneg m (show 0 ≤ n.tmod m + m by omega)
  exact ⟨((n.tmod m + m).tmod m).toNat, by omega, by omega⟩

theorem first27 : CallA ap 27 0 [0] [] [] fun v h => v = .bool true ∧ h = [] :=
  runsO ovP_ok 3000 (v := .bool true) (h' := []) (by as_aux_lemma => kernel_rfl) ⟨rfl, rfl⟩

def sPl (n : Int) (k : Nat) : St :=
  ⟨put (put (put (put (put (put (put (put (put (put (startR [V.int IntKind.i64 n]) 2 (V.bool false)) 12 (V.bool true)) 3 (V.bool true)) 13 (V.bool true)) 14 (V.bool false)) 15 (V.int IntKind.i64 n)) 16 (V.int IntKind.i64 (n.tmod 30)))
    17 (V.int IntKind.i64 (IntKind.i64.wrap (n.tmod 30 + 30)))) 18 (V.int IntKind.i64 (k : Nat))) 0 (V.int IntKind.i64 (k : Nat)), fun _ => none, []⟩

def runPl (n : Int) (k : Nat) : Bool := isTrueR (xFinE [AR.t 2] false true 0 (xRun (xFuelO ap ovP 3000) [0] rest5 (sPl n k)))

end Go.Qt
