/- The law ForceEndless on the abstract machine. -/
import Derived.Test.YtjdkaoiokdfmgaaDoorRtRh
namespace Go.Rt
open Go.Am Go.Proofs
set_option maxRecDepth 100000
set_option maxHeartbeats 8000000

theorem few0 (Q : V → List Ob → Prop) (k : Nat) (hk : k < 10) (hq : Q (.tup [.str [], .sent 3]) []) : CallA ap 6 0 [0] [tE, .int .i64 (k : Nat), .int .i64 1000] [] Q := by
  match k, hk with
  | 0, _ => exact runsO ov_ok 3000 (v := .tup [.str [], .sent 3]) (h' := []) (by clear hq; as_aux_lemma => kernel_rfl) hq
  | 1, _ => exact runsO ov_ok 3000 (v := .tup [.str [], .sent 3]) (h' := []) (by clear hq; as_aux_lemma => kernel_rfl) hq
  | 2, _ => exact runsO ov_ok 3000 (v := .tup [.str [], .sent 3]) (h' := []) (by clear hq; as_aux_lemma => kernel_rfl) hq
  | 3, _ => exact runsO ov_ok 3000 (v := .tup [.str [], .sent 3]) (h' := []) (by clear hq; as_aux_lemma => kernel_rfl) hq
  | 4, _ => exact runsO ov_ok 3000 (v := .tup [.str [], .sent 3]) (h' := []) (by clear hq; as_aux_lemma => kernel_rfl) hq
  | 5, _ => exact runsO ov_ok 3000 (v := .tup [.str [], .sent 3]) (h' := []) (by clear hq; as_aux_lemma => kernel_rfl) hq
  | 6, _ => exact runsO ov_ok 3000 (v := .tup [.str [], .sent 3]) (h' := []) (by clear hq; as_aux_lemma => kernel_rfl) hq
  | 7, _ => exact runsO ov_ok 3000 (v := .tup [.str [], .sent 3]) (h' := []) (by clear hq; as_aux_lemma => kernel_rfl) hq
  | 8, _ => exact runsO ov_ok 3000 (v := .tup [.str [], .sent 3]) (h' := []) (by clear hq; as_aux_lemma => kernel_rfl) hq
  | 9, _ => exact runsO ov_ok 3000 (v := .tup [.str [], .sent 3]) (h' := []) (by clear hq; as_aux_lemma => kernel_rfl) hq
  | k + 10, h => omega

theorem fuelE (Q : V → List Ob → Prop) (k : Nat) (hk : k < 3000) (hq : ∀ e, e = 3 ∨ e = 0 → Q (.tup [.str [], .sent e]) []) : CallA ap 6 0 [0] [tE, .int .i64 (k : Nat), .int .i64 1000] [] Q := by
  by_cases h : k < 10
  · exact few0 Q k h (hq 3 (.inl rfl))
  · exact termE k 1000 Q (k - 10) (by omega) (fun Q hq => run25E 998 k (by omega) (by omega) Q hq) (hq 0 (.inr rfl))

theorem cellsE (Q : V → List Ob → Prop) (k : Nat) (hq : ∀ e, e = 15 ∨ e = 0 → Q (.tup [.str [], .sent e]) []) : CallA ap 6 0 [0] [tE, .int .i64 1073741824, .int .i64 (k : Nat)] [] Q := by
  match k with
  | 0 => exact runsO ov_ok 3000 (v := .tup [.str [], .sent 15]) (h' := []) (by clear hq; as_aux_lemma => kernel_rfl) (hq 15 (.inl rfl))
  | 1 => exact runsO ov_ok 3000 (v := .tup [.str [], .sent 15]) (h' := []) (by clear hq; as_aux_lemma => kernel_rfl) (hq 15 (.inl rfl))
  | k + 2 => exact termE 1073741824 ((k + 2 : Nat) : Int) Q 1073741814 (by decide) (fun Q hq => run25E k 1073741824 (by decide) (by decide) Q hq) (hq 0 (.inr rfl))

theorem mod_casesE {m : Int} (hm : 0 < m) (h3 : m < 10000) (n : Int) : ∃ k : Nat, (k : Int) < m ∧ (IntKind.wrap .i64 (n.tmod m + m)).tmod m = k := by
  have h1 : n.tmod m < m := Int.tmod_lt_of_pos n hm
  have h2 : -m < n.tmod m := Int.lt_tmod_of_pos n hm
  rw [wr64 (by omega) (by omega)]
  have h4 := Int.tmod_lt_of_pos (n.tmod m + m) hm
  have h5 := Int.tmod_nonneg m (show 0 ≤ n.tmod m + m by omega)
  exact ⟨((n.tmod m + m).tmod m).toNat, by omega, by omega⟩

def isB (g : Nat) (c : Int) : Bool := (g == 3 && c == 112) || (g == 0 && c == 111) || (g == 15 && c == 113)
theorem isE (g : Nat) (c : Int) (hg : g = 3 ∨ g = 0 ∨ g = 15) (hc : c = 111 ∨ c = 112 ∨ c = 113) (Q : V → List Ob → Prop) (hq : Q (.bool (isB g c)) []) : CallA ap 11 0 [0] [.sent g, .int .i64 c] [] Q := by
  rcases hg with rfl | rfl | rfl <;> rcases hc with rfl | rfl | rfl <;> exact runsO ov_ok 3000 (v := _) (h' := []) (by clear hq; as_aux_lemma => kernel_rfl) hq

theorem conL (Q : V → List Ob → Prop) (hq : Q (.agg [.int .i64 2, .str [76, 105, 115, 116], .sl .frozen [.agg [.int .i64 2, .str [73, 110, 116], .sl .frozen []]]]) []) :
    CallA ap 9 0 [0] [.str [76, 105, 115, 116], .sl .frozen [.agg [.int .i64 2, .str [73, 110, 116], .sl .frozen []]]] [] Q :=
  runsO ov_ok 3000 (v := .agg [.int .i64 2, .str [76, 105, 115, 116], .sl .frozen [.agg [.int .i64 2, .str [73, 110, 116], .sl .frozen []]]]) (h' := []) (by clear hq; as_aux_lemma => kernel_rfl) hq

theorem forceEndless (n m : Int) : CallA ap 4 0 [] [.int .i64 n, .int .i64 m] [] fun v _ => v = .bool true := by
  refine CallA.code (af := ac4) rfl (Nat.le_of_ble_eq_true rfl) ?_
  obtain ⟨k, hk, e⟩ := mod_casesE (m := 3000) (by decide) (by decide) n
  obtain ⟨j, hj, e'⟩ := mod_casesE (m := 300) (by decide) (by decide) m
  simp [ac4]
  refine first26 rfl ?_
  simp [mid4, e, rest4, e']
  refine con26 _ _ _ _ _ ?_
  simp [splice]
  refine conL _ ?_
  simp [splice]
  refine fuelE _ k (by omega) fun g hg => ?_
  simp
  refine cellsE _ j fun g' hg' => ?_
  rcases hg with rfl | rfl <;> rcases hg' with rfl | rfl <;> simp
  · refine isE 3 112 (by simp) (by simp) _ ?_
    simp [isB]
    refine isE 15 111 (by simp) (by simp) _ ?_
    simp [isB]
    refine isE 15 113 (by simp) (by simp) _ ?_
    simp [isB]
  · refine isE 3 112 (by simp) (by simp) _ ?_
    simp [isB]
    refine isE 0 111 (by simp) (by simp) _ ?_
    simp [isB]
  · refine isE 0 112 (by simp) (by simp) _ ?_
    simp [isB]
    refine isE 0 113 (by simp) (by simp) _ ?_
    simp [isB]
    refine isE 0 111 (by simp) (by simp) _ ?_
    simp [isB]
    refine isE 15 111 (by simp) (by simp) _ ?_
    simp [isB]
    refine isE 15 113 (by simp) (by simp) _ ?_
    simp [isB]
  · refine isE 0 112 (by simp) (by simp) _ ?_
    simp [isB]
    refine isE 0 113 (by simp) (by simp) _ ?_
    simp [isB]
    refine isE 0 111 (by simp) (by simp) _ ?_
    simp [isB]
    refine isE 0 111 (by simp) (by simp) _ ?_
    simp [isB]

end Go.Rt
