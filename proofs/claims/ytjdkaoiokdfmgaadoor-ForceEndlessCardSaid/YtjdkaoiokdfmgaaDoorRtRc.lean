/- The law ForceLimits on the abstract machine: joined. -/
import Derived.Test.YtjdkaoiokdfmgaaDoorRtRb
namespace Go.Rt
open Go.Am Go.Proofs
set_option maxRecDepth 100000
set_option maxHeartbeats 8000000

theorem int_bd {n : Int} (h : (Lit.int .i64 n).wf = true) : -9223372036854775808 ≤ n ∧ n < 9223372036854775808 := by
  simp only [Lit.wf, Bool.and_eq_true, decide_eq_true_eq] at h
  have h1 : -9223372036854775808 ≤ n := h.1
  have h2 : n ≤ 9223372036854775807 := h.2
  omega

theorem lamI (n : Int) (Q : V → List Ob → Prop) (hq : Q (.tup [.str [60, 102, 117, 110, 99, 116, 105, 111, 110, 62], .nili]) (hI n)) :
    CallA ap 6 0 [0] [.agg [.int .i64 6, .str [120], .int .i64 0, .int .i64 2, .str [73, 110, 116], .sl .frozen [], .sl .frozen [.agg [.int .i64 3, .str [], .int .i64 n, .int .i64 0, .str [], .sl .frozen [], .sl .frozen [], .sl .frozen [], .sl .frozen []]], .sl .frozen [], .sl .frozen []], .int .i64 1000, .int .i64 100] (hI n) Q :=
  runsO ov_ok 3000 (v := .tup [.str [60, 102, 117, 110, 99, 116, 105, 111, 110, 62], .nili]) (h' := hI n) (by clear hq; as_aux_lemma => kernel_rfl) hq

theorem con26 (s : List UInt8) (t : Tag) (bs : List Nat) (h : List Ob) (Q : V → List Ob → Prop) (hq : Q (.agg [.int .i64 2, .str s, .sl .frozen []]) h) : CallA ap 9 0 bs [.str s, .sl t []] h Q := by
  refine CallA.code (af := ac9) rfl (Nat.le_of_ble_eq_true rfl) ?_
  simp [ac9, splice]
  exact hq

theorem isLim (n most : Int) (s : List UInt8) (Q : V → List Ob → Prop) (hq : Q (.bool true) (pI n most s)) : CallA ap 11 0 [0] [.sent 0, .int .i64 111] (pI n most s) Q :=
  runsO ov_ok 3000 (v := .bool true) (h' := pI n most s) (by clear hq; as_aux_lemma => kernel_rfl) hq

theorem forceLimits (n most : Int) (h1 : -9223372036854775808 ≤ n ∧ n < 9223372036854775808) : CallA ap 3 0 [] [.int .i64 n, .int .i64 most] [] fun v _ => v = .bool true := by
  refine CallA.code (af := ac3) rfl (Nat.le_of_ble_eq_true rfl) ?_
  obtain ⟨k, hk, e⟩ := mod_cases (m := 30) (by decide) (by decide) most
  simp [ac3]
  refine first26 rfl ?_
  simp [mid3, e, rest3, splice]
  refine termI n h1.1 h1.2 rfl ?_
  simp
  refine textI n h1.1 h1.2 ?_
  have et : V.agg [.int .i64 3, .str [], .int .i64 n, .int .i64 0, .str [], .sl .frozen [], .sl .frozen [], .sl .frozen [], .sl .frozen []] = tI n := rfl
  have hl := want_len n h1.1 h1.2
  have fin : ∀ s : List UInt8, s = wantI n → (∀ Q : V → List Ob → Prop, Q (if (s.length : Int) > (k : Int) then V.tup [.str [], .sent 0] else .tup [.str s, .nili]) (pI n k s) → CallA ap 10 0 [0] [.ptr 7 0, .int .i64 1000, .int .i64 k] (hI n) Q) := fun s hs Q hq => by
    subst hs
    exact textF n k h1.1 h1.2 (.inl rfl) hq
  simp
  refine condA_dec (fun d => ?_) fun d => ?_
  · have dl := dig_len n.natAbs (by omega)
    have hit : Lib.itoa n = 45 :: Lib.decDigits n.natAbs := by rw [Lib.itoa, if_pos d]
    have hw : wantI n = [40, 48, 32, 45, 32] ++ Lib.decDigits n.natAbs ++ [41] := if_pos d
    have a1 : binV .add (.str [40, 48, 32, 45, 32]) (.str (Lib.decDigits n.natAbs)) = some (.str ([40, 48, 32, 45, 32] ++ Lib.decDigits n.natAbs)) := by
      simp only [binV]; rw [if_pos (by simp; omega)]
    have a2 : binV .add (.str ([40, 48, 32, 45, 32] ++ Lib.decDigits n.natAbs)) (.str [41]) = some (.str ([40, 48, 32, 45, 32] ++ Lib.decDigits n.natAbs ++ [41])) := by
      simp only [binV]; rw [if_pos (by simp; omega)]
    simp only [List.cons_append, List.nil_append] at a1 a2 hw
    simp [hit, sliceV, bnd, a1, a2]
    rw [← hw]
    refine newI n (.inl rfl) ?_
    simp
    refine con26 _ _ _ _ _ ?_
    simp [splice]
    refine lamI n _ ?_
    simp
    refine fin _ rfl _ ?_
    by_cases d2 : ((wantI n).length : Int) > (k : Int)
    · simp [d2]
      refine isLim n k _ _ ?_
      simp
    · simp [d2]
  · have hw : wantI n = Lib.itoa n := if_neg d
    rw [← hw]
    simp
    refine newI n (.inl rfl) ?_
    simp
    refine con26 _ _ _ _ _ ?_
    simp [splice]
    refine lamI n _ ?_
    simp
    refine fin _ rfl _ ?_
    by_cases d2 : ((wantI n).length : Int) > (k : Int)
    · simp [d2]
      refine isLim n k _ _ ?_
      simp
    · simp [d2]

end Go.Rt
