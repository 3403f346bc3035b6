/- The reference's letter: on the abstract machine. -/
import Derived.Test.YtjfflpknmhflfaaDoorMtLl
namespace Go.Mt
open Go.Am Go.Proofs
set_option maxRecDepth 100000

def ltV : Wd → V
  | none => .tup [.int .i64 0, .int .i64 0]
  | some (_, s, n) => .tup [.int .i64 s.length, .int .i64 n]

section
variable {bs : List Nat} {h : List Ob} {Q : V → List Ob → Prop}

theorem rletter (b : Bs) (hb : b.length < 1000000) (hq : Q (ltV (letT b)) h) : CallA ap 50 0 bs [.sl .frozen (bV b)] h Q := by
  refine CallA.code (af := ac50) rfl (Nat.le_of_ble_eq_true rfl) ?_
  have cons : ∀ (c : UInt8) (r : Bs), bV (c :: r) = .int .u8 c.toNat :: bV r := fun c r => rfl
  match b, hb, hq with
  | [], _, hq =>
    simp [ac50, bV]
    simpa [letT, ltV] using hq
  | [c0], _, hq =>
    simp [ac50, bV]
    simpa [letT, ltV] using hq
  | [c0, c1], _, hq =>
    simp [ac50, bV]
    simpa [letT, ltV] using hq
  | c0 :: c1 :: c2 :: r, hb, hq =>
    have w1 : IntKind.wrap .i64 (c1.toNat : Int) = c1.toNat := wrapn (by omega) (by have := c1.toNat_lt; omega)
    have w2 : IntKind.wrap .i64 (c2.toNat : Int) = c2.toNat := wrapn (by omega) (by have := c2.toNat_lt; omega)
    have w39 : IntKind.wrap .i64 39 = 39 := wrapn (by omega) (by omega)
    have w92 : IntKind.wrap .i64 92 = 92 := wrapn (by omega) (by omega)
    have l3 : (3 : Int) ≤ (r.length : Int) + 1 + 1 + 1 := by omega
    have a1 : (32 ≤ (c1.toNat : Int)) = (32 ≤ c1.toNat) := propext (by omega)
    have a2 : ((c1.toNat : Int) ≤ 126) = (c1.toNat ≤ 126) := propext (by omega)
    have a3 : ((c1.toNat : Int) != 39) = (c1.toNat != 39) := congrArg (! ·) (eqn c1 39)
    have a4 : ((c1.toNat : Int) != 92) = (c1.toNat != 92) := congrArg (! ·) (eqn c1 92)
    have a5 : ((c2.toNat : Int) == 39) = (c2.toNat == 39) := eqn c2 39
    have a6 : ((c1.toNat : Int) == 92) = (c1.toNat == 92) := eqn c1 92
    have a7 : ((c2.toNat : Int) == 110) = (c2.toNat == 110) := eqn c2 110
    have a8 : ((c2.toNat : Int) == 92) = (c2.toNat == 92) := eqn c2 92
    cases r with
    | nil =>
      simp only [letT, let2] at hq
      unfold plainB at hq
      by_cases h1 : 32 ≤ c1.toNat <;> by_cases h2 : c1.toNat ≤ 126 <;> cases h3 : (c1.toNat != 39) <;> cases h4 : (c1.toNat != 92) <;> cases h5 : (c2.toNat == 39) <;>
        (simp [ac50, bV, a1, a2, a3, a4, a5, h1, h2, h3, h4, h5, w1]
         simp at h5
         simpa [ltV, h1, h2, h3, h4, h5] using hq)
    | cons c3 r =>
      have l4 : (4 : Int) ≤ (r.length : Int) + 1 + 1 + 1 + 1 := by omega
      have l3' : (3 : Int) ≤ (r.length : Int) + 1 + 1 + 1 + 1 := by omega
      have a9 : ((c3.toNat : Int) == 39) = (c3.toNat == 39) := eqn c3 39
      simp only [letT, let2] at hq
      by_cases k1 : c1.toNat = 92
      · have p1 : plainB c1 = false := by simp [plainB, k1]
        simp only [p1, k1, Bool.false_eq_true, false_and, if_false, true_and] at hq
        by_cases k3 : c3.toNat = 39
        · rw [if_pos k3] at hq
          by_cases q1 : c2.toNat = 110
          · simp [ac50, cons, bV_len, l4, k1, k3, q1]
            simpa [ltV, q1] using hq
          · have q1' : (c2.toNat == 110) = false := by simpa using q1
            rw [if_neg q1] at hq
            by_cases q2 : c2.toNat = 39
            · simp [ac50, cons, bV_len, l4, k1, k3, q2, w39]
              simpa [ltV, q2] using hq
            · have q2' : (c2.toNat == 39) = false := by simpa using q2
              by_cases q3 : c2.toNat = 92
              · simp [ac50, cons, bV_len, l4, k1, k3, q3, w92]
                simpa [ltV, q3] using hq
              · have q3' : (c2.toNat == 92) = false := by simpa using q3
                simp [ac50, cons, bV_len, l4, k1, k3, a7, a5, a8, q1', q2', q3']
                simpa [ltV, q2, q3] using hq
        · have k3' : (c3.toNat == 39) = false := by simpa using k3
          rw [if_neg k3] at hq
          simp [ac50, cons, bV_len, l4, l3', k1, a9, k3']
          simpa [ltV] using hq
      · have k1' : (c1.toNat == 92) = false := by simpa using k1
        have k4 : (c1.toNat != 92) = true := by simpa using k1
        have hk : ¬ (c1.toNat = 92 ∧ c3.toNat = 39) := fun h => k1 h.1
        simp only [hk, if_false] at hq
        unfold plainB at hq
        by_cases h1 : 32 ≤ c1.toNat <;> by_cases h2 : c1.toNat ≤ 126 <;> cases h3 : (c1.toNat != 39) <;> cases h5 : (c2.toNat == 39) <;>
          (simp [ac50, cons, bV_len, l4, l3', a1, a2, a3, a4, a5, a6, h1, h2, h3, k1', k4, h5, w1]
           simp at h5
           simpa [ltV, h1, h2, h3, k4, h5] using hq)

end
end Go.Mt
