/- Any primitive: what it comes to, how a letter is written: the law on the abstract machine. -/
import Derived.Test.YtabjkoehbbobdaaDoorItO
namespace Go.It
open Go.Am Go.Proofs
set_option maxRecDepth 100000

section
variable {bs : List Nat} {h : List Ob} {Q : V → List Ob → Prop}

theorem first23' (hq : Q (.bool true) h) : CallA ap 23 0 bs [] h Q := by
  refine CallA.code (af := ac23) rfl (Nat.le_of_ble_eq_true rfl) ?_
  simp [ac23]
  refine number sAdd 1 2 ?_
  have : IntKind.wrap .i64 (1 + 2) = 3 := by rw [wr64 (by omega) (by omega)]; rfl
  simp [numN, numB, this]
  exact hq

end

def prims : List (List UInt8) := [sEq, sLess, sAdd, sSub, sMul, sShow, sCEq, sCLess, sCShow]

theorem lawS (s : List UInt8) (a b c : Int) (h1 : -9223372036854775808 ≤ a) (h2 : a < 9223372036854775808) (h3 : 0 ≤ c) (h4 : c < 256) : CallA ap 7 0 [] [.str s, .int .i64 a, .int .i64 b, .int .u8 c] [] fun v _ => v = .bool true := by
  refine CallA.code (af := ac7) rfl (Nat.le_of_ble_eq_true rfl) ?_
  simp [ac7]
  refine first23' ?_
  simp
  by_cases c1 : (60 : Int) < s.length
  · simp [c1]
  simp [c1]
  refine CallA.code (af := ac27) rfl (Nat.le_of_ble_eq_true rfl) ?_
  simp [ac27]
  refine ⟨by simp [lim], ?_⟩
  obtain ⟨L, hL⟩ : ∃ L : List (List UInt8), L = prims ++ [s] := ⟨_, rfl⟩
  obtain ⟨I, hI⟩ : ∃ I : Nat → St → Prop, ∀ n σ, I n σ ↔ (∃ i : Nat, i + n = L.length ∧ σ.r 1 = .int .i64 a ∧ σ.r 2 = .int .i64 b ∧ σ.r 3 = .int .u8 c ∧ σ.r 9 = .bool true ∧ σ.r 10 = .sl (.fam 0) (L.map .str) ∧ σ.r 11 = .int .i64 i ∧ σ.h = [.fam 10 1]) := ⟨_, fun _ _ => Iff.rfl⟩
  have hLl : L.length = 10 := by rw [hL]; rfl
  refine loop_ind (CallA.hle ap) I ?_ (n := L.length) ((hI _ _).2 ⟨0, by simp, by simp [hL, prims, sEq, sLess, sAdd, sSub, sMul, sShow, sCEq, sCLess, sCShow]⟩)
  rintro n ⟨r, lo, h'⟩ hst
  obtain ⟨i, hin, r1, r2, r3, r9, r10, r11, rfl⟩ := (hI _ _).1 hst
  simp only at r1 r2 r3 r9 r10 r11
  simp [forget, noLoc, locOf, r1, r2, r3, r9, r10, r11]
  refine condA_dec (fun d1 => ?_) fun d1 => ?_
  · have hi : i < L.length := by omega
    have hw : IntKind.wrap .i64 ((i : Int) + 1) = ((i + 1 : Nat) : Int) := by rw [wr64 (by omega) (by omega)]; omega
    simp [r1, r2, r3, r9, r10, r11, hi]
    refine number L[i] a b ?_
    simp [r1, r2, r3, r9, r10, r11, hi]
    refine numberR L[i] a b ?_
    simp [r1, r2, r3, r9, r10, r11, hi]
    refine asks L[i] a b ?_
    simp [r1, r2, r3, r9, r10, r11, hi]
    refine asksR L[i] a b ?_
    simp [r1, r2, r3, r9, r10, r11, hi]
    refine text L[i] a h1 h2 ?_
    simp [r1, r2, r3, r9, r10, r11, hi]
    refine textR L[i] a h1 h2 ?_
    simp [r1, r2, r3, r9, r10, r11, hi]
    exact ⟨n - 1, by omega, (hI _ _).2 ⟨i + 1, by omega, by simp [r1, r2, r3, r9, r10, r11, hw]⟩⟩
  · simp [r1, r2, r3, r9, r10, r11]
    refine quote24 c h3 h4 ?_
    simp [r1, r2, r3, r9, r10, r11]
    refine quoteR c h3 h4 ?_
    simp [r1, r2, r3, r9, r10, r11]

end Go.It
