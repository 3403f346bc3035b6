/- Operators; the same words, the same faults: on the abstract machine. -/
import Derived.Test.YtjfflpknmhflfaaDoorMtLq
namespace Go.Mt
open Go.Am Go.Proofs
set_option maxRecDepth 100000
set_option maxHeartbeats 2000000

section
variable {bs : List Nat} {h : List Ob} {Q : V → List Ob → Prop}

theorem loper (s : Bs) (hq : Q (.bool (opB s)) h) : CallA ap 25 0 bs [.str s] h Q := by
  refine CallA.code (af := ac25) rfl (Nat.le_of_ble_eq_true rfl) ?_
  simp [ac25]
  refine CallA.prim (p := fieldsP) rfl opsP ?_
  have hlO : OPS.length < 1000 := by decide
  unfold opB at hq
  simp
  generalize OPS = L at hq hlO
  obtain ⟨I, hI⟩ : ∃ I : Nat → St → Prop, ∀ n σ, I n σ ↔ (∃ i : Nat, i + n = L.length ∧ (∀ j (hj : j < L.length), j < i → (s == L[j]) = false) ∧ σ.r 0 = .str s ∧ σ.r 5 = .sl .frozen (L.map .str) ∧ σ.r 6 = .int .i64 L.length ∧ σ.r 7 = .int .i64 i ∧ σ.h = h) := ⟨_, fun _ _ => Iff.rfl⟩
  refine loop_ind (CallA.hle ap) I ?_ (n := L.length) ((hI _ _).2 ⟨0, by simp⟩)
  rintro n ⟨r', lo, h'⟩ hst
  obtain ⟨i, hin, hno, r0, r5, r6, r7, rfl⟩ := (hI _ _).1 hst
  simp only at r0 r5 r6 r7
  by_cases hi : i < L.length
  · have hw : IntKind.wrap .i64 ((i : Int) + 1) = ((i + 1 : Nat) : Int) := by rw [wrapn (by omega) (by omega)]; omega
    cases ho : (s == L[i])
    · simp [forget, noLoc, r0, r5, r6, r7, hi, ho, hw]
      exact ⟨n - 1, by omega, (hI _ _).2 ⟨i + 1, by omega, fun j hj hji => by
        by_cases hji' : j = i
        · subst hji'; exact ho
        · exact hno j hj (by omega), by simp [r0], by simp [r5], by simp [r6], by simp, rfl⟩⟩
    · have hm : L.contains s = true := by
        rw [List.contains_iff_mem]
        have : s = L[i] := by simpa using ho
        rw [this]
        exact List.getElem_mem hi
      rw [hm] at hq
      simp [forget, noLoc, r0, r5, r6, r7, hi, ho]
      exact hq
  · have hm : L.contains s = false := by
      cases hc : L.contains s
      · rfl
      · obtain ⟨j, hj, e⟩ := List.getElem_of_mem (List.contains_iff_mem.1 hc)
        have := hno j hj (by omega)
        rw [e] at this
        simp at this
    rw [hm] at hq
    simp [forget, noLoc, r6, r7, hi]
    exact hq

theorem sameTok (t : Tk) (hq : Q (.bool true) h) : CallA ap 33 0 bs [tkV t, tkV t] h Q := by
  refine CallA.code (af := ac33) rfl (Nat.le_of_ble_eq_true rfl) ?_
  simp [ac33, tkV, tokV]
  exact hq

theorem sameToks (l : List Tk) (hl : l.length < 1000000) (hq : Q (.bool true) h) : CallA ap 18 0 bs [.sl .frozen (l.map tkV), .sl .frozen (l.map tkV)] h Q := by
  refine CallA.code (af := ac18) rfl (Nat.le_of_ble_eq_true rfl) ?_
  simp [ac18]
  obtain ⟨I, hI⟩ : ∃ I : Nat → St → Prop, ∀ n σ, I n σ ↔ (∃ i : Nat, i + n = l.length ∧ σ.r 0 = .sl .frozen (l.map tkV) ∧ σ.r 1 = .sl .frozen (l.map tkV) ∧ σ.r 5 = .int .i64 i ∧ σ.h = h) := ⟨_, fun _ _ => Iff.rfl⟩
  refine loop_ind (CallA.hle ap) I ?_ (n := l.length) ((hI _ _).2 ⟨0, by simp⟩)
  rintro n ⟨r', lo, h'⟩ hst
  obtain ⟨i, hin, r0, r1, r5, rfl⟩ := (hI _ _).1 hst
  simp only at r0 r1 r5
  by_cases hi : i < l.length
  · have hw : IntKind.wrap .i64 ((i : Int) + 1) = ((i + 1 : Nat) : Int) := by rw [wrapn (by omega) (by omega)]; omega
    have tkl : tkV l[i] = .agg [.int .i64 l[i].k, .int .i64 l[i].p, .str l[i].s, .int .i64 l[i].n] := rfl
    simp [forget, noLoc, r0, r1, r5, hi, tkl]
    rw [← tkl]
    refine sameTok _ ?_
    simp [r5, hw]
    exact ⟨n - 1, by omega, (hI _ _).2 ⟨i + 1, by omega, by simp [r0], by simp [r1], by simp, rfl⟩⟩
  · simp [forget, noLoc, r0, r5, hi]
    exact hq

theorem sameF (x y : Int) (p : Bool) (hq : Q (.bool true) h) : CallA ap 22 0 bs [.agg [.int .i64 x, .bool p, .int .i64 y], .agg [.int .i64 x, .bool p, .int .i64 y]] h Q := by
  refine CallA.code (af := ac22) rfl (Nat.le_of_ble_eq_true rfl) ?_
  simp [ac22]
  exact hq

end
end Go.Mt
