/- The words of a text, one by one; all of them: on the abstract machine. -/
import Derived.Test.YtjfflpknmhflfaaDoorUtLd
namespace Go.Ut
open Go.Am Go.Proofs
set_option maxRecDepth 100000

theorem blank_le (b : Bs) : blankN b ≤ b.length := by
  cases b with
  | nil => exact Nat.le_refl _
  | cons c r =>
    simp only [blankN]
    split
    · simp
    · split
      · exact whl_le _ _
      · exact Nat.zero_le _

section
variable {bs : List Nat} {h : List Ob} {Q : V → List Ob → Prop}

/-- A word that is none, where. -/
def errV (p : Nat) : V := .iface 59 (.ptr p 0)
def errB (at_ : Nat) : Ob := .box [.int .i64 at_, .sent 1]

theorem all34 {b : Bs} (hb : b.length ≤ 20000) {r p : Nat} (ans : Bool) {Y : List Tk → List Ob} {YE : List Tk → Nat → List Ob} (hp : ∀ ts, (Y ts)[p]? = some (.box [.sl .frozen (bV b)]))
    (hY : ∀ (ts : List Tk) (t : Tk) (Q : V → List Ob → Prop), ts.length < 20000 → Q (.bool true) (Y (ts ++ [t])) → CallA ap r 1000001 bs [tkV t, .nili] (Y ts) Q)
    (hE : ∀ (ts : List Tk) (at_ : Nat) (Q : V → List Ob → Prop), ts.length < 20000 → Q (.bool ans) (YE ts at_) → CallA ap r 1000001 bs [tokV 0 0 [] 0, errV (Y ts).length] (Y ts ++ [errB at_]) Q)
    (h1 : ∀ ts, lexF (b.length + 1) 0 b = (ts, none) → Q (.tup []) (Y ts)) (h2 : ∀ ts at_, lexF (b.length + 1) 0 b = (ts, some at_) → Q (.tup []) (YE ts at_)) :
    CallA ap 34 0 bs [.yld r, .ptr p 0] (Y []) Q := by
  refine CallA.code (af := ac34) rfl (Nat.le_of_ble_eq_true rfl) ?_
  have g0 : ¬ (20000 : Int) < (b.length : Int) := by omega
  simp [ac34, hp, bV_len, g0]
  obtain ⟨I, hI⟩ : ∃ I : Nat → St → Prop, ∀ n s, I n s ↔ (∃ (i f : Nat) (ts : List Tk), i + n = b.length ∧ ts.length ≤ i ∧ n < f ∧ lexF (b.length + 1) 0 b = (ts ++ (lexF f i (b.drop i)).1, (lexF f i (b.drop i)).2) ∧ s.r 0 = .yld r ∧ s.r 1 = .ptr p 0 ∧ s.r 3 = .int .i64 i ∧ s.h = Y ts) := ⟨_, fun _ _ => Iff.rfl⟩
  refine loop_ind (CallA.hle ap) I ?_ (n := b.length) ((hI _ _).2 ⟨0, b.length + 1, [], by simp⟩)
  rintro n ⟨rr, lo, h'⟩ hst
  obtain ⟨i, f, ts, hin, hts, hf, hlex, r0, r1, r3, hh⟩ := (hI _ _).1 hst
  simp only at r0 r1 r3 hh
  subst hh
  obtain ⟨f, rfl⟩ : ∃ g, f = g + 1 := ⟨f - 1, by omega⟩
  by_cases hi : i < b.length
  · have gi : (i : Int) < (b.length : Int) := by omega
    have hi2 : i ≤ b.length := by omega
    cases hd : b.drop i with
    | nil => have := congrArg List.length hd; simp at this; omega
    | cons c rs =>
    have hrl : (c :: rs).length < 1000000 := by rw [← hd]; simp; omega
    have hrl2 : (c :: rs).length = b.length - i := by rw [← hd]; simp
    rw [hd] at hlex
    have hc : (i = 0 ∨ ∀ x ∈ bV b, x.cells.length = 1) = True := eq_true (.inr (bV_cells b))
    have ht : (bV (c :: rs)).take (b.length - i) = bV (c :: rs) := List.take_of_length_le (by rw [bV_len]; omega)
    have hble := blank_le (c :: rs)
    simp [forget, noLoc, locOf, r0, r1, r3, hp, bV_len, hi, sliceV, bnd, hi2, bV_drop, hd, bV_dem, hc, ht]
    refine blank35 c rs hrl ?_
    by_cases hbl : 0 < blankN (c :: rs)
    · have hw : IntKind.wrap .i64 ((i : Int) + blankN (c :: rs)) = ((i + blankN (c :: rs) : Nat) : Int) := by rw [wrapn (by omega) (by omega)]; omega
      have el : lexF (f + 1) i (c :: rs) = lexF f (i + blankN (c :: rs)) (b.drop (i + blankN (c :: rs))) := by
        simp only [lexF, hbl, if_true]
        rw [if_neg (by simp), ← hd, List.drop_drop]
      rw [el] at hlex
      simp [r0, r1, r3, hbl, hw]
      refine ⟨n - blankN (c :: rs), by omega, (hI _ _).2 ⟨i + blankN (c :: rs), f, ts, by omega, by omega, by omega, hlex, by simp [r0, r1]⟩⟩
    · have hbz : blankN (c :: rs) = 0 := by omega
      simp [r0, r1, r3, hbz, hp, sliceV, bnd, bV_len, hi2, bV_drop, hd, bV_dem, hc, ht]
      refine word36 c rs hrl ?_
      cases hwd : wordT (c :: rs) with
      | none =>
        have el : lexF (f + 1) i (c :: rs) = ([], some i) := by
          simp only [lexF, hbl, if_false, hwd]
          rw [if_neg (by simp)]
        rw [el] at hlex
        simp [wdV, tokV, splice, r0, r1, r3]
        refine hE ts i _ (by omega) ?_
        simp
        exact h2 _ _ (by simpa using hlex)
      | some w =>
        obtain ⟨k, s, nn⟩ := w
        have el : lexF (f + 1) i (c :: rs) = (⟨k, i, s, nn⟩ :: (lexF f (i + s.length) (b.drop (i + s.length))).1, (lexF f (i + s.length) (b.drop (i + s.length))).2) := by
          simp only [lexF, hbl, if_false, hwd]
          rw [if_neg (by simp), ← hd, List.drop_drop]
        rw [el] at hlex
        obtain ⟨p1, p2⟩ := word_pre hwd
        have p3 := p2.length_le
        have p4 : 0 < s.length := by
          cases s with
          | nil => exact absurd rfl p1
          | cons _ _ => simp
        have hw : IntKind.wrap .i64 ((i : Int) + s.length) = ((i + s.length : Nat) : Int) := by rw [wrapn (by omega) (by omega)]; omega
        simp [wdV, tokV, splice, r0, r1, r3]
        refine hY ts ⟨k, i, s, nn⟩ _ (by omega) ?_
        simp [r0, r1, r3, hw]
        refine ⟨n - s.length, by omega, (hI _ _).2 ⟨i + s.length, f, ts ++ [⟨k, i, s, nn⟩], by omega, by simp; omega, by omega, ?_, by simp [r0, r1]⟩⟩
        simpa using hlex
  · have hib : i = b.length := by omega
    have el : lexF (f + 1) i (b.drop i) = ([], none) := by
      simp [lexF, hib]
    rw [el] at hlex
    simp [forget, noLoc, locOf, r0, r1, r3, hp, bV_len, hi]
    exact h1 _ (by simpa using hlex)

end
end Go.Ut
