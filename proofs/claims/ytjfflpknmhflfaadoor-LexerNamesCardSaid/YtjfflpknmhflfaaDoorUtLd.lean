/- The lexer's word; the words of a text as a list: on the abstract machine. -/
import Derived.Test.YtjfflpknmhflfaaDoorUtLc
namespace Go.Ut
open Go.Am Go.Proofs
set_option maxRecDepth 100000

def wordT : Bs → Wd
  | [] => none
  | c :: r => if isSm c || isGr c then nameT (c :: r) else if isDg c then numT (c :: r) else if c.toNat = 39 then letT (c :: r) else
    if (signT ((c :: r).take 2)).2 = [] then none else some ((signT ((c :: r).take 2)).1, (signT ((c :: r).take 2)).2, 0)

theorem sign_mem (p : Bs) : signT p = (0, []) ∨ ((signT p).2 ≠ [] ∧ (signT p).2 <+: p) := by
  have ho : ∀ s ∈ OPS, s ≠ [] := by decide
  have hm : ∀ s ∈ MRK, s ≠ [] := by decide
  unfold signT
  rcases fold_mem p 6 MRK (foldS p 5 OPS (0, [])) with h | ⟨h1, h2⟩
  · rw [h]
    rcases fold_mem p 5 OPS (0, []) with h | ⟨h1, h2⟩
    · exact .inl h
    · exact .inr ⟨ho _ h1, h2⟩
  · exact .inr ⟨hm _ h1, h2⟩

theorem name_pre {b s : Bs} {k n : Int} (h : nameT b = some (k, s, n)) : s = b.take (whl goesB b) := by
  unfold nameT at h
  dsimp only at h
  split at h
  · simp at h; exact h.2.1.symm
  · split at h
    · simp at h; exact h.2.1.symm
    · split at h
      · simp at h; exact h.2.1.symm
      · cases h

/-- A word is not empty, and stands there. -/
theorem word_pre {b s : Bs} {k n : Int} (h : wordT b = some (k, s, n)) : s ≠ [] ∧ s <+: b := by
  cases b with
  | nil => cases h
  | cons c r =>
    simp only [wordT] at h
    split at h
    · rename_i hc
      have e := name_pre h
      subst e
      have hg : goesB c = true := by
        simp only [Bool.or_eq_true] at hc
        rcases hc with hc | hc <;> simp [goesB, hc]
      exact ⟨by simp [whl, hg], List.take_prefix _ _⟩
    · split at h
      · rename_i hd
        unfold numT at h
        dsimp only at h
        split at h
        · cases h
        · simp at h
          obtain ⟨-, rfl, -⟩ := h
          exact ⟨by simp [whl, hd], List.take_prefix _ _⟩
      · split at h
        · match r, h with
          | [], h => cases h
          | [c1], h => cases h
          | c1 :: c2 :: r, h =>
            simp only [letT] at h
            split at h
            · simp at h
              obtain ⟨-, rfl, -⟩ := h
              exact ⟨by simp, ⟨r, rfl⟩⟩
            · match r, h with
              | [], h => cases h
              | c3 :: r, h =>
                simp only [let2] at h
                split at h
                · split at h
                  · simp at h
                    obtain ⟨-, rfl, -⟩ := h
                    exact ⟨by simp, ⟨r, rfl⟩⟩
                  · split at h
                    · simp at h
                      obtain ⟨-, rfl, -⟩ := h
                      exact ⟨by simp, ⟨r, rfl⟩⟩
                    · cases h
                · cases h
        · split at h
          · cases h
          · rename_i he
            simp only [Option.some.injEq, Prod.mk.injEq] at h
            obtain ⟨-, rfl, -⟩ := h
            rcases sign_mem ((c :: r).take 2) with e | ⟨e1, e2⟩
            · rw [e] at he; exact absurd rfl he
            · exact ⟨e1, e2.trans (List.take_prefix _ _)⟩

/-- A word with its place. -/
structure Tk where
  k : Int
  p : Nat
  s : Bs
  n : Int
def tkV (t : Tk) : V := tokV t.k t.p t.s t.n

/-- The words of a text from a place on; where there is none. -/
def lexF : Nat → Nat → Bs → List Tk × Option Nat
  | 0, _, _ => ([], none)
  | f + 1, at_, b => if b = [] then ([], none) else if 0 < blankN b then lexF f (at_ + blankN b) (b.drop (blankN b)) else match wordT b with
    | none => ([], some at_)
    | some (k, s, n) => (⟨k, at_, s, n⟩ :: (lexF f (at_ + s.length) (b.drop s.length)).1, (lexF f (at_ + s.length) (b.drop s.length)).2)

section
variable {bs : List Nat} {h : List Ob} {Q : V → List Ob → Prop}

theorem word36 (c : UInt8) (r : Bs) (hb : (c :: r).length < 1000000) (hq : Q (wdV (wordT (c :: r))) h) : CallA ap 36 0 bs [.sl .frozen (bV (c :: r))] h Q := by
  refine CallA.code (af := ac36) rfl (Nat.le_of_ble_eq_true rfl) ?_
  have e0 : bV (c :: r) = .int .u8 c.toNat :: bV r := rfl
  have g1 : ((c.toNat : Int) == 39) = (c.toNat == 39) := eqn c 39
  have wd : ∀ w : Wd, ∃ k s n z, wdV w = .tup [tokV k 0 s n, .bool z] := fun w => by
    match w with
    | none => exact ⟨_, _, _, _, rfl⟩
    | some (k, s, n) => exact ⟨_, _, _, _, rfl⟩
  simp only [wordT] at hq
  simp [ac36, e0]
  refine small29 c ?_
  simp
  cases e1 : isSm c
  · simp
    refine great30 c ?_
    cases e2 : isGr c
    · simp
      refine digit54 c ?_
      cases e3 : isDg c
      · simp [g1]
        cases e4 : (c.toNat == 39)
        · simp only [e1, e2, e3, Bool.or_self, Bool.false_eq_true, if_false, show ¬ c.toNat = 39 by simpa using e4] at hq
          simp [bV_dem]
          refine sign57 (c :: r) hb ?_
          have hs := sign_mem ((c :: r).take 2)
          generalize signT ((c :: r).take 2) = o at hq hs ⊢
          simp [tokV, splice]
          rcases hs with rfl | ⟨h1, -⟩
          · simpa [wdV, tokV] using hq
          · rw [if_neg h1] at hq
            have : (o.2 != []) = true := by simpa using h1
            rw [this]
            simpa [wdV, tokV] using hq
        · simp only [e1, e2, e3, Bool.or_self, Bool.false_eq_true, if_false, show c.toNat = 39 by simpa using e4, if_true] at hq
          simp [bV_dem]
          refine letter56 (c :: r) hb ?_
          obtain ⟨k, s, n, z, e⟩ := wd (letT (c :: r))
          rw [e] at hq ⊢
          simp [tokV, splice]
          simpa [tokV] using hq
      · simp only [e1, e2, e3, Bool.or_self, Bool.false_eq_true, if_false, if_true] at hq
        simp [bV_dem]
        refine number55 (c :: r) hb (by simpa using e3) ?_
        obtain ⟨k, s, n, z, e⟩ := wd (numT (c :: r))
        rw [e] at hq ⊢
        simp [tokV, splice]
        simpa [tokV] using hq
    · simp only [e1, e2, Bool.or_true, if_true] at hq
      simp [bV_dem]
      refine name53 (c :: r) hb ?_
      obtain ⟨k, s, n, z, e⟩ := wd (nameT (c :: r))
      rw [e] at hq ⊢
      simp [tokV, splice]
      simpa [tokV] using hq
  · simp only [e1, Bool.true_or, if_true] at hq
    simp [bV_dem]
    refine name53 (c :: r) hb ?_
    obtain ⟨k, s, n, z, e⟩ := wd (nameT (c :: r))
    rw [e] at hq ⊢
    simp [tokV, splice]
    simpa [tokV] using hq

end
end Go.Ut
