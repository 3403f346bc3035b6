/- All parts of a type, one by one; the law TypesParts: on the abstract machine. -/
import Derived.Test.YthebkhieedogdaaVtT1
import Derived.Test.YthebkhieedogdaaVtG0
import Derived.Test.YthebkhieedogdaaVtS2b
namespace Go.Vt
open Go.Am Go.Proofs
set_option maxRecDepth 100000

mutual
def allT : Ty → List Ty
  | .mk k n l => .mk k n l :: allTL l
def allTL : List Ty → List Ty
  | [] => []
  | t :: l => allT t ++ allTL l
end

/-- The variables among types, each once. -/
def seenOf (o : List Nam) : List Ty → List Nam
  | [] => o
  | .mk k n _ :: l => seenOf (if k = 1 ∧ n ∉ o then o ++ [n] else o) l

theorem seenOf_append : ∀ (l m : List Ty) (o : List Nam), seenOf o (l ++ m) = seenOf (seenOf o l) m
  | [], m, o => rfl
  | .mk k n x :: l, m, o => by simp only [List.cons_append, seenOf]; exact seenOf_append l m _

mutual
theorem seen_all : ∀ (t : Ty) (o : List Nam), fine t = true → seenOf o (allT t) = varsT o t
  | .mk k n l, o, h => by
    simp only [fine, Bool.and_eq_true, decide_eq_true_eq] at h
    by_cases hk : k = 1
    · subst hk
      have : l = [] := by simpa using h.1.2
      subst this
      by_cases hn : n ∈ o <;> simp [allT, allTL, seenOf, varsT, hn]
    · simp only [allT, seenOf, varsT, hk, false_and, if_false]
      exact seen_allL l o h.2
theorem seen_allL : ∀ (l : List Ty) (o : List Nam), fineL l = true → seenOf o (allTL l) = varsTL o l
  | [], o, _ => rfl
  | t :: l, o, h => by
    simp only [fineL, Bool.and_eq_true] at h
    simp only [allTL, seenOf_append, varsTL, seen_all t o h.1]
    exact seen_allL l _ h.2
end

mutual
theorem all_len : ∀ t : Ty, ((allT t).length : Int) = sizeT t
  | .mk k n l => by simp only [allT, List.length_cons, sizeT, Int.natCast_add, all_lenL l]; omega
theorem all_lenL : ∀ l : List Ty, ((allTL l).length : Int) = sizeTs l
  | [] => rfl
  | t :: l => by simp only [allTL, List.length_append, sizeTs, Int.natCast_add, all_len t, all_lenL l]
end

section
variable {bs : List Nat} {h : List Ob} {Q : V → List Ob → Prop}

/-- A round for each part: Y tells what lies in memory when so many have been handed out. -/
def Rounds (bs : List Nat) (r : Nat) (root : Ty) (Y : List Ty → List Ob) : Prop :=
  ∀ (pre : List Ty) (t : Ty) (suf : List Ty) (Q : V → List Ob → Prop), pre ++ t :: suf = allT root → Q (.bool true) (Y (pre ++ [t])) → CallA ap r 1000001 bs [tyV t] (Y pre) Q

theorem walk28 {r : Nat} {root : Ty} {Y : List Ty → List Ob} (hY : Rounds bs r root Y) : ∀ (m : Nat) (t : Ty), SizeOf.sizeOf t ≤ m → okT t = true → ∀ (pre suf : List Ty) (Q : V → List Ob → Prop), pre ++ (allT t ++ suf) = allT root →
    Q (.bool true) (Y (pre ++ allT t)) → CallA ap 28 0 bs [tyV t, .yld r] (Y pre) Q := by
  intro m
  induction m with
  | zero => intro t h; cases t; simp at h
  | succ m ih =>
    intro t hm ht pre suf Q hp hq
    obtain ⟨k, n, l⟩ := t
    obtain ⟨l1, l2⟩ := okT_len ht
    have each := fun a (ha : a ∈ l) => ih a (by have := List.sizeOf_lt_of_mem ha; simp at hm; omega) (l2 a ha)
    have hcl := cloneOk ht
    have e0 : tyV (.mk k n l) = .agg [.int .i64 k, .str n, .sl .frozen (tyVs l)] := rfl
    refine CallA.code (af := ac28) rfl (Nat.le_of_ble_eq_true rfl) ?_
    simp [ac28, tyV, splice, demote_tys]
    rw [← e0]
    refine hcl _ _ _ ?_
    simp [demote_ty]
    refine hY pre _ (allTL l ++ suf) _ (by simpa [allT] using hp) ?_
    simp
    simp only [allT] at hp hq
    match l, l1, each, hp, hq with
    | [], _, _, hp, hq =>
      refine wpA_loop (CallA.hle ap) ?_
      simp [forget, noLoc, locOf, tyVs]
      simpa [allTL] using hq
    | [a], _, each, hp, hq =>
      refine wpA_loop (CallA.hle ap) ?_
      simp [forget, noLoc, locOf, tyVs, ty_sel, splice, ty_take, ty_agg, demote_ty]
      refine each a (by simp) (pre ++ [.mk k n [a]]) suf _ (by simpa [allTL] using hp) ?_
      simp [w1]
      refine wpA_loop (CallA.hle ap) ?_
      simp [forget, noLoc, locOf]
      simpa [allTL] using hq
    | [a, b], _, each, hp, hq =>
      refine wpA_loop (CallA.hle ap) ?_
      simp [forget, noLoc, locOf, tyVs, ty_sel, splice, ty_take, ty_agg, demote_ty]
      refine each a (by simp) (pre ++ [.mk k n [a, b]]) (allT b ++ suf) _ (by simpa [allTL] using hp) ?_
      simp [w1]
      refine wpA_loop (CallA.hle ap) ?_
      simp [forget, noLoc, locOf, tyVs, ty_sel, splice, ty_take, ty_agg, demote_ty]
      refine each b (by simp) (pre ++ .mk k n [a, b] :: allT a) suf _ (by simpa [allTL] using hp) ?_
      simp [w2]
      refine wpA_loop (CallA.hle ap) ?_
      simp [forget, noLoc, locOf]
      simpa [allTL] using hq

/-- The first round is the last. -/
theorem walk_stop {r : Nat} {t : Ty} (ht : okT t = true) {h h' : List Ob} (hY : ∀ Q : V → List Ob → Prop, Q (.bool false) h' → CallA ap r 1000001 bs [tyV t] h Q) (hq : Q (.bool false) h') :
    CallA ap 28 0 bs [tyV t, .yld r] h Q := by
  have hcl := cloneOk ht
  obtain ⟨k, n, l⟩ := t
  have e0 : tyV (.mk k n l) = .agg [.int .i64 k, .str n, .sl .frozen (tyVs l)] := rfl
  refine CallA.code (af := ac28) rfl (Nat.le_of_ble_eq_true rfl) ?_
  simp [ac28, tyV, splice, demote_tys]
  rw [← e0]
  refine hcl _ _ _ ?_
  simp [demote_ty]
  refine hY _ ?_
  simp
  exact hq

end
end Go.Vt
