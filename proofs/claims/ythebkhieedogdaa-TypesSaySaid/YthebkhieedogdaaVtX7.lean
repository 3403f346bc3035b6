/- Does a variable stand in a type: on the abstract machine. -/
import Derived.Test.YthebkhieedogdaaVtX0
import Derived.Test.YthebkhieedogdaaAmL
namespace Go.Vt
open Go.Am Go.Proofs
set_option maxRecDepth 100000

section
variable {bs : List Nat} {h : List Ob} {Q : V → List Ob → Prop}

def HasS (t : Ty) : Prop := ∀ (bs : List Nat) (h : List Ob) (Q : V → List Ob → Prop) (x : Nam), Q (.bool (occ x t)) h → CallA ap 11 0 bs [tyV t, .str x] h Q

theorem has1 {t : Ty} (ht : HasS t) (x : Nam) (q : Nat) (hq0 : h[q]? = some (.box [.str x])) (hq : Q (.bool (occ x t)) h) : CallA ap 32 0 bs [tyV t, .ptr q 0] h Q := by
  refine CallA.code (af := ac32) rfl (Nat.le_of_ble_eq_true rfl) ?_
  simp [ac32, ty_take, ty_agg, demote_ty, hq0]
  refine ht _ _ _ x ?_
  simp
  exact hq

theorem has46 : ∀ (m : Nat) (t : Ty), SizeOf.sizeOf t ≤ m → fine t = true → no4 t = true → HasS t := by
  intro m
  induction m with
  | zero => intro t h; cases t; simp at h
  | succ m ih =>
    intro t hm ht h4 bs h Q x hq
    obtain ⟨k, n, l⟩ := t
    simp only [fine, Bool.and_eq_true, decide_eq_true_eq] at ht
    simp only [no4, Bool.and_eq_true, bne_iff_ne, ne_eq] at h4
    have each : ∀ a ∈ l, HasS a := fun a ha => ih a (by have := List.sizeOf_lt_of_mem ha; simp at hm; omega) (fineL_mem ht.2 ha) (no4L_mem h4.2 ha)
    have k4 : (k == 4) = false := by simpa using h4.1
    refine CallA.code (af := ac11) rfl (Nat.le_of_ble_eq_true rfl) ?_
    have inner : ∀ (lv : List V), lv = tyVs l → occ x (.mk k n l) = occL x l → CallA ap 31 0 (h.length :: bs) [.sl .frozen lv, .fn 32 [.ptr h.length 0]] (h ++ [.box [.str x]]) fun v h' => v = .bool (occL x l) ∧ h' = h ++ [.box [.str x]] := by
      rintro lv rfl hocc
      have hbox : (h ++ [Ob.box [.str x]])[h.length]? = some (.box [.str x]) := by simp
      have hT : List.take (h.length + 1) (h ++ [Ob.box [V.str x]]) = h ++ [.box [.str x]] := List.take_of_length_le (by simp)
      refine CallA.code (af := ac31) rfl (Nat.le_of_ble_eq_true rfl) ?_
      simp [ac31, demote_tys]
      refine CallA.code (af := ac45) rfl (Nat.le_of_ble_eq_true rfl) ?_
      simp [ac45]
      match l, ht.1.1, each with
      | [], _, _ =>
        refine wpA_loop (CallA.hle ap) ?_
        simp [forget, noLoc, locOf, tyVs, occL, hT]
      | [a], _, each =>
        refine wpA_loop (CallA.hle ap) ?_
        simp [forget, noLoc, locOf, tyVs, ty_sel, splice, ty_take, ty_agg, demote_ty]
        refine has1 (each a (by simp)) x h.length hbox ?_
        cases hoa : occ x a with
        | true => simp [occL, hoa, hT]
        | false =>
          simp [w1]
          refine wpA_loop (CallA.hle ap) ?_
          simp [forget, noLoc, locOf, occL, hoa, hT]
      | [a, b], _, each =>
        refine wpA_loop (CallA.hle ap) ?_
        simp [forget, noLoc, locOf, tyVs, ty_sel, splice, ty_take, ty_agg, demote_ty]
        refine has1 (each a (by simp)) x h.length hbox ?_
        cases hoa : occ x a with
        | true => simp [occL, hoa, hT]
        | false =>
          simp [w1]
          refine wpA_loop (CallA.hle ap) ?_
          simp [forget, noLoc, locOf, tyVs, ty_sel, splice, ty_take, ty_agg, demote_ty]
          refine has1 (each b (by simp)) x h.length hbox ?_
          cases hob : occ x b with
          | true => simp [occL, hoa, hob, hT]
          | false =>
            simp [w2]
            refine wpA_loop (CallA.hle ap) ?_
            simp [forget, noLoc, locOf, occL, hoa, hob, hT]
    by_cases hk : k = 1
    · subst hk
      have hl : l = [] := by simpa using ht.1.2
      subst hl
      by_cases hn : n = x
      · subst hn
        simp [ac11, tyV]
        simpa [occ] using hq
      · have e : (n == x) = false := by simpa using hn
        simp [ac11, tyV, e, k4, demote_tys]
        have hin := inner (tyVs []) rfl (by simp [occ, occL, hn])
        simp [tyVs] at hin ⊢
        refine hin.mono ?_
        rintro v h' ⟨rfl, rfl⟩
        have eo : occ x (.mk 1 n []) = false := by simp [occ, hn]
        rw [eo] at hq
        simp [occL]
        exact hq
    · have hk1 : (k == 1) = false := by simpa using hk
      have hocc : occ x (.mk k n l) = occL x l := by simp [occ, hk]
      rw [hocc] at hq
      simp [ac11, tyV, hk1, k4, demote_tys]
      refine (inner (tyVs l) rfl hocc).mono ?_
      rintro v h' ⟨rfl, rfl⟩
      simp
      exact hq

theorem hasOk {t : Ty} (h1 : fine t = true) (h2 : no4 t = true) : HasS t := has46 _ t (Nat.le_refl _) h1 h2

end
end Go.Vt
