/- What a map replaces. -/
import Derived.Test.YtgngmbnbldkgnaaDoorStE1
namespace Go.St
open Go.Am Go.Proofs
set_option maxRecDepth 100000

section
variable {bs : List Nat} {h : List Ob} {Q : V → List Ob → Prop}

/-- What replaces variables by a map. -/
def AppS (t : Ty) : Prop := ∀ (bs : List Nat) (h : List Ob) (Q : V → List Ob → Prop) (q : Nat) (f : En), h[q]? = some (mapOb f) → (∀ x u, look f x = some u → fine u = true) → Q (tyV (apT (look f) t)) h →
  CallA ap 55 0 bs [.agg [.map (some q)], tyV t] h Q

theorem apply32 : ∀ (m : Nat) (t : Ty), SizeOf.sizeOf t ≤ m → fine t = true → AppS t := by
  intro m
  induction m with
  | zero => intro t h; cases t; simp at h
  | succ m ih =>
    intro t hm ht bs h Q q f hq0 hf hq
    obtain ⟨k, n, l⟩ := t
    have hql : q < h.length := (List.getElem?_eq_some_iff.1 hq0).1
    have hq0' : h[q]? = some (.map (entE f) (List.range f.length) f.length) := hq0
    simp only [fine, Bool.and_eq_true, decide_eq_true_eq] at ht
    have each : ∀ a ∈ l, AppS a := fun a ha => ih a (by have := List.sizeOf_lt_of_mem ha; simp at hm; omega) (fineL_mem ht.2 ha)
    refine CallA.code (af := ac55) rfl (Nat.le_of_ble_eq_true rfl) ?_
    by_cases hk : k = 1
    · subst hk
      have hl : l = [] := by simpa using ht.1.2
      subst hl
      simp only [apT, if_true] at hq
      cases hx : look f n with
      | none =>
        rw [hx] at hq
        simp [ac55, tyV, hq0', ent_find, hx, splice]
        refine wpA_loop (CallA.hle ap) ?_
        simp [forget, noLoc, locOf, tyVs, splice]
        simpa [tyV, tyVs] using hq
      | some u =>
        rw [hx] at hq
        simp [ac55, tyV, hq0', ent_find, hx, splice, ty_take, ty_agg, demote_ty]
        refine cloneOk (fine_ok _ (hf n u hx)) _ _ _ ?_
        simp [splice, ty_take, ty_agg, demote_ty, under_ty]
        simpa using hq
    · have hk1 : (k == 1) = false := by simpa using hk
      simp only [apT, if_neg hk] at hq
      simp [ac55, tyV, hk1, splice]
      match l, ht.1.1, each with
      | [], _, _ =>
        refine wpA_loop (CallA.hle ap) ?_
        simp [forget, noLoc, locOf, tyVs, splice]
        simpa [tyV, tyVs, apL] using hq
      | [a], _, each =>
        refine wpA_loop (CallA.hle ap) ?_
        simp [forget, noLoc, locOf, tyVs, ty_sel, splice, ty_take, ty_agg, demote_ty]
        refine each a (by simp) _ _ _ q f hq0 hf ?_
        simp [w1, splice, lim]
        refine wpA_loop (CallA.hle ap) ?_
        simp [forget, noLoc, locOf, splice, demote_ty, under_ty]
        simpa [tyV, tyVs, apL] using hq
      | [a, b], _, each =>
        refine wpA_loop (CallA.hle ap) ?_
        simp [forget, noLoc, locOf, tyVs, ty_sel, splice, ty_take, ty_agg, demote_ty]
        refine each a (by simp) _ _ _ q f hq0 hf ?_
        simp [w1, splice, lim]
        refine wpA_loop (CallA.hle ap) ?_
        simp [forget, noLoc, locOf, tyVs, ty_sel, splice, ty_take, ty_agg, demote_ty]
        refine each b (by simp) _ _ _ q f (by rw [List.getElem?_append_left hql]; exact hq0) hf ?_
        simp [w2, splice, lim]
        refine wpA_loop (CallA.hle ap) ?_
        simp [forget, noLoc, locOf, splice, demote_ty, under_ty]
        simpa [tyV, tyVs, apL] using hq

theorem applyOk {t : Ty} (h : fine t = true) : AppS t := apply32 _ t (Nat.le_refl _) h

end
end Go.St
