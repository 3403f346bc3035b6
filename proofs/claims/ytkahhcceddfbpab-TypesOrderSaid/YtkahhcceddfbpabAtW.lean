/- TypesOrder on the abstract machine. -/
import Derived.Test.YtkahhcceddfbpabAtL
namespace Go.At
open Go.Am Go.Proofs
set_option maxRecDepth 100000

section
variable {bs : List Nat} {h : List Ob} {Q : V → List Ob → Prop}

theorem type_of (l : List Int) (h : List Ob) (bs : List Nat) (Q : V → List Ob → Prop) (hq : ∀ (t : Ty) (j : Int), okT t = true → Q (tyV t) (h ++ [seqB .frozen l j])) :
    CallA ap 10 0 bs [.ptr h.length 0, .int .i64 3] (h ++ [seqB .frozen l 0]) Q :=
  type10 .frozen l h.length 3 3 0 bs _ Q (by omega) (by omega) (by omega) (by omega) (by omega) (by simp) fun t j _ _ ht => by
    have := hq t j ht
    simpa using this

end

theorem law3 (a b c : List Int) : CallA ap 3 0 [] [.sl .frozen (a.map (.int .i64)), .sl .frozen (b.map (.int .i64)), .sl .frozen (c.map (.int .i64))] [] fun v _ => v = .bool true := by
  refine CallA.code (af := ac3) rfl (Nat.le_of_ble_eq_true rfl) ?_
  simp [ac3]
  refine first9 ?_
  simp
  by_cases h1 : (60 : Int) < a.length
  · simp [h1]
  by_cases h2 : (60 : Int) < b.length
  · simp [h1, h2]
  by_cases h3 : (60 : Int) < c.length
  · simp [h1, h2, h3]
  simp [h1, h2, h3, splice]
  refine type_of a [] _ _ fun x i hx => ?_
  simp [h1, h2, h3, splice, ty_take, ty_agg, ty_sel]
  refine type_of b [seqB .frozen a i] _ _ fun y j hy => ?_
  simp [h1, h2, h3, splice, ty_take, ty_agg, ty_sel]
  refine type_of c [seqB .frozen a i, seqB .frozen b j] _ _ fun w k hw => ?_
  simp [splice, ty_take, ty_agg, ty_sel, demote_ty]
  refine cmp11 _ x y (Nat.le_refl _) hx hy _ _ _ ?_
  simp [ty_take, ty_agg, ty_sel, demote_ty]
  refine cmp11 _ y w (Nat.le_refl _) hy hw _ _ _ ?_
  simp [ty_take, ty_agg, ty_sel, demote_ty]
  refine cmp11 _ x w (Nat.le_refl _) hx hw _ _ _ ?_
  have htr := ty_tr x y w
  have hanti := ty_anti x y
  have hself := ty_refl x
  generalize hp : cmpT x y = p at htr hanti
  generalize hqq : cmpT y w = q at htr
  generalize hr : cmpT x w = r at htr
  have hneg : IntKind.wrap .i64 (-p) = -p := wrap64 (by unfold TR at htr; omega) (by unfold TR at htr; omega)
  simp [ty_take, ty_agg, ty_sel, demote_ty]
  refine cmp11 _ y x (Nat.le_refl _) hy hx _ _ _ ?_
  simp [ty_take, ty_agg, ty_sel, demote_ty, hanti, hneg]
  refine same12 x y hx hy ?_
  simp [ty_take, ty_agg, ty_sel, demote_ty, hp]
  refine cmp11 _ x x (Nat.le_refl _) hx hx _ _ _ ?_
  simp [ty_take, ty_agg, ty_sel, demote_ty, hself]
  unfold TR at htr
  have cp : p = -1 ∨ p = 0 ∨ p = 1 := by omega
  have cq : q = -1 ∨ q = 0 ∨ q = 1 := by omega
  have cr : r = -1 ∨ r = 0 ∨ r = 1 := by omega
  rcases cp with rfl | rfl | rfl <;> rcases cq with rfl | rfl | rfl <;> rcases cr with rfl | rfl | rfl <;> first
    | (exfalso; omega)
    | simp

end Go.At
