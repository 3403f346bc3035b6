/- Sizes of types, copies: on the abstract machine. -/
import Derived.Test.YthebkhieedogdaaVtK
namespace Go.Vt
open Go.Am Go.Proofs
set_option maxRecDepth 100000

mutual
def sizeT : Ty → Int
  | .mk _ _ l => 1 + sizeTs l
def sizeTs : List Ty → Int
  | [] => 0
  | t :: l => sizeT t + sizeTs l
end

mutual
theorem sizeT_pos : ∀ t : Ty, 1 ≤ sizeT t
  | .mk _ _ l => by have := sizeTs_pos l; simp only [sizeT]; omega
theorem sizeTs_pos : ∀ l : List Ty, 0 ≤ sizeTs l
  | [] => by simp [sizeTs]
  | t :: l => by have := sizeT_pos t; have := sizeTs_pos l; simp only [sizeTs]; omega
end

theorem Made.size {m : Nat} {t : Ty} (h : Made m t) : sizeT t + 1 ≤ 2 ^ (m + 1) := by
  have pw : ∀ m : Nat, (1 : Int) ≤ 2 ^ m := fun m => by
    have : (0 : Int) < 2 ^ m := Int.pow_pos (by omega)
    omega
  induction h with
  | va m => have := pw m; simp [sizeT, sizeTs, Int.pow_succ]; omega
  | vb m => have := pw m; simp [sizeT, sizeTs, Int.pow_succ]; omega
  | vc m => have := pw m; simp [sizeT, sizeTs, Int.pow_succ]; omega
  | int m => have := pw m; simp [sizeT, sizeTs, Int.pow_succ]; omega
  | bool m => have := pw m; simp [sizeT, sizeTs, Int.pow_succ]; omega
  | list m t _ i => have := pw m; simp [sizeT, sizeTs, Int.pow_succ] at i ⊢; omega
  | pair m t u _ _ i j => have := pw m; simp [sizeT, sizeTs, Int.pow_succ] at i j ⊢; omega
  | fn m t u _ _ i j => have := pw m; simp [sizeT, sizeTs, Int.pow_succ] at i j ⊢; omega

/-- A function of many. -/
def funT : List Ty → Ty
  | [] => .mk 2 [85, 110, 105, 116] []
  | [t] => t
  | t :: u :: l => .mk 3 [] [t, funT (u :: l)]

def kindT : Ty → Int
  | .mk k _ _ => k

theorem funT_ok : ∀ l : List Ty, okTs l = true → okT (funT l) = true
  | [], _ => rfl
  | [t], h => by simpa [okTs, funT] using h
  | t :: u :: l, h => by
    simp only [okTs, Bool.and_eq_true] at h
    have := funT_ok (u :: l) (by simp [okTs, h.2])
    simp [funT, okT, okTs, h.1, this]

theorem funT_size : ∀ (l : List Ty) (t : Ty), sizeT (funT (l ++ [t])) = sizeTs (l ++ [t]) + l.length
  | [], t => by simp [funT, sizeTs]
  | [a], t => by simp [funT, sizeTs, sizeT]; omega
  | a :: b :: l, t => by
    have := funT_size (b :: l) t
    simp only [List.cons_append, List.length_cons, funT, sizeT, sizeTs] at this ⊢
    simp only [Int.natCast_add] at this ⊢
    omega

theorem sizeTs_append : ∀ l m : List Ty, sizeTs (l ++ m) = sizeTs l + sizeTs m
  | [], m => by simp [sizeTs]
  | t :: l, m => by simp only [List.cons_append, sizeTs, sizeTs_append l m]; omega

theorem okTs_iff {l : List Ty} : okTs l = true ↔ ∀ t ∈ l, okT t = true := by
  induction l with
  | nil => simp [okTs]
  | cons t l ih => simp [okTs, ih]

theorem tys_append : ∀ l m : List Ty, tyVs (l ++ m) = tyVs l ++ tyVs m
  | [], m => rfl
  | t :: l, m => by simp [tyVs, tys_append l m]
theorem tys_take : ∀ (l : List Ty) (i : Nat), (tyVs l).take i = tyVs (l.take i)
  | [], i => by simp [tyVs]
  | t :: l, 0 => by simp [tyVs]
  | t :: l, i + 1 => by simp [tyVs, tys_take l i]
theorem tys_cells {l : List Ty} {v : V} (h : v ∈ tyVs l) : v.cells.length = 3 := by
  induction l with
  | nil => simp [tyVs] at h
  | cons t l ih =>
    simp only [tyVs, List.mem_cons] at h
    rcases h with rfl | h
    · exact ty_cells t
    · exact ih h
theorem ty_uc (m : Nat) (x : Ty) : underL m (tyV x).cells = true := by cases x; simp [tyV, under_tys]
theorem ty_dc (x : Ty) : demoteL (tyV x).cells = (tyV x).cells := by cases x; simp [tyV, demote_tys]

section
variable {bs : List Nat} {h : List Ob} {Q : V → List Ob → Prop}

/-- What copies a type. -/
def CloneS (t : Ty) : Prop := ∀ (bs : List Nat) (h : List Ob) (Q : V → List Ob → Prop), Q (tyV t) h → CallA ap 41 0 bs [tyV t] h Q

theorem clone31 : ∀ (m : Nat) (t : Ty), SizeOf.sizeOf t ≤ m → okT t = true → CloneS t := by
  intro m
  induction m with
  | zero => intro t h; cases t; simp at h
  | succ m ih =>
    intro t hm ht bs h Q hq
    obtain ⟨k, n, l⟩ := t
    obtain ⟨l1, l2⟩ := okT_len ht
    have each : ∀ a ∈ l, CloneS a := fun a ha => ih a (by have := List.sizeOf_lt_of_mem ha; simp at hm; omega) (l2 a ha)
    refine CallA.code (af := ac41) rfl (Nat.le_of_ble_eq_true rfl) ?_
    simp [ac41, tyV, splice]
    match l, l1, each with
    | [], _, _ =>
      refine wpA_loop (CallA.hle ap) ?_
      simp [forget, noLoc, locOf, tyVs, splice]
      simpa [tyV, tyVs] using hq
    | [a], _, each =>
      refine wpA_loop (CallA.hle ap) ?_
      simp [forget, noLoc, locOf, tyVs, ty_sel, splice, ty_take, ty_agg, demote_ty]
      refine each a (by simp) _ _ _ ?_
      simp [w1, splice, lim]
      refine wpA_loop (CallA.hle ap) ?_
      simp [forget, noLoc, locOf, splice, demote_ty, under_ty]
      simpa [tyV, tyVs] using hq
    | [a, b], _, each =>
      refine wpA_loop (CallA.hle ap) ?_
      simp [forget, noLoc, locOf, tyVs, ty_sel, splice, ty_take, ty_agg, demote_ty]
      refine each a (by simp) _ _ _ ?_
      simp [w1, splice, lim]
      refine wpA_loop (CallA.hle ap) ?_
      simp [forget, noLoc, locOf, tyVs, ty_sel, splice, ty_take, ty_agg, demote_ty]
      refine each b (by simp) _ _ _ ?_
      simp [w2, splice, lim]
      refine wpA_loop (CallA.hle ap) ?_
      simp [forget, noLoc, locOf, splice, demote_ty, under_ty]
      simpa [tyV, tyVs] using hq

theorem cloneOk {t : Ty} (h : okT t = true) : CloneS t := clone31 _ t (Nat.le_refl _) h

/-- What counts a type's parts. -/
def SizeS (t : Ty) : Prop := ∀ (bs : List Nat) (h : List Ob) (Q : V → List Ob → Prop), Q (.int .i64 (sizeT t)) h → CallA ap 13 0 bs [tyV t] h Q

theorem size9 : ∀ (m : Nat) (t : Ty), SizeOf.sizeOf t ≤ m → okT t = true → sizeT t < 1000000 → SizeS t := by
  intro m
  induction m with
  | zero => intro t h; cases t; simp at h
  | succ m ih =>
    intro t hm ht hs bs h Q hq
    obtain ⟨k, n, l⟩ := t
    obtain ⟨l1, l2⟩ := okT_len ht
    have each : ∀ a ∈ l, sizeT a < 1000000 → SizeS a := fun a ha => ih a (by have := List.sizeOf_lt_of_mem ha; simp at hm; omega) (l2 a ha)
    refine CallA.code (af := ac13) rfl (Nat.le_of_ble_eq_true rfl) ?_
    simp [ac13, tyV, splice]
    match l, l1, each with
    | [], _, _ =>
      refine wpA_loop (CallA.hle ap) ?_
      simp [forget, noLoc, locOf, tyVs]
      simpa [sizeT, sizeTs] using hq
    | [a], _, each =>
      have pa := sizeT_pos a
      simp only [sizeT, sizeTs] at hs hq
      have ha : IntKind.wrap .i64 (1 + sizeT a) = 1 + sizeT a := wrap64 (by omega) (by omega)
      refine wpA_loop (CallA.hle ap) ?_
      simp [forget, noLoc, locOf, tyVs, ty_sel, splice, ty_take, ty_agg, demote_ty]
      refine each a (by simp) (by omega) _ _ _ ?_
      simp [w1, splice, ha]
      refine wpA_loop (CallA.hle ap) ?_
      simp [forget, noLoc, locOf]
      simpa using hq
    | [a, b], _, each =>
      have pa := sizeT_pos a
      have pb := sizeT_pos b
      simp only [sizeT, sizeTs] at hs hq
      have ha : IntKind.wrap .i64 (1 + sizeT a) = 1 + sizeT a := wrap64 (by omega) (by omega)
      have hb : IntKind.wrap .i64 (1 + sizeT a + sizeT b) = 1 + sizeT a + sizeT b := wrap64 (by omega) (by omega)
      refine wpA_loop (CallA.hle ap) ?_
      simp [forget, noLoc, locOf, tyVs, ty_sel, splice, ty_take, ty_agg, demote_ty]
      refine each a (by simp) (by omega) _ _ _ ?_
      simp [w1, splice, ha]
      refine wpA_loop (CallA.hle ap) ?_
      simp [forget, noLoc, locOf, tyVs, ty_sel, splice, ty_take, ty_agg, demote_ty]
      refine each b (by simp) (by omega) _ _ _ ?_
      simp [w2, splice, hb]
      refine wpA_loop (CallA.hle ap) ?_
      simp [forget, noLoc, locOf]
      have e : 1 + (sizeT a + (sizeT b + 0)) = 1 + sizeT a + sizeT b := by omega
      rw [e] at hq
      exact hq

end
end Go.Vt
