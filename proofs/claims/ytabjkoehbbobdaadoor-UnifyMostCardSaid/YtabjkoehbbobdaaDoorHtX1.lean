/- Does a variable stand in a type; one substitution behind another: on the abstract machine. -/
import Derived.Test.YtabjkoehbbobdaaDoorHtV
import Derived.Test.YtabjkoehbbobdaaDoorHtE2
namespace Go.Ht
open Go.Am Go.Proofs
set_option maxRecDepth 100000

mutual
def no4 : Ty → Bool
  | .mk k _ l => k != 4 && no4L l
def no4L : List Ty → Bool
  | [] => true
  | t :: l => no4 t && no4L l
end

theorem no4L_mem {l : List Ty} (h : no4L l = true) {t : Ty} (ht : t ∈ l) : no4 t = true := by
  induction l with
  | nil => simp at ht
  | cons a l ih =>
    simp only [no4L, Bool.and_eq_true] at h
    rcases List.mem_cons.1 ht with rfl | ht
    · exact h.1
    · exact ih h.2 ht

theorem Made.no4 {m : Nat} {t : Ty} (h : Made m t) : no4 t = true := by
  induction h <;> simp_all [Go.Ht.no4, no4L]

mutual
theorem no4_hat {θ : Nam → Ty} : ∀ t : Ty, no4 t = true → (∀ y, occ y t = true → no4 (θ y) = true) → no4 (hat θ t) = true
  | .mk k n l, h, hy => by
    by_cases hk : k = 1
    · subst hk
      rw [hat_var]
      exact hy n (by simp [occ])
    · rw [hat_mk _ hk]
      simp only [no4, Bool.and_eq_true] at h ⊢
      exact ⟨h.1, no4L_hat l h.2 fun y h1 => hy y (by simp [occ, hk, h1])⟩
theorem no4L_hat {θ : Nam → Ty} : ∀ l : List Ty, no4L l = true → (∀ y, occL y l = true → no4 (θ y) = true) → no4L (hatL θ l) = true
  | [], _, _ => rfl
  | t :: l, h, hy => by
    simp only [no4L, Bool.and_eq_true] at h
    have e : hatL θ (t :: l) = hat θ t :: hatL θ l := rfl
    rw [e]
    simp only [no4L, Bool.and_eq_true]
    exact ⟨no4_hat t h.1 fun y h1 => hy y (by simp [occL, h1]), no4L_hat l h.2 fun y h1 => hy y (by simp [occL, h1])⟩
end

section
variable {bs : List Nat} {h : List Ob} {Q : V → List Ob → Prop}

def HasS (t : Ty) : Prop := ∀ (bs : List Nat) (h : List Ob) (Q : V → List Ob → Prop) (x : Nam), Q (.bool (occ x t)) h → CallA ap 69 0 bs [tyV t, .str x] h Q

theorem has1 {t : Ty} (ht : HasS t) (x : Nam) (q : Nat) (hq0 : h[q]? = some (.box [.str x])) (hq : Q (.bool (occ x t)) h) : CallA ap 82 0 bs [tyV t, .ptr q 0] h Q := by
  refine CallA.code (af := ac82) rfl (Nat.le_of_ble_eq_true rfl) ?_
  simp [ac82, ty_take, ty_agg, demote_ty, hq0]
  refine ht _ _ _ x ?_
  simp
  exact hq

theorem has46 : ∀ (m : Nat) (t : Ty), SizeOf.sizeOf t ≤ m → fine t = true → no4 t = true → HasS t := by
  intro m
  induction m with
  | zero => intro t h; cases t; simp at h
  | succ m ih =>
    intro t hm ht h4 bs h Q x hq
    obtain ⟨k, n, l⟩ := t
    simp only [fine, Bool.and_eq_true, decide_eq_true_eq] at ht
    simp only [no4, Bool.and_eq_true, bne_iff_ne, ne_eq] at h4
    have each : ∀ a ∈ l, HasS a := fun a ha => ih a (by have := List.sizeOf_lt_of_mem ha; simp at hm; omega) (fineL_mem ht.2 ha) (no4L_mem h4.2 ha)
    have k4 : (k == 4) = false := by simpa using h4.1
    refine CallA.code (af := ac69) rfl (Nat.le_of_ble_eq_true rfl) ?_
    have inner : ∀ (lv : List V), lv = tyVs l → occ x (.mk k n l) = occL x l → CallA ap 81 0 (h.length :: bs) [.sl .frozen lv, .fn 82 [.ptr h.length 0]] (h ++ [.box [.str x]]) fun v h' => v = .bool (occL x l) ∧ h' = h ++ [.box [.str x]] := by
      rintro lv rfl hocc
      have hbox : (h ++ [Ob.box [.str x]])[h.length]? = some (.box [.str x]) := by simp
      have hT : List.take (h.length + 1) (h ++ [Ob.box [V.str x]]) = h ++ [.box [.str x]] := List.take_of_length_le (by simp)
      refine CallA.code (af := ac81) rfl (Nat.le_of_ble_eq_true rfl) ?_
      simp [ac81, demote_tys]
      refine CallA.code (af := ac90) rfl (Nat.le_of_ble_eq_true rfl) ?_
      simp [ac90]
      match l, ht.1.1, each with
      | [], _, _ =>
        refine wpA_loop (CallA.hle ap) ?_
        simp [forget, noLoc, locOf, tyVs, occL, hT]
      | [a], _, each =>
        refine wpA_loop (CallA.hle ap) ?_
        simp [forget, noLoc, locOf, tyVs, ty_sel, splice, ty_take, ty_agg, demote_ty]
        refine has1 (each a (by simp)) x h.length hbox ?_
        cases hoa : occ x a with
        | true => simp [occL, hoa, hT]
        | false =>
          simp [w1]
          refine wpA_loop (CallA.hle ap) ?_
          simp [forget, noLoc, locOf, occL, hoa, hT]
      | [a, b], _, each =>
        refine wpA_loop (CallA.hle ap) ?_
        simp [forget, noLoc, locOf, tyVs, ty_sel, splice, ty_take, ty_agg, demote_ty]
        refine has1 (each a (by simp)) x h.length hbox ?_
        cases hoa : occ x a with
        | true => simp [occL, hoa, hT]
        | false =>
          simp [w1]
          refine wpA_loop (CallA.hle ap) ?_
          simp [forget, noLoc, locOf, tyVs, ty_sel, splice, ty_take, ty_agg, demote_ty]
          refine has1 (each b (by simp)) x h.length hbox ?_
          cases hob : occ x b with
          | true => simp [occL, hoa, hob, hT]
          | false =>
            simp [w2]
            refine wpA_loop (CallA.hle ap) ?_
            simp [forget, noLoc, locOf, occL, hoa, hob, hT]
    by_cases hk : k = 1
    · subst hk
      have hl : l = [] := by simpa using ht.1.2
      subst hl
      by_cases hn : n = x
      · subst hn
        simp [ac69, tyV]
        simpa [occ] using hq
      · have e : (n == x) = false := by simpa using hn
        simp [ac69, tyV, e, k4, demote_tys]
        have hin := inner (tyVs []) rfl (by simp [occ, occL, hn])
        simp [tyVs] at hin ⊢
        refine hin.mono ?_
        rintro v h' ⟨rfl, rfl⟩
        have eo : occ x (.mk 1 n []) = false := by simp [occ, hn]
        rw [eo] at hq
        simp [occL]
        exact hq
    · have hk1 : (k == 1) = false := by simpa using hk
      have hocc : occ x (.mk k n l) = occL x l := by simp [occ, hk]
      rw [hocc] at hq
      simp [ac69, tyV, hk1, k4, demote_tys]
      refine (inner (tyVs l) rfl hocc).mono ?_
      rintro v h' ⟨rfl, rfl⟩
      simp
      exact hq

theorem hasOk {t : Ty} (h1 : fine t = true) (h2 : no4 t = true) : HasS t := has46 _ t (Nat.le_refl _) h1 h2

/-- A substitution as a value. -/
def sbV (o : Option Nat) : V := .agg [.map o]
def RepS (h : List Ob) (o : Option Nat) (f : En) : Prop := (o = none ∧ f = []) ∨ ∃ q, o = some q ∧ h[q]? = some (mapOb f)

theorem RepS.up {h : List Ob} {o : Option Nat} {f : En} (hr : RepS h o f) (t : List Ob) : RepS (h ++ t) o f := by
  rcases hr with hr | ⟨q, rfl, hq⟩
  · exact .inl hr
  · exact .inr ⟨q, rfl, by rw [List.getElem?_append_left (List.getElem?_eq_some_iff.1 hq).1]; exact hq⟩

theorem apT_nil : ∀ t : Ty, fine t = true → apT (look []) t = t := by
  intro t ht
  rw [ap_hat _ t ht]
  have : sg (look ([] : En)) = var := by funext x; simp [sg, look, var]
  rw [this]
  exact hat_id t ht

theorem apply_nil : ∀ (m : Nat) (t : Ty), SizeOf.sizeOf t ≤ m → fine t = true → ∀ (bs : List Nat) (h : List Ob) (Q : V → List Ob → Prop), Q (tyV t) h → CallA ap 14 0 bs [.agg [.map none], tyV t] h Q := by
  intro m
  induction m with
  | zero => intro t h; cases t; simp at h
  | succ m ih =>
    intro t hm ht bs h Q hq
    obtain ⟨k, n, l⟩ := t
    simp only [fine, Bool.and_eq_true, decide_eq_true_eq] at ht
    have each : ∀ a ∈ l, ∀ (bs : List Nat) (h : List Ob) (Q : V → List Ob → Prop), Q (tyV a) h → CallA ap 14 0 bs [.agg [.map none], tyV a] h Q := fun a ha => ih a (by have := List.sizeOf_lt_of_mem ha; simp at hm; omega) (fineL_mem ht.2 ha)
    refine CallA.code (af := ac14) rfl (Nat.le_of_ble_eq_true rfl) ?_
    have start : ∀ b : Bool, (k == 1) = b → b = true ∨ b = false := fun b _ => by cases b <;> simp
    by_cases hk : k = 1
    · subst hk
      have hl : l = [] := by simpa using ht.1.2
      subst hl
      simp [ac14, tyV, splice]
      refine wpA_loop (CallA.hle ap) ?_
      simp [forget, noLoc, locOf, tyVs, splice]
      simpa [tyV, tyVs] using hq
    · have hk1 : (k == 1) = false := by simpa using hk
      simp [ac14, tyV, hk1, splice]
      match l, ht.1.1, each with
      | [], _, _ =>
        refine wpA_loop (CallA.hle ap) ?_
        simp [forget, noLoc, locOf, tyVs, splice]
        simpa [tyV, tyVs] using hq
      | [a], _, each =>
        refine wpA_loop (CallA.hle ap) ?_
        simp [forget, noLoc, locOf, tyVs, ty_sel, splice, ty_take, ty_agg, demote_ty]
        refine each a (by simp) _ _ _ ?_
        simp [w1, splice, lim]
        refine wpA_loop (CallA.hle ap) ?_
        simp [forget, noLoc, locOf, splice, demote_ty, under_ty]
        simpa [tyV, tyVs] using hq
      | [a, b], _, each =>
        refine wpA_loop (CallA.hle ap) ?_
        simp [forget, noLoc, locOf, tyVs, ty_sel, splice, ty_take, ty_agg, demote_ty]
        refine each a (by simp) _ _ _ ?_
        simp [w1, splice, lim]
        refine wpA_loop (CallA.hle ap) ?_
        simp [forget, noLoc, locOf, tyVs, ty_sel, splice, ty_take, ty_agg, demote_ty]
        refine each b (by simp) _ _ _ ?_
        simp [w2, splice, lim]
        refine wpA_loop (CallA.hle ap) ?_
        simp [forget, noLoc, locOf, splice, demote_ty, under_ty]
        simpa [tyV, tyVs] using hq

theorem applyR {o : Option Nat} {f : En} {t : Ty} (ht : fine t = true) (hf : EnOk f) (hr : RepS h o f) (hq : Q (tyV (hat (sge f) t)) h) : CallA ap 14 0 bs [.agg [.map o], tyV t] h Q := by
  have e : hat (sge f) t = apT (look f) t := (ap_hat _ t ht).symm
  rw [e] at hq
  rcases hr with ⟨rfl, rfl⟩ | ⟨q, rfl, hq0⟩
  · rw [apT_nil t ht] at hq
    exact apply_nil _ t (Nat.le_refl _) ht _ _ _ hq
  · exact applyOk ht _ _ _ q f hq0 (fun x u hx => hf.fine x u (look_mem hx)) hq

end
end Go.Ht
