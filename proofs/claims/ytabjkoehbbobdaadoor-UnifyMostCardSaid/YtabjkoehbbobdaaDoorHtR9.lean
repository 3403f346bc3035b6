/- The reference: is a type another's case: on the abstract machine. -/
import Derived.Test.YtabjkoehbbobdaaDoorHtR8
namespace Go.Ht
open Go.Am Go.Proofs
set_option maxRecDepth 100000

theorem fit_var (n : List UInt8) (l : List Ty) (b : Ty) (e : En) : fitT (.mk 1 n l) b e = match look e n with
    | none => (true, e ++ [(n, b)])
    | some t => (beqT t b, e) := by
  cases b
  cases h : look e n <;> simp [fitT, h]

theorem ty_uc (m : Nat) (x : Ty) : underL m (tyV x).cells = true := by cases x; simp [tyV, under_tys]
theorem ty_dc (x : Ty) : demoteL (tyV x).cells = (tyV x).cells := by cases x; simp [tyV, demote_tys]

section
variable {bs : List Nat} {h : List Ob} {Q : V → List Ob → Prop}

theorem pas_cells {e : En} {v : V} (hv : v ∈ paVs e) : v.cells.length = 4 := by
  simp only [paVs, List.mem_map] at hv
  obtain ⟨y, -, rfl⟩ := hv
  exact pa_cells y

/-- What the reference finds. -/
def RefM (a b : Ty) : Prop := ∀ (bs : List Nat) (h : List Ob) (Q : V → List Ob → Prop) (e : En), EnOk e → e.length + szN a < 100000 →
  ((fitT a b e).1 = true → Q (.tup [.sl .frozen (paVs (fitT a b e).2), .bool true]) h) → ((fitT a b e).1 = false → ∀ l : En, Q (.tup [.sl .frozen (paVs l), .bool false]) h) →
  CallA ap 46 0 bs [.sl .frozen (paVs e), tyV a, tyV b] h Q

theorem refm63 : ∀ (m : Nat) (a b : Ty), SizeOf.sizeOf a ≤ m → fine a = true → fine b = true → RefM a b := by
  intro m
  induction m with
  | zero => intro a b h; cases a; simp at h
  | succ m ih =>
    intro a b hm ha hb bs h Q e he hsz ht hf
    obtain ⟨k, n, l⟩ := a
    obtain ⟨k', n', l'⟩ := b
    have hfb := hb
    simp only [fine, Bool.and_eq_true, decide_eq_true_eq] at ha hb
    have each : ∀ a ∈ l, ∀ b ∈ l', RefM a b := fun a ha' b hb' => ih a b (by have := List.sizeOf_lt_of_mem ha'; simp at hm; omega) (fineL_mem ha.2 ha') (fineL_mem hb.2 hb')
    refine CallA.code (af := ac46) rfl (Nat.le_of_ble_eq_true rfl) ?_
    have hty' : tyV (.mk k' n' l') = .agg [.int .i64 k', .str n', .sl .frozen (tyVs l')] := by simp [tyV]
    by_cases hk : k = 1
    · subst hk
      simp only [fit_var] at ht hf
      simp [ac46, tyV, pas_demote]
      refine get59 e n (by omega) ?_
      cases hx : look e n with
      | none =>
        simp only [hx] at ht hf
        have ht := ht trivial
        rw [show paVs (e ++ [(n, Ty.mk k' n' l')]) = paVs e ++ [paV (n, .mk k' n' l')] by simp [paVs]] at ht
        have hpv : paV (n, .mk k' n' l') = .agg [.str n, .int .i64 k', .str n', .sl .frozen (tyVs l')] := by simp [paV, tyV]
        rw [hpv] at ht
        match e, hsz with
        | [], _ =>
          simp [splice, lim, paVs, demote_tys, under_tys]
          simpa [paVs] using ht
        | p :: e, hsz =>
          have e1 : paVs (p :: e) = paV p :: paVs e := rfl
          simp only [e1] at ht ⊢
          simp only [List.length_cons] at hsz
          have hc : ∀ v, v = paV p ∨ v ∈ paVs e → v.cells.length = 4 := fun v hv => hv.elim (fun e => e ▸ pa_cells p) pas_cells
          simp [splice, lim, pas_length, demote_tys, under_tys, pa_demote, pas_demote, pa_under, pas_under]
          have hx2 : paVs e ++ [V.agg [.str n, .int .i64 k', .str n', .sl .frozen (tyVs l')]] = paVs (e ++ [(n, .mk k' n' l')]) := by rw [← hpv]; simp [paVs]
          refine ⟨⟨pa_cells p, fun v hv => pas_cells hv⟩, by omega, ⟨pa_cells p, fun v hv => ?_⟩, by omega, ?_, ?_⟩
          · rcases hv with hv | rfl
            · exact pas_cells hv
            · rfl
          · rw [hx2, pas_demote]
            exact pas_under _ _
          · rw [hx2, pas_demote, ← hx2]
            simpa using ht
      | some u =>
        simp only [hx] at ht hf
        have hfu := he.fine _ _ (look_mem hx)
        simp [splice, ty_take, ty_agg, ty_sel, demote_ty, demote_tys]
        rw [← hty']
        refine sameOk (fine_ok _ hfu) (fine_ok _ hfb) _ _ _ ?_
        cases hbe : beqT u (.mk k' n' l') with
        | true =>
          simp [pas_demote, pas_under]
          exact ht hbe
        | false =>
          simp [pas_demote, pas_under]
          exact hf hbe e
    · have hk1 : (k == 1) = false := by simpa using hk
      simp only [fitT, if_neg hk] at ht hf
      by_cases hc1 : k = k'
      · subst hc1
        by_cases hc2 : n = n'
        · subst hc2
          by_cases hc3 : l.length = l'.length
          · rw [if_pos ⟨rfl, rfl, hc3⟩] at ht hf
            simp [ac46, tyV, hk1, hc3]
            match l, l', hc3, ha.1.1, each with
            | [], [], _, _, _ =>
              refine wpA_loop (CallA.hle ap) ?_
              simp [forget, noLoc, locOf, tyVs, pas_demote, pas_under]
              simp only [fitL] at ht
              exact ht trivial
            | [a], [b], _, _, each =>
              simp only [szN, szL] at hsz
              refine wpA_loop (CallA.hle ap) ?_
              simp [forget, noLoc, locOf, tyVs, ty_sel, splice, ty_take, ty_agg, demote_ty, pas_demote]
              simp only [fitL] at ht hf
              refine each a (by simp) b (by simp) _ _ _ e he (by omega) (fun hr => ?_) (fun hr ll => ?_)
              · simp [w1]
                refine wpA_loop (CallA.hle ap) ?_
                simp [forget, noLoc, locOf, pas_demote, pas_under]
                simpa [hr] using ht
              · simp [w1]
                refine wpA_loop (CallA.hle ap) ?_
                simp [forget, noLoc, locOf, pas_demote, pas_under]
                simpa [hr] using hf (by simp [hr]) ll
            | [a, a2], [b, b2], _, _, each =>
              have hfb2 : fine b = true ∧ fine b2 = true := by
                have := hb.2
                simp [fineL] at this
                exact this
              simp only [szN, szL] at hsz
              have hfo := fit_ok a b e hfb2.1 he
              refine wpA_loop (CallA.hle ap) ?_
              simp [forget, noLoc, locOf, tyVs, ty_sel, splice, ty_take, ty_agg, demote_ty, pas_demote]
              simp only [fitL] at ht hf
              refine each a (by simp) b (by simp) _ _ _ e he (by omega) (fun hr => ?_) (fun hr ll => ?_)
              · simp only [hr, if_true] at ht hf
                simp [w1]
                refine wpA_loop (CallA.hle ap) ?_
                simp [forget, noLoc, locOf, tyVs, ty_sel, splice, ty_take, ty_agg, demote_ty, pas_demote]
                refine each a2 (by simp) b2 (by simp) _ _ _ _ hfo.1 (by have := hfo.2; omega) (fun hr2 => ?_) (fun hr2 ll => ?_)
                · simp [w2]
                  refine wpA_loop (CallA.hle ap) ?_
                  simp [forget, noLoc, locOf, pas_demote, pas_under]
                  simpa [hr2] using ht
                · simp [w2]
                  refine wpA_loop (CallA.hle ap) ?_
                  simp [forget, noLoc, locOf, pas_demote, pas_under]
                  simpa [hr2] using hf (by simp [hr2]) ll
              · simp [w1]
                refine wpA_loop (CallA.hle ap) ?_
                simp [forget, noLoc, locOf, pas_demote, pas_under]
                simpa [hr] using hf (by simp [hr]) ll
          · rw [if_neg (fun hh => hc3 hh.2.2)] at hf
            have : ((l.length : Int) != (l'.length : Int)) = true := by simpa using fun e => hc3 (by omega)
            simp [ac46, tyV, hk1, this]
            exact hf rfl []
        · rw [if_neg (fun hh => hc2 hh.2.1)] at hf
          have : (n == n') = false := by simpa using hc2
          simp [ac46, tyV, hk1, this]
          exact hf rfl []
      · rw [if_neg (fun hh => hc1 hh.1)] at hf
        have : (k != k') = true := by simpa using hc1
        simp [ac46, tyV, hk1, this]
        exact hf rfl []

theorem refm34 (a b : Ty) (ha : fine a = true) (hb : fine b = true) (hsz : szN a < 100000) (ht : (fitT a b []).1 = true → Q (.tup [.sl .frozen (paVs (fitT a b []).2), .bool true]) h)
    (hf : (fitT a b []).1 = false → ∀ l : En, Q (.tup [.sl .frozen (paVs l), .bool false]) h) : CallA ap 20 0 bs [tyV a, tyV b] h Q := by
  refine CallA.code (af := ac20) rfl (Nat.le_of_ble_eq_true rfl) ?_
  simp [ac20, ty_take, ty_agg, demote_ty]
  refine refm63 _ a b (Nat.le_refl _) ha hb _ _ _ [] enOk_nil (by simpa using hsz) (fun hr => ?_) (fun hr l => ?_)
  · simp [pas_demote, pas_under]
    exact ht hr
  · simp [pas_demote, pas_under]
    exact hf hr l


end
theorem fine_var {n : List UInt8} {l : List Ty} (h : fine (.mk 1 n l) = true) : l = [] := by
  simp only [fine, bne_self_eq_false, Bool.false_or, Bool.and_eq_true, List.isEmpty_iff] at h
  exact h.1.2

mutual
theorem ap_sg {s s' : List UInt8 → Option Ty} (hs : ∀ x, sg s x = sg s' x) : ∀ t : Ty, fine t = true → apT s t = apT s' t
  | .mk k n l, h => by
    by_cases hk : k = 1
    · subst hk
      have hl := fine_var h
      subst hl
      have := hs n
      simp only [sg] at this
      simp only [apT, if_true, this]
    · simp only [apT, if_neg hk]
      simp only [fine, Bool.and_eq_true] at h
      rw [apL_sg hs l h.2]
theorem apL_sg {s s' : List UInt8 → Option Ty} (hs : ∀ x, sg s x = sg s' x) : ∀ l : List Ty, fineL l = true → apL s l = apL s' l
  | [], _ => rfl
  | t :: l, h => by
    simp only [fineL, Bool.and_eq_true] at h
    simp only [apL, ap_sg hs t h.1, apL_sg hs l h.2]
end

mutual
theorem ap_ap (s s' : List UInt8 → Option Ty) : ∀ t : Ty, fine t = true → apT s' (apT s t) = apT (fun x => some (apT s' (sg s x))) t
  | .mk k n l, h => by
    by_cases hk : k = 1
    · subst hk
      have hl := fine_var h
      subst hl
      simp only [apT, if_true, sg, Option.getD_some]
    · simp only [apT, if_neg hk]
      simp only [fine, Bool.and_eq_true] at h
      rw [apL_ap s s' l h.2]
theorem apL_ap (s s' : List UInt8 → Option Ty) : ∀ l : List Ty, fineL l = true → apL s' (apL s l) = apL (fun x => some (apT s' (sg s x))) l
  | [], _ => rfl
  | t :: l, h => by
    simp only [fineL, Bool.and_eq_true] at h
    simp only [apL, ap_ap s s' t h.1, apL_ap s s' l h.2]
end

mutual
theorem ap_id : ∀ t : Ty, apT (fun _ => none) t = t
  | .mk k n l => by
    simp only [apT, Option.getD_none, apL_id l]
    split <;> rfl
theorem apL_id : ∀ l : List Ty, apL (fun _ => none) l = l
  | [] => rfl
  | t :: l => by simp only [apL, ap_id t, apL_id l]
end

theorem fit_case (s : List UInt8 → Option Ty) {t : Ty} (h : fine t = true) : (fitT t (apT s t) []).1 = true :=
  (fit_ap s t [] h (fun x u hx => by simp [look] at hx)).1


end Go.Ht
