/- The reference's match; the laws MatchCases, MatchSays on the abstract machine. -/
import Derived.Test.YtpknncihhgfpnaaAtR5
namespace Go.At
open Go.Am Go.Proofs
set_option maxRecDepth 100000

theorem ty_uc (m : Nat) (x : Ty) : underL m (tyV x).cells = true := by cases x; simp [tyV, under_tys]
theorem ty_dc (x : Ty) : demoteL (tyV x).cells = (tyV x).cells := by cases x; simp [tyV, demote_tys]

section
variable {bs : List Nat} {h : List Ob} {Q : V → List Ob → Prop}

theorem pas_cells {e : En} {v : V} (hv : v ∈ paVs e) : v.cells.length = 4 := by
  simp only [paVs, List.mem_map] at hv
  obtain ⟨y, -, rfl⟩ := hv
  exact pa_cells y

/-- What the reference finds. -/
def RefM (a b : Ty) : Prop := ∀ (bs : List Nat) (h : List Ob) (Q : V → List Ob → Prop) (e : En), EnOk e → e.length + szN a < 100000 →
  ((fitT a b e).1 = true → Q (.tup [.sl .frozen (paVs (fitT a b e).2), .bool true]) h) → ((fitT a b e).1 = false → ∀ l : En, Q (.tup [.sl .frozen (paVs l), .bool false]) h) →
  CallA ap 63 0 bs [.sl .frozen (paVs e), tyV a, tyV b] h Q

theorem refm63 : ∀ (m : Nat) (a b : Ty), SizeOf.sizeOf a ≤ m → fine a = true → fine b = true → RefM a b := by
  intro m
  induction m with
  | zero => intro a b h; cases a; simp at h
  | succ m ih =>
    intro a b hm ha hb bs h Q e he hsz ht hf
    obtain ⟨k, n, l⟩ := a
    obtain ⟨k', n', l'⟩ := b
    have hfb := hb
    simp only [fine, Bool.and_eq_true, decide_eq_true_eq] at ha hb
    have each : ∀ a ∈ l, ∀ b ∈ l', RefM a b := fun a ha' b hb' => ih a b (by have := List.sizeOf_lt_of_mem ha'; simp at hm; omega) (fineL_mem ha.2 ha') (fineL_mem hb.2 hb')
    refine CallA.code (af := ac63) rfl (Nat.le_of_ble_eq_true rfl) ?_
    have hty' : tyV (.mk k' n' l') = .agg [.int .i64 k', .str n', .sl .frozen (tyVs l')] := by simp [tyV]
    by_cases hk : k = 1
    · subst hk
      simp only [fit_var] at ht hf
      simp [ac63, tyV, pas_demote]
      refine get59 e n (by omega) ?_
      cases hx : look e n with
      | none =>
        simp only [hx] at ht hf
        have ht := ht trivial
        rw [show paVs (e ++ [(n, Ty.mk k' n' l')]) = paVs e ++ [paV (n, .mk k' n' l')] by simp [paVs]] at ht
        have hpv : paV (n, .mk k' n' l') = .agg [.str n, .int .i64 k', .str n', .sl .frozen (tyVs l')] := by simp [paV, tyV]
        rw [hpv] at ht
        match e, hsz with
        | [], _ =>
          simp [splice, lim, paVs, demote_tys, under_tys]
          simpa [paVs] using ht
        | p :: e, hsz =>
          have e1 : paVs (p :: e) = paV p :: paVs e := rfl
          simp only [e1] at ht ⊢
          simp only [List.length_cons] at hsz
          have hc : ∀ v, v = paV p ∨ v ∈ paVs e → v.cells.length = 4 := fun v hv => hv.elim (fun e => e ▸ pa_cells p) pas_cells
          simp [splice, lim, pas_length, pa_demote, pa_under]
          have hx2 : paVs e ++ [V.agg [.str n, .int .i64 k', .str n', .sl .frozen (tyVs l')]] = paVs (e ++ [(n, .mk k' n' l')]) := by rw [← hpv]; simp [paVs]
          refine ⟨⟨pa_cells p, fun v hv => pas_cells hv⟩, by omega, ⟨pa_cells p, fun v hv => ?_⟩, by omega, ?_, ?_⟩
          · rcases hv with hv | rfl
            · exact pas_cells hv
            · rfl
          · rw [hx2, pas_demote]
            exact pas_under _ _
          · rw [hx2, pas_demote, ← hx2]
            simpa using ht
      | some u =>
        simp only [hx] at ht hf
        have hfu := he.fine _ _ (look_mem hx)
        simp [splice, ty_take, ty_agg, demote_ty, demote_tys]
        rw [← hty']
        refine sameOk (fine_ok _ hfu) (fine_ok _ hfb) _ _ _ ?_
        cases hbe : beqT u (.mk k' n' l') with
        | true =>
          simp [pas_demote, pas_under]
          exact ht hbe
        | false =>
          simp [pas_demote, pas_under]
          exact hf hbe e
    · have hk1 : (k == 1) = false := by simpa using hk
      simp only [fitT, if_neg hk] at ht hf
      by_cases hc1 : k = k'
      · subst hc1
        by_cases hc2 : n = n'
        · subst hc2
          by_cases hc3 : l.length = l'.length
          · rw [if_pos ⟨rfl, rfl, hc3⟩] at ht hf
            simp [ac63, tyV, hk1, hc3]
            match l, l', hc3, ha.1.1, each with
            | [], [], _, _, _ =>
              refine wpA_loop (CallA.hle ap) ?_
              simp [forget, noLoc, locOf, tyVs, pas_demote, pas_under]
              simp only [fitL] at ht
              exact ht trivial
            | [a], [b], _, _, each =>
              simp only [szN, szL] at hsz
              refine wpA_loop (CallA.hle ap) ?_
              simp [forget, noLoc, locOf, tyVs, ty_take, ty_agg, demote_ty, pas_demote]
              simp only [fitL] at ht hf
              refine each a (by simp) b (by simp) _ _ _ e he (by omega) (fun hr => ?_) (fun hr ll => ?_)
              · simp [w1]
                refine wpA_loop (CallA.hle ap) ?_
                simp [forget, noLoc, locOf, pas_demote, pas_under]
                simpa [hr] using ht
              · simp [w1]
                refine wpA_loop (CallA.hle ap) ?_
                simp [forget, noLoc, locOf, pas_demote, pas_under]
                simpa [hr] using hf (by simp [hr]) ll
            | [a, a2], [b, b2], _, _, each =>
              have hfb2 : fine b = true ∧ fine b2 = true := by
                have := hb.2
                simp [fineL] at this
                exact this
              simp only [szN, szL] at hsz
              have hfo := fit_ok a b e hfb2.1 he
              refine wpA_loop (CallA.hle ap) ?_
              simp [forget, noLoc, locOf, tyVs, ty_take, ty_agg, demote_ty, pas_demote]
              simp only [fitL] at ht hf
              refine each a (by simp) b (by simp) _ _ _ e he (by omega) (fun hr => ?_) (fun hr ll => ?_)
              · simp only [hr, if_true] at ht hf
                simp [w1]
                refine wpA_loop (CallA.hle ap) ?_
                simp [forget, noLoc, locOf, ty_take, ty_agg, demote_ty, pas_demote]
                refine each a2 (by simp) b2 (by simp) _ _ _ _ hfo.1 (by have := hfo.2; omega) (fun hr2 => ?_) (fun hr2 ll => ?_)
                · simp [w2]
                  refine wpA_loop (CallA.hle ap) ?_
                  simp [forget, noLoc, locOf, pas_demote, pas_under]
                  simpa [hr2] using ht
                · simp [w2]
                  refine wpA_loop (CallA.hle ap) ?_
                  simp [forget, noLoc, locOf, pas_demote, pas_under]
                  simpa [hr2] using hf (by simp [hr2]) ll
              · simp [w1]
                refine wpA_loop (CallA.hle ap) ?_
                simp [forget, noLoc, locOf, pas_demote, pas_under]
                simpa [hr] using hf (by simp [hr]) ll
          · rw [if_neg (fun hh => hc3 hh.2.2)] at hf
            have : ((l.length : Int) != (l'.length : Int)) = true := by simpa using fun e => hc3 (by omega)
            simp [ac63, tyV, hk1, this]
            exact hf rfl []
        · rw [if_neg (fun hh => hc2 hh.2.1)] at hf
          have : (n == n') = false := by simpa using hc2
          simp [ac63, tyV, hk1, this]
          exact hf rfl []
      · rw [if_neg (fun hh => hc1 hh.1)] at hf
        have : (k != k') = true := by simpa using hc1
        simp [ac63, tyV, hk1, this]
        exact hf rfl []

theorem refm34 (a b : Ty) (ha : fine a = true) (hb : fine b = true) (hsz : szN a < 100000) (ht : (fitT a b []).1 = true → Q (.tup [.sl .frozen (paVs (fitT a b []).2), .bool true]) h)
    (hf : (fitT a b []).1 = false → ∀ l : En, Q (.tup [.sl .frozen (paVs l), .bool false]) h) : CallA ap 34 0 bs [tyV a, tyV b] h Q := by
  refine CallA.code (af := ac34) rfl (Nat.le_of_ble_eq_true rfl) ?_
  simp [ac34, ty_take, ty_agg, demote_ty]
  refine refm63 _ a b (Nat.le_refl _) ha hb _ _ _ [] enOk_nil (by simpa using hsz) (fun hr => ?_) (fun hr l => ?_)
  · simp [pas_demote, pas_under]
    exact ht hr
  · simp [pas_demote, pas_under]
    exact hf hr l

/-- Types for a, b, c. -/
def byE (t u v : Ty) : En := [([97], t), ([98], u), ([99], v)]

theorem by29 (l : List Int) (hq : ∀ t u v : Ty, Made 2 t → Made 2 u → Made 2 v → Q (.sl .frozen (paVs (byE t u v))) h) : CallA ap 29 0 bs [.sl .frozen (l.map (.int .i64))] h Q := by
  refine CallA.code (af := ac29) rfl (Nat.le_of_ble_eq_true rfl) ?_
  have p8 : (2 : Int) ^ (2 + 1) = 8 := by decide
  simp [ac29, splice]
  refine wpA_loop (CallA.hle ap) ?_
  simp [forget, noLoc]
  refine made10 .frozen l h.length 2 2 0 _ _ _ (by omega) (by omega) (by omega) (by omega) (by omega) (by simp [seqB]) fun t i hi1 hi2 ht => ?_
  rw [p8] at hi2
  have ct : ∀ t : Ty, paV ([97], t) = paV ([97], t) := fun _ => rfl
  simp [splice, lim, w1]
  refine wpA_loop (CallA.hle ap) ?_
  simp [forget, noLoc]
  refine made10 .frozen l h.length 2 2 i _ _ _ (by omega) (by omega) (by omega) (by omega) (by omega) (by simp) fun u j hj1 hj2 hu => ?_
  rw [p8] at hj2
  simp [splice, lim, w2]
  refine wpA_loop (CallA.hle ap) ?_
  simp [forget, noLoc]
  refine made10 .frozen l h.length 2 2 j _ _ _ (by omega) (by omega) (by omega) (by omega) (by omega) (by simp) fun v k hk1 hk2 hv => ?_
  simp [splice, lim, w3]
  refine wpA_loop (CallA.hle ap) ?_
  simp [forget, noLoc, ty_dc, ty_uc]
  exact hq t u v ht hu hv

end
end Go.At
