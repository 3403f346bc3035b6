/- What any types, any pairs of them come to is what the reference says: the law on the abstract machine. -/
import Derived.Test.YtabjkoehbbobdaaDoorGtZ1
namespace Go.Gt
open Go.Am Go.Proofs
set_option maxRecDepth 100000

theorem fo_fail {A : List Nam} {a b : Ty} {f : En} {g : Nat} (h : Fo A [] a b f) (h' : Fail [] a b g) : False := by
  have := h.uni.det h'.uni
  cases this

theorem foL_fail {A : List Nam} {l : List (Ty × Ty)} {f : En} {g : Nat} (h : FoL A [] l f) (h' : FailL [] l g) : False := by
  have := h.uni.det h'.uni
  cases this

theorem hat_same {f f' : En} (h : sge f = sge f') (t : Ty) : beqT (hat (sge f) t) (hat (sge f') t) = true := by rw [h]; exact (beqT_iff _ _).2 rfl

section
variable {bs : List Nat} {h : List Ob} {Q : V → List Ob → Prop}

/-- The two replace a variable alike. -/
theorem alike {A : List Nam} {f f' : En} {t : Ty} (hf : Fit A f) (hf' : Fit A f') (ht : fine t = true) (he : sge f = sge f') (hq : Q (.bool true) h) : CallA ap 13 0 bs [tyV (hat (sge f) t), tyV (hat (sge f') t)] h Q := by
  refine sameOk (fine_ok _ (sge_hat_fine hf.s.ok ht)) (fine_ok _ (sge_hat_fine hf'.s.ok ht)) _ _ _ ?_
  rw [hat_same he]
  exact hq

theorem refR {A : List Nam} {f : En} {t : Ty} (hf : Fit A f) (ht : fine t = true) (hq : Q (tyV (hat (sge f) t)) h) : CallA ap 15 0 bs [.sl .frozen (paVs f), tyV t] h Q := by
  refine refOk ht _ _ _ f (by have := hf.len; omega) ?_
  rw [ap_hat _ _ ht]
  exact hq
end

theorem drop6 (t : Ty) (a b c : V) : List.drop 6 ((tyV t).cells ++ [a, b, c]) = [] := List.drop_of_length_le (by simp)
theorem pr_fold (a b : Ty) : V.agg ((tyV a).cells ++ (tyV b).cells) = prV (a, b) := rfl

theorem law3 (a : List Int) : CallA ap 3 0 [] [.sl .frozen (a.map (.int .i64))] [] fun v _ => v = .bool true := by
  refine CallA.code (af := ac3) rfl (Nat.le_of_ble_eq_true rfl) ?_
  simp [ac3]
  refine first8 ?_
  simp
  by_cases h1 : (200 : Int) < a.length
  · simp [h1]
  simp [h1, splice]
  refine made10 .frozen a 0 4 4 0 _ _ _ (by omega) (by omega) (by omega) (by omega) (by omega) rfl fun ta i hi1 hi2 ha => ?_
  simp [splice]
  refine made10 .frozen a 0 4 4 i _ _ _ (by omega) (by omega) (by omega) (by omega) (by omega) rfl fun tb j hj1 hj2 hb => ?_
  simp [splice]
  refine made10 .frozen a 0 4 4 j _ _ _ (by omega) (by omega) (by omega) (by omega) (by omega) rfl fun tc k hk1 hk2 hc => ?_
  simp [splice, ty_take, ty_agg, demote_ty]
  have hlA : abc.length ≤ 1000 := by decide
  refine unify10 (A := abc) (by decide) ha.good ha.fine hb.good hb.fine (fun tl o f hr hf => ?_) (fun tl g hn => ?_)
  case' neg.refine_1 =>
    simp [splice, ty_take, ty_agg, demote_ty]
    refine refU11 hlA ha.good ha.fine hb.good hb.fine (fun f' hf' => ?_) (fun g hn => (fo_fail hf hn).elim)
    have he : sge f = sge f' := Except.ok.inj (hf.uni.det hf'.uni)
    simp
    refine isN ?_
    simp [ty_take, ty_agg, demote_ty]
    refine applyR ha.fine hf.fit.s.ok hr ?_
    simp [ty_take, ty_agg, demote_ty, pas_demote]
    refine refR hf'.fit ha.fine ?_
    simp [demote_ty]
    refine alike hf.fit hf'.fit ha.fine he ?_
    simp [ty_take, ty_agg, demote_ty]
    refine applyR hc.fine hf.fit.s.ok hr ?_
    simp [ty_take, ty_agg, demote_ty, pas_demote]
    refine refR hf'.fit hc.fine ?_
    simp [demote_ty]
    refine alike hf.fit hf'.fit hc.fine he ?_
    simp [splice, ty_take, ty_agg]
  case' neg.refine_2 =>
    simp [splice, ty_take, ty_agg, demote_ty]
    refine refU11 hlA ha.good ha.fine hb.good hb.fine (fun f' hf' => (fo_fail hf' hn).elim) (fun g' hn' => ?_)
    have he : g = g' := Except.error.inj (hn.uni.det hn'.uni)
    subst he
    have hcg : (codeOf g == 0) = false := by unfold codeOf; split <;> rfl
    simp
    refine isS g hn.uni.err ?_
    simp [hcg, splice, ty_take, ty_agg]
  all_goals
    refine made10 .frozen a 0 3 3 k _ _ _ (by omega) (by omega) (by omega) (by omega) (by omega) rfl fun td m hm1 hm2 hd => ?_
    simp [splice, drop6, pr_fold, pr_demote, pr_loc, pr_cells]
    have hok : ∀ p ∈ [(ta, tb), (tb, tc), (tc, td)], OkP abc p := fun p hp => by
      simp only [List.mem_cons, List.not_mem_nil, or_false] at hp
      rcases hp with rfl | rfl | rfl
      · exact ⟨ha.good, ha.fine, hb.good, hb.fine⟩
      · exact ⟨hb.good, hb.fine, hc.good, hc.fine⟩
      · exact ⟨hc.good, hc.fine, hd.good, hd.fine⟩
    refine all16 hlA [(ta, tb), (tb, tc), (tc, td)] (by simp) hok (fun tl2 o2 u hru hu => ?_) (fun tl2 g2 hn2 => ?_)
    · simp [splice, pr_demote]
      refine refAll17 hlA [(ta, tb), (tb, tc), (tc, td)] (by simp) hok (fun u' hu' => ?_) (fun g2 hn2 => (foL_fail hu hn2).elim)
      have he2 : sge u = sge u' := Except.ok.inj (hu.uni.det hu'.uni)
      simp
      refine isN ?_
      simp [ty_take, ty_agg, demote_ty]
      refine applyR ha.fine hu.fit.s.ok hru ?_
      simp [ty_take, ty_agg, demote_ty, pas_demote]
      refine refR hu'.fit ha.fine ?_
      simp [demote_ty]
      refine alike hu.fit hu'.fit ha.fine he2 ?_
      simp [ty_take, ty_agg, demote_ty]
      refine applyR hc.fine hu.fit.s.ok hru ?_
      simp [ty_take, ty_agg, demote_ty, pas_demote]
      refine refR hu'.fit hc.fine ?_
      simp [demote_ty]
      refine alike hu.fit hu'.fit hc.fine he2 ?_
      simp
    · simp [splice, pr_demote]
      refine refAll17 hlA [(ta, tb), (tb, tc), (tc, td)] (by simp) hok (fun u' hu' => (foL_fail hu' hn2).elim) (fun g3 hn3 => ?_)
      have he2 : g2 = g3 := Except.error.inj (hn2.uni.det hn3.uni)
      subst he2
      have hcg2 : (codeOf g2 != 0) = true := by unfold codeOf; split <;> rfl
      simp
      refine isS g2 hn2.code ?_
      simp [hcg2]

end Go.Gt
