/- The laws MatchCases and MatchSays on the abstract machine. -/
import Derived.Test.YtpknncihhgfpnaaAtR6
namespace Go.At
open Go.Am Go.Proofs
set_option maxRecDepth 100000

theorem fine_var {n : List UInt8} {l : List Ty} (h : fine (.mk 1 n l) = true) : l = [] := by
  simp only [fine, bne_self_eq_false, Bool.false_or, Bool.and_eq_true, List.isEmpty_iff] at h
  exact h.1.2

mutual
theorem ap_sg {s s' : List UInt8 → Option Ty} (hs : ∀ x, sg s x = sg s' x) : ∀ t : Ty, fine t = true → apT s t = apT s' t
  | .mk k n l, h => by
    by_cases hk : k = 1
    · subst hk
      have hl := fine_var h
      subst hl
      have := hs n
      simp only [sg] at this
      simp only [apT, if_true, this]
    · simp only [apT, if_neg hk]
      simp only [fine, Bool.and_eq_true] at h
      rw [apL_sg hs l h.2]
theorem apL_sg {s s' : List UInt8 → Option Ty} (hs : ∀ x, sg s x = sg s' x) : ∀ l : List Ty, fineL l = true → apL s l = apL s' l
  | [], _ => rfl
  | t :: l, h => by
    simp only [fineL, Bool.and_eq_true] at h
    simp only [apL, ap_sg hs t h.1, apL_sg hs l h.2]
end

mutual
theorem ap_ap (s s' : List UInt8 → Option Ty) : ∀ t : Ty, fine t = true → apT s' (apT s t) = apT (fun x => some (apT s' (sg s x))) t
  | .mk k n l, h => by
    by_cases hk : k = 1
    · subst hk
      have hl := fine_var h
      subst hl
      simp only [apT, if_true, sg, Option.getD_some]
    · simp only [apT, if_neg hk]
      simp only [fine, Bool.and_eq_true] at h
      rw [apL_ap s s' l h.2]
theorem apL_ap (s s' : List UInt8 → Option Ty) : ∀ l : List Ty, fineL l = true → apL s' (apL s l) = apL (fun x => some (apT s' (sg s x))) l
  | [], _ => rfl
  | t :: l, h => by
    simp only [fineL, Bool.and_eq_true] at h
    simp only [apL, ap_ap s s' t h.1, apL_ap s s' l h.2]
end

mutual
theorem ap_id : ∀ t : Ty, apT (fun _ => none) t = t
  | .mk k n l => by
    simp only [apT, Option.getD_none, apL_id l]
    split <;> rfl
theorem apL_id : ∀ l : List Ty, apL (fun _ => none) l = l
  | [] => rfl
  | t :: l => by simp only [apL, ap_id t, apL_id l]
end

theorem fit_case (s : List UInt8 → Option Ty) {t : Ty} (h : fine t = true) : (fitT t (apT s t) []).1 = true :=
  (fit_ap s t [] h (fun x u hx => by simp [look] at hx)).1

theorem by_ok {t u v : Ty} {B : Nat} {P : Ty → Prop} (ht : P t) (hu : P u) (hv : P v) : ∀ x w, look (byE t u v) x = some w → P w := by
  intro x w hw
  have := look_mem hw
  simp [byE] at this
  rcases this with ⟨_, rfl⟩ | ⟨_, rfl⟩ | ⟨_, rfl⟩ <;> assumption

theorem ints_demote (l : List Int) : demoteL (l.map (V.int .i64)) = l.map (V.int .i64) := by rw [demoteL_eq]; simp

theorem law7 (a b c : List Int) : CallA ap 7 0 [] [.sl .frozen (a.map (.int .i64)), .sl .frozen (b.map (.int .i64)), .sl .frozen (c.map (.int .i64))] [] fun v _ => v = .bool true := by
  refine CallA.code (af := ac7) rfl (Nat.le_of_ble_eq_true rfl) ?_
  simp [ac7]
  refine first27 ?_
  simp
  by_cases h1 : (60 : Int) < a.length
  · simp [h1]
  by_cases h2 : (60 : Int) < b.length
  · simp [h1, h2]
  by_cases h3 : (60 : Int) < c.length
  · simp [h1, h2, h3]
  simp [h1, h2, h3, splice]
  refine made10 .frozen a 0 3 3 0 _ _ _ (by omega) (by omega) (by omega) (by omega) (by omega) rfl fun t i hi1 hi2 ht => ?_
  simp [splice, ints_demote]
  refine by29 b fun x1 x2 x3 g1 g2 g3 => ?_
  have fE := by_ok (B := 0) (P := fun w => fine w = true) g1.fine g2.fine g3.fine
  have zE := by_ok (t := x1) (u := x2) (v := x3) (B := 0) (P := fun w => szN w ≤ 7) (by have := g1.sz; omega) (by have := g2.sz; omega) (by have := g3.sz; omega)
  have lE : (byE x1 x2 x3).length < 1000000 := by simp [byE]
  generalize byE x1 x2 x3 = E at *
  have hb := ap_fine (look E) fE t ht.fine
  have zt := ht.sz
  have zb := ap_sz (look E) 7 (by omega) zE t ht.fine
  simp [ty_take, ty_agg, demote_ty, pas_demote]
  refine refOk ht.fine _ _ _ E lE ?_
  simp [splice, ints_demote]
  refine by29 c fun y1 y2 y3 k1 k2 k3 => ?_
  have fF := by_ok (B := 0) (P := fun w => fine w = true) k1.fine k2.fine k3.fine
  have zF := by_ok (t := y1) (u := y2) (v := y3) (B := 0) (P := fun w => szN w ≤ 7) (by have := k1.sz; omega) (by have := k2.sz; omega) (by have := k3.sz; omega)
  have lF : (byE y1 y2 y3).length < 1000000 := by simp [byE]
  generalize byE y1 y2 y3 = F at *
  have hc := ap_fine (look F) fF _ hb
  have zc := ap_sz (look F) 7 (by omega) zF _ hb
  have fab : (fitT t (apT (look E) t) []).1 = true := fit_case _ ht.fine
  have fbc := fit_case (look F) hb
  have fac : (fitT t (apT (look F) (apT (look E) t)) []).1 = true := by rw [ap_ap _ _ _ ht.fine]; exact fit_case _ ht.fine
  have faa : (fitT t t []).1 = true := by have := fit_case (fun _ => none) ht.fine; rwa [ap_id] at this
  generalize hU : apT (look E) t = u at *
  simp [ty_take, ty_agg, demote_ty, pas_demote]
  refine refOk hb _ _ _ F lF ?_
  simp [splice, ty_take, ty_agg, demote_ty]
  generalize hW : apT (look F) u = w at *
  generalize hH : [seqB .frozen a i] = H at *
  refine match30 t u ht.fine hb (by omega) (fun hr => by rw [fab] at hr; cases hr) (fun _ t1 q1 f1 _ _ _ => ?_)
  simp [splice, ty_take, ty_agg, demote_ty]
  refine match30 u w hb hc (by omega) (fun hr => by rw [fbc] at hr; cases hr) (fun _ t2 q2 f2 _ _ _ => ?_)
  simp [splice, ty_take, ty_agg, demote_ty]
  refine match30 t w ht.fine hc (by omega) (fun hr => by rw [fac] at hr; cases hr) (fun _ t3 q3 f3 _ _ _ => ?_)
  simp [splice, ty_take, ty_agg, demote_ty]
  refine match30 w t hc ht.fine (by omega) (fun hr t4 => ?_) (fun hr t4 q4 f4 _ _ _ => ?_)
  all_goals
    simp [splice, ty_take, ty_agg, demote_ty]
    refine both31 t t ht.fine ht.fine (by omega) (by omega) ?_
    simp [ty_take, ty_agg, demote_ty, faa]
    refine both31 t w ht.fine hc (by omega) (by omega) ?_
    simp [ty_take, ty_agg, demote_ty, fac, hr]
    refine both31 w t hc ht.fine (by omega) (by omega) ?_
    simp [fac, hr]

theorem law9 (a b : List Int) : CallA ap 9 0 [] [.sl .frozen (a.map (.int .i64)), .sl .frozen (b.map (.int .i64))] [] fun v _ => v = .bool true := by
  refine CallA.code (af := ac9) rfl (Nat.le_of_ble_eq_true rfl) ?_
  simp [ac9]
  refine first27 ?_
  simp
  by_cases h1 : (100 : Int) < a.length
  · simp [h1]
  by_cases h2 : (100 : Int) < b.length
  · simp [h1, h2]
  simp [h1, h2, splice]
  refine made10 .frozen a 0 3 3 0 _ _ _ (by omega) (by omega) (by omega) (by omega) (by omega) rfl fun t i hi1 hi2 ht => ?_
  simp [splice]
  refine made10 .frozen b 1 4 4 0 _ _ _ (by omega) (by omega) (by omega) (by omega) (by omega) rfl fun u j hj1 hj2 hu => ?_
  have zt := ht.sz
  have zu := hu.sz
  have hok := fit_ok t u [] hu.fine enOk_nil
  have hap := ap_fit t u []
  simp [splice, ty_take, ty_agg, demote_ty]
  generalize hH : [seqB .frozen a i, seqB .frozen b j] = H at *
  refine match30 t u ht.fine hu.fine (by omega) (fun hr t1 => ?_) (fun hr t1 q f hq hs hf => ?_)
  · simp [splice, ty_take, ty_agg, demote_ty]
    refine refm34 t u ht.fine hu.fine (by omega) (fun hr' => by rw [hr] at hr'; cases hr') (fun _ l => ?_)
    simp [ty_take, ty_agg, demote_ty]
    refine refm34 u t hu.fine ht.fine (by omega) (fun hr2 => ?_) (fun hr2 l2 => ?_)
    all_goals
      simp [ty_take, ty_agg, demote_ty]
      refine both31 t u ht.fine hu.fine (by omega) (by omega) ?_
      simp [hr, hr2]
  · have e2 := (hap hr).2 _ (fun x u h => h)
    have e1 : apT (look f) t = u := (ap_sg hs t ht.fine).trans e2
    have huu : beqT u u = true := (beqT_iff u u).2 rfl
    have hlen := hok.2
    generalize hE : (fitT t u []).2 = E at *
    simp [splice, ty_take, ty_agg, demote_ty]
    refine refm34 t u ht.fine hu.fine (by omega) (fun _ => ?_) (fun hr' => by rw [hr] at hr'; cases hr')
    rw [hE]
    simp [ty_take, ty_agg, demote_ty]
    refine refm34 u t hu.fine ht.fine (by omega) (fun hr2 => ?_) (fun hr2 l2 => ?_)
    all_goals
      simp [ty_take, ty_agg, demote_ty]
      refine both31 t u ht.fine hu.fine (by omega) (by omega) ?_
      simp [hr, hr2, ty_take, ty_agg, demote_ty]
      refine applyOk ht.fine _ _ _ q f hq hf ?_
      rw [e1]
      simp [ty_take, ty_agg, demote_ty]
      refine sameOk hu.ok hu.ok _ _ _ ?_
      simp [huu, ty_take, ty_agg, demote_ty, pas_demote]
      refine refOk ht.fine _ _ _ E (by simp at hlen; omega) ?_
      rw [e2]
      simp [ty_take, ty_agg, demote_ty]
      refine sameOk hu.ok hu.ok _ _ _ ?_
      simp [huu]

end Go.At
