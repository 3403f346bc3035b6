/- The law MatchOnce on the abstract machine. -/
import Derived.Test.YtpknncihhgfpnaaAtR4
namespace Go.At
open Go.Am Go.Proofs
set_option maxRecDepth 100000

theorem fit_var (n : List UInt8) (l : List Ty) (b : Ty) (e : En) : fitT (.mk 1 n l) b e = match look e n with
    | none => (true, e ++ [(n, b)])
    | some t => (beqT t b, e) := by
  cases b
  cases h : look e n <;> simp [fitT, h]

theorem get_up {h t : List Ob} {q : Nat} {o : Ob} (hq : h[q]? = some o) : (h ++ t)[q]? = some o := by
  rw [List.getElem?_append_left (List.getElem?_eq_some_iff.1 hq).1]
  exact hq

section
variable {bs : List Nat} {h : List Ob} {Q : V → List Ob → Prop}

/-- What counts a type's parts. -/
def SizeS (t : Ty) : Prop := ∀ (bs : List Nat) (h : List Ob) (Q : V → List Ob → Prop), Q (.int .i64 (szN t)) h → CallA ap 33 0 bs [tyV t] h Q

theorem size33 : ∀ (m : Nat) (t : Ty), SizeOf.sizeOf t ≤ m → fine t = true → szN t < 1000000 → SizeS t := by
  intro m
  induction m with
  | zero => intro t h; cases t; simp at h
  | succ m ih =>
    intro t hm ht hs bs h Q hq
    obtain ⟨k, n, l⟩ := t
    simp only [fine, Bool.and_eq_true, decide_eq_true_eq] at ht
    have each : ∀ a ∈ l, szN a < 1000000 → SizeS a := fun a ha => ih a (by have := List.sizeOf_lt_of_mem ha; simp at hm; omega) (fineL_mem ht.2 ha)
    refine CallA.code (af := ac33) rfl (Nat.le_of_ble_eq_true rfl) ?_
    simp [ac33, tyV]
    match l, ht.1.1, each with
    | [], _, _ =>
      refine wpA_loop (CallA.hle ap) ?_
      simp [forget, noLoc, locOf, tyVs]
      simpa [szN, szL] using hq
    | [a], _, each =>
      simp only [szN, szL] at hs hq
      have ha : IntKind.wrap .i64 (1 + (szN a : Int)) = 1 + (szN a : Int) := wrap64 (by omega) (by omega)
      refine wpA_loop (CallA.hle ap) ?_
      simp [forget, noLoc, locOf, tyVs, ty_take, ty_agg, demote_ty]
      refine each a (by simp) (by omega) _ _ _ ?_
      simp [w1, ha]
      refine wpA_loop (CallA.hle ap) ?_
      simp [forget, noLoc, locOf]
      have e : ((1 + (szN a + 0) : Nat) : Int) = 1 + (szN a : Int) := by omega
      rw [e] at hq
      exact hq
    | [a, b], _, each =>
      simp only [szN, szL] at hs hq
      have ha : IntKind.wrap .i64 (1 + (szN a : Int)) = 1 + (szN a : Int) := wrap64 (by omega) (by omega)
      have hb : IntKind.wrap .i64 (1 + (szN a : Int) + (szN b : Int)) = 1 + (szN a : Int) + (szN b : Int) := wrap64 (by omega) (by omega)
      refine wpA_loop (CallA.hle ap) ?_
      simp [forget, noLoc, locOf, tyVs, ty_take, ty_agg, demote_ty]
      refine each a (by simp) (by omega) _ _ _ ?_
      simp [w1, ha]
      refine wpA_loop (CallA.hle ap) ?_
      simp [forget, noLoc, locOf, ty_take, ty_agg, demote_ty]
      refine each b (by simp) (by omega) _ _ _ ?_
      simp [w2, hb]
      refine wpA_loop (CallA.hle ap) ?_
      simp [forget, noLoc, locOf]
      have e : ((1 + (szN a + (szN b + 0)) : Nat) : Int) = 1 + (szN a : Int) + (szN b : Int) := by omega
      rw [e] at hq
      exact hq

def tyA : Ty := .mk 1 [97] []
def tyI : Ty := .mk 2 [73, 110, 116] []

theorem first27 (hq : Q (.bool true) h) : CallA ap 27 0 bs [] h Q := by
  refine CallA.code (af := ac27) rfl (Nat.le_of_ble_eq_true rfl) ?_
  simp [ac27, splice]
  refine match30 tyA tyI rfl rfl (by decide) (fun hr => by simp [tyA, fit_var, look] at hr) (fun hr t q f _ _ _ => ?_)
  simp [splice]
  refine match30 tyI tyA rfl rfl (by decide) (fun hr t => ?_) (fun hr => by simp [tyA, tyI, fitT] at hr)
  simp [splice]
  exact hq

end

theorem law8 (a b : List Int) : CallA ap 8 0 [] [.sl .frozen (a.map (.int .i64)), .sl .frozen (b.map (.int .i64))] [] fun v _ => v = .bool true := by
  refine CallA.code (af := ac8) rfl (Nat.le_of_ble_eq_true rfl) ?_
  simp [ac8]
  refine first27 ?_
  simp
  by_cases h1 : (60 : Int) < a.length
  · simp [h1]
  by_cases h2 : (60 : Int) < b.length
  · simp [h1, h2]
  simp [h1, h2, splice]
  refine made10 .frozen a 0 3 3 0 _ _ _ (by omega) (by omega) (by omega) (by omega) (by omega) rfl fun t i hi1 hi2 ht => ?_
  simp [splice]
  refine made10 .frozen b 1 3 3 0 _ _ _ (by omega) (by omega) (by omega) (by omega) (by omega) rfl fun u j hj1 hj2 hu => ?_
  have fA : fine tyA = true := rfl
  have fT : fine (.mk 2 [80, 97, 105, 114] [tyA, tyA]) = true := rfl
  have fB : fine (.mk 2 [80, 97, 105, 114] [t, u]) = true := by simp [fine, fineL, ht.fine, hu.fine]
  have zt := ht.sz
  have zu := hu.sz
  have zB : szN (.mk 2 [80, 97, 105, 114] [t, u]) < 100000 := by simp [szN, szL]; omega
  have r1 : fitT (.mk 2 [80, 97, 105, 114] [tyA, tyA]) (.mk 2 [80, 97, 105, 114] [t, u]) [] = (beqT t u, [([97], t)]) := by
    simp [fitT, fitL, tyA, fit_var, look]
  have r2 : fitT tyA t [] = (true, [([97], t)]) := by simp [tyA, fit_var, look]
  have r3 : (fitT (.mk 2 [80, 97, 105, 114] [t, u]) tyA []).1 = false := by simp [tyA, fitT]
  have eA : ∀ f : En, sg (look f) [97] = sg (look [([97], t)]) [97] → apT (look f) tyA = t := fun f hf => by
    have : apT (look f) tyA = sg (look f) [97] := by simp [apT, tyA, sg]
    rw [this, hf]
    simp [sg, look]
  have htt : beqT t t = true := (beqT_iff t t).2 rfl
  have eT : ∀ k n (l : List Ty), tyV (.mk k n l) = .agg [.int .i64 k, .str n, .sl .frozen (tyVs l)] := fun k n l => by simp [tyV]
  simp [splice, ty_take, ty_agg, demote_ty]
  generalize hH : [seqB .frozen a i, seqB .frozen b j] = H at *
  refine match30 (.mk 2 [80, 97, 105, 114] [tyA, tyA]) (.mk 2 [80, 97, 105, 114] [t, u]) fT fB (by decide) (fun hr t1 => ?_) (fun hr t1 q1 f1 hq1 hs1 hf1 => ?_)
  · rw [r1] at hr
    simp only at hr
    simp [splice, ty_take, ty_agg, demote_ty]
    refine match30 tyA t fA ht.fine (by decide) (fun hr2 => by simp [r2] at hr2) (fun hr2 t2 q2 f2 hq2 hs2 hf2 => ?_)
    rw [r2] at hs2
    simp [splice, demote_ty]
    refine match30 (.mk 2 [80, 97, 105, 114] [t, u]) tyA fB fA zB (fun hr3 t3 => ?_) (fun hr3 => by rw [r3] at hr3; cases hr3)
    simp [splice, ty_take, ty_agg, demote_ty]
    refine sameOk ht.ok hu.ok _ _ _ ?_
    simp [hr]
    refine applyOk fA _ _ _ q2 f2 (by simpa using get_up (t := t3) hq2) hf2 ?_
    rw [eA f2 (hs2 [97])]
    simp [ty_take, ty_agg, demote_ty]
    refine sameOk ht.ok ht.ok _ _ _ ?_
    simp [htt]
    refine size33 _ (.mk 2 [80, 97, 105, 114] [tyA, tyA]) (Nat.le_refl _) fT (by decide) _ _ _ ?_
    simp [szN, szL, tyA]
  · rw [r1] at hr hs1
    simp only at hr hs1
    simp [splice, ty_take, ty_agg, demote_ty]
    refine match30 tyA t fA ht.fine (by decide) (fun hr2 => by simp [r2] at hr2) (fun hr2 t2 q2 f2 hq2 hs2 hf2 => ?_)
    rw [r2] at hs2
    simp [splice, demote_ty]
    refine match30 (.mk 2 [80, 97, 105, 114] [t, u]) tyA fB fA zB (fun hr3 t3 => ?_) (fun hr3 => by rw [r3] at hr3; cases hr3)
    simp [splice, ty_take, ty_agg, demote_ty]
    refine sameOk ht.ok hu.ok _ _ _ ?_
    simp [hr]
    refine applyOk fA _ _ _ q1 f1 (by simpa using get_up (t := t3) (get_up (t := t2) hq1)) hf1 ?_
    rw [eA f1 (hs1 [97])]
    simp [ty_take, ty_agg, demote_ty]
    refine sameOk ht.ok ht.ok _ _ _ ?_
    simp [htt]
    refine applyOk fA _ _ _ q2 f2 (by simpa using get_up (t := t3) hq2) hf2 ?_
    rw [eA f2 (hs2 [97])]
    simp [ty_take, ty_agg, demote_ty]
    refine sameOk ht.ok ht.ok _ _ _ ?_
    simp [htt]
    refine size33 _ (.mk 2 [80, 97, 105, 114] [tyA, tyA]) (Nat.le_refl _) fT (by decide) _ _ _ ?_
    simp [szN, szL, tyA]

end Go.At
