/- Matching on the abstract machine. -/
import Derived.Test.YtpknncihhgfpnaaAtQ
namespace Go.At
open Go.Am Go.Proofs
set_option maxRecDepth 100000

@[simp] theorem lk_s (s : St) (z : V) (n : List UInt8) (ok : Bool) (r : Nat) : lookV s .str z (.str n) ok (.map (some r)) = lookO z (.str n) ok s.h[r]? := rfl
@[simp] theorem lk_n (s : St) (z : V) (n : List UInt8) (ok : Bool) : lookV s .str z (.str n) ok (.map none) = some (okV ok z none) := rfl

def entE (e : En) : List (V × V) := e.map fun p => (.str p.1, tyV p.2)
/-- A map that only grew. -/
def mapOb (e : En) : Ob := .map (entE e) (List.range e.length) e.length

theorem ent_find (e : En) (x : List UInt8) : findE (.str x) (entE e) = some ((look e x).map tyV) := by
  induction e with
  | nil => rfl
  | cons p e ih =>
    simp only [entE, List.map_cons, findE, keyEq, look] at ih ⊢
    by_cases h : p.1 = x
    · have : (x == p.1) = true := by simp [h]
      simp [h]
    · have : (x == p.1) = false := by simp; exact fun e => h e.symm
      simp [this, h, ih]

theorem ent_set (e : En) (x : List UInt8) (t : Ty) (h : look e x = none) : setE (.str x) (tyV t) (entE e) = some (entE (e ++ [(x, t)])) := by
  induction e with
  | nil => rfl
  | cons p e ih =>
    simp only [look] at h
    split at h
    · cases h
    · rename_i hp
      have : (x == p.1) = false := by simp; exact fun e => hp e.symm
      simp only [entE, List.map_cons, List.cons_append, setE, keyEq, this] at ih ⊢
      simp [ih h]

theorem ob_set (e : En) (x : List UInt8) (t : Ty) : setOb (entE e).length (List.range e.length) e.length (entE (e ++ [(x, t)])) = mapOb (e ++ [(x, t)]) := by
  simp [setOb, mapOb, entE, List.range_succ]

theorem ty_ul (m : Nat) (t : Ty) : underL m [tyV t] = true := by simp [under_ty]

section
variable {bs : List Nat} {h : List Ob} {Q : V → List Ob → Prop}

theorem sameZero {a b : Ty} : (cmpT a b == 0) = beqT a b := by
  rw [Bool.eq_iff_iff, beq_iff_eq, beqT_iff]
  exact ⟨cmpT_zero a b, fun h => by subst h; exact ty_refl a⟩

/-- What fits one type to another. -/
def FitS (a b : Ty) : Prop := ∀ (bs : List Nat) (h : List Ob) (Q : V → List Ob → Prop) (q : Nat) (e : En), EnOk e → h[q]? = some (mapOb e) → Q (.bool (fitT a b e).1) (h.set q (mapOb (fitT a b e).2)) →
  CallA ap 60 0 bs [tyV a, tyV b, .map (some q)] h Q

theorem fits60 : ∀ (m : Nat) (a b : Ty), SizeOf.sizeOf a ≤ m → fine a = true → fine b = true → FitS a b := by
  intro m
  induction m with
  | zero => intro a b h; cases a; simp at h
  | succ m ih =>
    intro a b hm ha hb bs h Q q e he hq0 hq
    obtain ⟨k, n, l⟩ := a
    obtain ⟨k', n', l'⟩ := b
    have hql : q < h.length := (List.getElem?_eq_some_iff.1 hq0).1
    have hfb := hb
    simp only [fine, Bool.and_eq_true, decide_eq_true_eq] at ha hb
    have each : ∀ a ∈ l, ∀ b ∈ l', FitS a b := fun a ha' b hb' => ih a b (by have := List.sizeOf_lt_of_mem ha'; simp at hm; omega) (fineL_mem ha.2 ha') (fineL_mem hb.2 hb')
    refine CallA.code (af := ac60) rfl (Nat.le_of_ble_eq_true rfl) ?_
    have hq0' : h[q]? = some (.map (entE e) (List.range e.length) e.length) := hq0
    have hty' : tyV (.mk k' n' l') = .agg [.int .i64 k', .str n', .sl .frozen (tyVs l')] := by simp [tyV]
    by_cases hk : k = 1
    · subst hk
      cases hx : look e n with
      | none =>
        simp only [fitT, if_true, hx] at hq
        have hset := ent_set e n (.mk k' n' l') hx
        rw [hty'] at hset
        simp [ac60, tyV, hq0', ent_find, hx, splice, isKey, hset, okStore, under_tys, ob_set]
        exact hq
      | some u =>
        simp only [fitT, if_true, hx] at hq
        have hfu := he.fine _ _ (look_mem hx)
        simp [ac60, tyV, hq0', ent_find, hx, splice, ty_take, ty_agg, demote_ty, demote_tys]
        rw [← hty']
        refine same12 u (.mk k' n' l') (fine_ok _ hfu) (fine_ok _ hfb) ?_
        rw [sameZero]
        simp
        have : h.set q (mapOb e) = h := by rw [← Option.some_inj.1 ((List.getElem?_eq_getElem hql).symm.trans hq0)]; simp
        rw [this] at hq
        exact hq
    · have hk1 : (k == 1) = false := by simpa using hk
      simp only [fitT, if_neg hk] at hq
      have hself : h.set q (mapOb e) = h := by rw [← Option.some_inj.1 ((List.getElem?_eq_getElem hql).symm.trans hq0)]; simp
      by_cases hc1 : k = k'
      · subst hc1
        by_cases hc2 : n = n'
        · subst hc2
          by_cases hc3 : l.length = l'.length
          · rw [if_pos ⟨rfl, rfl, hc3⟩] at hq
            simp [ac60, tyV, hk1, hc3]
            match l, l', hc3, ha.1.1, each with
            | [], [], _, _, _ =>
              refine wpA_loop (CallA.hle ap) ?_
              simp [forget, noLoc, locOf, tyVs]
              simp only [fitL, hself] at hq
              exact hq
            | [a], [b], _, _, each =>
              refine wpA_loop (CallA.hle ap) ?_
              simp [forget, noLoc, locOf, tyVs, ty_take, ty_agg, demote_ty]
              refine each a (by simp) b (by simp) _ _ _ q e he hq0 ?_
              simp only [fitL] at hq
              cases hr : (fitT a b e).1 with
              | true =>
                simp only [hr, if_true] at hq
                simp [w1]
                refine wpA_loop (CallA.hle ap) ?_
                simp [forget, noLoc, locOf]
                exact hq
              | false =>
                simp [hr] at hq
                simp
                exact hq
            | [a, a2], [b, b2], _, _, each =>
              have hfb2 : fine b = true ∧ fine b2 = true := by
                have := hb.2
                simp [fineL] at this
                exact this
              refine wpA_loop (CallA.hle ap) ?_
              simp [forget, noLoc, locOf, tyVs, ty_take, ty_agg, demote_ty]
              refine each a (by simp) b (by simp) _ _ _ q e he hq0 ?_
              simp only [fitL] at hq
              cases hr : (fitT a b e).1 with
              | true =>
                simp only [hr, if_true] at hq
                simp [w1]
                refine wpA_loop (CallA.hle ap) ?_
                simp [forget, noLoc, locOf, ty_take, ty_agg, demote_ty]
                refine each a2 (by simp) b2 (by simp) _ _ _ q _ (fit_ok a b e hfb2.1 he).1 (by simp [hql]) ?_
                cases hr2 : (fitT a2 b2 (fitT a b e).2).1 with
                | true =>
                  simp only [hr2, if_true] at hq
                  simp [w2]
                  refine wpA_loop (CallA.hle ap) ?_
                  simp [forget, noLoc, locOf]
                  simpa using hq
                | false =>
                  simp [hr2] at hq
                  simp
                  exact hq
              | false =>
                simp [hr] at hq
                simp
                exact hq
          · rw [if_neg (fun hh => hc3 hh.2.2), hself] at hq
            have : ((l.length : Int) != (l'.length : Int)) = true := by simpa using fun e => hc3 (by omega)
            simp [ac60, tyV, hk1, this]
            exact hq
        · rw [if_neg (fun hh => hc2 hh.2.1), hself] at hq
          have : (n == n') = false := by simpa using hc2
          simp [ac60, tyV, hk1, this]
          exact hq
      · rw [if_neg (fun hh => hc1 hh.1), hself] at hq
        have : (k != k') = true := by simpa using hc1
        simp [ac60, tyV, hk1, this]
        exact hq

end
end Go.At
