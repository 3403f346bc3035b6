/- The reference's Vars: on the abstract machine. -/
import Derived.Test.YthebkhieedogdaaVtY3
import Derived.Test.YthebkhieedogdaaVtX0
namespace Go.Vt
open Go.Am Go.Proofs
set_option maxRecDepth 100000

mutual
def varsT (o : List Nam) : Ty → List Nam
  | .mk k n l => if k = 1 then (if n ∈ o then o else o ++ [n]) else varsTL o l
def varsTL (o : List Nam) : List Ty → List Nam
  | [] => o
  | t :: l => varsTL (varsT o t) l
end

mutual
theorem varsT_mem (x : Nam) : ∀ (t : Ty) (o : List Nam), x ∈ varsT o t ↔ x ∈ o ∨ occ x t = true
  | .mk k n l, o => by
    by_cases hk : k = 1
    · subst hk
      simp only [varsT, occ, if_true]
      by_cases hn : n ∈ o
      · rw [if_pos hn]
        simp only [beq_iff_eq]
        exact ⟨.inl, fun h => h.elim id fun e => e ▸ hn⟩
      · rw [if_neg hn]
        simp only [List.mem_append, List.mem_singleton, beq_iff_eq]
        exact ⟨fun h => h.imp id Eq.symm, fun h => h.imp id Eq.symm⟩
    · simp only [varsT, occ, if_neg hk]
      exact varsTL_mem x l o
theorem varsTL_mem (x : Nam) : ∀ (l : List Ty) (o : List Nam), x ∈ varsTL o l ↔ x ∈ o ∨ occL x l = true
  | [], o => by simp [varsTL, occL]
  | t :: l, o => by
    simp only [varsTL, occL, Bool.or_eq_true, varsTL_mem x l, varsT_mem x t, or_assoc]
end

mutual
theorem varsT_nodup : ∀ (t : Ty) (o : List Nam), o.Nodup → (varsT o t).Nodup
  | .mk k n l, o, h => by
    by_cases hk : k = 1
    · subst hk
      simp only [varsT, if_true]
      split
      · exact h
      · rename_i hn
        exact List.nodup_append.2 ⟨h, by simp, fun a ha b hb => by simp at hb; subst hb; exact fun e => hn (e ▸ ha)⟩
    · simp only [varsT, if_neg hk]
      exact varsTL_nodup l o h
theorem varsTL_nodup : ∀ (l : List Ty) (o : List Nam), o.Nodup → (varsTL o l).Nodup
  | [], o, h => h
  | t :: l, o, h => varsTL_nodup l _ (varsT_nodup t o h)
end

section
variable {bs : List Nat} {h : List Ob} {Q : V → List Ob → Prop}

def VarsS (A : List Nam) (t : Ty) : Prop := ∀ (o : List Nam) (bs : List Nat) (h : List Ob) (Q : V → List Ob → Prop), o.Nodup → (∀ x ∈ o, x ∈ A) → Q (.sl .frozen ((varsT o t).map .str)) h → CallA ap 30 0 bs [.sl .frozen (o.map .str), .sl .frozen [], tyV t] h Q

theorem vars50 {A : List Nam} (hA : A.length ≤ 1000) : ∀ (m : Nat) (t : Ty), SizeOf.sizeOf t ≤ m → fine t = true → good A t → VarsS A t := by
  intro m
  induction m with
  | zero => intro t h; cases t; simp at h
  | succ m ih =>
    intro t hm ht hg o bs h Q hnd hsub hq
    have h4 := hg.1
    have hlen : o.length ≤ 1000 := Nat.le_trans (List.Nodup.length_le_of_subset hnd hsub) hA
    have hg0 := hg
    obtain ⟨k, n, l⟩ := t
    simp only [fine, Bool.and_eq_true, decide_eq_true_eq] at ht
    simp only [no4, Bool.and_eq_true, bne_iff_ne, ne_eq] at h4
    have each : k ≠ 1 → ∀ a ∈ l, VarsS A a := fun hk a ha => ih a (by have := List.sizeOf_lt_of_mem ha; simp at hm; omega) (fineL_mem ht.2 ha) (good_arg hk hg0 ha)
    have k4 : (k == 4) = false := by simpa using h4.1
    refine CallA.code (af := ac30) rfl (Nat.le_of_ble_eq_true rfl) ?_
    by_cases hk : k = 1
    · subst hk
      have hl : l = [] := by simpa using ht.1.2
      subst hl
      simp [ac30, tyV, dem_strs, splice, demote_tys]
      refine has40 o n (by omega) fun b hb => ?_
      simp only [varsT, if_true] at hq
      cases b with
      | true =>
        rw [if_pos (hb.1 rfl)] at hq
        simp [dem_strs]
        exact ⟨under_strs _ _, hq⟩
      | false =>
        have hn : ¬ n ∈ o := fun h => by simpa using hb.2 h
        rw [if_neg hn] at hq
        simp [dem_strs]
        refine has40 [] n (by simp) fun b' hb' => ?_
        have : b' = false := by cases b' <;> simp_all
        subst this
        simp [dem_strs]
        refine texts56 o (by omega) ?_
        simp [dem_strs, splice]
        refine ⟨fun v hv => ?_, by simp only [lim]; omega, ?_⟩
        · rcases hv with ⟨x, _, rfl⟩ | rfl <;> rfl
        · have e : List.map V.str o ++ [V.str n] = (o ++ [n]).map V.str := by simp
          rw [e, dem_strs]
          exact ⟨under_strs _ _, by simpa using hq⟩
    · have hkb : (k == 1) = false := by simpa using hk
      simp only [varsT, if_neg hk] at hq
      have each := each hk
      simp [ac30, tyV, hkb, k4, dem_strs, splice, demote_tys]
      match l, ht.1.1, each, hg0, hq with
      | [], _, _, _, hq =>
        refine wpA_loop (CallA.hle ap) ?_
        simp [forget, noLoc, locOf, tyVs, dem_strs]
        exact ⟨under_strs _ _, hq⟩
      | [a], _, each, _, hq =>
        refine wpA_loop (CallA.hle ap) ?_
        simp [forget, noLoc, locOf, tyVs, ty_sel, splice, ty_take, ty_agg, demote_ty, dem_strs]
        refine each a (by simp) o _ _ _ hnd hsub ?_
        simp [w1]
        refine wpA_loop (CallA.hle ap) ?_
        simp [forget, noLoc, locOf, dem_strs]
        exact ⟨under_strs _ _, hq⟩
      | [a, b], _, each, hg0, hq =>
        refine wpA_loop (CallA.hle ap) ?_
        simp [forget, noLoc, locOf, tyVs, ty_sel, splice, ty_take, ty_agg, demote_ty, dem_strs]
        refine each a (by simp) o _ _ _ hnd hsub ?_
        simp [w1]
        refine wpA_loop (CallA.hle ap) ?_
        simp [forget, noLoc, locOf, tyVs, ty_sel, splice, ty_take, ty_agg, demote_ty, dem_strs]
        refine each b (by simp) (varsT o a) _ _ _ (varsT_nodup a o hnd) (fun x hx => ((varsT_mem x a o).1 hx).elim (hsub x) (fun h => (good_arg hk hg0 (by simp : a ∈ [a, b])).2 x h)) ?_
        simp [w2]
        refine wpA_loop (CallA.hle ap) ?_
        simp [forget, noLoc, locOf, dem_strs]
        exact ⟨under_strs _ _, hq⟩

end
end Go.Vt
