/- What the chapter says of types, by the reference: free variables under names that are bound, all parts, sizes, the order: on the abstract machine. -/
import Derived.Test.YthebkhieedogdaaVtT2
import Derived.Test.YthebkhieedogdaaVtL
namespace Go.Vt
open Go.Am Go.Proofs
set_option maxRecDepth 100000

@[simp] theorem b_slss {x y : List UInt8} : binV .lss (.str x) (.str y) = some (.bool (Op.bytesLess x y)) := rfl

mutual
def varsB (z o : List Nam) : Ty → List Nam
  | .mk k n l => if k = 1 then (if n ∈ z ∨ n ∈ o then o else o ++ [n]) else varsBL z o l
def varsBL (z o : List Nam) : List Ty → List Nam
  | [] => o
  | t :: l => varsBL z (varsB z o t) l
end

mutual
theorem varsB_nil : ∀ (t : Ty) (o : List Nam), varsB [] o t = varsT o t
  | .mk k n l, o => by
    by_cases hk : k = 1
    · subst hk; simp [varsB, varsT]
    · simp only [varsB, varsT, if_neg hk]; exact varsBL_nil l o
theorem varsBL_nil : ∀ (l : List Ty) (o : List Nam), varsBL [] o l = varsTL o l
  | [], o => rfl
  | t :: l, o => by simp only [varsBL, varsTL, varsB_nil t o]; exact varsBL_nil l _
end

mutual
theorem varsB_sub (z : List Nam) (x : Nam) : ∀ (t : Ty) (o : List Nam), x ∈ varsB z o t → x ∈ o ∨ occ x t = true
  | .mk k n l, o => by
    by_cases hk : k = 1
    · subst hk
      simp only [varsB, occ, if_true]
      split
      · exact .inl
      · simp only [List.mem_append, List.mem_singleton, beq_iff_eq]
        exact fun h => h.imp id Eq.symm
    · simp only [varsB, occ, if_neg hk]
      exact varsBL_sub z x l o
theorem varsBL_sub (z : List Nam) (x : Nam) : ∀ (l : List Ty) (o : List Nam), x ∈ varsBL z o l → x ∈ o ∨ occL x l = true
  | [], o => by simp only [varsBL]; exact .inl
  | t :: l, o => by
    simp only [varsBL, occL, Bool.or_eq_true]
    intro h
    rcases varsBL_sub z x l _ h with h | h
    · exact (varsB_sub z x t o h).imp id .inl
    · exact .inr (.inr h)
end

mutual
theorem varsB_nodup (z : List Nam) : ∀ (t : Ty) (o : List Nam), o.Nodup → (varsB z o t).Nodup
  | .mk k n l, o, h => by
    by_cases hk : k = 1
    · subst hk
      simp only [varsB, if_true]
      split
      · exact h
      · rename_i hn
        exact List.nodup_append.2 ⟨h, by simp, fun a ha b hb => by simp at hb; subst hb; exact fun e => hn (.inr (e ▸ ha))⟩
    · simp only [varsB, if_neg hk]
      exact varsBL_nodup z l o h
theorem varsBL_nodup (z : List Nam) : ∀ (l : List Ty) (o : List Nam), o.Nodup → (varsBL z o l).Nodup
  | [], o, h => h
  | t :: l, o, h => varsBL_nodup z l _ (varsB_nodup z t o h)
end

mutual
theorem varsB_ne (z : List Nam) : ∀ (t : Ty) (o : List Nam), varsB z o t = [] → o = []
  | .mk k n l, o, h => by
    by_cases hk : k = 1
    · subst hk
      simp only [varsB, if_true] at h
      split at h
      · exact h
      · simp at h
    · simp only [varsB, if_neg hk] at h
      exact varsBL_ne z l o h
theorem varsBL_ne (z : List Nam) : ∀ (l : List Ty) (o : List Nam), varsBL z o l = [] → o = []
  | [], o, h => h
  | t :: l, o, h => varsB_ne z t o (varsBL_ne z l _ h)
end

section
variable {bs : List Nat} {h : List Ob} {Q : V → List Ob → Prop}

def FreeB (A z : List Nam) (t : Ty) : Prop := ∀ (o : List Nam) (tg : Tag) (bs : List Nat) (h : List Ob) (Q : V → List Ob → Prop), o.Nodup → (∀ x ∈ o, x ∈ A) → RowS h tg o →
  Q (.sl (rowT h tg (varsB z o t)) ((varsB z o t).map .str)) (rowH h tg (varsB z o t)) → CallA ap 29 0 bs [tyV t, .sl .frozen (z.map .str), .sl tg (o.map .str)] h Q

theorem freeB29 {A z : List Nam} (hA : A.length ≤ 1000) (hz : z.length ≤ 1000) : ∀ (m : Nat) (t : Ty), SizeOf.sizeOf t ≤ m → fine t = true → good A t → FreeB A z t := by
  intro m
  induction m with
  | zero => intro t h; cases t; simp at h
  | succ m ih =>
    intro t hm ht hg o tg bs h Q hnd hsub hrow hq
    have h4 := hg.1
    have hlen : o.length ≤ 1000 := Nat.le_trans (List.Nodup.length_le_of_subset hnd hsub) hA
    have hg0 := hg
    obtain ⟨k, n, l⟩ := t
    simp only [fine, Bool.and_eq_true, decide_eq_true_eq] at ht
    simp only [no4, Bool.and_eq_true, bne_iff_ne, ne_eq] at h4
    have each : k ≠ 1 → ∀ a ∈ l, FreeB A z a := fun hk a ha => ih a (by have := List.sizeOf_lt_of_mem ha; simp at hm; omega) (fineL_mem ht.2 ha) (good_arg hk hg0 ha)
    have k4 : (k == 4) = false := by simpa using h4.1
    refine CallA.code (af := ac29) rfl (Nat.le_of_ble_eq_true rfl) ?_
    by_cases hk : k = 1
    · subst hk
      have hl : l = [] := by simpa using ht.1.2
      subst hl
      simp [ac29, tyV, dem_strs]
      refine cont42 z n (by omega) fun b' hb' => ?_
      simp only [varsB, if_true] at hq
      cases b' with
      | true =>
        rw [if_pos (.inl (hb'.1 rfl)), (row_same hrow).1, (row_same hrow).2] at hq
        simp
        refine wpA_loop (CallA.hle ap) ?_
        simp [forget, noLoc, tyVs]
        exact hq
      | false =>
      have hnz : ¬ n ∈ z := fun h => by simpa using hb'.2 h
      simp [dem_strs]
      refine cont42 o n (by omega) fun b hb => ?_
      cases b with
      | true =>
        rw [if_pos (.inr (hb.1 rfl)), (row_same hrow).1, (row_same hrow).2] at hq
        simp
        refine wpA_loop (CallA.hle ap) ?_
        simp [forget, noLoc, tyVs]
        exact hq
      | false =>
        have hn : ¬ n ∈ o := fun h => by simpa using hb.2 h
        rw [if_neg (fun h => h.elim hnz hn)] at hq
        have hlim : o.length + 1 ≤ lim := by simp only [lim]; omega
        rcases hrow with ⟨rfl, rfl⟩ | ⟨r, rfl, hr⟩
        · simp [lim]
          refine wpA_loop (CallA.hle ap) ?_
          simp [forget, noLoc, tyVs]
          simpa [rowT, rowH] using hq
        · simp [hr]
          refine ⟨fun v hv => ?_, hlim, ?_⟩
          · rcases hv with ⟨x, _, rfl⟩ | rfl <;> rfl
          refine wpA_loop (CallA.hle ap) ?_
          simp [forget, noLoc, tyVs]
          simpa [rowT, rowH] using hq
    · have hkb : (k == 1) = false := by simpa using hk
      simp only [varsB, if_neg hk] at hq
      have each := each hk
      simp [ac29, tyV, hkb, k4]
      match l, ht.1.1, each, hg0, hq with
      | [], _, _, _, hq =>
        simp only [varsBL, (row_same hrow).1, (row_same hrow).2] at hq
        refine wpA_loop (CallA.hle ap) ?_
        simp [forget, noLoc, tyVs]
        exact hq
      | [a], _, each, _, hq =>
        refine wpA_loop (CallA.hle ap) ?_
        simp [forget, noLoc, tyVs, splice, ty_take, ty_agg, demote_ty, dem_strs]
        refine each a (by simp) o tg _ _ _ hnd hsub hrow ?_
        simp [w1]
        refine wpA_loop (CallA.hle ap) ?_
        simp [forget, noLoc]
        exact hq
      | [a, b], _, each, hg0, hq =>
        refine wpA_loop (CallA.hle ap) ?_
        simp [forget, noLoc, tyVs, splice, ty_take, ty_agg, demote_ty, dem_strs]
        refine each a (by simp) o tg _ _ _ hnd hsub hrow ?_
        simp [w1]
        refine wpA_loop (CallA.hle ap) ?_
        simp [forget, noLoc, splice, ty_take, ty_agg, demote_ty, dem_strs]
        refine each b (by simp) (varsB z o a) _ _ _ _ (varsB_nodup z a o hnd) (fun x hx => ((varsB_sub z x a o hx)).elim (hsub x) (fun h => (good_arg hk hg0 (by simp : a ∈ [a, b])).2 x h)) (row_next _ hrow) ?_
        rw [(row_two (varsB_ne z b (varsB z o a))).1, (row_two (varsB_ne z b (varsB z o a))).2]
        simp [w2]
        refine wpA_loop (CallA.hle ap) ?_
        simp [forget, noLoc]
        exact hq

def VarsBS (A z : List Nam) (t : Ty) : Prop := ∀ (o : List Nam) (bs : List Nat) (h : List Ob) (Q : V → List Ob → Prop), o.Nodup → (∀ x ∈ o, x ∈ A) → Q (.sl .frozen ((varsB z o t).map .str)) h → CallA ap 30 0 bs [.sl .frozen (o.map .str), .sl .frozen (z.map .str), tyV t] h Q

theorem varsB50 {A z : List Nam} (hA : A.length ≤ 1000) (hz : z.length ≤ 1000) : ∀ (m : Nat) (t : Ty), SizeOf.sizeOf t ≤ m → fine t = true → good A t → VarsBS A z t := by
  intro m
  induction m with
  | zero => intro t h; cases t; simp at h
  | succ m ih =>
    intro t hm ht hg o bs h Q hnd hsub hq
    have h4 := hg.1
    have hlen : o.length ≤ 1000 := Nat.le_trans (List.Nodup.length_le_of_subset hnd hsub) hA
    have hg0 := hg
    obtain ⟨k, n, l⟩ := t
    simp only [fine, Bool.and_eq_true, decide_eq_true_eq] at ht
    simp only [no4, Bool.and_eq_true, bne_iff_ne, ne_eq] at h4
    have each : k ≠ 1 → ∀ a ∈ l, VarsBS A z a := fun hk a ha => ih a (by have := List.sizeOf_lt_of_mem ha; simp at hm; omega) (fineL_mem ht.2 ha) (good_arg hk hg0 ha)
    have k4 : (k == 4) = false := by simpa using h4.1
    refine CallA.code (af := ac30) rfl (Nat.le_of_ble_eq_true rfl) ?_
    by_cases hk : k = 1
    · subst hk
      have hl : l = [] := by simpa using ht.1.2
      subst hl
      simp [ac30, tyV, dem_strs]
      refine has40 o n (by omega) fun b hb => ?_
      simp only [varsB, if_true] at hq
      cases b with
      | true =>
        rw [if_pos (.inr (hb.1 rfl))] at hq
        simp [dem_strs]
        exact ⟨under_strs _ _, hq⟩
      | false =>
        have hn : ¬ n ∈ o := fun h => by simpa using hb.2 h
        simp [dem_strs]
        refine has40 z n (by omega) fun b' hb' => ?_
        cases b' with
        | true =>
          rw [if_pos (.inl (hb'.1 rfl))] at hq
          simp [dem_strs]
          exact ⟨under_strs _ _, hq⟩
        | false =>
        have hnz : ¬ n ∈ z := fun h => by simpa using hb'.2 h
        rw [if_neg (fun h => h.elim hnz hn)] at hq
        simp [dem_strs]
        refine texts56 o (by omega) ?_
        simp
        refine ⟨fun v hv => ?_, by simp only [lim]; omega, ?_⟩
        · rcases hv with ⟨x, _, rfl⟩ | rfl <;> rfl
        · have e : List.map V.str o ++ [V.str n] = (o ++ [n]).map V.str := by simp
          rw [e, dem_strs]
          exact ⟨under_strs _ _, by simpa using hq⟩
    · have hkb : (k == 1) = false := by simpa using hk
      simp only [varsB, if_neg hk] at hq
      have each := each hk
      simp [ac30, tyV, hkb, k4]
      match l, ht.1.1, each, hg0, hq with
      | [], _, _, _, hq =>
        refine wpA_loop (CallA.hle ap) ?_
        simp [forget, noLoc, locOf, tyVs, dem_strs]
        exact ⟨under_strs _ _, hq⟩
      | [a], _, each, _, hq =>
        refine wpA_loop (CallA.hle ap) ?_
        simp [forget, noLoc, locOf, tyVs, ty_take, ty_agg, demote_ty, dem_strs]
        refine each a (by simp) o _ _ _ hnd hsub ?_
        simp [w1]
        refine wpA_loop (CallA.hle ap) ?_
        simp [forget, noLoc, locOf, dem_strs]
        exact ⟨under_strs _ _, hq⟩
      | [a, b], _, each, hg0, hq =>
        refine wpA_loop (CallA.hle ap) ?_
        simp [forget, noLoc, locOf, tyVs, ty_take, ty_agg, demote_ty, dem_strs]
        refine each a (by simp) o _ _ _ hnd hsub ?_
        simp [w1]
        refine wpA_loop (CallA.hle ap) ?_
        simp [forget, noLoc, locOf, ty_take, ty_agg, demote_ty, dem_strs]
        refine each b (by simp) (varsB z o a) _ _ _ (varsB_nodup z a o hnd) (fun x hx => ((varsB_sub z x a o hx)).elim (hsub x) (fun h => (good_arg hk hg0 (by simp : a ∈ [a, b])).2 x h)) ?_
        simp [w2]
        refine wpA_loop (CallA.hle ap) ?_
        simp [forget, noLoc, locOf, dem_strs]
        exact ⟨under_strs _ _, hq⟩

/-- For all of a name. -/
def allV (x : Nam) (t : Ty) : V := .agg [.int .i64 4, .str x, .sl .frozen [tyV t]]

theorem nil43 (hq : Q (.sl .clip []) h) : CallA ap 43 0 bs [.sl .frozen []] h Q := by
  refine CallA.code (af := ac43) rfl (Nat.le_of_ble_eq_true rfl) ?_
  simp [ac43]
  exact hq

theorem vars9_two {A : List Nam} (hA : A.length ≤ 1000) {t u : Ty} (ht : fine t = true) (hg : good A t) (hu : fine u = true) (hg2 : good A u) (hq : Q (.sl .frozen ((varsB [] (varsB [] [] t) u).map .str)) h) : CallA ap 9 0 bs [.sl .frozen [tyV t, tyV u]] h Q := by
  refine CallA.code (af := ac9) rfl (Nat.le_of_ble_eq_true rfl) ?_
  simp [ac9]
  refine wpA_loop (CallA.hle ap) ?_
  simp [forget, noLoc, splice, ty_take, ty_agg, demote_ty]
  refine freeB29 (z := []) hA (by simp) _ t (Nat.le_refl _) ht hg [] .clip _ _ _ (by simp) (by simp) (.inl ⟨rfl, rfl⟩) ?_
  simp [w1]
  refine wpA_loop (CallA.hle ap) ?_
  simp [forget, noLoc, splice, ty_take, ty_agg, demote_ty]
  refine freeB29 (z := []) hA (by simp) _ u (Nat.le_refl _) hu hg2 (varsB [] [] t) _ _ _ _ (varsB_nodup [] t [] (by simp)) (fun x hx => (varsB_sub [] x t [] hx).elim (by simp) (hg.2 x)) (row_next _ (.inl ⟨rfl, rfl⟩)) ?_
  rw [(row_two (varsB_ne [] u (varsB [] [] t))).1, (row_two (varsB_ne [] u (varsB [] [] t))).2]
  simp [w2]
  refine wpA_loop (CallA.hle ap) ?_
  simp [forget, noLoc, dem_strs, under_strs]
  have : (rowH h Tag.clip (varsB [] (varsB [] [] t) u)).take h.length = h := by
    simp only [rowH]; split <;> simp
  rw [this]
  exact hq

theorem vars9_all {A : List Nam} (hA : A.length ≤ 1000) {t : Ty} (x : Nam) (ht : fine t = true) (hg : good A t) (hq : Q (.sl .frozen ((varsB [x] [] t).map .str)) h) : CallA ap 9 0 bs [.sl .frozen [allV x t]] h Q := by
  refine CallA.code (af := ac9) rfl (Nat.le_of_ble_eq_true rfl) ?_
  simp [ac9, allV]
  refine wpA_loop (CallA.hle ap) ?_
  simp [forget, noLoc, splice, demote_ty]
  refine CallA.code (af := ac29) rfl (Nat.le_of_ble_eq_true rfl) ?_
  simp [ac29]
  refine nil43 ?_
  simp [lim]
  refine wpA_loop (CallA.hle ap) ?_
  simp [forget, noLoc, splice, ty_take, ty_agg, demote_ty]
  refine freeB29 (z := [x]) hA (by simp) _ t (Nat.le_refl _) ht hg [] .clip _ _ _ (by simp) (by simp) (.inl ⟨rfl, rfl⟩) ?_
  simp [w1]
  refine wpA_loop (CallA.hle ap) ?_
  simp [forget, noLoc, w1]
  refine wpA_loop (CallA.hle ap) ?_
  simp [forget, noLoc, dem_strs, under_strs]
  have : (rowH (h ++ [.fam 1 1]) Tag.clip (varsB [x] [] t)).take h.length = h := by
    simp only [rowH]; split <;> simp
  rw [this]
  exact hq

theorem vars41_two {A : List Nam} (hA : A.length ≤ 1000) {t u : Ty} (ht : fine t = true) (hg : good A t) (hu : fine u = true) (hg2 : good A u) (hq : Q (.sl .frozen ((varsB [] (varsB [] [] t) u).map .str)) h) : CallA ap 10 0 bs [.sl .frozen [tyV t, tyV u]] h Q := by
  refine CallA.code (af := ac10) rfl (Nat.le_of_ble_eq_true rfl) ?_
  simp [ac10]
  refine wpA_loop (CallA.hle ap) ?_
  simp [forget, noLoc, ty_take, ty_agg, demote_ty]
  refine varsB50 (z := []) hA (by simp) _ t (Nat.le_refl _) ht hg [] _ _ _ (by simp) (by simp) ?_
  simp [w1]
  refine wpA_loop (CallA.hle ap) ?_
  simp [forget, noLoc, ty_take, ty_agg, demote_ty, dem_strs]
  refine varsB50 (z := []) hA (by simp) _ u (Nat.le_refl _) hu hg2 (varsB [] [] t) _ _ _ (varsB_nodup [] t [] (by simp)) (fun x hx => (varsB_sub [] x t [] hx).elim (by simp) (hg.2 x)) ?_
  simp [w2]
  refine wpA_loop (CallA.hle ap) ?_
  simp [forget, noLoc, dem_strs]
  exact ⟨under_strs _ _, hq⟩

theorem vars41_one {A : List Nam} (hA : A.length ≤ 1000) {t : Ty} (ht : fine t = true) (hg : good A t) (hq : Q (.sl .frozen ((varsB [] [] t).map .str)) h) : CallA ap 10 0 bs [.sl .frozen [tyV t]] h Q := by
  refine CallA.code (af := ac10) rfl (Nat.le_of_ble_eq_true rfl) ?_
  simp [ac10]
  refine wpA_loop (CallA.hle ap) ?_
  simp [forget, noLoc, ty_take, ty_agg, demote_ty]
  refine varsB50 (z := []) hA (by simp) _ t (Nat.le_refl _) ht hg [] _ _ _ (by simp) (by simp) ?_
  simp [w1]
  refine wpA_loop (CallA.hle ap) ?_
  simp [forget, noLoc, dem_strs]
  exact ⟨under_strs _ _, hq⟩

theorem vars41_all {A : List Nam} (hA : A.length ≤ 1000) {t : Ty} (x : Nam) (ht : fine t = true) (hg : good A t) (hq : Q (.sl .frozen ((varsB [x] [] t).map .str)) h) : CallA ap 10 0 bs [.sl .frozen [allV x t]] h Q := by
  refine CallA.code (af := ac10) rfl (Nat.le_of_ble_eq_true rfl) ?_
  simp [ac10, allV]
  refine wpA_loop (CallA.hle ap) ?_
  simp [forget, noLoc, demote_ty]
  refine CallA.code (af := ac30) rfl (Nat.le_of_ble_eq_true rfl) ?_
  simp [ac30]
  refine texts56 [] (by simp) ?_
  simp [lim]
  refine wpA_loop (CallA.hle ap) ?_
  simp [forget, noLoc, locOf, ty_take, ty_agg, demote_ty]
  refine varsB50 (z := [x]) hA (by simp) _ t (Nat.le_refl _) ht hg [] _ _ _ (by simp) (by simp) ?_
  simp [w1]
  refine wpA_loop (CallA.hle ap) ?_
  simp [forget, noLoc, locOf, dem_strs, w1]
  refine ⟨under_strs _ _, ?_⟩
  refine wpA_loop (CallA.hle ap) ?_
  simp [forget, noLoc, dem_strs]
  exact ⟨under_strs _ _, hq⟩

/-- All parts, by the reference. -/
def AllS (t : Ty) : Prop := ∀ (bs : List Nat) (h : List Ob) (Q : V → List Ob → Prop), Q (.sl .frozen (tyVs (allT t))) h → CallA ap 16 0 bs [tyV t] h Q

theorem all_ne (t : Ty) : ∃ a l, tyVs (allT t) = a :: l := by cases t; exact ⟨_, _, rfl⟩

theorem tys_cells3 (l : List Ty) : ∀ v ∈ tyVs l, v.cells.length = 3 := fun _ hv => tys_cells hv

theorem all16 : ∀ (m : Nat) (t : Ty), SizeOf.sizeOf t ≤ m → okT t = true → sizeT t < 1000000 → AllS t := by
  intro m
  induction m with
  | zero => intro t h; cases t; simp at h
  | succ m ih =>
    intro t hm ht hs bs h Q hq
    have hal := all_len t
    obtain ⟨k, n, l⟩ := t
    obtain ⟨l1, l2⟩ := okT_len ht
    have each : ∀ a ∈ l, sizeT a < 1000000 → AllS a := fun a ha => ih a (by have := List.sizeOf_lt_of_mem ha; simp at hm; omega) (l2 a ha)
    have e0 : V.agg [.int .i64 k, .str n, .sl .frozen (tyVs l)] = tyV (.mk k n l) := rfl
    refine CallA.code (af := ac16) rfl (Nat.le_of_ble_eq_true rfl) ?_
    simp [ac16, tyV]
    rw [e0]
    match l, l1, each with
    | [], _, _ =>
      refine wpA_loop (CallA.hle ap) ?_
      simp [forget, noLoc, locOf, tyVs, demote_ty, under_ty]
      simpa [allT, allTL, tyVs] using hq
    | [a], _, each =>
      simp only [sizeT, sizeTs] at hs
      obtain ⟨y, ys, ea⟩ := all_ne a
      have hla := all_len a
      have hll : (allT a).length = (y :: ys).length := by rw [← ea, tys_length]
      simp at hll
      refine wpA_loop (CallA.hle ap) ?_
      simp [forget, noLoc, locOf, tyVs, ty_take, ty_agg, demote_ty]
      refine each a (by simp) (by omega) _ _ _ ?_
      rw [ea]
      have hc := tys_cells3 (allT a)
      rw [ea] at hc
      simp
      refine ⟨⟨hc y (by simp), fun v hv => hc v (by simp [hv])⟩, by simp only [lim]; omega, ?_⟩
      simp [w1]
      refine wpA_loop (CallA.hle ap) ?_
      have e1 : tyV (.mk k n [a]) :: y :: ys = tyVs (allT (.mk k n [a])) := by simp [allT, allTL, tyVs, ea]
      have d1 := demote_tys (allT (.mk k n [a]))
      have u1 := under_tys h.length (allT (.mk k n [a]))
      rw [← e1] at d1 u1 hq
      simp [forget, noLoc, locOf]
      simp at d1 u1
      simp [d1, u1]
      exact hq
    | [a, b], _, each =>
      simp only [sizeT, sizeTs] at hs
      have pa := sizeT_pos a
      have pb := sizeT_pos b
      obtain ⟨y, ys, ea⟩ := all_ne a
      have hla := all_len a
      have hll : (allT a).length = (y :: ys).length := by rw [← ea, tys_length]
      simp at hll
      obtain ⟨y2, ys2, eb⟩ := all_ne b
      have hlb := all_len b
      have hlm : (allT b).length = (y2 :: ys2).length := by rw [← eb, tys_length]
      simp at hlm
      refine wpA_loop (CallA.hle ap) ?_
      simp [forget, noLoc, locOf, tyVs, ty_take, ty_agg, demote_ty]
      refine each a (by simp) (by omega) _ _ _ ?_
      rw [ea]
      have hc := tys_cells3 (allT a)
      rw [ea] at hc
      have hc2 := tys_cells3 (allT b)
      rw [eb] at hc2
      simp
      refine ⟨⟨hc y (by simp), fun v hv => hc v (by simp [hv])⟩, by simp only [lim]; omega, ?_⟩
      simp [w1]
      refine wpA_loop (CallA.hle ap) ?_
      simp [forget, noLoc, locOf, ty_take, ty_agg, demote_ty]
      refine each b (by simp) (by omega) _ _ _ ?_
      rw [eb]
      simp
      refine ⟨⟨hc y (by simp), fun v hv => ?_⟩, by simp only [lim]; omega, ?_⟩
      · rcases hv with hv | rfl | hv
        · exact hc v (by simp [hv])
        · exact hc2 _ (by simp)
        · exact hc2 v (by simp [hv])
      simp [w2]
      refine ⟨by omega, ?_⟩
      refine wpA_loop (CallA.hle ap) ?_
      have e1 : tyV (.mk k n [a, b]) :: y :: (ys ++ y2 :: ys2) = tyVs (allT (.mk k n [a, b])) := by simp [allT, allTL, tyVs, tys_append, ea, eb]
      have d1 := demote_tys (allT (.mk k n [a, b]))
      have u1 := under_tys h.length (allT (.mk k n [a, b]))
      rw [← e1] at d1 u1 hq
      simp [forget, noLoc, locOf]
      simp at d1 u1
      simp [d1, u1]
      exact hq

/-- Size, by the reference. -/
def SizeR (t : Ty) : Prop := ∀ (bs : List Nat) (h : List Ob) (Q : V → List Ob → Prop), Q (.int .i64 (sizeT t)) h → CallA ap 14 0 bs [tyV t] h Q

theorem size14 : ∀ (m : Nat) (t : Ty), SizeOf.sizeOf t ≤ m → okT t = true → sizeT t < 1000000 → SizeR t := by
  intro m
  induction m with
  | zero => intro t h; cases t; simp at h
  | succ m ih =>
    intro t hm ht hs bs h Q hq
    obtain ⟨k, n, l⟩ := t
    obtain ⟨l1, l2⟩ := okT_len ht
    have each : ∀ a ∈ l, sizeT a < 1000000 → SizeR a := fun a ha => ih a (by have := List.sizeOf_lt_of_mem ha; simp at hm; omega) (l2 a ha)
    refine CallA.code (af := ac14) rfl (Nat.le_of_ble_eq_true rfl) ?_
    simp [ac14, tyV]
    match l, l1, each with
    | [], _, _ =>
      refine wpA_loop (CallA.hle ap) ?_
      simp [forget, noLoc, locOf, tyVs]
      simpa [sizeT, sizeTs] using hq
    | [a], _, each =>
      have pa := sizeT_pos a
      simp only [sizeT, sizeTs] at hs hq
      have ha : IntKind.wrap .i64 (1 + sizeT a) = 1 + sizeT a := wrap64 (by omega) (by omega)
      refine wpA_loop (CallA.hle ap) ?_
      simp [forget, noLoc, locOf, tyVs, ty_take, ty_agg, demote_ty]
      refine each a (by simp) (by omega) _ _ _ ?_
      simp [w1, ha]
      refine wpA_loop (CallA.hle ap) ?_
      simp [forget, noLoc, locOf]
      simpa using hq
    | [a, b], _, each =>
      have pa := sizeT_pos a
      have pb := sizeT_pos b
      simp only [sizeT, sizeTs] at hs hq
      have ha : IntKind.wrap .i64 (1 + sizeT a) = 1 + sizeT a := wrap64 (by omega) (by omega)
      have hb : IntKind.wrap .i64 (1 + sizeT a + sizeT b) = 1 + sizeT a + sizeT b := wrap64 (by omega) (by omega)
      refine wpA_loop (CallA.hle ap) ?_
      simp [forget, noLoc, locOf, tyVs, ty_take, ty_agg, demote_ty]
      refine each a (by simp) (by omega) _ _ _ ?_
      simp [w1, ha]
      refine wpA_loop (CallA.hle ap) ?_
      simp [forget, noLoc, locOf, ty_take, ty_agg, demote_ty]
      refine each b (by simp) (by omega) _ _ _ ?_
      simp [w2, hb]
      refine wpA_loop (CallA.hle ap) ?_
      simp [forget, noLoc, locOf]
      have e : 1 + (sizeT a + (sizeT b + 0)) = 1 + sizeT a + sizeT b := by omega
      rw [e] at hq
      exact hq

end
end Go.Vt
