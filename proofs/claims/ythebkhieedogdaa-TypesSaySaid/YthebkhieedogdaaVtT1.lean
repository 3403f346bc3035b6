/- Free variables of types, rows of texts: on the abstract machine. -/
import Derived.Test.YthebkhieedogdaaVtX7
import Derived.Test.YthebkhieedogdaaVtY4
namespace Go.Vt
open Go.Am Go.Proofs
set_option maxRecDepth 100000

/-- A row that may be appended to: how it is told, what lies in memory. -/
def RowS (h : List Ob) (tg : Tag) (o : List Nam) : Prop := (tg = .clip ∧ o = []) ∨ ∃ r, tg = .fam r ∧ h[r]? = some (.fam o.length 1)
def rowT (h : List Ob) (tg : Tag) (o : List Nam) : Tag := match tg with
  | .fam r => .fam r
  | _ => if o = [] then .clip else .fam h.length
def rowH (h : List Ob) (tg : Tag) (o : List Nam) : List Ob := match tg with
  | .fam r => h.set r (.fam o.length 1)
  | _ => if o = [] then h else h ++ [.fam o.length 1]

theorem row_same {h : List Ob} {tg : Tag} {o : List Nam} (hr : RowS h tg o) : rowT h tg o = tg ∧ rowH h tg o = h := by
  rcases hr with ⟨rfl, rfl⟩ | ⟨r, rfl, hr⟩
  · exact ⟨rfl, rfl⟩
  · refine ⟨rfl, ?_⟩
    obtain ⟨hl, hr⟩ := List.getElem?_eq_some_iff.1 hr
    simp only [rowH, ← hr, List.set_getElem_self]

theorem row_next {h : List Ob} {tg : Tag} {o : List Nam} (o' : List Nam) (hr : RowS h tg o) : RowS (rowH h tg o') (rowT h tg o') o' := by
  rcases hr with ⟨rfl, rfl⟩ | ⟨r, rfl, hr⟩
  · by_cases e : o' = []
    · subst e; exact .inl ⟨rfl, rfl⟩
    · refine .inr ⟨h.length, ?_, ?_⟩
      · simp [rowT, e]
      · simp [rowH, e]
  · refine .inr ⟨r, rfl, ?_⟩
    have := (List.getElem?_eq_some_iff.1 hr).1
    simp [rowH, this]

theorem row_two {h : List Ob} {tg : Tag} {o' o'' : List Nam} (hn : o'' = [] → o' = []) : rowT (rowH h tg o') (rowT h tg o') o'' = rowT h tg o'' ∧ rowH (rowH h tg o') (rowT h tg o') o'' = rowH h tg o'' := by
  cases tg with
  | fam r => simp [rowT, rowH]
  | clip =>
    by_cases e : o' = []
    · subst e; exact ⟨rfl, rfl⟩
    · have e2 : o'' ≠ [] := fun h => e (hn h)
      simp [rowT, rowH, e, e2]
  | frozen =>
    by_cases e : o' = []
    · subst e; exact ⟨rfl, rfl⟩
    · have e2 : o'' ≠ [] := fun h => e (hn h)
      simp [rowT, rowH, e, e2]

theorem varsT_ne (t : Ty) (o : List Nam) (h : varsT o t = []) : o = [] := by
  cases o with
  | nil => rfl
  | cons x o =>
    have := (varsT_mem x t (x :: o)).2 (.inl (by simp))
    rw [h] at this
    cases this
theorem varsTL_ne (l : List Ty) (o : List Nam) (h : varsTL o l = []) : o = [] := by
  cases o with
  | nil => rfl
  | cons x o =>
    have := (varsTL_mem x l (x :: o)).2 (.inl (by simp))
    rw [h] at this
    cases this

section
variable {bs : List Nat} {h : List Ob} {Q : V → List Ob → Prop}

theorem cont42 (l : List Nam) (s : Nam) (hl : l.length < 1000000) (hq : ∀ b : Bool, (b = true ↔ s ∈ l) → Q (.bool b) h) : CallA ap 42 0 bs [.sl .frozen (l.map .str), .str s] h Q := by
  refine CallA.code (af := ac42) rfl (Nat.le_of_ble_eq_true rfl) ?_
  simp [ac42, dem_strs]
  refine CallA.code (af := ac49) rfl (Nat.le_of_ble_eq_true rfl) ?_
  simp [ac49]
  obtain ⟨I, hI⟩ : ∃ I : Nat → St → Prop, ∀ n σ, I n σ ↔ (∃ i : Nat, i + n = l.length ∧ (∀ j (hj : j < l.length), j < i → l[j] ≠ s) ∧ σ.r 0 = .sl .frozen (l.map .str) ∧ σ.r 1 = .str s ∧ σ.r 7 = .int .i64 l.length ∧ σ.r 8 = .int .i64 i ∧ σ.h = h) := ⟨_, fun _ _ => Iff.rfl⟩
  refine loop_ind (CallA.hle ap) I ?_ (n := l.length) ((hI _ _).2 ⟨0, by simp⟩)
  rintro n ⟨r, lo, h'⟩ hst
  obtain ⟨i, hin, hno, r0, r1, r7, r8, rfl⟩ := (hI _ _).1 hst
  simp only at r0 r1 r7 r8
  simp [forget, noLoc, locOf, r0, r1, r7, r8]
  refine condA_dec (fun c1 => ?_) fun c1 => ?_
  · have hi : i < l.length := by omega
    have hw : IntKind.wrap .i64 ((i : Int) + 1) = ((i + 1 : Nat) : Int) := by rw [wrap64 (by omega) (by omega)]; omega
    by_cases he : s = l[i]
    · have hb : (s == l[i]) = true := by simpa using he
      simp [r0, r1, r7, r8, hi, hb]
      exact hq true ⟨fun _ => by rw [he]; exact List.getElem_mem hi, fun _ => rfl⟩
    · have hb : (s == l[i]) = false := by simpa using he
      simp [r0, r1, r7, r8, hi, hb, hw]
      refine ⟨n - 1, by omega, (hI _ _).2 ⟨i + 1, by omega, fun j hj hji => ?_, by simp [r0, r1, r7]⟩⟩
      by_cases hji' : j = i
      · subst hji'; exact fun e => he e.symm
      · exact hno j hj (by omega)
  · simp [r0, r1, r7, r8]
    refine hq false ⟨fun h => (by cases h), fun hm => ?_⟩
    obtain ⟨j, hj, e⟩ := List.getElem_of_mem hm
    exact absurd e (hno j hj (by omega))

def FreeS (A : List Nam) (t : Ty) : Prop := ∀ (o : List Nam) (tg : Tag) (bs : List Nat) (h : List Ob) (Q : V → List Ob → Prop), o.Nodup → (∀ x ∈ o, x ∈ A) → RowS h tg o →
  Q (.sl (rowT h tg (varsT o t)) ((varsT o t).map .str)) (rowH h tg (varsT o t)) → CallA ap 29 0 bs [tyV t, .sl .frozen [], .sl tg (o.map .str)] h Q

theorem free29 {A : List Nam} (hA : A.length ≤ 1000) : ∀ (m : Nat) (t : Ty), SizeOf.sizeOf t ≤ m → fine t = true → good A t → FreeS A t := by
  intro m
  induction m with
  | zero => intro t h; cases t; simp at h
  | succ m ih =>
    intro t hm ht hg o tg bs h Q hnd hsub hrow hq
    have h4 := hg.1
    have hlen : o.length ≤ 1000 := Nat.le_trans (List.Nodup.length_le_of_subset hnd hsub) hA
    have hg0 := hg
    obtain ⟨k, n, l⟩ := t
    simp only [fine, Bool.and_eq_true, decide_eq_true_eq] at ht
    simp only [no4, Bool.and_eq_true, bne_iff_ne, ne_eq] at h4
    have each : k ≠ 1 → ∀ a ∈ l, FreeS A a := fun hk a ha => ih a (by have := List.sizeOf_lt_of_mem ha; simp at hm; omega) (fineL_mem ht.2 ha) (good_arg hk hg0 ha)
    have k4 : (k == 4) = false := by simpa using h4.1
    refine CallA.code (af := ac29) rfl (Nat.le_of_ble_eq_true rfl) ?_
    by_cases hk : k = 1
    · subst hk
      have hl : l = [] := by simpa using ht.1.2
      subst hl
      simp [ac29, tyV, dem_strs, splice, demote_tys]
      refine cont42 [] n (by simp) fun b' hb' => ?_
      have : b' = false := by cases b' <;> simp_all
      subst this
      simp [dem_strs]
      refine cont42 o n (by omega) fun b hb => ?_
      simp only [varsT, if_true] at hq
      cases b with
      | true =>
        rw [if_pos (hb.1 rfl), (row_same hrow).1, (row_same hrow).2] at hq
        simp
        refine wpA_loop (CallA.hle ap) ?_
        simp [forget, noLoc, locOf, tyVs]
        exact hq
      | false =>
        have hn : ¬ n ∈ o := fun h => by simpa using hb.2 h
        rw [if_neg hn] at hq
        have hlim : o.length + 1 ≤ lim := by simp only [lim]; omega
        rcases hrow with ⟨rfl, rfl⟩ | ⟨r, rfl, hr⟩
        · simp [lim]
          refine wpA_loop (CallA.hle ap) ?_
          simp [forget, noLoc, locOf, tyVs]
          simpa [rowT, rowH] using hq
        · simp [hr]
          refine ⟨fun v hv => ?_, hlim, ?_⟩
          · rcases hv with ⟨x, _, rfl⟩ | rfl <;> rfl
          refine wpA_loop (CallA.hle ap) ?_
          simp [forget, noLoc, locOf, tyVs]
          simpa [rowT, rowH] using hq
    · have hkb : (k == 1) = false := by simpa using hk
      simp only [varsT, if_neg hk] at hq
      have each := each hk
      simp [ac29, tyV, hkb, k4, dem_strs, splice, demote_tys]
      match l, ht.1.1, each, hg0, hq with
      | [], _, _, _, hq =>
        simp only [varsTL, (row_same hrow).1, (row_same hrow).2] at hq
        refine wpA_loop (CallA.hle ap) ?_
        simp [forget, noLoc, locOf, tyVs]
        exact hq
      | [a], _, each, _, hq =>
        refine wpA_loop (CallA.hle ap) ?_
        simp [forget, noLoc, locOf, tyVs, ty_sel, splice, ty_take, ty_agg, demote_ty, dem_strs]
        refine each a (by simp) o tg _ _ _ hnd hsub hrow ?_
        simp [w1]
        refine wpA_loop (CallA.hle ap) ?_
        simp [forget, noLoc, locOf]
        exact hq
      | [a, b], _, each, hg0, hq =>
        refine wpA_loop (CallA.hle ap) ?_
        simp [forget, noLoc, locOf, tyVs, ty_sel, splice, ty_take, ty_agg, demote_ty, dem_strs]
        refine each a (by simp) o tg _ _ _ hnd hsub hrow ?_
        simp [w1]
        refine wpA_loop (CallA.hle ap) ?_
        simp [forget, noLoc, locOf, tyVs, ty_sel, splice, ty_take, ty_agg, demote_ty, dem_strs]
        refine each b (by simp) (varsT o a) _ _ _ _ (varsT_nodup a o hnd) (fun x hx => ((varsT_mem x a o).1 hx).elim (hsub x) (fun h => (good_arg hk hg0 (by simp : a ∈ [a, b])).2 x h)) (row_next _ hrow) ?_
        rw [(row_two (varsT_ne b (varsT o a))).1, (row_two (varsT_ne b (varsT o a))).2]
        simp [w2]
        refine wpA_loop (CallA.hle ap) ?_
        simp [forget, noLoc, locOf]
        exact hq

theorem vars9 {A : List Nam} (hA : A.length ≤ 1000) {t : Ty} (ht : fine t = true) (hg : good A t) (hq : Q (.sl .frozen ((varsT [] t).map .str)) h) : CallA ap 9 0 bs [.sl .frozen [tyV t]] h Q := by
  refine CallA.code (af := ac9) rfl (Nat.le_of_ble_eq_true rfl) ?_
  simp [ac9]
  refine wpA_loop (CallA.hle ap) ?_
  simp [forget, noLoc, locOf, ty_sel, splice, ty_take, ty_agg, demote_ty]
  refine free29 hA _ t (Nat.le_refl _) ht hg [] .clip _ _ _ (by simp) (by simp) (.inl ⟨rfl, rfl⟩) ?_
  simp [w1]
  refine wpA_loop (CallA.hle ap) ?_
  simp [forget, noLoc, locOf, dem_strs, under_strs]
  have : (rowH h Tag.clip (varsT [] t)).take h.length = h := by
    simp only [rowH]; split <;> simp
  rw [this]
  exact hq

theorem texts8 (l : List Nam) (hl : l.length < 1000000) (hq : Q (.bool true) h) : CallA ap 8 0 bs [.sl .frozen (l.map .str), .sl .frozen (l.map .str)] h Q := by
  refine CallA.code (af := ac8) rfl (Nat.le_of_ble_eq_true rfl) ?_
  simp [ac8]
  obtain ⟨I, hI⟩ : ∃ I : Nat → St → Prop, ∀ n s, I n s ↔ (∃ i : Nat, i + n = l.length ∧ s.h = h ∧ s.r 0 = .sl .frozen (l.map .str) ∧ s.r 1 = .sl .frozen (l.map .str) ∧ s.r 5 = .int .i64 i) := ⟨_, fun _ _ => Iff.rfl⟩
  refine loop_ind (CallA.hle ap) I ?_ (n := l.length) ((hI _ _).2 ⟨0, by simp⟩)
  rintro n ⟨r, lo, h'⟩ hst
  obtain ⟨i, hin, hh, r0, r1, r5⟩ := (hI _ _).1 hst
  simp only at hh r0 r1 r5
  subst hh
  simp [forget, noLoc, locOf, r0, r1, r5]
  refine condA_dec (fun c1 => ?_) fun c1 => ?_
  · have hi : i < l.length := by omega
    have hw : IntKind.wrap .i64 ((i : Int) + 1) = ((i + 1 : Nat) : Int) := by rw [wrap64 (by omega) (by omega)]; omega
    simp [r0, r1, r5, hi, hw]
    exact ⟨n - 1, by omega, (hI _ _).2 ⟨i + 1, by omega, rfl, by simp [r0, r1]⟩⟩
  · simp [r0, r1, r5]
    exact hq

end
end Go.Vt
