/- What is found makes the two one: the law on the abstract machine. -/
import Derived.Test.YtabjkoehbbobdaaDoorHtX4
namespace Go.Ht
open Go.Am Go.Proofs
set_option maxRecDepth 100000

def abc : List Nam := [[97], [98], [99]]

theorem Made.good {m : Nat} {t : Ty} (h : Made m t) : good abc t := by
  refine ⟨h.no4, ?_⟩
  induction h with
  | list m t _ i => intro y hy; simp [occ, occL] at hy; exact i y hy
  | pair m t u _ _ i j => intro y hy; simp [occ, occL] at hy; exact hy.elim (i y) (j y)
  | fn m t u _ _ i j => intro y hy; simp [occ, occL] at hy; exact hy.elim (i y) (j y)
  | _ => intro y hy; simp [occ, occL, abc] at hy ⊢ <;> simp [hy]

theorem abs_nil (θ : Nam → Ty) : Absorb θ (sge []) := fun x => by
  have : sge [] x = var x := rfl
  rw [this, var, hat_var]

theorem not_none {A : List Nam} {a b : Ty} {f : En} (h : Fo A [] a b f) : ¬ NoneF [] a b := fun hn => hn _ (abs_nil _) h.same
theorem not_none' {A : List Nam} {a b : Ty} {f : En} (h : Fo A [] a b f) : ¬ NoneF [] b a := fun hn => hn _ (abs_nil _) h.same.symm

def tA : Ty := .mk 1 [97] []
def tI : Ty := .mk 2 [73, 110, 116] []
theorem good_tA : good abc tA := ⟨rfl, fun y hy => by simp [tA, occ] at hy; subst hy; simp [abc]⟩
theorem good_tI : good abc tI := ⟨rfl, fun y hy => by simp [tI, occ, occL] at hy⟩

theorem hat_tI (θ : Nam → Ty) : hat θ tI = tI := by rw [tI, hat_mk _ (by decide)]; rfl

theorem one_len {f : En} (h : Fo abc [] tA tI f) : f.length = 1 := by
  have hsame : sge f [97] = tI := by
    have := h.same
    rwa [hat_tI, tA, hat_var] at this
  have hmost := h.most (one1 [97] tI) (abs_nil _) (by rw [hat_tI, tA, hat_var, one1_self])
  have only : ∀ y u, look f y = some u → y = [97] := fun y u hy => by
    refine Classical.byContradiction fun hne => ?_
    have h1 := hmost y
    rw [sge_some hy] at h1
    have h2 : one1 [97] tI y = var y := by simp [one1, hne]
    rw [h2] at h1
    obtain ⟨k, n, l⟩ := u
    by_cases hk : k = 1
    · subst hk
      rw [hat_var] at h1
      have hn : n = y := by
        unfold one1 at h1
        split at h1
        · simp [tI, var] at h1
        · simpa [var] using h1
      subst hn
      have := h.fit.s.out n _ hy n (by simp [occ])
      rw [hy] at this
      cases this
    · rw [hat_mk _ hk] at h1
      simp only [var, Ty.mk.injEq] at h1
      exact hk h1.1
  have hu := h.fit.s.ok.uniq
  match f, hu, only, hsame with
  | [], _, _, hsame => simp [sge, sg, look, tI] at hsame
  | [_], _, _, _ => rfl
  | (x, t) :: (y, u) :: e, hu, only, _ =>
    exfalso
    have h1 := only x t (by simp [look])
    have hne : x ≠ y := by
      simp only [Uniq, List.map_cons, List.nodup_cons] at hu
      exact fun e => hu.1 (by simp [e])
    have h2 := only y u (by simp [look, hne])
    exact hne (h1.trans h2.symm)

section
variable {bs : List Nat} {h : List Ob} {Q : V → List Ob → Prop}

theorem len21 {o : Option Nat} {f : En} (hr : RepS h o f) (hl : f.length < 1000000) (hq : Q (.int .i64 f.length) h) : CallA ap 22 0 bs [.agg [.map o]] h Q := by
  refine CallA.code (af := ac22) rfl (Nat.le_of_ble_eq_true rfl) ?_
  rcases hr with ⟨rfl, rfl⟩ | ⟨q, rfl, hq0⟩
  · simp [ac22]
    simpa using hq
  · simp [ac22, hq0, mapOb, entE]
    simpa using hq

theorem first8 (hq : Q (.bool true) h) : CallA ap 8 0 bs [] h Q := by
  refine CallA.code (af := ac8) rfl (Nat.le_of_ble_eq_true rfl) ?_
  simp [ac8, splice]
  refine unify10 (A := abc) (a := tA) (b := tI) (by decide) good_tA rfl good_tI rfl (fun tl o f hr hf => ?_) (fun tl g hn => ?_)
  · simp [splice]
    refine len21 hr (by rw [one_len hf]; decide) ?_
    simp [one_len hf]
    exact hq
  · exfalso
    exact hn.none (one1 [97] tI) (abs_nil _) (by rw [hat_tI, tA, hat_var, one1_self])

end

end Go.Ht
