/- Types within a few names: plain law. -/
import Derived.Test.YthebkhieedogdaaVtV
namespace Go.Vt
open Go.Am Go.Proofs
set_option maxRecDepth 100000

mutual
def no4 : Ty → Bool
  | .mk k _ l => k != 4 && no4L l
def no4L : List Ty → Bool
  | [] => true
  | t :: l => no4 t && no4L l
end

theorem no4L_mem {l : List Ty} (h : no4L l = true) {t : Ty} (ht : t ∈ l) : no4 t = true := by
  induction l with
  | nil => simp at ht
  | cons a l ih =>
    simp only [no4L, Bool.and_eq_true] at h
    rcases List.mem_cons.1 ht with rfl | ht
    · exact h.1
    · exact ih h.2 ht

theorem Made.no4 {m : Nat} {t : Ty} (h : Made m t) : no4 t = true := by
  induction h <;> simp_all [Go.Vt.no4, no4L]

mutual
theorem no4_hat {θ : Nam → Ty} : ∀ t : Ty, no4 t = true → (∀ y, occ y t = true → no4 (θ y) = true) → no4 (hat θ t) = true
  | .mk k n l, h, hy => by
    by_cases hk : k = 1
    · subst hk
      rw [hat_var]
      exact hy n (by simp [occ])
    · rw [hat_mk _ hk]
      simp only [no4, Bool.and_eq_true] at h ⊢
      exact ⟨h.1, no4L_hat l h.2 fun y h1 => hy y (by simp [occ, hk, h1])⟩
theorem no4L_hat {θ : Nam → Ty} : ∀ l : List Ty, no4L l = true → (∀ y, occL y l = true → no4 (θ y) = true) → no4L (hatL θ l) = true
  | [], _, _ => rfl
  | t :: l, h, hy => by
    simp only [no4L, Bool.and_eq_true] at h
    have e : hatL θ (t :: l) = hat θ t :: hatL θ l := rfl
    rw [e]
    simp only [no4L, Bool.and_eq_true]
    exact ⟨no4_hat t h.1 fun y h1 => hy y (by simp [occL, h1]), no4L_hat l h.2 fun y h1 => hy y (by simp [occL, h1])⟩
end

def good (V : List Nam) (t : Ty) : Prop := no4 t = true ∧ ∀ y, occ y t = true → y ∈ V
theorem good_arg {A : List Nam} {k : Int} {n : Nam} {l : List Ty} (hk : k ≠ 1) (h : good A (.mk k n l)) {p : Ty} (hp : p ∈ l) : good A p := by
  have h1 := h.1
  simp only [no4, Bool.and_eq_true] at h1
  refine ⟨no4L_mem h1.2 hp, fun y hy => h.2 y ?_⟩
  simp only [occ, if_neg hk]
  clear h h1
  induction l with
  | nil => simp at hp
  | cons a l ih =>
    simp only [occL, Bool.or_eq_true]
    rcases List.mem_cons.1 hp with rfl | hp
    · exact .inl hy
    · exact .inr (ih hp)

def abc : List Nam := [[97], [98], [99]]

theorem Made.good {m : Nat} {t : Ty} (h : Made m t) : good abc t := by
  refine ⟨h.no4, ?_⟩
  induction h with
  | list m t _ i => intro y hy; simp [occ, occL] at hy; exact i y hy
  | pair m t u _ _ i j => intro y hy; simp [occ, occL] at hy; exact hy.elim (i y) (j y)
  | fn m t u _ _ i j => intro y hy; simp [occ, occL] at hy; exact hy.elim (i y) (j y)
  | _ => intro y hy; simp [occ, occL, abc] at hy ⊢ <;> simp [hy]


end Go.Vt
