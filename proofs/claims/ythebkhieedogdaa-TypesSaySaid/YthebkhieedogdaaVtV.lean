/- Unification: plain law. -/
import Derived.Test.YthebkhieedogdaaVtQ
namespace Go.Vt
open Go.Am Go.Proofs
set_option maxRecDepth 100000

abbrev Nam := List UInt8

theorem fine_var' {n : Nam} {l : List Ty} (h : fine (.mk 1 n l) = true) : l = [] := by
  simp only [fine, bne_self_eq_false, Bool.false_or, Bool.and_eq_true, List.isEmpty_iff] at h
  exact h.1.2

mutual
def occ (x : Nam) : Ty → Bool
  | .mk k n l => if k = 1 then n == x else occL x l
def occL (x : Nam) : List Ty → Bool
  | [] => false
  | t :: l => occ x t || occL x l
end

/-- By a row of all names. -/
def hat (θ : Nam → Ty) (t : Ty) : Ty := apT (fun x => some (θ x)) t
def hatL (θ : Nam → Ty) (l : List Ty) : List Ty := apL (fun x => some (θ x)) l

theorem hat_var (θ : Nam → Ty) (n : Nam) (l : List Ty) : hat θ (.mk 1 n l) = θ n := by simp [hat, apT]
theorem hat_mk (θ : Nam → Ty) {k : Int} (hk : k ≠ 1) (n : Nam) (l : List Ty) : hat θ (.mk k n l) = .mk k n (hatL θ l) := by simp [hat, hatL, apT, hk]

mutual
theorem ap_hat (s : Nam → Option Ty) : ∀ t : Ty, fine t = true → apT s t = hat (sg s) t
  | .mk k n l, h => by
    by_cases hk : k = 1
    · subst hk
      have := fine_var' h
      subst this
      rw [hat_var]
      simp [apT, sg]
    · rw [hat_mk _ hk]
      simp only [fine, Bool.and_eq_true] at h
      simp only [apT, if_neg hk, apL_hat s l h.2]
theorem apL_hat (s : Nam → Option Ty) : ∀ l : List Ty, fineL l = true → apL s l = hatL (sg s) l
  | [], _ => rfl
  | t :: l, h => by
    simp only [fineL, Bool.and_eq_true] at h
    simp only [apL, hatL, ap_hat s t h.1] 
    rw [apL_hat s l h.2]
    rfl
end

mutual
theorem hat_hat (θ η : Nam → Ty) : ∀ t : Ty, hat θ (hat η t) = hat (fun x => hat θ (η x)) t
  | .mk k n l => by
    by_cases hk : k = 1
    · subst hk
      rw [hat_var, hat_var]
    · rw [hat_mk _ hk, hat_mk _ hk, hat_mk _ hk, hatL_hat θ η l]
theorem hatL_hat (θ η : Nam → Ty) : ∀ l : List Ty, hatL θ (hatL η l) = hatL (fun x => hat θ (η x)) l
  | [] => rfl
  | t :: l => by
    have h1 := hat_hat θ η t
    have h2 := hatL_hat θ η l
    simp only [hat, hatL, apL] at h1 h2 ⊢
    rw [h1, h2]
end

mutual
theorem hat_congr {θ η : Nam → Ty} : ∀ (t : Ty), (∀ y, occ y t = true → θ y = η y) → hat θ t = hat η t
  | .mk k n l, h => by
    by_cases hk : k = 1
    · subst hk
      rw [hat_var, hat_var]
      exact h n (by simp [occ])
    · rw [hat_mk _ hk, hat_mk _ hk, hatL_congr l fun y hy => h y (by simp [occ, hk, hy])]
theorem hatL_congr {θ η : Nam → Ty} : ∀ (l : List Ty), (∀ y, occL y l = true → θ y = η y) → hatL θ l = hatL η l
  | [], _ => rfl
  | t :: l, h => by
    have h1 := hat_congr t fun y hy => h y (by simp [occL, hy])
    have h2 := hatL_congr l fun y hy => h y (by simp [occL, hy])
    simp only [hat, hatL, apL] at h1 h2 ⊢
    rw [h1, h2]
end

def var (x : Nam) : Ty := .mk 1 x []

mutual
theorem hat_id : ∀ t : Ty, fine t = true → hat var t = t
  | .mk k n l, h => by
    by_cases hk : k = 1
    · subst hk
      rw [hat_var, fine_var' h]; rfl
    · rw [hat_mk _ hk]
      simp only [fine, Bool.and_eq_true] at h
      rw [hatL_id l h.2]
theorem hatL_id : ∀ l : List Ty, fineL l = true → hatL var l = l
  | [], _ => rfl
  | t :: l, h => by
    simp only [fineL, Bool.and_eq_true] at h
    have h1 := hat_id t h.1
    have h2 := hatL_id l h.2
    simp only [hat, hatL, apL] at h1 h2 ⊢
    rw [h1, h2]
end

mutual
theorem occ_hat {θ : Nam → Ty} {y : Nam} : ∀ (t : Ty), occ y (hat θ t) = true → ∃ x, occ x t = true ∧ occ y (θ x) = true
  | .mk k n l, h => by
    by_cases hk : k = 1
    · subst hk
      rw [hat_var] at h
      exact ⟨n, by simp [occ], h⟩
    · rw [hat_mk _ hk] at h
      simp only [occ, if_neg hk] at h ⊢
      exact occL_hat l h
theorem occL_hat {θ : Nam → Ty} {y : Nam} : ∀ (l : List Ty), occL y (hatL θ l) = true → ∃ x, occL x l = true ∧ occ y (θ x) = true
  | [], h => by simp [hatL, apL, occL] at h
  | t :: l, h => by
    have e : hatL θ (t :: l) = hat θ t :: hatL θ l := rfl
    rw [e] at h
    simp only [occL, Bool.or_eq_true] at h ⊢
    rcases h with h | h
    · obtain ⟨x, h1, h2⟩ := occ_hat t h; exact ⟨x, .inl h1, h2⟩
    · obtain ⟨x, h1, h2⟩ := occL_hat l h; exact ⟨x, .inr h1, h2⟩
end

theorem szN_pos (t : Ty) : 0 < szN t := by cases t; simp only [szN]; omega

mutual
theorem occ_sz (θ : Nam → Ty) {x : Nam} : ∀ t : Ty, occ x t = true → szN (θ x) ≤ szN (hat θ t)
  | .mk k n l, h => by
    by_cases hk : k = 1
    · subst hk
      simp [occ] at h
      subst h
      rw [hat_var]
      exact Nat.le_refl _
    · rw [hat_mk _ hk]
      simp only [occ, if_neg hk] at h
      have := occL_sz θ l h
      simp only [szN]; omega
theorem occL_sz (θ : Nam → Ty) {x : Nam} : ∀ l : List Ty, occL x l = true → szN (θ x) ≤ szL (hatL θ l)
  | [], h => by simp [occL] at h
  | t :: l, h => by
    have e : hatL θ (t :: l) = hat θ t :: hatL θ l := rfl
    rw [e]
    simp only [occL, Bool.or_eq_true] at h
    simp only [szL]
    rcases h with h | h
    · have := occ_sz θ t h; omega
    · have := occL_sz θ l h; omega
end

theorem occurs {θ : Nam → Ty} {x : Nam} {k : Int} {n : Nam} {l : List Ty} (hk : k ≠ 1) (h : occ x (.mk k n l) = true) : θ x ≠ hat θ (.mk k n l) := by
  intro e
  rw [hat_mk _ hk] at e
  simp only [occ, if_neg hk] at h
  have := occL_sz θ l h
  rw [e] at this
  simp only [szN] at this
  omega

/-- Goes by what is found. -/
def Absorb (θ : Nam → Ty) (s : Nam → Ty) : Prop := ∀ x, hat θ (s x) = θ x

theorem Absorb.hat {θ s : Nam → Ty} (h : Absorb θ s) (t : Ty) : Go.Vt.hat θ (Go.Vt.hat s t) = Go.Vt.hat θ t := by
  rw [hat_hat]
  exact hat_congr t fun y _ => h y

theorem Absorb.trans {θ s u : Nam → Ty} (h1 : Absorb θ s) (h2 : Absorb s u) : Absorb θ u := by
  intro x
  have e1 := h1.hat (u x)
  rw [h2 x, h1 x] at e1
  exact e1.symm

/-- A row of pairs that is solved: no variable of it stands in what it gives. -/
structure Solved (e : En) : Prop where
  ok : EnOk e
  out : ∀ x u, look e x = some u → ∀ y, occ y u = true → look e y = none

def sge (e : En) : Nam → Ty := sg (look e)

theorem sge_some {e : En} {x : Nam} {u : Ty} (h : look e x = some u) : sge e x = u := by simp [sge, sg, h]
theorem sge_none {e : En} {x : Nam} (h : look e x = none) : sge e x = var x := by simp [sge, sg, h, var]

theorem sge_fine {e : En} (he : EnOk e) (x : Nam) : fine (sge e x) = true := by
  cases hx : look e x with
  | none => rw [sge_none hx]; rfl
  | some u => rw [sge_some hx]; exact he.fine x u (look_mem hx)

/-- Nothing of it is bound. -/
def Norm (e : En) (t : Ty) : Prop := ∀ y, occ y t = true → look e y = none

theorem Norm.hat {e : En} {t : Ty} (h : Norm e t) (hf : fine t = true) : Go.Vt.hat (sge e) t = t := by
  rw [hat_congr (η := var) t fun y hy => sge_none (h y hy), hat_id t hf]

theorem Solved.norm {e : En} (h : Solved e) (t : Ty) : Norm e (hat (sge e) t) := by
  intro y hy
  obtain ⟨x, _, h2⟩ := occ_hat t hy
  cases hx : look e x with
  | none =>
    rw [sge_none hx] at h2
    simp [var, occ] at h2
    subst h2
    exact hx
  | some u => rw [sge_some hx] at h2; exact h.out x u hx y h2

theorem Solved.self {e : En} (h : Solved e) : Absorb (sge e) (sge e) := by
  intro x
  have h1 : Norm e (sge e x) := by
    have := h.norm (var x)
    rwa [var, hat_var] at this
  exact h1.hat (sge_fine h.ok x)

/-- One variable by a type. -/
def one1 (x : Nam) (t : Ty) : Nam → Ty := fun y => if y = x then t else var y

theorem one1_self (x : Nam) (t : Ty) : one1 x t x = t := by simp [one1]

theorem one1_norm {x : Nam} {t u : Ty} (hu : fine u = true) (hx : occ x u = false) : hat (one1 x t) u = u := by
  rw [hat_congr (η := var) u fun y hy => by
    have : y ≠ x := fun e => by subst e; rw [hx] at hy; cases hy
    simp [one1, this], hat_id u hu]

/-- What binding comes to. -/
structure Bound (e : En) (x : Nam) (t : Ty) (f : En) : Prop where
  ok : EnOk f
  at_ : ∀ y, look f y = if y = x then some t else (look e y).map (hat (one1 x t))

theorem Bound.sge {e f : En} {x : Nam} {t : Ty} (h : Bound e x t f) (hx : look e x = none) (y : Nam) : sge f y = hat (one1 x t) (sge e y) := by
  have := h.at_ y
  by_cases hy : y = x
  · subst hy
    rw [if_pos rfl] at this
    rw [sge_some this, sge_none hx, var, hat_var, one1_self]
  · rw [if_neg hy] at this
    cases he : look e y with
    | none =>
      rw [he] at this
      rw [sge_none this, sge_none he, var, hat_var]
      simp [one1, hy, var]
    | some u =>
      rw [he] at this
      rw [sge_some this, sge_some he]

/-- The facts on a bound variable. -/
theorem bound_facts {e f : En} {x : Nam} {t : Ty} (he : Solved e) (hx : look e x = none) (ht : fine t = true) (hn : Norm e t) (ho : occ x t = false) (h : Bound e x t f) :
    Solved f ∧ Absorb (sge f) (sge e) ∧ hat (sge f) (var x) = hat (sge f) t ∧ (∀ θ, Absorb θ (sge e) → θ x = hat θ t → Absorb θ (sge f)) := by
  have hs : Solved f := by
    refine ⟨h.ok, fun y u hy z hz => ?_⟩
    have key : ∀ z, (z ≠ x ∧ look e z = none) → look f z = none := fun z hz => by
      rw [h.at_ z, if_neg hz.1, hz.2]; rfl
    have tt : ∀ z, occ z t = true → look f z = none := fun z hz => key z ⟨fun e1 => absurd hz (by rw [e1, ho]; simp), hn z hz⟩
    rw [h.at_ y] at hy
    split at hy
    · cases hy
      exact tt z hz
    · simp only [Option.map_eq_some_iff] at hy
      obtain ⟨v, hv, rfl⟩ := hy
      obtain ⟨w, hw1, hw2⟩ := occ_hat v hz
      have hwn := he.out y v hv w hw1
      by_cases hwx : w = x
      · subst hwx
        rw [one1_self] at hw2
        exact tt z hw2
      · simp only [one1, if_neg hwx, var, occ, if_true, beq_iff_eq] at hw2
        subst hw2
        exact key w ⟨hwx, hwn⟩
  have h1 : ∀ y, sge f y = hat (one1 x t) (sge e y) := h.sge hx
  have htf : Norm f t := fun z hz => by
    rw [h.at_ z, if_neg (fun e1 => by subst e1; rw [ho] at hz; cases hz), hn z hz]; rfl
  have abs : ∀ θ, Absorb θ (sge e) → θ x = hat θ t → Absorb θ (sge f) := fun θ ha hxt y => by
    rw [h1 y, hat_hat, ← ha y]
    refine hat_congr _ fun z _ => ?_
    by_cases hz : z = x
    · subst hz; rw [one1_self]; exact hxt.symm
    · simp only [one1, if_neg hz, var]; exact hat_var _ _ _
  refine ⟨hs, ?_, ?_, abs⟩
  · intro y
    rw [h1 y]
    refine hat_congr _ fun z hz => ?_
    have hzn : look e z = none := by
      cases hy : look e y with
      | none => rw [sge_none hy] at hz; simp [var, occ] at hz; subst hz; exact hy
      | some u => rw [sge_some hy] at hz; exact he.out y u hy z hz
    rw [h1 z, sge_none hzn, var, hat_var]
  · rw [var, hat_var, h1 x, sge_none hx, var, hat_var, one1_self, htf.hat ht]

/-- What finding comes to: what makes the two one and whatever else makes them one goes by; or nothing does. -/
structure Found (V : List Nam) (e : En) (a b : Ty) (f : En) : Prop where
  solved : Solved f
  abs : Absorb (sge f) (sge e)
  same : hat (sge f) a = hat (sge f) b
  most : ∀ θ, Absorb θ (sge e) → hat θ a = hat θ b → Absorb θ (sge f)
  less : (∀ x, look f x = look e x) ∨ (V.filter fun x => (look f x).isNone).length < (V.filter fun x => (look e x).isNone).length
  inV : ∀ x u, look f x = some u → ∀ y, occ y u = true → y ∈ V

def NoneF (e : En) (a b : Ty) : Prop := ∀ θ, Absorb θ (sge e) → hat θ a ≠ hat θ b

end Go.Vt
