/- Pairs are made one, one behind the other: plain law. -/
import Derived.Test.YtabjkoehbbobdaaDoorHtX6
import Derived.Test.YtabjkoehbbobdaaDoorHtX4
namespace Go.Ht
open Go.Am Go.Proofs
set_option maxRecDepth 100000

theorem Uni.err' {θ : Nam → Ty} {a b : Ty} {r : Except Nat (Nam → Ty)} (h : Uni θ a b r) : ∀ g, r = .error g → g = 0 ∨ g = 1 := by
  induction h with
  | a1 _ _ _ _ ih => exact ih
  | a2 _ _ _ _ _ _ ih => exact ih
  | a2e _ _ _ _ ih => exact ih
  | _ => intro g hg; cases hg <;> simp

theorem Uni.err {θ : Nam → Ty} {a b : Ty} {g : Nat} (h : Uni θ a b (.error g)) : g = 0 ∨ g = 1 := h.err' g rfl

/-- What making pair behind pair one comes to. -/
inductive UniL : (Nam → Ty) → List (Ty × Ty) → Except Nat (Nam → Ty) → Prop
  | nil {θ} : UniL θ [] (.ok θ)
  | cons {θ θ' a b l r} : Uni θ a b (.ok θ') → UniL θ' l r → UniL θ ((a, b) :: l) r
  | err {θ a b l g} : Uni θ a b (.error g) → UniL θ ((a, b) :: l) (.error g)

theorem UniL.det {θ : Nam → Ty} {l : List (Ty × Ty)} {r : Except Nat (Nam → Ty)} (h : UniL θ l r) : ∀ {r'}, UniL θ l r' → r = r' := by
  induction h with
  | nil => intro r' h'; cases h'; rfl
  | cons h1 _ ih =>
    intro r' h'
    cases h' with
    | cons g1 g2 => have e := h1.det g1; cases e; exact ih g2
    | err g1 => have e := h1.det g1; cases e
  | err h1 =>
    intro r' h'
    cases h' with
    | cons g1 g2 => have e := h1.det g1; cases e
    | err g1 => have e := h1.det g1; cases e; rfl

theorem UniL.app {θ : Nam → Ty} {l : List (Ty × Ty)} {r : Except Nat (Nam → Ty)} (h : UniL θ l r) : ∀ {θ' m r'}, r = .ok θ' → UniL θ' m r' → UniL θ (l ++ m) r' := by
  induction h with
  | nil => intro θ' m r' e h'; cases e; exact h'
  | cons h1 _ ih => intro θ' m r' e h'; exact .cons h1 (ih e h')
  | err h1 => intro θ' m r' e h'; cases e

/-- All pairs are one by what is found; whatever else makes them one goes by it. -/
structure FoL (V : List Nam) (e : En) (l : List (Ty × Ty)) (f : En) : Prop where
  fit : Fit V f
  abs : Absorb (sge f) (sge e)
  same : ∀ p ∈ l, hat (sge f) p.1 = hat (sge f) p.2
  most : ∀ θ, Absorb θ (sge e) → (∀ p ∈ l, hat θ p.1 = hat θ p.2) → Absorb θ (sge f)
  uni : UniL (sge e) l (.ok (sge f))

structure FailL (e : En) (l : List (Ty × Ty)) (g : Nat) : Prop where
  uni : UniL (sge e) l (.error g)
  none : ∀ θ, Absorb θ (sge e) → ¬ ∀ p ∈ l, hat θ p.1 = hat θ p.2
  code : g = 0 ∨ g = 1

theorem foL_nil {V : List Nam} {e : En} (h : Fit V e) : FoL V e [] e := ⟨h, h.s.self, by simp, fun θ h _ => h, .nil⟩

theorem FoL.snoc {V : List Nam} {e f f' : En} {l : List (Ty × Ty)} {a b : Ty} (h : FoL V e l f) (h' : Fo V f a b f') : FoL V e (l ++ [(a, b)]) f' := by
  refine ⟨h'.fit, h'.abs.trans h.abs, fun p hp => ?_, fun θ ha hh => ?_, h.uni.app rfl (.cons h'.uni .nil)⟩
  · rcases List.mem_append.1 hp with hp | hp
    · rw [← h'.abs.hat p.1, ← h'.abs.hat p.2, h.same p hp]
    · simp at hp; subst hp; exact h'.same
  · exact h'.most θ (h.most θ ha fun p hp => hh p (by simp [hp])) (hh (a, b) (by simp))

theorem FoL.fail {V : List Nam} {e f : En} {l m : List (Ty × Ty)} {a b : Ty} {g : Nat} (h : FoL V e l f) (h' : Fail f a b g) : FailL e (l ++ (a, b) :: m) g :=
  ⟨h.uni.app rfl (.err h'.uni), fun θ ha hh => h'.none θ (h.most θ ha fun p hp => hh p (by simp [hp])) (hh (a, b) (by simp)), h'.uni.err⟩

/-- A pair of types as a value. -/
def prV (p : Ty × Ty) : V := .agg ((tyV p.1).cells ++ (tyV p.2).cells)
def prVs (l : List (Ty × Ty)) : List V := l.map prV
theorem pr_c (p : Ty × Ty) : (prV p).cells = (tyV p.1).cells ++ (tyV p.2).cells := rfl
theorem pr_cells (p : Ty × Ty) : (prV p).cells.length = 6 := by rw [pr_c]; simp
theorem pr_take (p : Ty × Ty) : (prV p).cells.take 6 = (prV p).cells := List.take_of_length_le (Nat.le_of_eq (pr_cells p))
theorem pr_agg (p : Ty × Ty) : V.agg (prV p).cells = prV p := rfl
theorem pr_sel (p : Ty × Ty) : sel (prV p).cells 0 (some 6) = some (prV p) := by rw [sel_many _ _ _ (by rw [pr_cells]; omega), List.drop_zero, pr_take, pr_agg]
theorem pr_loc (p : Ty × Ty) : (prV p).isLoc = false := rfl
theorem pr_demote (p : Ty × Ty) : (prV p).demote = prV p := by obtain ⟨⟨k, n, l⟩, ⟨k', n', l'⟩⟩ := p; simp [prV, tyV, demote_tys]
theorem prs_demote (l : List (Ty × Ty)) : demoteL (prVs l) = prVs l := by rw [demoteL_eq]; simp [prVs, pr_demote]
theorem prs_length (l : List (Ty × Ty)) : (prVs l).length = l.length := by simp [prVs]
theorem pr_fst (p : Ty × Ty) : ((prV p).cells.drop 0).take 3 = (tyV p.1).cells := by rw [pr_c, List.drop_zero, List.take_left' (ty_cells p.1)]
theorem pr_snd (p : Ty × Ty) : ((prV p).cells.drop 3).take 3 = (tyV p.2).cells := by
  rw [pr_c, List.drop_left' (ty_cells p.1)]
  exact List.take_of_length_le (Nat.le_of_eq (ty_cells _))

end Go.Ht
