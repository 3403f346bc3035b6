/- Making two types one comes to one thing alone. -/
import Derived.Test.YtabjkoehbbobdaaDoorHtX3
namespace Go.Ht
open Go.Am Go.Proofs
set_option maxRecDepth 100000

theorem Uni.det {θ : Nam → Ty} {a b : Ty} {r : Except Nat (Nam → Ty)} (h : Uni θ a b r) : ∀ {r'}, Uni θ a b r' → r = r' := by
  induction h with
  | a1 h1 h2 hk hu ih =>
    intro r' h'
    cases h' with
    | a1 g1 g2 _ gu =>
      rw [h1] at g1; rw [h2] at g2
      simp only [Ty.mk.injEq, List.cons.injEq, and_true] at g1 g2
      obtain ⟨rfl, rfl, rfl⟩ := g1
      obtain ⟨-, -, rfl⟩ := g2
      exact ih gu
    | _ => simp_all [var]
  | a2 h1 h2 hk hu hv ih1 ih2 =>
    intro r' h'
    cases h' with
    | a2 g1 g2 _ gu gv =>
      rw [h1] at g1; rw [h2] at g2
      simp only [Ty.mk.injEq, List.cons.injEq, and_true] at g1 g2
      obtain ⟨rfl, rfl, rfl, rfl⟩ := g1
      obtain ⟨-, -, rfl, rfl⟩ := g2
      have e := ih1 gu
      cases e
      exact ih2 gv
    | a2e g1 g2 _ gu =>
      rw [h1] at g1; rw [h2] at g2
      simp only [Ty.mk.injEq, List.cons.injEq, and_true] at g1 g2
      obtain ⟨rfl, rfl, rfl, rfl⟩ := g1
      obtain ⟨-, -, rfl, rfl⟩ := g2
      have e := ih1 gu
      cases e
    | _ => simp_all [var]
  | a2e h1 h2 hk hu ih1 =>
    intro r' h'
    cases h' with
    | a2 g1 g2 _ gu gv =>
      rw [h1] at g1; rw [h2] at g2
      simp only [Ty.mk.injEq, List.cons.injEq, and_true] at g1 g2
      obtain ⟨rfl, rfl, rfl, rfl⟩ := g1
      obtain ⟨-, -, rfl, rfl⟩ := g2
      have e := ih1 gu
      cases e
    | a2e g1 g2 _ gu =>
      rw [h1] at g1; rw [h2] at g2
      simp only [Ty.mk.injEq, List.cons.injEq, and_true] at g1 g2
      obtain ⟨rfl, rfl, rfl, rfl⟩ := g1
      obtain ⟨-, -, rfl, rfl⟩ := g2
      have e := ih1 gu
      cases e
      rfl
    | _ => simp_all [var]
  | head h1 h2 hk hk' hne =>
    intro r' h'
    cases h' with
    | a1 g1 g2 _ gu =>
      rw [h1] at g1; rw [h2] at g2
      simp only [Ty.mk.injEq] at g1 g2
      obtain ⟨rfl, rfl, rfl⟩ := g1
      obtain ⟨rfl, rfl, rfl⟩ := g2
      exact absurd ⟨rfl, rfl, rfl⟩ hne
    | a2 g1 g2 _ gu gv =>
      rw [h1] at g1; rw [h2] at g2
      simp only [Ty.mk.injEq] at g1 g2
      obtain ⟨rfl, rfl, rfl⟩ := g1
      obtain ⟨rfl, rfl, rfl⟩ := g2
      exact absurd ⟨rfl, rfl, rfl⟩ hne
    | a2e g1 g2 _ gu =>
      rw [h1] at g1; rw [h2] at g2
      simp only [Ty.mk.injEq] at g1 g2
      obtain ⟨rfl, rfl, rfl⟩ := g1
      obtain ⟨rfl, rfl, rfl⟩ := g2
      exact absurd ⟨rfl, rfl, rfl⟩ hne
    | _ => simp_all [var]
  | bindR h1 h2 hv ho =>
    intro r' h'
    cases h' with
    | vv g1 g2 => exact absurd (h2.symm.trans g1) (hv _)
    | bindL g1 _ _ _ => exact absurd (h2.symm.trans g1) (hv _)
    | occL g1 _ _ _ => exact absurd (h2.symm.trans g1) (hv _)
    | _ => simp_all [var]
  | occR h1 h2 hv ho =>
    intro r' h'
    cases h' with
    | vv g1 g2 => exact absurd (h2.symm.trans g1) (hv _)
    | bindL g1 _ _ _ => exact absurd (h2.symm.trans g1) (hv _)
    | occL g1 _ _ _ => exact absurd (h2.symm.trans g1) (hv _)
    | _ => simp_all [var]
  | _ =>
    intro r' h'
    cases h' <;> simp_all [var]

end Go.Ht
