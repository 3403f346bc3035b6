/- The reference's pairs behind a binding: plain. -/
import Derived.Test.YtabjkoehbbobdaaDoorGtY6
namespace Go.Gt
open Go.Am Go.Proofs
set_option maxRecDepth 100000

theorem look_app (l m : En) (y : Nam) : look (l ++ m) y = match look l y with | some u => some u | none => look m y := by
  induction l with
  | nil => rfl
  | cons p l ih =>
    simp only [List.cons_append, look]
    split
    · rfl
    · exact ih

theorem byOne_bound {e : En} {x : Nam} {t : Ty} (he : EnOk e) (ht : fine t = true) (hx : look e x = none) : Bound e x t (byOne x t e ++ [(x, t)]) := by
  have h1 : ∀ y, fine (one1 x t y) = true := fun y => by unfold one1; split <;> first | exact ht | rfl
  have hl : ∀ y, look (byOne x t e) y = (look e y).map (hat (one1 x t)) := fun y => look_map _ e y
  refine ⟨⟨?_, fun y u hy => ?_⟩, fun y => ?_⟩
  · have hu := he.uniq
    simp only [Uniq, byOne, List.map_append, List.map_map, List.map_cons, List.map_nil] at hu ⊢
    refine List.nodup_append.2 ⟨by simpa [Function.comp_def] using hu, by simp, fun a ha b hb => ?_⟩
    simp at hb
    subst hb
    intro e1
    subst e1
    obtain ⟨p, hp, hpx⟩ := List.mem_map.1 ha
    exact look_none hx (List.mem_map.2 ⟨p, hp, hpx⟩)
  · rcases List.mem_append.1 hy with hy | hy
    · obtain ⟨p, hp, e1⟩ := List.mem_map.1 hy
      simp only [Prod.mk.injEq] at e1
      obtain ⟨rfl, rfl⟩ := e1
      exact fine_hat h1 (he.fine p.1 p.2 hp)
    · simp at hy
      obtain ⟨rfl, rfl⟩ := hy
      exact ht
  · rw [look_app, hl]
    by_cases hy : y = x
    · subst hy
      simp [hx, look]
    · rw [if_neg hy]
      have hy' : ¬ x = y := fun h => hy h.symm
      cases look e y with
      | none => simp [look, hy']
      | some u => rfl

end Go.Gt
