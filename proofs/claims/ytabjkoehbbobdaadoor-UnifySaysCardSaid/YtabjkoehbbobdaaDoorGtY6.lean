/- The reference binds a variable: on the abstract machine. -/
import Derived.Test.YtabjkoehbbobdaaDoorGtY5
namespace Go.Gt
open Go.Am Go.Proofs
set_option maxRecDepth 100000

section
variable {bs : List Nat} {h : List Ob} {Q : V → List Ob → Prop}

theorem bind36 {A : List Nam} (hA : A.length ≤ 1000) (e : En) (x : Nam) (t : Ty) (hf : ∀ p ∈ e, fine p.2 = true) (hx : look e x = none) (hl : e.length < 100000) (ht : fine t = true) (hg : good A t)
    (hocc : occ x t = true → Q (.tup [.sl .frozen [], .int .i64 107]) h) (hq : occ x t = false → Q (.tup [.sl .frozen (paVs (byOne x t e ++ [(x, t)])), .int .i64 0]) h) :
    CallA ap 52 0 bs [.sl .frozen (paVs e), .str x, tyV t] h Q := by
  refine CallA.code (af := ac52) rfl (Nat.le_of_ble_eq_true rfl) ?_
  simp [ac52, ty_take, ty_agg, demote_ty, demoteL]
  refine vars41 hA ht hg ?_
  simp [dem_strs]
  refine has40 (varsT [] t) x (by have h1 : (varsT [] t).length ≤ A.length := List.Nodup.length_le_of_subset (varsT_nodup t [] (by simp)) (fun y hy => hg.2 y (((varsT_mem y t []).1 hy).elim (fun h => by simp at h) id)); omega) fun b hb => ?_
  rw [varsT_mem] at hb
  cases ho : occ x t with
  | true =>
    obtain rfl : b = true := hb.2 (.inr ho)
    simp [demoteL]
    exact hocc ho
  | false =>
    obtain rfl : b = false := by
      cases b with
      | false => rfl
      | true =>
        rcases hb.1 rfl with h1 | h1
        · cases h1
        · rw [ho] at h1; cases h1
    simp [splice, ty_take, ty_agg, dem_cells, demoteL, pas_demote]
    refine then42 e x t hf hx hl ?_
    simp [pas_demote]
    exact ⟨pas_under _ _, hq ho⟩

end
end Go.Gt
