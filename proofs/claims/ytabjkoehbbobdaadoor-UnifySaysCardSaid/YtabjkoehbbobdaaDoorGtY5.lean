/- The reference binds: on the abstract machine. -/
import Derived.Test.YtabjkoehbbobdaaDoorGtY4
import Derived.Test.YtabjkoehbbobdaaDoorGtR8
namespace Go.Gt
open Go.Am Go.Proofs
set_option maxRecDepth 100000

section
variable {bs : List Nat} {h : List Ob} {Q : V → List Ob → Prop}

theorem vars41 {A : List Nam} (hA : A.length ≤ 1000) {t : Ty} (ht : fine t = true) (hg : good A t) (hq : Q (.sl .frozen ((varsT [] t).map .str)) h) : CallA ap 66 0 bs [.sl .frozen [tyV t]] h Q := by
  refine CallA.code (af := ac66) rfl (Nat.le_of_ble_eq_true rfl) ?_
  have v := vars50 hA _ t (Nat.le_refl _) ht hg
  simp [ac66]
  refine wpA_loop (CallA.hle ap) ?_
  simp [forget, noLoc, locOf, ty_sel, splice, ty_take, ty_agg, demote_ty]
  refine v [] _ _ _ (by simp) (by simp) ?_
  simp [w1, dem_strs]
  refine wpA_loop (CallA.hle ap) ?_
  simp [forget, noLoc, locOf, dem_strs]
  exact ⟨under_strs _ _, hq⟩

/-- The pairs, each by the new one. -/
def byOne (x : Nam) (t : Ty) (e : En) : En := e.map fun p => (p.1, hat (one1 x t) p.2)

theorem then42 (e : En) (x : Nam) (t : Ty) (hf : ∀ p ∈ e, fine p.2 = true) (hx : look e x = none) (hl : e.length < 100000) (hq : Q (.sl .frozen (paVs (byOne x t e ++ [(x, t)]))) h) :
    CallA ap 67 0 bs [.sl .frozen (paVs e), .sl .frozen (paVs [(x, t)])] h Q := by
  refine CallA.code (af := ac67) rfl (Nat.le_of_ble_eq_true rfl) ?_
  simp [ac67]
  obtain ⟨I, hI⟩ : ∃ I : Nat → St → Prop, ∀ n s, I n s ↔ (∃ i : Nat, i + n = e.length ∧ s.r 0 = .sl .frozen (paVs e) ∧ s.r 1 = .sl .frozen (paVs [(x, t)]) ∧ s.r 6 = .int .i64 i ∧
    (i = 0 ∧ s.r 5 = .sl .clip [] ∧ s.h = h ∨ 0 < i ∧ s.r 5 = .sl (.fam h.length) (paVs ((byOne x t e).take i)) ∧ s.h = h ++ [.fam i 4])) := ⟨_, fun _ _ => Iff.rfl⟩
  refine loop_ind (CallA.hle ap) I ?_ (n := e.length) ((hI _ _).2 ⟨0, by simp⟩)
  rintro n ⟨r, lo, h'⟩ hs
  obtain ⟨i, hin, r0, r1, r6, hor⟩ := (hI _ _).1 hs
  simp only at r0 r1 r6 hor
  simp [forget, noLoc, locOf, r0, r1, r6, pas_length]
  refine condA_dec (fun h1 => ?_) fun h1 => ?_
  · have hi : i < e.length := by omega
    have g1 : (paVs e)[i]? = some (paV e[i]) := by simp [paVs, hi]
    have hw : IntKind.wrap .i64 ((i : Int) + 1) = ((i + 1 : Nat) : Int) := by rw [wrap64 (by omega) (by omega)]; omega
    simp [r0, r1, r6, hi, g1, pa_cells, paV, hw, ty_take, ty_agg, splice, demote_ty]
    have hpd : demoteL (paVs [(x, t)]) = paVs [(x, t)] := by simp [paVs, paV, demoteL, V.demote, dem_cells]
    rw [hpd]
    refine refOk (hf _ (List.getElem_mem hi)) _ _ _ [(x, t)] (by simp) ?_
    rw [ap_hat _ _ (hf _ (List.getElem_mem hi)), show sg (look [(x, t)]) = one1 x t from sge_one x t]
    have hb : (byOne x t e)[i]? = some (e[i].1, hat (one1 x t) e[i].2) := by simp [byOne, hi]
    have htk : (byOne x t e).take (i + 1) = (byOne x t e).take i ++ [(e[i].1, hat (one1 x t) e[i].2)] := by rw [List.take_add_one, hb]; rfl
    have hpa : ∀ (l : En) (p : List UInt8 × Ty), paVs l ++ [V.agg (V.str p.1 :: (tyV p.2).cells)] = paVs (l ++ [p]) := fun l p => by simp [paVs, paV]
    have hlen : ((byOne x t e).take i).length = i := by simp [byOne]; omega
    rcases hor with ⟨rfl, r5, rfl⟩ | ⟨hpos, r5, rfl⟩
    · simp [r0, r1, r5, r6, pa_cells, paV, ty_take, ty_agg, splice, demote_ty]
      have h1p : paVs ((byOne x t e).take 1) = [V.agg (V.str e[0].fst :: (tyV (hat (one1 x t) e[0].snd)).cells)] := by
        have := htk
        simp only [Nat.zero_add, List.take_zero, List.nil_append] at this
        rw [this]
        rfl
      exact ⟨by simp [lim], n - 1, by omega, (hI _ _).2 ⟨1, by omega, by simp [r0, r1, h1p, w1]⟩⟩
    · simp [r0, r1, r5, r6, pa_cells, paV, ty_take, ty_agg, splice, demote_ty]
      have hset : ∀ z, (h ++ [Ob.fam i 4]).set h.length z = h ++ [z] := fun z => by simp [List.set_append]
      have hlv : (paVs (List.take i (byOne x t e))).length = i := by rw [pas_length, hlen]
      have hpp : paVs (List.take i (byOne x t e)) ++ [V.agg (V.str e[i].fst :: (tyV (hat (one1 x t) e[i].snd)).cells)] = paVs (List.take (i + 1) (byOne x t e)) := by rw [htk]; exact hpa _ (e[i].1, hat (one1 x t) e[i].2)
      refine ⟨fun v hv => ?_, by rw [hlv]; simp only [lim]; omega, hlv.symm, n - 1, by omega, (hI _ _).2 ⟨i + 1, by omega, ?_⟩⟩
      · rcases hv with hv | rfl
        · obtain ⟨p, _, rfl⟩ := List.mem_map.1 hv
          exact pa_cells p
        · exact pa_cells (e[i].1, hat (one1 x t) e[i].2)
      · simp [r0, r1, hset, hpp, hlv, show IntKind.wrap .i64 ((i : Int) + 1) = (i : Int) + 1 from wrap64 (by omega) (by omega)]
  · obtain rfl : i = e.length := by omega
    have hfull : (byOne x t e).take e.length = byOne x t e := List.take_of_length_le (by simp [byOne])
    have gx : (paVs [(x, t)])[0]? = some (paV (x, t)) := rfl
    have hxt : paVs [(x, t)] = [paV (x, t)] := rfl
    rcases hor with ⟨h0, r5, rfl⟩ | ⟨hpos, r5, rfl⟩
    · have he : e = [] := List.length_eq_zero_iff.1 h0
      subst he
      simp [r0, r1, r5]
      refine wpA_loop (CallA.hle ap) ?_
      simp [forget, noLoc, locOf, r0, r1, r5, hxt, pa_cells, paV, ty_take, ty_agg, splice, demote_ty]
      rw [pas_demote]
      refine get59 [] x (by simp) ?_
      simp [look, r0, r1, r5, hxt, pa_cells, paV, ty_take, ty_agg, splice, demote_ty, tyV, demoteL, V.demote]
      have hone : [V.agg (V.str x :: (tyV t).cells)] = paVs [(x, t)] := rfl
      refine ⟨by simp [lim], ?_⟩
      refine wpA_loop (CallA.hle ap) ?_
      rw [hone]
      simp [forget, noLoc, locOf, r0, r1, w1, pas_length, pas_demote, pas_under]
      exact hq
    · rw [hfull] at r5
      simp [r0, r1, r5]
      refine wpA_loop (CallA.hle ap) ?_
      simp [forget, noLoc, locOf, r0, r1, r5, hxt, pa_cells, paV, ty_take, ty_agg, splice, demote_ty]
      rw [pas_demote]
      refine get59 e x (by omega) ?_
      rw [hx]
      simp [r0, r1, r5, hxt, pa_cells, paV, ty_take, ty_agg, splice, demote_ty, tyV, demoteL, V.demote]
      have hpp : paVs (byOne x t e) ++ [V.agg (V.str x :: (tyV t).cells)] = paVs (byOne x t e ++ [(x, t)]) := by simp [paVs, paV]
      have hbl : (paVs (byOne x t e)).length = e.length := by rw [pas_length]; simp [byOne]
      refine ⟨fun v hv => ?_, by rw [hbl]; simp only [lim]; omega, hbl.symm, ?_⟩
      · rcases hv with hv | rfl
        · obtain ⟨p, _, rfl⟩ := List.mem_map.1 hv
          exact pa_cells p
        · exact pa_cells (x, t)
      refine wpA_loop (CallA.hle ap) ?_
      rw [hpp]
      simp [forget, noLoc, locOf, r0, r1, w1, pas_length, pas_demote, pas_under]
      exact hq

end
end Go.Gt
