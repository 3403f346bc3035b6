/- The reference's get, Apply: on the abstract machine (the part of AtR4 that needs no match). -/
import Derived.Test.YtgngmbnbldkgnaaDoorStR2
import Derived.Test.YtgngmbnbldkgnaaDoorStE2
namespace Go.St
open Go.Am Go.Proofs
set_option maxRecDepth 100000

section
variable {bs : List Nat} {h : List Ob} {Q : V → List Ob → Prop}

/-- The first of a name. -/
theorem get59 (e : En) (x : List UInt8) (hl : e.length < 1000000) (hq : Q (match look e x with | some u => .tup [tyV u, .bool true] | none => .tup [tyV (.mk 0 [] []), .bool false]) h) :
    CallA ap 36 0 bs [.sl .frozen (paVs e), .str x] h Q := by
  refine CallA.code (af := ac36) rfl (Nat.le_of_ble_eq_true rfl) ?_
  simp [ac36]
  obtain ⟨I, hI⟩ : ∃ I : Nat → St → Prop, ∀ n s, I n s ↔ (∃ i : Nat, i + n = e.length ∧ look (e.drop i) x = look e x ∧ s.r 0 = .sl .frozen (paVs e) ∧ s.r 1 = .str x ∧ s.r 6 = .int .i64 i ∧ s.r 4 = .loc 4 0 ∧ s.l 4 = some [.int .i64 0, .str [], .sl .clip []] ∧ s.h = h) := ⟨_, fun _ _ => Iff.rfl⟩
  refine loop_ind (CallA.hle ap) I ?_ (n := e.length) ((hI _ _).2 ⟨0, by simp⟩)
  rintro n ⟨r, lo, h'⟩ hs
  obtain ⟨i, hin, hlk, r0, r1, r6, r4, l4, rfl⟩ := (hI _ _).1 hs
  simp only at r0 r1 r6 r4 l4
  simp [forget, noLoc, locOf, r0, r1, r6, r4, pas_length]
  refine condA_dec (fun h1 => ?_) fun h1 => ?_
  · have hi : i < e.length := by omega
    have g1 : (paVs e)[i]? = some (paV e[i]) := by simp [paVs, hi]
    have hw : IntKind.wrap .i64 ((i : Int) + 1) = ((i + 1 : Nat) : Int) := by rw [wrap64 (by omega) (by omega)]; omega
    rw [List.drop_eq_getElem_cons hi] at hlk
    simp only [look] at hlk
    by_cases hx : e[i].1 = x
    · rw [if_pos hx] at hlk
      rw [← hlk] at hq
      have hb : (e[i].1 == x) = true := by simpa using hx
      simp [r0, r1, r6, r4, l4, g1, pa_cells, paV, hb, ty_take, ty_agg, splice, demote_ty, under_ty]
      simpa using hq
    · rw [if_neg hx] at hlk
      have hb : (e[i].1 == x) = false := by simpa using hx
      simp [r0, r1, r6, r4, l4, g1, pa_cells, paV, hb, hw]
      exact ⟨n - 1, by omega, (hI _ _).2 ⟨i + 1, by omega, hlk, by simp [r0, r1, r4, l4]⟩⟩
  · have hi : i = e.length := by omega
    subst hi
    rw [List.drop_length] at hlk
    simp only [look] at hlk
    rw [← hlk] at hq
    simp [r0, r1, r6, r4, l4, splice]
    simpa [tyV, tyVs] using hq

/-- What replaces variables by pairs. -/
def RefS (t : Ty) : Prop := ∀ (bs : List Nat) (h : List Ob) (Q : V → List Ob → Prop) (e : En), e.length < 1000000 → Q (tyV (apT (look e) t)) h → CallA ap 14 0 bs [.sl .frozen (paVs e), tyV t] h Q

theorem ref28 : ∀ (m : Nat) (t : Ty), SizeOf.sizeOf t ≤ m → fine t = true → RefS t := by
  intro m
  induction m with
  | zero => intro t h; cases t; simp at h
  | succ m ih =>
    intro t hm ht bs h Q e hel hq
    obtain ⟨k, n, l⟩ := t
    simp only [fine, Bool.and_eq_true, decide_eq_true_eq] at ht
    have each : ∀ a ∈ l, RefS a := fun a ha => ih a (by have := List.sizeOf_lt_of_mem ha; simp at hm; omega) (fineL_mem ht.2 ha)
    refine CallA.code (af := ac14) rfl (Nat.le_of_ble_eq_true rfl) ?_
    by_cases hk : k = 1
    · subst hk
      simp only [apT, if_true] at hq
      simp [ac14, tyV, pas_demote]
      refine get59 e n hel ?_
      cases hx : look e n with
      | none =>
        rw [hx] at hq
        simp [splice, ty_take, ty_agg, demote_tys, under_tys]
        simpa [tyV] using hq
      | some u =>
        rw [hx] at hq
        simp [splice, ty_take, ty_agg, demote_ty, under_ty]
        simpa using hq
    · have hk1 : (k == 1) = false := by simpa using hk
      simp only [apT, if_neg hk] at hq
      simp [ac14, tyV, hk1]
      match l, ht.1.1, each with
      | [], _, _ =>
        refine wpA_loop (CallA.hle ap) ?_
        simp [forget, noLoc, locOf, tyVs, splice]
        simpa [tyV, tyVs, apL] using hq
      | [a], _, each =>
        refine wpA_loop (CallA.hle ap) ?_
        simp [forget, noLoc, locOf, tyVs, ty_sel, splice, ty_take, ty_agg, demote_ty, pas_demote]
        refine each a (by simp) _ _ _ e hel ?_
        simp [w1, splice, lim]
        refine wpA_loop (CallA.hle ap) ?_
        simp [forget, noLoc, locOf, splice, demote_ty, under_ty]
        simpa [tyV, tyVs, apL] using hq
      | [a, b], _, each =>
        refine wpA_loop (CallA.hle ap) ?_
        simp [forget, noLoc, locOf, tyVs, ty_sel, splice, ty_take, ty_agg, demote_ty, pas_demote]
        refine each a (by simp) _ _ _ e hel ?_
        simp [w1, splice, lim]
        refine wpA_loop (CallA.hle ap) ?_
        simp [forget, noLoc, locOf, tyVs, ty_sel, splice, ty_take, ty_agg, demote_ty, pas_demote]
        refine each b (by simp) _ _ _ e hel ?_
        simp [w2, splice, lim]
        refine wpA_loop (CallA.hle ap) ?_
        simp [forget, noLoc, locOf, splice, demote_ty, under_ty]
        simpa [tyV, tyVs, apL] using hq

theorem refOk {t : Ty} (h : fine t = true) : RefS t := ref28 _ t (Nat.le_refl _) h

end
end Go.St
