/- Whatever else makes the two one goes by what is found: the law on the abstract machine. -/
import Derived.Test.YtabjkoehbbobdaaDoorHtJ4
import Derived.Test.YtabjkoehbbobdaaDoorHtR9
namespace Go.Ht
open Go.Am Go.Proofs
set_option maxRecDepth 100000

mutual
theorem sz_hat {θ : Nam → Ty} : ∀ t : Ty, fine t = true → szN t ≤ szN (hat θ t)
  | .mk k n l, h => by
    by_cases hk : k = 1
    · subst hk
      have hl := fine_var' h
      subst hl
      rw [hat_var]
      have := szN_pos (θ n)
      simp only [szN, szL]
      omega
    · rw [hat_mk _ hk]
      simp only [fine, Bool.and_eq_true] at h
      have := sz_hatL (θ := θ) l h.2
      simp only [szN]
      omega
theorem sz_hatL {θ : Nam → Ty} : ∀ l : List Ty, fineL l = true → szL l ≤ szL (hatL θ l)
  | [], _ => by simp [szL]
  | t :: l, h => by
    simp only [fineL, Bool.and_eq_true] at h
    have h1 := sz_hat (θ := θ) t h.1
    have h2 := sz_hatL (θ := θ) l h.2
    rw [show hatL θ (t :: l) = hat θ t :: hatL θ l from rfl]
    simp only [szL]
    omega
end

def abch : List Nam := abc ++ [[104]]
def e3 (A B C : Ty) : En := [([97], A), ([98], B), ([99], C)]
theorem e3_look {A B C : Ty} {P : Ty → Prop} (ha : P A) (hb : P B) (hc : P C) (x : Nam) (u : Ty) (h : look (e3 A B C) x = some u) : P u := by
  simp only [e3, look] at h
  split at h
  · cases h; exact ha
  · split at h
    · cases h; exact hb
    · split at h
      · cases h; exact hc
      · cases h
theorem e3_all {A B C : Ty} (y : Nam) (h : y ∈ abc) : ∃ u, look (e3 A B C) y = some u := by
  simp [abc] at h
  rcases h with rfl | rfl | rfl
  · exact ⟨A, rfl⟩
  · exact ⟨B, rfl⟩
  · exact ⟨C, rfl⟩

/-- What makes both one: the variables' types, and the part behind the hole. -/
def thM (A B C w : Ty) (x : Nam) : Ty := if x = [104] then w else sg (look (e3 A B C)) x

theorem thM_t {A B C w t : Ty} (ht : fine t = true) (hg : ∀ y, occ y t = true → y ∈ abc) : hat (thM A B C w) t = apT (look (e3 A B C)) t := by
  rw [ap_hat _ _ ht]
  refine hat_congr t fun y hy => ?_
  have : y ≠ [104] := fun e => by have := hg y hy; subst e; simp [abc] at this
  simp [thM, this]
theorem thM_v {A B C w v : Ty} (ho : ∀ y, occ y v = true → y = [104]) : hat (thM A B C w) v = hat (one1 [104] w) v :=
  hat_congr v fun y hy => by rw [ho y hy]; simp [thM, one1]

theorem most_law {A B C t v : Ty} {f : En} (hu : HoleOf (apT (look (e3 A B C)) t) v) (ht : fine t = true) (hg : ∀ y, occ y t = true → y ∈ abc) (hf : Fo abch [] t v f) (hz : szN (apT (look (e3 A B C)) t) ≤ 1000) :
    (fitT (hat (sge f) t) (apT (look (e3 A B C)) t) []).1 = true ∧ szN (hat (sge f) t) ≤ 1000 := by
  obtain ⟨w, hw⟩ := hu.e
  have h1 := thM_t (w := w) (A := A) (B := B) (C := C) ht hg
  have h2 := thM_v (A := A) (B := B) (C := C) (w := w) hu.o
  have hab := hf.most (thM A B C w) (abs_nil _) (by rw [h1, h2, hw])
  have h3 : hat (thM A B C w) (hat (sge f) t) = apT (look (e3 A B C)) t := by rw [hab.hat, h1]
  have hfine : fine (hat (sge f) t) = true := sge_hat_fine hf.fit.s.ok ht
  refine ⟨?_, ?_⟩
  · have := fit_case (fun x => some (thM A B C w x)) hfine
    rw [← h3]
    exact this
  · have := sz_hat (θ := thM A B C w) _ hfine
    rw [h3] at this
    omega
theorem most_ok {A B C t v : Ty} {g : Nat} (hu : HoleOf (apT (look (e3 A B C)) t) v) (ht : fine t = true) (hg : ∀ y, occ y t = true → y ∈ abc) : ¬ Fail [] t v g := fun h => by
  obtain ⟨w, hw⟩ := hu.e
  exact h.none (thM A B C w) (abs_nil _) (by rw [thM_t (w := w) (A := A) (B := B) (C := C) ht hg, thM_v (A := A) (B := B) (C := C) (w := w) hu.o, hw])

theorem law4m (a b c : List Int) : CallA ap 4 0 [] [.sl .frozen (a.map (.int .i64)), .sl .frozen (b.map (.int .i64)), .sl .frozen (c.map (.int .i64))] [] fun v _ => v = .bool true := by
  have p8 : (2 : Int) ^ (3 + 1) = 16 := by decide
  refine CallA.code (af := ac4) rfl (Nat.le_of_ble_eq_true rfl) ?_
  simp [ac4]
  refine first8 ?_
  simp
  by_cases c1 : (60 : Int) < a.length
  · simp [c1]
  by_cases c2 : (60 : Int) < b.length
  · simp [c1, c2]
  by_cases c3 : (60 : Int) < c.length
  · simp [c1, c2, c3]
  simp [c1, c2, c3, splice]
  refine made10 .frozen a 0 3 3 0 _ _ _ (by omega) (by omega) (by omega) (by omega) (by omega) rfl fun t i hi1 hi2 ht => ?_
  simp [splice, ty_take, ty_agg]
  refine closed18 .frozen b 0 1 (by omega) (by omega) rfl fun A j1 hj1 hj1' hA hAz => ?_
  simp [splice, ty_take, ty_agg]
  refine closed18 .frozen b j1 1 (by omega) (by omega) rfl fun B j2 hj2 hj2' hB hBz => ?_
  simp [splice, ty_take, ty_agg]
  refine closed18 .frozen b j2 1 (by omega) (by omega) rfl fun C j3 hj3 hj3' hC hCz => ?_
  simp [splice, ty_take, ty_agg, demote_ty]
  have he : [V.agg (.str [97] :: demoteL (tyV A).cells), V.agg (.str [98] :: demoteL (tyV B).cells), V.agg (.str [99] :: demoteL (tyV C).cells)] = paVs (e3 A B C) := by
    simp [e3, paVs, paV, ty_dc]
  rw [he]
  refine refOk ht.fine _ _ _ (e3 A B C) (by simp [e3]) ?_
  have hU : Closed (apT (look (e3 A B C)) t) := byClosed ht.fine ht.good.1 (e3_look hA hB hC) fun y hy => e3_all y (ht.good.2 y hy)
  have hUz : szN (apT (look (e3 A B C)) t) ≤ 105 := by
    have h1 := ap_sz (look (e3 A B C)) 7 (by omega) (e3_look (P := fun u => szN u ≤ 7) hAz hBz hCz) t ht.fine
    have h2 := ht.sz
    have : szN t ≤ 15 := by omega
    omega
  simp [splice, ty_take, ty_agg, demote_ty]
  refine hole19 _ _ (Nat.le_refl _) hU _ _ _ .frozen c 0 2 (by omega) (by omega) rfl fun v j hk1 hk2 hv => ?_
  simp [splice, ty_take, ty_agg, demote_ty]
  have ga : good abch t := ⟨ht.good.1, fun y hy => List.mem_append_left _ (ht.good.2 y hy)⟩
  have gb : good abch v := ⟨hv.n, fun y hy => List.mem_append_right _ (by rw [hv.o y hy]; simp)⟩
  refine unify10 (A := abch) (by decide) ga ht.fine gb hv.f (fun tl o f hr hf => ?_) (fun tl g hn => absurd hn (most_ok hv ht.fine ht.good.2))
  obtain ⟨hm1, hm2⟩ := most_law hv ht.fine ht.good.2 hf (by omega)
  simp [splice, ty_take, ty_agg, demote_ty]
  refine applyR ht.fine hf.fit.s.ok hr ?_
  simp [splice, ty_take, ty_agg, demote_ty]
  refine refm34 _ _ (sge_hat_fine hf.fit.s.ok ht.fine) hU.f (by omega) (fun _ => ?_) fun h => ?_
  · simp
  · rw [hm1] at h; cases h

end Go.Ht
