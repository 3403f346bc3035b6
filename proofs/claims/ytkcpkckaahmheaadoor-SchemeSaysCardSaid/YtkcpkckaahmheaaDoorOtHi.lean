/- A scheme's plain form and its free names: plain; what counts a type's parts (out of AtR5). -/
import Derived.Test.YtkcpkckaahmheaaDoorOtGd

namespace Go.Ot
open Go.Am Go.Proofs
set_option maxRecDepth 100000

mutual
theorem hat_occ {θ : Nam → Ty} {x y : Nam} (hy : occ y (θ x) = true) : ∀ (t : Ty), occ x t = true → occ y (hat θ t) = true
  | .mk k n l, h => by
    by_cases hk : k = 1
    · subst hk
      simp [occ] at h
      subst h
      rw [hat_var]; exact hy
    · rw [hat_mk _ hk]
      simp only [occ, if_neg hk] at h ⊢
      exact hatL_occ hy l h
theorem hatL_occ {θ : Nam → Ty} {x y : Nam} (hy : occ y (θ x) = true) : ∀ (l : List Ty), occL x l = true → occL y (hatL θ l) = true
  | [], h => by simp [occL] at h
  | t :: l, h => by
    have e : hatL θ (t :: l) = hat θ t :: hatL θ l := rfl
    rw [e]
    simp only [occL, Bool.or_eq_true] at h ⊢
    rcases h with h | h
    · exact .inl (hat_occ hy t h)
    · exact .inr (hatL_occ hy l h)
end

mutual
theorem sz_var {θ : Nam → Ty} (hθ : ∀ x, ∃ y, θ x = var y) : ∀ (t : Ty), fine t = true → szN (hat θ t) = szN t
  | .mk k n l, h => by
    simp only [fine, Bool.and_eq_true, decide_eq_true_eq] at h
    by_cases hk : k = 1
    · subst hk
      have hl : l = [] := by simpa using h.1.2
      subst hl
      obtain ⟨y, hy⟩ := hθ n
      rw [hat_var, hy]; rfl
    · rw [hat_mk _ hk]
      simp only [szN, szL_var hθ l h.2]
theorem szL_var {θ : Nam → Ty} (hθ : ∀ x, ∃ y, θ x = var y) : ∀ (l : List Ty), fineL l = true → szL (hatL θ l) = szL l
  | [], _ => rfl
  | t :: l, h => by
    simp only [fineL, Bool.and_eq_true] at h
    have e : hatL θ (t :: l) = hat θ t :: hatL θ l := rfl
    rw [e]
    simp only [szL, sz_var hθ t h.1, szL_var hθ l h.2]
end

/-- Where a name goes. -/
theorem sg_in {L R : List Nam} (hn : L.Nodup) (hl : L.length = R.length) {y : Nam} (hy : y ∈ L) : ∃ z ∈ R, sg (look (zipE L R)) y = var z := by
  obtain ⟨j, hj, rfl⟩ := List.getElem_of_mem hy
  have e := zipE_look hn hl j hj (by omega)
  exact ⟨R[j]'(by omega), List.getElem_mem _, by simp only [sg, e, Option.getD_some]⟩
theorem sg_out {L R : List Nam} (hl : L.length = R.length) {y : Nam} (hy : y ∉ L) : sg (look (zipE L R)) y = var y := by
  have e : look (zipE L R) y = none := look_no (by rw [zipE_fst hl]; exact hy)
  simp only [sg, e, Option.getD_none]; rfl
theorem sg_var {L R : List Nam} (hn : L.Nodup) (hl : L.length = R.length) (y : Nam) : ∃ z, sg (look (zipE L R)) y = var z := by
  by_cases h : y ∈ L
  · obtain ⟨z, _, e⟩ := sg_in hn hl h; exact ⟨z, e⟩
  · exact ⟨y, sg_out hl h⟩

theorem ren_sz {L R : List Nam} (hn : L.Nodup) (hl : L.length = R.length) {t : Ty} (ht : fine t = true) : szN (apT (look (zipE L R)) t) = szN t := by
  rw [ap_hat _ _ ht]; exact sz_var (sg_var hn hl) t ht
theorem ren_fine {L R : List Nam} {t : Ty} (ht : fine t = true) : fine (apT (look (zipE L R)) t) = true :=
  ap_fine _ (fun x u hx => by
    obtain ⟨b, _, e⟩ := zipE_mem (look_mem hx)
    simp only at e
    rw [e]; rfl) _ ht
/-- The names of a type whose names are changed. -/
theorem ren_occ {L R : List Nam} (hn : L.Nodup) (hl : L.length = R.length) {t : Ty} (ht : fine t = true) {x : Nam} : occ x (apT (look (zipE L R)) t) = true ↔ ∃ y, occ y t = true ∧ sg (look (zipE L R)) y = var x := by
  rw [ap_hat _ _ ht]
  constructor
  · intro h
    obtain ⟨y, h1, h2⟩ := occ_hat t h
    obtain ⟨z, e⟩ := sg_var hn hl y
    rw [e] at h2
    simp [var, occ] at h2
    subst h2
    exact ⟨y, h1, e⟩
  · rintro ⟨y, h1, h2⟩
    exact hat_occ (by rw [h2]; simp [var, occ]) t h1
theorem ren_good {A L R : List Nam} (hn : L.Nodup) (hl : L.length = R.length) {t : Ty} (ht : fine t = true) (hg : good A t) : good (A ++ R) (apT (look (zipE L R)) t) := by
  refine ⟨?_, fun x hx => ?_⟩
  · rw [ap_hat _ _ ht]
    refine no4_hat t hg.1 fun y _ => ?_
    obtain ⟨z, e⟩ := sg_var hn hl y
    rw [e]; rfl
  · obtain ⟨y, h1, h2⟩ := (ren_occ hn hl ht).1 hx
    by_cases hy : y ∈ L
    · obtain ⟨z, hz, e⟩ := sg_in hn hl hy
      rw [e] at h2
      simp only [var, Ty.mk.injEq] at h2
      have : z = x := h2.2.1
      exact List.mem_append.2 (.inr (this ▸ hz))
    · rw [sg_out hl hy] at h2
      simp only [var, Ty.mk.injEq] at h2
      have : y = x := h2.2.1
      exact List.mem_append.2 (.inl (this ▸ hg.2 y h1))

theorem only_one {l : List Nam} {a : Nam} (hn : l.Nodup) (h : ∀ x, x ∈ l ↔ x = a) : l = [a] := by
  cases l with
  | nil => have := (h a).2 rfl; simp at this
  | cons b l =>
    have hb : b = a := (h b).1 (by simp)
    subst hb
    cases l with
    | nil => rfl
    | cons c l =>
      have hc : c = b := (h c).1 (by simp)
      simp [hc] at hn

theorem free_law {t : Ty} (ht : fine t = true) (nt : Nam) {W N0 L F R f : List Nam} {m : Nat} (hW : W = varsTL [] [t]) (hN : N0 = W.filter (fun x => !decide (x ∈ [nt]))) (hL : L = W.filter (fun x => decide (x ∈ N0)))
    (hF : F = W.filter (fun x => !decide (x ∈ N0))) (hR : R = names F m) (hRL : R.length = L.length) (hf : f = (varsTL [] [apT (look (zipE L R)) t]).filter (fun x => !decide (x ∈ R))) :
    (nt ∈ W ∧ F = [nt] ∧ f = [nt] ∧ nt ∉ R) ∨ (nt ∉ W ∧ F = [] ∧ f = []) := by
  have hWn : W.Nodup := by rw [hW]; exact varsTL_nodup _ _ (by simp)
  have hLn : L.Nodup := by rw [hL]; exact List.Pairwise.filter _ hWn
  have hFn : F.Nodup := by rw [hF]; exact List.Pairwise.filter _ hWn
  have hfn : f.Nodup := by rw [hf]; exact List.Pairwise.filter _ (varsTL_nodup _ _ (by simp))
  have mW : ∀ x, x ∈ W ↔ occ x t = true := fun x => by rw [hW]; simp [varsTL, varsT_mem]
  have mN : ∀ x, x ∈ N0 ↔ x ∈ W ∧ x ≠ nt := fun x => by rw [hN]; simp [List.mem_filter]
  have mL : ∀ x, x ∈ L ↔ x ∈ W ∧ x ≠ nt := fun x => by rw [hL]; simp [List.mem_filter, mN]
  have mF : ∀ x, x ∈ F ↔ x ∈ W ∧ x = nt := fun x => by
    rw [hF]; simp only [List.mem_filter, mN]
    by_cases h1 : x ∈ W <;> by_cases h2 : x = nt <;> simp [h1, h2]
  have mf : ∀ x, x ∈ f ↔ x ∈ F := fun x => by
    have e1 : x ∈ f ↔ occ x (apT (look (zipE L R)) t) = true ∧ x ∉ R := by rw [hf]; simp [List.mem_filter, varsTL, varsT_mem]
    rw [e1, ren_occ hLn hRL.symm ht]
    constructor
    · rintro ⟨⟨y, h1, h2⟩, h3⟩
      have hy : y ∉ L := fun hy => by
        obtain ⟨z, hz, e⟩ := sg_in hLn hRL.symm hy
        rw [e] at h2
        simp only [var, Ty.mk.injEq] at h2
        exact h3 (h2.2.1 ▸ hz)
      rw [sg_out hRL.symm hy] at h2
      simp only [var, Ty.mk.injEq] at h2
      have hyx : y = x := h2.2.1
      subst hyx
      rw [mF]
      have hyW := (mW y).2 h1
      exact ⟨hyW, Classical.byContradiction fun hne => hy ((mL y).2 ⟨hyW, hne⟩)⟩
    · intro hx
      have hx' := (mF x).1 hx
      refine ⟨⟨x, (mW x).1 hx'.1, sg_out hRL.symm fun h => ((mL x).1 h).2 hx'.2⟩, fun h => ?_⟩
      rw [hR] at h
      exact names_not h hx
  by_cases hw : nt ∈ W
  · have hFe : F = [nt] := only_one hFn fun x => by rw [mF]; exact ⟨fun h => h.2, fun h => by subst h; exact ⟨hw, rfl⟩⟩
    have hfe : f = [nt] := only_one hfn fun x => by rw [mf, hFe]; simp
    refine .inl ⟨hw, hFe, hfe, fun h => ?_⟩
    rw [hR] at h
    exact names_not h ((mF nt).2 ⟨hw, rfl⟩)
  · have hFe : F = [] := List.eq_nil_iff_forall_not_mem.2 fun x hx => hw (((mF x).1 hx).2 ▸ ((mF x).1 hx).1)
    exact .inr ⟨hw, hFe, List.eq_nil_iff_forall_not_mem.2 fun x hx => by rw [mf, hFe] at hx; cases hx⟩

section
variable {bs : List Nat} {h : List Ob} {Q : V → List Ob → Prop}

/-- What counts a type's parts. -/
def SizeS (t : Ty) : Prop := ∀ (bs : List Nat) (h : List Ob) (Q : V → List Ob → Prop), Q (.int .i64 (szN t)) h → CallA ap 20 0 bs [tyV t] h Q

theorem size33 : ∀ (m : Nat) (t : Ty), SizeOf.sizeOf t ≤ m → fine t = true → szN t < 1000000 → SizeS t := by
  intro m
  induction m with
  | zero => intro t h; cases t; simp at h
  | succ m ih =>
    intro t hm ht hs bs h Q hq
    obtain ⟨k, n, l⟩ := t
    simp only [fine, Bool.and_eq_true, decide_eq_true_eq] at ht
    have each : ∀ a ∈ l, szN a < 1000000 → SizeS a := fun a ha => ih a (by have := List.sizeOf_lt_of_mem ha; simp at hm; omega) (fineL_mem ht.2 ha)
    refine CallA.code (af := ac20) rfl (Nat.le_of_ble_eq_true rfl) ?_
    simp [ac20, tyV]
    match l, ht.1.1, each with
    | [], _, _ =>
      refine wpA_loop (CallA.hle ap) ?_
      simp [forget, noLoc, locOf, tyVs]
      simpa [szN, szL] using hq
    | [a], _, each =>
      simp only [szN, szL] at hs hq
      have ha : IntKind.wrap .i64 (1 + (szN a : Int)) = 1 + (szN a : Int) := wrap64 (by omega) (by omega)
      refine wpA_loop (CallA.hle ap) ?_
      simp [forget, noLoc, locOf, tyVs, ty_take, ty_agg, demote_ty]
      refine each a (by simp) (by omega) _ _ _ ?_
      simp [w1, ha]
      refine wpA_loop (CallA.hle ap) ?_
      simp [forget, noLoc, locOf]
      have e : ((1 + (szN a + 0) : Nat) : Int) = 1 + (szN a : Int) := by omega
      rw [e] at hq
      exact hq
    | [a, b], _, each =>
      simp only [szN, szL] at hs hq
      have ha : IntKind.wrap .i64 (1 + (szN a : Int)) = 1 + (szN a : Int) := wrap64 (by omega) (by omega)
      have hb : IntKind.wrap .i64 (1 + (szN a : Int) + (szN b : Int)) = 1 + (szN a : Int) + (szN b : Int) := wrap64 (by omega) (by omega)
      refine wpA_loop (CallA.hle ap) ?_
      simp [forget, noLoc, locOf, tyVs, ty_take, ty_agg, demote_ty]
      refine each a (by simp) (by omega) _ _ _ ?_
      simp [w1, ha]
      refine wpA_loop (CallA.hle ap) ?_
      simp [forget, noLoc, locOf, ty_take, ty_agg, demote_ty]
      refine each b (by simp) (by omega) _ _ _ ?_
      simp [w2, hb]
      refine wpA_loop (CallA.hle ap) ?_
      simp [forget, noLoc, locOf]
      have e : ((1 + (szN a + (szN b + 0)) : Nat) : Int) = 1 + (szN a : Int) + (szN b : Int) := by omega
      rw [e] at hq
      exact hq

end
end Go.Ot

namespace Go.Ot
open Go.Am Go.Proofs
set_option maxRecDepth 100000

def leaf (t : Ty) : Prop := (∃ x, t = var x) ∨ ∃ n, t = .mk 2 n []

theorem Made.leaf {t : Ty} (h : Made 0 t) : leaf t := by
  cases h with
  | va => exact .inl ⟨_, rfl⟩
  | vb => exact .inl ⟨_, rfl⟩
  | vc => exact .inl ⟨_, rfl⟩
  | int => exact .inr ⟨_, rfl⟩
  | bool => exact .inr ⟨_, rfl⟩

/-- The names that come new. -/
def freshN (o : List Nam) : En → List Nam
  | [] => []
  | p :: xs => match p.2 with
    | .mk k n _ => if k = 1 ∧ n ∉ o then n :: freshN (o ++ [n]) xs else freshN o xs

theorem varsTL_app : ∀ (a b : List Ty) (o : List Nam), varsTL o (a ++ b) = varsTL (varsTL o a) b
  | [], b, o => rfl
  | x :: a, b, o => by simp only [List.cons_append, varsTL]; exact varsTL_app a b _

theorem vars_fresh : ∀ (xs : En) (o : List Nam), (∀ p ∈ xs, leaf p.2) → varsTL o (xs.map (·.2)) = o ++ freshN o xs
  | [], o, _ => by simp [varsTL, freshN]
  | (c, t) :: xs, o, h => by
    have ih := fun o => vars_fresh xs o fun p hp => h p (List.mem_cons_of_mem _ hp)
    rcases h (c, t) (by simp) with ⟨x, rfl⟩ | ⟨n, rfl⟩
    · simp only [List.map_cons, varsTL, var, varsT, freshN, if_true, true_and]
      by_cases hx : x ∈ o
      · rw [if_pos hx, if_neg (by simpa using hx), ih]
      · rw [if_neg hx, if_pos hx, ih]; simp
    · simp only [List.map_cons, varsTL, varsT, freshN]
      rw [if_neg (by decide), if_neg (by simp), ih]

theorem freshN_mem : ∀ (xs : En) (o : List Nam), (∀ p ∈ xs, leaf p.2) → ∀ x, x ∈ freshN o xs ↔ x ∉ o ∧ ∃ c, (c, var x) ∈ xs
  | [], o, _, x => by simp [freshN]
  | (c, t) :: xs, o, h, x => by
    have ih := fun o => freshN_mem xs o (fun p hp => h p (List.mem_cons_of_mem _ hp)) x
    rcases h (c, t) (by simp) with ⟨y, rfl⟩ | ⟨n, rfl⟩
    · simp only [freshN, var, true_and]
      by_cases hy : y ∈ o
      · rw [if_neg (by simpa using hy), ih]
        constructor
        · rintro ⟨h1, d, h2⟩; exact ⟨h1, d, List.mem_cons_of_mem _ h2⟩
        · rintro ⟨h1, d, h2⟩
          rcases List.mem_cons.1 h2 with e | h2
          · simp only [Prod.mk.injEq, Ty.mk.injEq, true_and, and_true] at e
            exact absurd (e.2 ▸ hy) h1
          · exact ⟨h1, d, h2⟩
      · rw [if_pos hy, List.mem_cons, ih]
        constructor
        · rintro (rfl | ⟨h1, d, h2⟩)
          · exact ⟨hy, c, by simp⟩
          · exact ⟨fun h => h1 (by simp [h]), d, List.mem_cons_of_mem _ h2⟩
        · rintro ⟨h1, d, h2⟩
          rcases List.mem_cons.1 h2 with e | h2
          · simp only [Prod.mk.injEq, Ty.mk.injEq, true_and, and_true] at e
            exact .inl e.2
          · by_cases hxy : x = y
            · exact .inl hxy
            · exact .inr ⟨by simp [h1, hxy], d, h2⟩
    · simp only [freshN]
      rw [if_neg (by simp), ih]
      constructor
      · rintro ⟨h1, d, h2⟩; exact ⟨h1, d, List.mem_cons_of_mem _ h2⟩
      · rintro ⟨h1, d, h2⟩
        rcases List.mem_cons.1 h2 with e | h2
        · simp [var] at e
        · exact ⟨h1, d, h2⟩

def Bef (xs : En) (u v : Nam) : Prop := ∃ c, (c, var u) ∈ xs ∧ ∀ d, (d, var v) ∈ xs → ltP (c, var u) (d, var v)

theorem bef_asym {xs : En} {u v : Nam} (h1 : Bef xs u v) (h2 : Bef xs v u) : False := by
  obtain ⟨c, hc, h1⟩ := h1
  obtain ⟨d, hd, h2⟩ := h2
  exact ltP_asym (h1 d hd) (h2 c hc)

theorem fresh_bef : ∀ (xs A : En) (o : List Nam), (∀ p ∈ xs, leaf p.2) → (A ++ xs).Pairwise ltP → (∀ d v, (d, var v) ∈ A → v ∈ o) → (freshN o xs).Pairwise (Bef (A ++ xs))
  | [], A, o, _, _, _ => by simp [freshN]
  | (c, t) :: xs, A, o, h, hp, hA => by
    have hl := fun p hp => h p (List.mem_cons_of_mem _ hp)
    have e : A ++ (c, t) :: xs = (A ++ [(c, t)]) ++ xs := by simp
    rcases h (c, t) (by simp) with ⟨y, rfl⟩ | ⟨n, rfl⟩
    · simp only [freshN, var, true_and]
      by_cases hy : y ∈ o
      · rw [if_neg (by simpa using hy)]
        have := fresh_bef xs (A ++ [(c, var y)]) o hl (by rw [← e]; exact hp) fun d v hv => by
          rcases List.mem_append.1 hv with hv | hv
          · exact hA d v hv
          · simp only [List.mem_singleton, Prod.mk.injEq, var, Ty.mk.injEq, true_and, and_true] at hv
            rw [hv.2]; exact hy
        rw [← e] at this
        exact this
      · rw [if_pos hy, List.pairwise_cons]
        refine ⟨fun v hv => ?_, ?_⟩
        · have hv := (freshN_mem xs (o ++ [y]) hl v).1 hv
          have hv1 : v ∉ o ∧ v ≠ y := by simpa using hv.1
          refine ⟨c, by simp [var], fun d hd => ?_⟩
          rcases List.mem_append.1 hd with hd | hd
          · exact absurd (hA d v hd) hv1.1
          · rcases List.mem_cons.1 hd with hd | hd
            · simp only [Prod.mk.injEq, var, Ty.mk.injEq, true_and, and_true] at hd
              exact absurd hd.2 hv1.2
            · exact (List.pairwise_cons.1 (List.pairwise_append.1 hp).2.1).1 _ hd
        · have := fresh_bef xs (A ++ [(c, var y)]) (o ++ [y]) hl (by rw [← e]; exact hp) fun d v hv => by
            rcases List.mem_append.1 hv with hv | hv
            · exact List.mem_append.2 (.inl (hA d v hv))
            · simp only [List.mem_singleton, Prod.mk.injEq, var, Ty.mk.injEq, true_and, and_true] at hv
              rw [hv.2]; simp
          rw [← e] at this
          exact this
    · simp only [freshN]
      rw [if_neg (by simp)]
      have := fresh_bef xs (A ++ [(c, .mk 2 n [])]) o hl (by rw [← e]; exact hp) fun d v hv => by
        rcases List.mem_append.1 hv with hv | hv
        · exact hA d v hv
        · simp [var] at hv
      rw [← e] at this
      exact this

theorem uniqR {r : Nam → Nam → Prop} (has : ∀ u v, r u v → r v u → False) : ∀ {xs ys : List Nam}, xs.Pairwise r → ys.Pairwise r → (∀ p, p ∈ xs ↔ p ∈ ys) → xs = ys
  | [], [], _, _, _ => rfl
  | [], y :: ys, _, _, h => by simpa using (h y).2 (by simp)
  | x :: xs, [], _, _, h => by simpa using (h x).1 (by simp)
  | x :: xs, y :: ys, h1, h2, h => by
    rw [List.pairwise_cons] at h1 h2
    have e : x = y := by
      rcases List.mem_cons.1 ((h x).1 (by simp)) with e | hx
      · exact e
      · rcases List.mem_cons.1 ((h y).2 (by simp)) with e | hy
        · exact e.symm
        · exact (has _ _ (h2.1 x hx) (h1.1 y hy)).elim
    subst e
    have := uniqR has h1.2 h2.2 fun p => by
      constructor
      · intro hp
        rcases List.mem_cons.1 ((h p).1 (by simp [hp])) with rfl | h3
        · exact (has _ _ (h1.1 p hp) (h1.1 p hp)).elim
        · exact h3
      · intro hp
        rcases List.mem_cons.1 ((h p).2 (by simp [hp])) with rfl | h3
        · exact (has _ _ (h2.1 p hp) (h2.1 p hp)).elim
        · exact h3
    rw [this]

theorem cmpT_var (u v : Nam) : cmpT (var u) (var v) = Lib.compareBytes u v := by
  have h0 : ∀ k : Int, cmpI k k = 0 := fun k => by simp [cmpI]
  simp [var, cmpT, orL, h0, cmpTs]
  exact fun e => e.symm

theorem lt_var {c d u v : Nam} : ltP (c, var u) (d, var v) ↔ Lib.compareBytes c d < 0 ∨ c = d ∧ Lib.compareBytes u v < 0 := by
  unfold ltP cmpP
  rw [cmpT_var]
  by_cases h : Lib.compareBytes c d = 0
  · have := bytes_zero _ _ h
    subst this
    simp [or2, h]
  · have hne : c ≠ d := fun e => h (by subst e; have := bytes_anti c c; omega)
    simp [or2, h, hne]

theorem nm_lt : ∀ i, i < 26 → ∀ j, j < 26 → i < j → Lib.compareBytes (nm i) (nm j) < 0 := by decide +kernel

mutual
theorem vars_map {f : Nam → Nam} {S : List Nam} (inj : ∀ x ∈ S, ∀ y ∈ S, f x = f y → x = y) : ∀ (t : Ty) (o : List Nam), fine t = true → (∀ x ∈ o, x ∈ S) → (∀ x, occ x t = true → x ∈ S) → varsT (o.map f) (hat (fun x => var (f x)) t) = (varsT o t).map f
  | .mk k n l, o, h, h1, h2 => by
    simp only [fine, Bool.and_eq_true, decide_eq_true_eq] at h
    by_cases hk : k = 1
    · subst hk
      rw [hat_var]
      simp only [var, varsT, if_true]
      have hn := h2 n (by simp [occ])
      by_cases hm : n ∈ o
      · rw [if_pos hm, if_pos (List.mem_map_of_mem hm)]
      · rw [if_neg hm, if_neg fun hf => ?_]
        · simp
        · obtain ⟨y, hy, e⟩ := List.mem_map.1 hf
          exact hm (inj y (h1 y hy) n hn e ▸ hy)
    · rw [hat_mk _ hk]
      simp only [varsT, if_neg hk]
      exact varsL_map inj l o h.2 h1 fun x hx => h2 x (by simp only [occ, if_neg hk]; exact hx)
theorem varsL_map {f : Nam → Nam} {S : List Nam} (inj : ∀ x ∈ S, ∀ y ∈ S, f x = f y → x = y) : ∀ (l : List Ty) (o : List Nam), fineL l = true → (∀ x ∈ o, x ∈ S) → (∀ x, occL x l = true → x ∈ S) → varsTL (o.map f) (hatL (fun x => var (f x)) l) = (varsTL o l).map f
  | [], o, _, _, _ => rfl
  | t :: l, o, h, h1, h2 => by
    simp only [fineL, Bool.and_eq_true] at h
    have e : hatL (fun x => var (f x)) (t :: l) = hat (fun x => var (f x)) t :: hatL (fun x => var (f x)) l := rfl
    rw [e]
    simp only [varsTL]
    rw [vars_map inj t o h.1 h1 fun x hx => h2 x (by simp [occL, hx])]
    exact varsL_map inj l _ h.2 (fun x hx => ((varsT_mem x t o).1 hx).elim (h1 x) fun h => h2 x (by simp [occL, h])) fun x hx => h2 x (by simp [occL, hx])
end

/-- What a name becomes. -/
def rn (L R : List Nam) (y : Nam) : Nam := match sg (look (zipE L R)) y with
  | .mk _ n _ => n
theorem sg_rn {L R : List Nam} (hn : L.Nodup) (hl : L.length = R.length) (y : Nam) : sg (look (zipE L R)) y = var (rn L R y) := by
  obtain ⟨z, e⟩ := sg_var hn hl y
  simp only [rn, e, var]
theorem rn_at {L R : List Nam} (hn : L.Nodup) (hl : L.length = R.length) (j : Nat) (h1 : j < L.length) : rn L R L[j] = R[j]'(by omega) := by
  have e := zipE_look hn hl j h1 (by omega)
  simp only [rn, sg, e, Option.getD_some, var]
theorem rn_map {L R : List Nam} (hn : L.Nodup) (hl : L.length = R.length) : L.map (rn L R) = R := by
  apply List.ext_getElem (by simpa using hl)
  intro j h1 h2
  rw [List.getElem_map, rn_at hn hl]
theorem rn_in {L R : List Nam} (hn : L.Nodup) (hl : L.length = R.length) {x : Nam} (hx : x ∈ L) : rn L R x ∈ R := by
  obtain ⟨j, hj, rfl⟩ := List.getElem_of_mem hx
  rw [rn_at hn hl]; exact List.getElem_mem _
theorem rn_inj {L R : List Nam} (hn : L.Nodup) (hR : R.Nodup) (hl : L.length = R.length) : ∀ x ∈ L, ∀ y ∈ L, rn L R x = rn L R y → x = y := by
  intro x hx y hy e
  obtain ⟨i, hi, rfl⟩ := List.getElem_of_mem hx
  obtain ⟨j, hj, rfl⟩ := List.getElem_of_mem hy
  rw [rn_at hn hl, rn_at hn hl] at e
  have := (List.getElem_inj (h₀ := by omega) (h₁ := by omega) hR).1 e
  subst this; rfl
theorem rn_ty {L R : List Nam} (hn : L.Nodup) (hl : L.length = R.length) {t : Ty} (ht : fine t = true) : apT (look (zipE L R)) t = hat (fun x => var (rn L R x)) t := by
  rw [ap_hat _ _ ht]
  congr 1
  funext y
  exact sg_rn hn hl y
theorem rn_leaf {L R : List Nam} (hn : L.Nodup) (hl : L.length = R.length) (x : Nam) : apT (look (zipE L R)) (var x) = var (rn L R x) := by
  rw [rn_ty hn hl (by rfl)]; exact hat_var _ _ _
theorem rn_con (L R : List Nam) (n : Nam) : apT (look (zipE L R)) (.mk 2 n []) = .mk 2 n [] := by simp [apT, apL]

theorem names_nil (m : Nat) : names [] m = (List.range m).map nm := by
  simp only [names, List.not_mem_nil, decide_false, Bool.not_false]
  rw [List.filter_eq_self.2 (by simp)]
theorem names_len (m : Nat) : (names [] m).length = m := by rw [names_nil]; simp
theorem names_sort {m : Nat} (hm : m ≤ 26) : (names [] m).Pairwise fun u v => Lib.compareBytes u v < 0 := by
  rw [names_nil, List.pairwise_map]
  have : (List.range m).Pairwise (· < ·) := List.pairwise_lt_range
  refine List.Pairwise.imp_of_mem (fun ha hb h => ?_) this
  have := List.mem_range.1 ha
  have := List.mem_range.1 hb
  exact nm_lt _ (by omega) _ (by omega) h

/-- The names of a plain form stand in order. -/
theorem order_c {t : Ty} (ht : fine t = true) {xs ys : En} (hlf : ∀ p ∈ xs, leaf p.2) (hx : xs.Pairwise ltP) {L R : List Nam} {m : Nat} (hL : L = varsTL [] (t :: xs.map (·.2))) (hR : R = names [] m) (hm : m ≤ 26) (hl : L.length = R.length)
    (hy : ys.Pairwise ltP) (hym : ∀ p, p ∈ ys ↔ p ∈ mapE (look (zipE L R)) xs) : varsTL [] (apT (look (zipE L R)) t :: ys.map (·.2)) = R := by
  have hLn : L.Nodup := by rw [hL]; exact varsTL_nodup _ _ (by simp)
  have hRn : R.Nodup := by rw [hR]; exact names_nodup [] hm
  have inj := rn_inj hLn hRn hl
  have hmap := rn_map hLn hl
  have hO : L = varsT [] t ++ freshN (varsT [] t) xs := by
    rw [hL]; simp only [varsTL]; exact vars_fresh xs _ hlf
  have hlfy : ∀ p ∈ ys, leaf p.2 := fun p hp => by
    have := (hym p).1 hp
    simp only [mapE, List.mem_map] at this
    obtain ⟨q, hq, rfl⟩ := this
    rcases hlf q hq with ⟨x, e⟩ | ⟨n, e⟩
    · exact .inl ⟨_, by rw [e]; exact rn_leaf hLn hl x⟩
    · exact .inr ⟨n, by rw [e]; exact rn_con L R n⟩
  have hsub : ∀ x, x ∈ varsT [] t → x ∈ L := fun x hx => by rw [hO]; exact List.mem_append.2 (.inl hx)
  have e1 : varsT [] (apT (look (zipE L R)) t) = (varsT [] t).map (rn L R) := by
    rw [rn_ty hLn hl ht]
    have := vars_map inj t [] ht (by simp) fun x hx => hsub x ((varsT_mem x t []).2 (.inr hx))
    simpa using this
  have hin : ∀ c x, (c, var x) ∈ xs → x ∈ L := fun c x h => by
    rw [hO]
    by_cases hxo : x ∈ varsT [] t
    · exact List.mem_append.2 (.inl hxo)
    · exact List.mem_append.2 (.inr ((freshN_mem xs _ hlf x).2 ⟨hxo, c, h⟩))
  have back : ∀ d z, (d, var z) ∈ ys → ∃ y, (d, var y) ∈ xs ∧ rn L R y = z := fun d z h => by
    have := (hym _).1 h
    simp only [mapE, List.mem_map, Prod.mk.injEq] at this
    obtain ⟨q, hq, rfl, e⟩ := this
    rcases hlf q hq with ⟨x, ex⟩ | ⟨n, ex⟩
    · rw [ex, rn_leaf hLn hl] at e
      simp only [var, Ty.mk.injEq, true_and, and_true] at e
      exact ⟨x, by rw [← ex]; exact hq, e⟩
    · rw [ex, rn_con] at e
      simp [var] at e
  have forth : ∀ d y, (d, var y) ∈ xs → (d, var (rn L R y)) ∈ ys := fun d y h => by
    rw [hym]
    simp only [mapE, List.mem_map]
    exact ⟨_, h, by rw [rn_leaf hLn hl]⟩
  have e2 : freshN ((varsT [] t).map (rn L R)) ys = (freshN (varsT [] t) xs).map (rn L R) := by
    refine uniqR (r := Bef ys) (fun u v => bef_asym) (fresh_bef ys [] _ hlfy hy (by simp)) ?_ fun x => ?_
    · rw [List.pairwise_map]
      have p1 : (freshN (varsT [] t) xs).Pairwise (Bef xs) := fresh_bef xs [] _ hlf hx (by simp)
      have p2 : (L.map (rn L R)).Pairwise fun u v => Lib.compareBytes u v < 0 := by rw [hmap, hR]; exact names_sort hm
      rw [List.pairwise_map, hO, List.pairwise_append] at p2
      have p3 := p2.2.1
      rw [← hO] at p3
      refine List.Pairwise.imp_of_mem (fun {u v} hu hv hh => ?_) (p1.and p3)
      obtain ⟨⟨c, hc, hb⟩, hlt⟩ := hh
      refine ⟨c, forth c u hc, fun d hd => ?_⟩
      obtain ⟨y, hy1, hy2⟩ := back d _ hd
      have hyv : y = v := inj y (hin d y hy1) v (by rw [hO]; exact List.mem_append.2 (.inr hv)) hy2
      subst hyv
      rcases lt_var.1 (hb d hy1) with h1 | ⟨h1, h2⟩
      · exact lt_var.2 (.inl h1)
      · exact lt_var.2 (.inr ⟨h1, hlt⟩)
    · rw [freshN_mem ys _ hlfy]
      constructor
      · rintro ⟨h1, c, hc⟩
        obtain ⟨y, hy1, rfl⟩ := back c x hc
        exact List.mem_map.2 ⟨y, (freshN_mem xs _ hlf y).2 ⟨fun h => h1 (List.mem_map_of_mem h), c, hy1⟩, rfl⟩
      · intro hx
        obtain ⟨y, hy, rfl⟩ := List.mem_map.1 hx
        obtain ⟨h1, c, hc⟩ := (freshN_mem xs _ hlf y).1 hy
        refine ⟨fun h => ?_, c, forth c y hc⟩
        obtain ⟨z, hz, e⟩ := List.mem_map.1 h
        exact h1 (inj z (hsub z hz) y (hin c y hc) e ▸ hz)
  simp only [varsTL]
  rw [vars_fresh ys _ hlfy, e1, e2, ← List.map_append, ← hO, hmap]

end Go.Ot
