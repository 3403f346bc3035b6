/- The law SchemeNames: plain. -/
import Derived.Test.YtkcpkckaahmheaaDoorOtHi
import Derived.Test.YtkcpkckaahmheaaDoorOtGd

namespace Go.Ot
open Go.Am Go.Proofs
set_option maxRecDepth 100000

theorem ap_self {R : List Nam} (hn : R.Nodup) {t : Ty} (ht : fine t = true) : apT (look (zipE R R)) t = t := by
  rw [ap_hat _ _ ht]
  have : sg (look (zipE R R)) = var := by
    funext y
    by_cases h : y ∈ R
    · obtain ⟨j, hj, rfl⟩ := List.getElem_of_mem h
      rw [sg_rn hn rfl, rn_at hn rfl j hj]
    · exact sg_out rfl h
  rw [this]
  exact hat_id t ht

theorem filter_all {l N : List Nam} (h : ∀ x ∈ l, x ∈ N) : l.filter (fun x => decide (x ∈ N)) = l := by
  rw [List.filter_eq_self]; intro x hx; simpa using h x hx
theorem filter_none {l N : List Nam} (h : ∀ x ∈ l, x ∈ N) : l.filter (fun x => !decide (x ∈ N)) = [] := by
  rw [List.filter_eq_nil_iff]; intro x hx; simpa using h x hx

theorem mapE_mem {s : Nam → Option Ty} {xs ps : En} (h : ∀ p, p ∈ xs ↔ p ∈ ps) (p : Nam × Ty) : p ∈ mapE s xs ↔ p ∈ mapE s ps := by
  simp only [mapE, List.mem_map, h]

theorem vars_mem' {t : Ty} {ps : En} {x : Nam} : x ∈ varsTL [] (t :: ps.map (·.2)) ↔ occ x t = true ∨ ∃ p ∈ ps, occ x p.2 = true := by
  have key : ∀ l : En, occL x (l.map (·.2)) = true ↔ ∃ p ∈ l, occ x p.2 = true := by
    intro l
    induction l with
    | nil => simp [occL]
    | cons p l ih => simp only [List.map_cons, occL, Bool.or_eq_true, ih, List.mem_cons, exists_eq_or_imp]
  rw [varsTL_mem]
  simp only [occL, Bool.or_eq_true, key, List.not_mem_nil, false_or]

theorem vars_same {t : Ty} {xs ps : En} (h : ∀ p, p ∈ xs ↔ p ∈ ps) (x : Nam) : x ∈ varsTL [] (t :: xs.map (·.2)) ↔ x ∈ varsTL [] (t :: ps.map (·.2)) := by
  simp only [vars_mem', h]

/-- In its plain form a scheme stays. -/
theorem canon_again {t : Ty} (ht : fine t = true) {ps xs ys xs' ys' : En} (hlf : ∀ p ∈ ps, leaf p.2) (hfp : ∀ p ∈ ps, fine p.2 = true) (hx : xs.Pairwise ltP) (hxm : ∀ p, p ∈ xs ↔ p ∈ ps) {L R : List Nam} {m : Nat} (hL : L = varsTL [] (t :: xs.map (·.2))) (hR : R = names [] m) (hm : m ≤ 26) (hl : R.length = L.length)
    (hy : ys.Pairwise ltP) (hym : ∀ p, p ∈ ys ↔ p ∈ mapE (look (zipE L R)) ps) :
    varsTL [] (apT (look (zipE L R)) t :: ys.map (·.2)) = R ∧ (∀ {L' F' R' : List Nam} {m' : Nat}, xs'.Pairwise ltP → (∀ p, p ∈ xs' ↔ p ∈ ys) → L' = (varsTL [] (apT (look (zipE L R)) t :: xs'.map (·.2))).filter (fun x => decide (x ∈ R)) →
      F' = (varsTL [] (apT (look (zipE L R)) t :: ys.map (·.2))).filter (fun x => !decide (x ∈ R)) → R' = names F' m' → R'.length = L'.length → ys'.Pairwise ltP → (∀ p, p ∈ ys' ↔ p ∈ mapE (look (zipE L' R')) ys) →
      R' = R ∧ apT (look (zipE L' R')) (apT (look (zipE L R)) t) = apT (look (zipE L R)) t ∧ ys' = ys) := by
  have hord := order_c ht (fun p hp => hlf p ((hxm p).1 hp)) hx hL hR hm hl.symm hy fun p => (hym p).trans (mapE_mem hxm p).symm
  refine ⟨hord, ?_⟩
  intro L' F' R' m' hx' hxm' hL' hF' hR' hl' hy' hym'
  have e : xs' = ys := uniqP hx' hy hxm'
  subst e
  rw [hord, filter_all (fun _ h => h)] at hL'
  rw [hord, filter_none (fun _ h => h)] at hF'
  subst hL' hF'
  have hRR : R' = L' := by
    have h1 : m' = m := by rw [← names_len m', ← hR', hl', hR, names_len]
    rw [hR', h1, ← hR]
  subst hRR
  have hRn : R'.Nodup := by rw [hR]; exact names_nodup [] hm
  refine ⟨rfl, ap_self hRn (ren_fine ht), uniqP hy' hy fun p => ?_⟩
  rw [hym']
  have : mapE (look (zipE R' R')) xs' = xs' := by
    simp only [mapE]
    conv => rhs; rw [← List.map_id xs']
    refine List.map_congr_left fun q hq => ?_
    have hf : fine q.2 = true := by
      have := (hym q).1 hq
      simp only [mapE, List.mem_map] at this
      obtain ⟨r, hr, rfl⟩ := this
      exact ren_fine (hfp r hr)
    rw [ap_self hRn hf]; rfl
  rw [this]

/-- With other names. -/
theorem comp_ty {A B L L2 R : List Nam} (hA : A.Nodup) (hB : B.Nodup) (hAB : A.length = B.length) (hL : L.Nodup) (hLA : ∀ x ∈ L, x ∈ A) (hl : L.length = R.length) (hL2 : L2 = L.map (rn A B)) {t : Ty} (ht : fine t = true) (hv : ∀ x, occ x t = true → x ∈ L) :
    apT (look (zipE L2 R)) (apT (look (zipE A B)) t) = apT (look (zipE L R)) t := by
  have inj := rn_inj hA hB hAB
  have hL2n : L2.Nodup := by
    rw [hL2]
    exact (List.pairwise_map).2 (List.Pairwise.imp_of_mem (fun {a b} ha hb h e => h (inj a (hLA a ha) b (hLA b hb) e)) hL)
  have hl2 : L2.length = R.length := by rw [hL2]; simpa using hl
  rw [ap_hat _ _ (ren_fine ht), ap_hat _ _ ht, ap_hat _ _ ht, hat_hat]
  refine hat_congr t fun x hx => ?_
  obtain ⟨j, hj, rfl⟩ := List.getElem_of_mem (hv x hx)
  have hj2 : j < L2.length := by omega
  have e2 : L2[j] = rn A B L[j] := by simp only [hL2, List.getElem_map]
  rw [sg_rn hA hAB, var, hat_var, ← e2, sg_rn hL2n hl2, rn_at hL2n hl2 j hj2, sg_rn hL hl, rn_at hL hl j hj]

theorem same_law {A B : List Nam} (hA : A.Nodup) (hB : B.Nodup) (hAB : A.length = B.length) {t t2 : Ty} (ht : fine t = true) {ps ps2 : En} (hlf : ∀ p ∈ ps, leaf p.2) (hfp : ∀ p ∈ ps, fine p.2 = true) (htA : ∀ x, occ x t = true → x ∈ A)
    (inner : ∀ p ∈ ps, ∀ x, occ x p.2 = true → occ x t = true) (ht2 : t2 = apT (look (zipE A B)) t) (hps2 : ∀ p, p ∈ ps2 ↔ p ∈ mapE (look (zipE A B)) ps)
    {xs ys xs2 ys2 : En} {L F R L2 F2 R2 : List Nam} {m m2 : Nat} (hxm : ∀ p, p ∈ xs ↔ p ∈ ps) (hL : L = (varsTL [] (t :: xs.map (·.2))).filter (fun x => decide (x ∈ varsTL [] (t :: ps.map (·.2)))))
    (hF : F = (varsTL [] (t :: ps.map (·.2))).filter (fun x => !decide (x ∈ varsTL [] (t :: ps.map (·.2))))) (hm : m ≤ 26) (hR : R = names F m) (hl : R.length = L.length) (hy : ys.Pairwise ltP) (hym : ∀ p, p ∈ ys ↔ p ∈ mapE (look (zipE L R)) ps)
    (hxm2 : ∀ p, p ∈ xs2 ↔ p ∈ ps2) (hL2 : L2 = (varsTL [] (t2 :: xs2.map (·.2))).filter (fun x => decide (x ∈ varsTL [] (t2 :: ps2.map (·.2)))))
    (hF2 : F2 = (varsTL [] (t2 :: ps2.map (·.2))).filter (fun x => !decide (x ∈ varsTL [] (t2 :: ps2.map (·.2))))) (hR2 : R2 = names F2 m2) (hl2 : R2.length = L2.length) (hy2 : ys2.Pairwise ltP) (hym2 : ∀ p, p ∈ ys2 ↔ p ∈ mapE (look (zipE L2 R2)) ps2) :
    R2 = R ∧ apT (look (zipE L2 R2)) t2 = apT (look (zipE L R)) t ∧ ys2 = ys := by
  rw [filter_none (fun _ h => h)] at hF hF2
  rw [filter_all fun x hx => (vars_same hxm x).1 hx] at hL
  rw [filter_all fun x hx => (vars_same hxm2 x).1 hx] at hL2
  subst hF hF2
  have hlfx : ∀ p ∈ xs, leaf p.2 := fun p hp => hlf p ((hxm p).1 hp)
  have innerx : ∀ c x, (c, var x) ∈ xs → x ∈ varsT [] t := fun c x h => (varsT_mem x t []).2 (.inr (inner _ ((hxm _).1 h) x (by simp [var, occ])))
  have e1 : L = varsT [] t := by
    rw [hL]; simp only [varsTL]
    rw [vars_fresh xs _ hlfx]
    have : freshN (varsT [] t) xs = [] := List.eq_nil_iff_forall_not_mem.2 fun x hx => by
      obtain ⟨h1, c, h2⟩ := (freshN_mem xs _ hlfx x).1 hx
      exact h1 (innerx c x h2)
    rw [this, List.append_nil]
  have hmm : ∀ p, p ∈ ps2 → ∃ q ∈ ps, p.1 = q.1 ∧ ((∃ x, q.2 = var x ∧ p.2 = var (rn A B x)) ∨ ∃ n, p.2 = .mk 2 n []) := fun p hp => by
    have := (hps2 p).1 hp
    simp only [mapE, List.mem_map] at this
    obtain ⟨q, hq, rfl⟩ := this
    refine ⟨q, hq, rfl, ?_⟩
    rcases hlf q hq with ⟨x, e⟩ | ⟨n, e⟩
    · exact .inl ⟨x, e, by rw [e]; exact rn_leaf hA hAB x⟩
    · exact .inr ⟨n, by rw [e]; exact rn_con A B n⟩
  have hlfx2 : ∀ p ∈ xs2, leaf p.2 := fun p hp => by
    obtain ⟨q, _, _, h⟩ := hmm p ((hxm2 p).1 hp)
    rcases h with ⟨x, _, e⟩ | ⟨n, e⟩
    · exact .inl ⟨_, e⟩
    · exact .inr ⟨_, e⟩
  have e0 : varsT [] t2 = (varsT [] t).map (rn A B) := by
    rw [ht2, rn_ty hA hAB ht]
    simpa using vars_map (rn_inj hA hB hAB) t [] ht (by simp) htA
  have e2 : L2 = L.map (rn A B) := by
    rw [hL2, e1, ← e0]; simp only [varsTL]
    rw [vars_fresh xs2 _ hlfx2]
    have : freshN (varsT [] t2) xs2 = [] := List.eq_nil_iff_forall_not_mem.2 fun x hx => by
      obtain ⟨h1, c, h2⟩ := (freshN_mem xs2 _ hlfx2 x).1 hx
      obtain ⟨q, hq, _, h⟩ := hmm _ ((hxm2 _).1 h2)
      rcases h with ⟨y, ey, e⟩ | ⟨n, e⟩
      · simp only [var, Ty.mk.injEq, true_and, and_true] at e
        apply h1
        rw [e0, e]
        exact List.mem_map_of_mem ((varsT_mem y t []).2 (.inr (inner q hq y (by rw [ey]; simp [var, occ]))))
      · simp [var] at e
    rw [this, List.append_nil]
  have hRR : R2 = R := by
    have h1 : m2 = m := by rw [← names_len m2, ← hR2, hl2, e2, List.length_map, ← hl, hR, names_len]
    rw [hR2, h1, ← hR]
  subst hRR
  have hLn : L.Nodup := by rw [e1]; exact varsT_nodup _ _ (by simp)
  have hvL : ∀ x, occ x t = true → x ∈ L := fun x hx => by rw [e1]; exact (varsT_mem x t []).2 (.inr hx)
  have hLA : ∀ x ∈ L, x ∈ A := fun x hx => by
    rw [e1] at hx
    exact ((varsT_mem x t []).1 hx).elim (fun h => by cases h) (htA x)
  refine ⟨rfl, by rw [ht2]; exact comp_ty hA hB hAB hLn hLA hl.symm e2 ht hvL, uniqP hy2 hy fun p => ?_⟩
  rw [hym2, hym, mapE_mem hps2]
  have : mapE (look (zipE L2 R2)) (mapE (look (zipE A B)) ps) = mapE (look (zipE L R2)) ps := by
    simp only [mapE, List.map_map]
    refine List.map_congr_left fun q hq => ?_
    simp only [Function.comp]
    rw [comp_ty hA hB hAB hLn hLA hl.symm e2 (hfp q hq) fun x hx => hvL x (inner q hq x hx)]
  rw [this]

end Go.Ot

namespace Go.Ot
open Go.Am Go.Proofs
set_option maxRecDepth 100000

section
variable {bs : List Nat} {h : List Ob} {Q : V → List Ob → Prop}

theorem texts8 (l : List Nam) (hl : l.length < 1000000) (hq : Q (.bool true) h) : CallA ap 31 0 bs [.sl .frozen (l.map .str), .sl .frozen (l.map .str)] h Q := by
  refine CallA.code (af := ac31) rfl (Nat.le_of_ble_eq_true rfl) ?_
  simp [ac31]
  obtain ⟨I, hI⟩ : ∃ I : Nat → St → Prop, ∀ n s, I n s ↔ (∃ i : Nat, i + n = l.length ∧ s.h = h ∧ s.r 0 = .sl .frozen (l.map .str) ∧ s.r 1 = .sl .frozen (l.map .str) ∧ s.r 5 = .int .i64 i) := ⟨_, fun _ _ => Iff.rfl⟩
  refine loop_ind (CallA.hle ap) I ?_ (n := l.length) ((hI _ _).2 ⟨0, by simp⟩)
  rintro n ⟨r, lo, h'⟩ hst
  obtain ⟨i, hin, hh, r0, r1, r5⟩ := (hI _ _).1 hst
  simp only at hh r0 r1 r5
  subst hh
  simp [forget, noLoc, r0, r5]
  refine condA_dec (fun c1 => ?_) fun c1 => ?_
  · have hi : i < l.length := by omega
    have hw : IntKind.wrap .i64 ((i : Int) + 1) = ((i + 1 : Nat) : Int) := by rw [wrap64 (by omega) (by omega)]; omega
    simp [r0, r1, r5, hi, hw]
    exact ⟨n - 1, by omega, (hI _ _).2 ⟨i + 1, by omega, rfl, by simp [r0, r1]⟩⟩
  · simp
    exact hq

theorem equalS (l : List Nam) (hl : l.length < 1000000) (hq : Q (.bool true) h) : CallA ap 58 0 bs [.sl .frozen (l.map .str), .sl .frozen (l.map .str)] h Q := by
  refine CallA.code (af := ac58) rfl (Nat.le_of_ble_eq_true rfl) ?_
  simp [ac58]
  obtain ⟨I, hI⟩ : ∃ I : Nat → St → Prop, ∀ n s, I n s ↔ (∃ i : Nat, i + n = l.length ∧ s.r 0 = .sl .frozen (l.map .str) ∧ s.r 1 = .sl .frozen (l.map .str) ∧ s.r 12 = .int .i64 l.length ∧ s.r 13 = .int .i64 i ∧ s.h = h) := ⟨_, fun _ _ => Iff.rfl⟩
  refine loop_ind (CallA.hle ap) I ?_ (n := l.length) ((hI _ _).2 ⟨0, by simp⟩)
  rintro n ⟨r, lo, h'⟩ hst
  obtain ⟨i, hin, r0, r1, r12, r13, rfl⟩ := (hI _ _).1 hst
  simp only at r0 r1 r12 r13
  simp [forget, noLoc, r12, r13]
  refine condA_dec (fun h1 => ?_) fun h1 => ?_
  · have hi : i < l.length := by omega
    have hw : IntKind.wrap .i64 ((i : Int) + 1) = ((i + 1 : Nat) : Int) := by rw [wrap64 (by omega) (by omega)]; omega
    simp [r0, r1, r13, hi, hw]
    exact ⟨n - 1, by omega, (hI _ _).2 ⟨i + 1, by omega, by simp [r0, r1, r12]⟩⟩
  · simp
    exact hq

theorem sameD (p : Nam × Ty) (hp : okT p.2 = true) (hq : Q (.bool true) h) : CallA ap 61 0 bs [paV p, paV p] h Q := by
  refine CallA.code (af := ac61) rfl (Nat.le_of_ble_eq_true rfl) ?_
  simp [ac61, pa_cells, pa_take, pa_agg, pa_demote, pa_loc]
  refine compareP p p hp hp ?_
  rw [cmpP_refl]
  simp
  exact hq

theorem equalF (ps : En) (hl : ps.length < 1000000) (hf : ∀ p ∈ ps, okT p.2 = true) (hq : Q (.bool true) h) : CallA ap 60 0 bs [.sl .frozen (paVs ps), .sl .frozen (paVs ps), .fn 61 []] h Q := by
  refine CallA.code (af := ac60) rfl (Nat.le_of_ble_eq_true rfl) ?_
  simp [ac60, pas_length]
  obtain ⟨I, hI⟩ : ∃ I : Nat → St → Prop, ∀ n s, I n s ↔ (∃ i : Nat, i + n = ps.length ∧ s.r 1 = .sl .frozen (paVs ps) ∧ s.r 2 = .fn 61 [] ∧ s.r 15 = .sl .frozen (paVs ps) ∧ s.r 16 = .int .i64 ps.length ∧ s.r 17 = .int .i64 i ∧ s.h = h) := ⟨_, fun _ _ => Iff.rfl⟩
  refine loop_ind (CallA.hle ap) I ?_ (n := ps.length) ((hI _ _).2 ⟨0, by simp⟩)
  rintro n ⟨r, lo, h'⟩ hst
  obtain ⟨i, hin, r1, r2, r15, r16, r17, rfl⟩ := (hI _ _).1 hst
  simp only at r1 r2 r15 r16 r17
  simp [forget, noLoc, r16, r17]
  refine condA_dec (fun h1 => ?_) fun h1 => ?_
  · have hi : i < ps.length := by omega
    have g1 : (paVs ps)[i]? = some (paV ps[i]) := by simp [paVs, hi]
    have hw : IntKind.wrap .i64 ((i : Int) + 1) = ((i + 1 : Nat) : Int) := by rw [wrap64 (by omega) (by omega)]; omega
    have hfi := hf _ (List.getElem_mem hi)
    generalize ps[i] = p at *
    simp [r1, r2, r15, r17, g1, pa_cells, pa_take, pa_agg, pa_demote, pa_loc, splice]
    refine sameD p hfi ?_
    simp [r17, hw]
    exact ⟨n - 1, by omega, (hI _ _).2 ⟨i + 1, by omega, by simp [r1, r2, r15, r16]⟩⟩
  · simp
    exact hq

theorem sameScheme (R : List Nam) (hR : R.length < 1000000) (ys : En) (hy : ys.length ≤ 1000) (hf : ∀ p ∈ ys, fine p.2 = true) (t : Ty) (ht : fine t = true) (hq : Q (.bool true) h) :
    CallA ap 26 0 bs [.agg ([.sl .frozen (R.map .str), .sl .frozen (paVs ys)] ++ (tyV t).cells), .agg ([.sl .frozen (R.map .str), .sl .frozen (paVs ys)] ++ (tyV t).cells)] h Q := by
  refine CallA.code (af := ac26) rfl (Nat.le_of_ble_eq_true rfl) ?_
  obtain ⟨k, nn, l⟩ := t
  have e2 : V.agg [.int .i64 k, .str nn, .sl .frozen (tyVs l)] = tyV (.mk k nn l) := by simp [tyV]
  simp [ac26, tyV, dem_strs]
  refine texts8 R hR ?_
  simp [pas_demote]
  refine preds2 ys hy hf ?_
  simp [demote_tys]
  rw [e2]
  refine sameOk (fine_ok _ ht) (fine_ok _ ht) _ _ _ ?_
  rw [(beqT_iff _ _).2 rfl]
  simp
  exact hq

theorem sameS {A A2 : List Nam} (hA : A.length ≤ 12) (hA2 : A2.length ≤ 12) (N N2 : List Nam) (hN : N.length < 1000000) (hN2 : N2.length < 1000000) (t t2 : Ty) (ps ps2 : En) (hl : ps.length < 20) (hl2 : ps2.length < 20) (hf : ∀ u ∈ t :: ps.map (·.2), fine u = true ∧ good A u) (hf2 : ∀ u ∈ t2 :: ps2.map (·.2), fine u = true ∧ good A2 u)
    (heq : ∀ (xs : En) (L F R : List Nam) (ys : En) (m : Nat), xs.length ≤ ps.length → xs.Pairwise ltP → (∀ p, p ∈ xs ↔ p ∈ ps) → L = (varsTL [] (t :: xs.map (·.2))).filter (fun x => decide (x ∈ N)) →
      F = (varsTL [] (t :: ps.map (·.2))).filter (fun x => !decide (x ∈ N)) → m ≤ 26 → R = names F m → R.length = L.length →
      ys.length ≤ ps.length → ys.Pairwise ltP → (∀ p, p ∈ ys ↔ p ∈ mapE (look (zipE L R)) ps) →
      ∀ (xs2 : En) (L2 F2 R2 : List Nam) (ys2 : En) (m2 : Nat), xs2.length ≤ ps2.length → xs2.Pairwise ltP → (∀ p, p ∈ xs2 ↔ p ∈ ps2) → L2 = (varsTL [] (t2 :: xs2.map (·.2))).filter (fun x => decide (x ∈ N2)) →
      F2 = (varsTL [] (t2 :: ps2.map (·.2))).filter (fun x => !decide (x ∈ N2)) → m2 ≤ 26 → R2 = names F2 m2 → R2.length = L2.length →
      ys2.length ≤ ps2.length → ys2.Pairwise ltP → (∀ p, p ∈ ys2 ↔ p ∈ mapE (look (zipE L2 R2)) ps2) →
      R2 = R ∧ apT (look (zipE L2 R2)) t2 = apT (look (zipE L R)) t ∧ ys2 = ys)
    (hq : Q (.bool true) h) : CallA ap 25 0 bs [.agg ([.sl .frozen (N.map .str), .sl .frozen (paVs ps)] ++ (tyV t).cells), .agg ([.sl .frozen (N2.map .str), .sl .frozen (paVs ps2)] ++ (tyV t2).cells)] h Q := by
  refine CallA.code (af := ac25) rfl (Nat.le_of_ble_eq_true rfl) ?_
  have hfp : ∀ p ∈ ps, fine p.2 = true := fun p hp => (hf p.2 (by simp; exact .inr ⟨p.1, hp⟩)).1
  have hft : fine t = true := (hf _ (by simp)).1
  obtain ⟨k, nn, l⟩ := t
  obtain ⟨k2, nn2, l2⟩ := t2
  have e2 : V.agg ([.sl .frozen (N.map .str), .sl .frozen (paVs ps)] ++ (tyV (.mk k nn l)).cells) = .agg [.sl .frozen (N.map .str), .sl .frozen (paVs ps), .int .i64 k, .str nn, .sl .frozen (tyVs l)] := by simp [tyV]
  have e3 : V.agg ([.sl .frozen (N2.map .str), .sl .frozen (paVs ps2)] ++ (tyV (.mk k2 nn2 l2)).cells) = .agg [.sl .frozen (N2.map .str), .sl .frozen (paVs ps2), .int .i64 k2, .str nn2, .sl .frozen (tyVs l2)] := by simp [tyV]
  simp [ac25, tyV, demote_tys, pas_demote, dem_strs]
  rw [← e2]
  refine canonC hA N hN (.mk k nn l) ps hl hf fun xs L F R ys m g1 g2 g3 g4 g5 g6 g7 g8 g9 g10 g11 => ?_
  simp [demote_tys, pas_demote, dem_strs]
  rw [← e3]
  refine canonC hA2 N2 hN2 (.mk k2 nn2 l2) ps2 hl2 hf2 fun xs2 L2 F2 R2 ys2 m2 j1 j2 j3 j4 j5 j6 j7 j8 j9 j10 j11 => ?_
  obtain ⟨q1, q2, q3⟩ := heq xs L F R ys m g1 g2 g3 g4 g5 g6 g7 g8 g9 g10 g11 xs2 L2 F2 R2 ys2 m2 j1 j2 j3 j4 j5 j6 j7 j8 j9 j10 j11
  rw [q2]
  subst q1 q3
  have hR : R2.length ≤ 26 := by
    rw [g7]; simp only [names, List.length_map]
    exact Nat.le_trans (List.length_filter_le _ _) (by simp; exact g6)
  have hfT : fine (apT (look (zipE L R2)) (.mk k nn l)) = true := ren_fine hft
  have hfy : ∀ p ∈ ys2, okT p.2 = true := fun p hp => by
    have := (g11 p).1 hp
    simp only [mapE, List.mem_map] at this
    obtain ⟨q, hq, rfl⟩ := this
    exact fine_ok _ (ren_fine (hfp q hq))
  generalize apT (look (zipE L R2)) (.mk k nn l) = T at *
  obtain ⟨k', nn', l'⟩ := T
  have e4 : V.agg [.int .i64 k', .str nn', .sl .frozen (tyVs l')] = tyV (.mk k' nn' l') := by simp [tyV]
  simp [splice, tyV, dem_strs]
  refine equalS R2 (by omega) ?_
  simp [demote_tys]
  rw [e4]
  refine same12 _ _ (fine_ok _ hfT) (fine_ok _ hfT) ?_
  have e0 : cmpT (.mk k' nn' l') (.mk k' nn' l') = 0 := by have := ty_anti (.mk k' nn' l') (.mk k' nn' l'); omega
  simp [e0, tyV, pas_demote]
  refine equalF ys2 (by omega) hfy ?_
  simp
  exact hq

end
end Go.Ot
