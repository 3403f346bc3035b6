/- A variable is bound; two types are made one: on the abstract machine. -/
import Derived.Test.YtabjkoehbbobdaaDoorHtX3
namespace Go.Ht
open Go.Am Go.Proofs
set_option maxRecDepth 100000

theorem nid_of {x : Nam} {t : Ty} (h : occ x t = false) : nid (x, t) = true := by
  obtain ⟨k, n, l⟩ := t
  simp only [nid, Bool.or_eq_true, bne_iff_ne]
  by_cases hk : k = 1
  · subst hk
    right
    intro e
    simp [occ, e] at h
  · exact .inl hk

theorem good_arg {A : List Nam} {k : Int} {n : Nam} {l : List Ty} (hk : k ≠ 1) (h : good A (.mk k n l)) {p : Ty} (hp : p ∈ l) : good A p := by
  have h1 := h.1
  simp only [no4, Bool.and_eq_true] at h1
  refine ⟨no4L_mem h1.2 hp, fun y hy => h.2 y ?_⟩
  simp only [occ, if_neg hk]
  clear h h1
  induction l with
  | nil => simp at hp
  | cons a l ih =>
    simp only [occL, Bool.or_eq_true]
    rcases List.mem_cons.1 hp with rfl | hp
    · exact .inl hy
    · exact .inr (ih hp)

theorem dem_cells (t : Ty) : demoteL (tyV t).cells = (tyV t).cells := by
  cases t
  simp [tyV, demoteL, V.demote, demote_tys]

section
variable {bs : List Nat} {h : List Ob} {Q : V → List Ob → Prop}

theorem bind39 (o : Option Nat) (f : En) (x : Nam) (t : Ty) (hs : Solved f) (hr : RepS h o f) (hx : look f x = none) (hn : Norm f t) (ht : fine t = true) (h4 : no4 t = true) (hlen : f.length < 100000)
    (hocc : occ x t = true → ∀ tl, Q (.tup [.agg [.map none], .sent 1]) (h ++ tl))
    (hq : occ x t = false → ∀ (tl : List Ob) (q : Nat) (f' : En), (h ++ tl)[q]? = some (mapOb f') → Bound f x t f' → f'.length = f.length + 1 → Q (.tup [.agg [.map (some q)], .nili]) (h ++ tl)) :
    CallA ap 55 0 bs [.agg [.map o], .str x, tyV t] h Q := by
  refine CallA.code (af := ac55) rfl (Nat.le_of_ble_eq_true rfl) ?_
  simp [ac55, splice, ty_take, ty_agg, demote_ty]
  refine hasOk ht h4 _ _ _ x ?_
  cases ho : occ x t with
  | true =>
    simp [splice]
    have := hocc ho []
    simpa using this
  | false =>
    simp [splice, ty_take, ty_agg, demote_ty, dem_cells]
    have hw : paVs [(x, t)] = [V.agg (V.str x :: (tyV t).cells)] := rfl
    have hnid := nid_of ho
    have hof : ∀ (bs : List Nat) (Q' : V → List Ob → Prop), Q' (.agg [.map (some h.length)]) (h ++ [mapOb [(x, t)], gOb [(x, .bool true)]]) → CallA ap 71 0 bs [.sl .frozen [V.agg (V.str x :: (tyV t).cells)]] h Q' := fun bs Q' hq' => by
      have := of61 (bs := bs) (h := h) (Q := Q') [(x, t)] (by simp [Uniq]) (by simp [fine_ok _ ht]) (by simp) (by simpa [hnid] using hq')
      exact this
    refine hof _ _ ?_
    simp [splice]
    refine then47 o f x t h.length hs (hr.up _) hx hn ht ho (by simp) hlen fun tl q f' h1 h2 h3 => ?_
    simp [splice]
    have := hq ho (mapOb [(x, t)] :: gOb [(x, .bool true)] :: tl) q f' (by simpa using h1) h2 h3
    simpa using this

def OneS (A : List Nam) (f : En) (a b : Ty) : Prop := ∀ (bs : List Nat) (h : List Ob) (Q : V → List Ob → Prop) (o : Option Nat), RepS h o f →
  (∀ (tl : List Ob) (o' : Option Nat) (f' : En), RepS (h ++ tl) o' f' → Fo A f a b f' → Q (.tup [.agg [.map o'], .nili]) (h ++ tl)) →
  (∀ (tl : List Ob) (g : Nat), Fail f a b g → Q (.tup [.agg [.map none], .sent g]) (h ++ tl)) → CallA ap 44 0 bs [.agg [.map o], tyV a, tyV b] h Q

theorem one_step (A : List Nam) (f : En) (a b : Ty) (hf : Fit A f) (ga : good A a) (fa : fine a = true) (gb : good A b) (fb : fine b = true)
    (ih : ∀ (f' : En) (p q : Ty), Fit A f' → good A p → fine p = true → good A q → fine q = true → U A f' ≤ U A f → (sge f' = sge f ∧ szN (hat (sge f) p) < szN (hat (sge f) a)) ∨ U A f' < U A f → OneS A f' p q) : OneS A f a b := by
  intro bs h Q o hr hq hno
  refine CallA.code (af := ac44) rfl (Nat.le_of_ble_eq_true rfl) ?_
  simp [ac44, splice, ty_take, ty_agg, demote_ty]
  refine applyR fa hf.s.ok hr ?_
  simp [splice, ty_take, ty_agg, demote_ty]
  refine applyR fb hf.s.ok hr ?_
  have hA : ∃ a1, a1 = hat (sge f) a := ⟨_, rfl⟩
  have hB : ∃ b1, b1 = hat (sge f) b := ⟨_, rfl⟩
  obtain ⟨a1, ea⟩ := hA
  obtain ⟨b1, eb⟩ := hB
  have na : Norm f a1 := ea ▸ hf.s.norm a
  have nb : Norm f b1 := eb ▸ hf.s.norm b
  have fa1 : fine a1 = true := ea ▸ sge_hat_fine hf.s.ok fa
  have fb1 : fine b1 = true := eb ▸ sge_hat_fine hf.s.ok fb
  have ga1 : good A a1 := ea ▸ good_hat hf ga
  have gb1 : good A b1 := eb ▸ good_hat hf gb
  have ha1 : hat (sge f) a1 = a1 := na.hat fa1
  have hb1 : hat (sge f) b1 = b1 := nb.hat fb1
  rw [← ea, ← eb]
  have hl : f.length < 100000 := by have := hf.len; omega
  obtain ⟨k, n, l⟩ := a1
  obtain ⟨k', n', l'⟩ := b1
  have fit0 : ∀ x : Nam, occ x (.mk k n l) = true → look f x = none := na
  by_cases hk : k = 1
  · subst hk
    obtain rfl := fine_var' fa1
    have hx : look f n = none := na n (by simp [occ])
    by_cases hk' : k' = 1 ∧ n = n'
    · obtain ⟨rfl, rfl⟩ := hk'
      obtain rfl := fine_var' fb1
      simp [tyV, splice, demote_tys]
      have := hq [] o f (by simpa using hr) (fo_refl hf (by rw [← ea, ← eb]) (.vv ea.symm eb.symm))
      simpa using this
    · have hne : Ty.mk k' n' l' ≠ var n := fun e => by
        simp only [var, Ty.mk.injEq] at e
        exact hk' ⟨e.1, e.2.1.symm⟩
      have bnd : ∀ (bs' : List Nat) (Q' : V → List Ob → Prop), (∀ tl g, Q (.tup [.agg [.map none], .sent g]) (h ++ tl) → Q' (.tup [.agg [.map none], .sent g]) (h ++ tl)) → (∀ tl o', Q (.tup [.agg [.map o'], .nili]) (h ++ tl) → Q' (.tup [.agg [.map o'], .nili]) (h ++ tl)) → CallA ap 55 0 bs' [.agg [.map o], .str n, tyV (.mk k' n' l')] h Q' := fun bs' Q' hQ1 hQ2 =>
        bind39 o f n _ hf.s hr hx nb fb1 gb1.1 hl
          (fun ho tl => hQ1 _ _ (hno tl 1 ⟨.occL ea.symm eb.symm hne ho, none_occ ho hne fb1 (.inl ⟨ea.symm, eb.symm⟩), fun _ _ => rfl, fun _ _ _ _ _ _ h1 _ h2 => absurd (by rw [← ea] at h1; simp only [Ty.mk.injEq] at h1; exact h1.1.symm) h2⟩))
          (fun ho tl q f' h1 h2 h3 => hQ2 _ _ (hq tl (some q) f' (.inr ⟨q, rfl, h1⟩) (fo_bind hf hx (ga1.2 n (by simp [occ])) fb1 gb1 nb ho h2 h3 (.inl ⟨ea.symm, eb.symm⟩) (.bindL ea.symm eb.symm hne ho))))
      simp only [tyV] at bnd
      by_cases h1 : k' = 1
      · have h2 : ¬ n = n' := fun e => hk' ⟨h1, e⟩
        subst h1
        have h2' : (n == n') = false := by simpa using h2
        simp [tyV, splice, demote_tys, h2']
        refine bnd _ _ (fun tl g hh => ?_) (fun tl o' hh => ?_) <;> simpa [splice] using hh
      · have h1' : (k' == 1) = false := by simpa using h1
        simp [tyV, splice, demote_tys, h1']
        refine bnd _ _ (fun tl g hh => ?_) (fun tl o' hh => ?_) <;> simpa [splice] using hh
  · have hkb : (k == 1) = false := by simpa using hk
    by_cases hk' : k' = 1
    · subst hk'
      obtain rfl := fine_var' fb1
      have hx : look f n' = none := nb n' (by simp [occ])
      have hnv : ∀ y, Ty.mk k n l ≠ var y := fun y e => by
        simp only [var, Ty.mk.injEq] at e
        exact hk e.1
      have hne := hnv n'
      have bnd : ∀ (bs' : List Nat) (Q' : V → List Ob → Prop), (∀ tl g, Q (.tup [.agg [.map none], .sent g]) (h ++ tl) → Q' (.tup [.agg [.map none], .sent g]) (h ++ tl)) → (∀ tl o', Q (.tup [.agg [.map o'], .nili]) (h ++ tl) → Q' (.tup [.agg [.map o'], .nili]) (h ++ tl)) → CallA ap 55 0 bs' [.agg [.map o], .str n', tyV (.mk k n l)] h Q' := fun bs' Q' hQ1 hQ2 =>
        bind39 o f n' _ hf.s hr hx na fa1 ga1.1 hl
          (fun ho tl => hQ1 _ _ (hno tl 1 ⟨.occR eb.symm ea.symm hnv ho, none_occ ho hne fa1 (.inr ⟨eb.symm, ea.symm⟩), fun _ _ => rfl, fun _ _ _ _ _ _ _ h1 _ h2 => absurd (by rw [← eb] at h1; simp only [Ty.mk.injEq] at h1; exact h1.1.symm) h2⟩))
          (fun ho tl q f' h1 h2 h3 => hQ2 _ _ (hq tl (some q) f' (.inr ⟨q, rfl, h1⟩) (fo_bind hf hx (gb1.2 n' (by simp [occ])) fa1 ga1 na ho h2 h3 (.inr ⟨eb.symm, ea.symm⟩) (.bindR eb.symm ea.symm hnv ho))))
      simp only [tyV] at bnd
      simp [tyV, splice, demote_tys, hkb]
      refine bnd _ _ (fun tl g hh => ?_) (fun tl o' hh => ?_) <;> simpa [splice] using hh
    · have hkb' : (k' == 1) = false := by simpa using hk'
      by_cases hsame : k = k' ∧ n = n' ∧ l.length = l'.length
      · obtain ⟨rfl, rfl, hll⟩ := hsame
        have hlen2 : l.length ≤ 2 := (okT_len (fine_ok _ fa1)).1
        have fl : ∀ p ∈ l, fine p = true := fun p hp => by
          simp only [fine, Bool.and_eq_true] at fa1
          exact fineL_mem fa1.2 hp
        have fl' : ∀ p ∈ l', fine p = true := fun p hp => by
          simp only [fine, Bool.and_eq_true] at fb1
          exact fineL_mem fb1.2 hp
        have gl : ∀ p ∈ l, good A p := fun p hp => good_arg hk ga1 hp
        have gl' : ∀ p ∈ l', good A p := fun p hp => good_arg hk gb1 hp
        rw [hat_mk _ hk] at ha1
        simp only [Ty.mk.injEq, true_and] at ha1
        have noOcc : ∀ g : Nat, ∀ x, hat (sge f) a = var x ∨ hat (sge f) b = var x → g = 1 := fun g x hx => by
          rw [← ea, ← eb] at hx
          simp only [var, Ty.mk.injEq] at hx
          rcases hx with hx | hx <;> exact absurd hx.1 hk
        have noHead : ∀ g : Nat, ∀ k2 n2 l2 k' n' l2', hat (sge f) a = .mk k2 n2 l2 → hat (sge f) b = .mk k' n' l2' → k2 ≠ 1 → k' ≠ 1 → ¬ (k2 = k' ∧ n2 = n' ∧ l2.length = l2'.length) → g = 0 := fun g k2 n2 l2 k' n' l2' h1 h2 _ _ hne => by
          rw [← ea] at h1
          rw [← eb] at h2
          simp only [Ty.mk.injEq] at h1 h2
          obtain ⟨rfl, rfl, rfl⟩ := h1
          obtain ⟨rfl, rfl, rfl⟩ := h2
          exact absurd ⟨rfl, rfl, hll⟩ hne
        match l, l', hll, hlen2, fl, fl', gl, gl', ha1 with
        | [], [], _, _, _, _, _, _, _ =>
          simp [tyV, tyVs, splice, demote_tys, hkb]
          refine wpA_loop (CallA.hle ap) ?_
          simp [forget, noLoc, locOf, splice]
          have := hq [] o f (by simpa using hr) (fo_refl hf (by rw [← ea, ← eb]) (.a0 ea.symm eb.symm hk))
          simpa using this
        | [p], [q], _, _, fl, fl', gl, gl', ha1 =>
          have ep : hat (sge f) p = p := by rw [hatL_1] at ha1; simpa using ha1
          have iho := ih f p q hf (gl p (by simp)) (fl p (by simp)) (gl' q (by simp)) (fl' q (by simp)) (Nat.le_refl _) (.inl ⟨rfl, by rw [← ea, ep]; simp only [szN, szL]; omega⟩)
          simp [tyV, tyVs, splice, demote_tys, hkb, demote_ty, demoteL, V.demote]
          refine wpA_loop (CallA.hle ap) ?_
          simp [forget, noLoc, locOf, tyVs, ty_sel, splice, ty_take, ty_agg, demote_ty]
          refine iho _ _ _ o hr (fun tl o1 f1 hr1 hf1 => ?_) (fun tl g hn1 => ?_)
          · simp [w1, splice]
            refine wpA_loop (CallA.hle ap) ?_
            simp [forget, noLoc, locOf, splice]
            exact hq tl o1 f1 hr1 (fo_1 ea.symm eb.symm hk hf1)
          · simp [splice]
            exact hno tl g ⟨.a1 ea.symm eb.symm hk hn1.uni, none_1 ea.symm eb.symm hk hn1.none, noOcc g, noHead g⟩
        | [p, p'], [q, q'], _, _, fl, fl', gl, gl', ha1 =>
          have ep : hat (sge f) p = p ∧ hat (sge f) p' = p' := by rw [hatL_2] at ha1; simpa using ha1
          have iho := ih f p q hf (gl p (by simp)) (fl p (by simp)) (gl' q (by simp)) (fl' q (by simp)) (Nat.le_refl _) (.inl ⟨rfl, by rw [← ea, ep.1]; simp only [szN, szL]; omega⟩)
          simp [tyV, tyVs, splice, demote_tys, hkb, demote_ty, demoteL, V.demote]
          refine wpA_loop (CallA.hle ap) ?_
          simp [forget, noLoc, locOf, tyVs, ty_sel, splice, ty_take, ty_agg, demote_ty]
          refine iho _ _ _ o hr (fun tl o1 f1 hr1 hf1 => ?_) (fun tl g hn1 => ?_)
          · simp [w1, splice]
            have iho2 := ih f1 p' q' hf1.fit (gl p' (by simp)) (fl p' (by simp)) (gl' q' (by simp)) (fl' q' (by simp)) hf1.leU (hf1.less.imp (fun e => ⟨e, by rw [← ea, ep.2]; simp only [szN, szL]; omega⟩) id)
            refine wpA_loop (CallA.hle ap) ?_
            simp [forget, noLoc, locOf, tyVs, ty_sel, splice, ty_take, ty_agg, demote_ty]
            refine iho2 _ _ _ o1 hr1 (fun tl2 o2 f2 hr2 hf2 => ?_) (fun tl2 g hn2 => ?_)
            · simp [w2, splice]
              refine wpA_loop (CallA.hle ap) ?_
              simp [forget, noLoc, locOf, splice]
              have := hq (tl ++ tl2) o2 f2 (by simpa using hr2) (fo_2 ea.symm eb.symm hk hf1 hf2)
              simpa using this
            · simp [splice]
              have := hno (tl ++ tl2) g ⟨.a2 ea.symm eb.symm hk hf1.uni hn2.uni, none_22 ea.symm eb.symm hk hf1 hn2.none, noOcc g, noHead g⟩
              simpa using this
          · simp [splice]
            exact hno tl g ⟨.a2e ea.symm eb.symm hk hn1.uni, none_21 ea.symm eb.symm hk hn1.none, noOcc g, noHead g⟩
        | _ :: _ :: _ :: _, _, _, h2, _, _, _, _, _ => simp at h2
      · have noOcc : ∀ x, hat (sge f) a = var x ∨ hat (sge f) b = var x → 0 = 1 := fun x hx => by
          rw [← ea, ← eb] at hx
          simp only [var, Ty.mk.injEq] at hx
          rcases hx with hx | hx
          · exact absurd hx.1 hk
          · exact absurd hx.1 hk'
        have hno' := hno [] 0 ⟨.head ea.symm eb.symm hk hk' hsame, none_mk ea.symm eb.symm hk hk' hsame, noOcc, fun _ _ _ _ _ _ _ _ _ _ _ => rfl⟩
        simp only [List.append_nil] at hno'
        by_cases h1 : k = k'
        · subst h1
          by_cases h2 : n = n'
          · subst h2
            have h3 : ¬ l.length = l'.length := fun e => hsame ⟨rfl, rfl, e⟩
            have h3' : ((l.length : Int) != (l'.length : Int)) = true := by simp only [bne_iff_ne, ne_eq]; omega
            simp [tyV, splice, demote_tys, hkb, h3']
            simpa using hno'
          · have h2' : (n != n') = true := by simpa using h2
            have h2'' : (n == n') = false := by simpa using h2
            simp [tyV, splice, demote_tys, hkb, h2', h2'']
            simpa using hno'
        · have h1' : (k != k') = true := by simpa using h1
          simp [tyV, splice, demote_tys, hkb, hkb', h1']
          simpa using hno'

theorem one33 (A : List Nam) : ∀ (m n : Nat) (f : En) (a b : Ty), U A f < m → szN (hat (sge f) a) < n → Fit A f → good A a → fine a = true → good A b → fine b = true → OneS A f a b := by
  intro m
  induction m with
  | zero => intro n f a b h; omega
  | succ m ihm =>
    intro n
    induction n with
    | zero => intro f a b _ h; omega
    | succ n ihn =>
      intro f a b hU hs hf ga fa gb fb
      refine one_step A f a b hf ga fa gb fb fun f' p q hf' gp fp gq fq hle hor => ?_
      rcases hor with ⟨e, hlt⟩ | hlt
      · exact ihn f' p q (by omega) (by rw [e]; omega) hf' gp fp gq fq
      · exact ihm _ f' p q (by omega) (Nat.lt_succ_self _) hf' gp fp gq fq

theorem oneOk {A : List Nam} {f : En} {a b : Ty} (hf : Fit A f) (ga : good A a) (fa : fine a = true) (gb : good A b) (fb : fine b = true) : OneS A f a b :=
  one33 A _ _ f a b (Nat.lt_succ_self _) (Nat.lt_succ_self _) hf ga fa gb fb

theorem fit_nil {A : List Nam} (hA : A.length ≤ 1000) : Fit A [] :=
  ⟨⟨enOk_nil, fun x u h => by simp [look] at h⟩, fun x u h => by simp [look] at h, by
    have : U A [] ≤ A.length := List.length_filter_le _ _
    simpa using Nat.le_trans this hA⟩

/-- What making two types one comes to. -/
theorem unify10 {A : List Nam} (hA : A.length ≤ 1000) {a b : Ty} (ga : good A a) (fa : fine a = true) (gb : good A b) (fb : fine b = true)
    (hq : ∀ (tl : List Ob) (o : Option Nat) (f : En), RepS (h ++ tl) o f → Fo A [] a b f → Q (.tup [.agg [.map o], .nili]) (h ++ tl))
    (hno : ∀ (tl : List Ob) (g : Nat), Fail [] a b g → Q (.tup [.agg [.map none], .sent g]) (h ++ tl)) : CallA ap 10 0 bs [tyV a, tyV b] h Q := by
  refine CallA.code (af := ac10) rfl (Nat.le_of_ble_eq_true rfl) ?_
  have one := oneOk (fit_nil hA) ga fa gb fb
  obtain ⟨ka, na, la⟩ := a
  obtain ⟨kb, nb, lb⟩ := b
  unfold OneS at one
  simp only [tyV] at one
  simp [ac10, splice, tyV, demote_tys]
  refine CallA.code (af := ac16) rfl (Nat.le_of_ble_eq_true rfl) ?_
  simp [ac16, splice, demote_tys]
  refine wpA_loop (CallA.hle ap) ?_
  simp [forget, noLoc, locOf, splice, demote_tys]
  refine one _ _ _ none (.inl ⟨rfl, rfl⟩) (fun tl o' f' h1 h2 => ?_) (fun tl g h1 => ?_)
  · simp [w1, splice]
    refine wpA_loop (CallA.hle ap) ?_
    simp [forget, noLoc, locOf, splice]
    exact hq tl o' f' h1 h2
  · simp [splice]
    exact hno tl g h1

end
end Go.Ht
