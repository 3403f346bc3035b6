/- The reference makes two types one: on the abstract machine. -/
import Derived.Test.YtabjkoehbbobdaaDoorGtY7
import Derived.Test.YtabjkoehbbobdaaDoorGtY1
namespace Go.Gt
open Go.Am Go.Proofs
set_option maxRecDepth 100000

section
variable {bs : List Nat} {h : List Ob} {Q : V → List Ob → Prop}

def RefU (A : List Nam) (f : En) (a b : Ty) : Prop := ∀ (bs : List Nat) (h : List Ob) (Q : V → List Ob → Prop),
  (∀ f' : En, Fo A f a b f' → Q (.tup [.sl .frozen (paVs f'), .int .i64 0]) h) → (∀ g : Nat, Fail f a b g → Q (.tup [.sl .frozen [], .int .i64 (codeOf g)]) h) →
  CallA ap 38 0 bs [.sl .frozen (paVs f), tyV a, tyV b] h Q

theorem ref_step (A : List Nam) (hA : A.length ≤ 1000) (f : En) (a b : Ty) (hf : Fit A f) (ga : good A a) (fa : fine a = true) (gb : good A b) (fb : fine b = true)
    (ih : ∀ (f' : En) (p q : Ty), Fit A f' → good A p → fine p = true → good A q → fine q = true → U A f' ≤ U A f → (sge f' = sge f ∧ szN (hat (sge f) p) < szN (hat (sge f) a)) ∨ U A f' < U A f → RefU A f' p q) : RefU A f a b := by
  intro bs h Q hq hno
  have hl : f.length < 100000 := by have := hf.len; omega
  refine CallA.code (af := ac38) rfl (Nat.le_of_ble_eq_true rfl) ?_
  simp [ac38, ty_take, ty_agg, demote_ty, pas_demote]
  refine refOk fa _ _ _ f (by omega) ?_
  rw [ap_hat _ _ fa]
  simp [splice, ty_take, ty_agg, demote_ty, pas_demote]
  refine refOk fb _ _ _ f (by omega) ?_
  rw [ap_hat _ _ fb]
  have hA : ∃ a1, a1 = hat (sge f) a := ⟨_, rfl⟩
  have hB : ∃ b1, b1 = hat (sge f) b := ⟨_, rfl⟩
  obtain ⟨a1, ea⟩ := hA
  obtain ⟨b1, eb⟩ := hB
  have na : Norm f a1 := ea ▸ hf.s.norm a
  have nb : Norm f b1 := eb ▸ hf.s.norm b
  have fa1 : fine a1 = true := ea ▸ sge_hat_fine hf.s.ok fa
  have fb1 : fine b1 = true := eb ▸ sge_hat_fine hf.s.ok fb
  have ga1 : good A a1 := ea ▸ good_hat hf ga
  have gb1 : good A b1 := eb ▸ good_hat hf gb
  have ha1 : hat (sge f) a1 = a1 := na.hat fa1
  have hb1 : hat (sge f) b1 = b1 := nb.hat fb1
  rw [show hat (sg (look f)) a = hat (sge f) a from rfl, show hat (sg (look f)) b = hat (sge f) b from rfl, ← ea, ← eb]
  have hfa : ∀ p ∈ f, fine p.2 = true := fun p hp => hf.s.ok.fine p.1 p.2 hp
  obtain ⟨k, n, l⟩ := a1
  obtain ⟨k', n', l'⟩ := b1
  have fit0 : ∀ x : Nam, occ x (.mk k n l) = true → look f x = none := na
  by_cases hk : k = 1
  · subst hk
    obtain rfl := fine_var' fa1
    have hx : look f n = none := na n (by simp [occ])
    by_cases hk' : k' = 1 ∧ n = n'
    · obtain ⟨rfl, rfl⟩ := hk'
      obtain rfl := fine_var' fb1
      simp [tyV, splice, pas_demote, pas_under]
      have := hq f (fo_refl hf (by rw [← ea, ← eb]) (.vv ea.symm eb.symm))
      simpa using this
    · have hne : Ty.mk k' n' l' ≠ var n := fun e => by
        simp only [var, Ty.mk.injEq] at e
        exact hk' ⟨e.1, e.2.1.symm⟩
      have bnd : ∀ (bs' : List Nat) (Q' : V → List Ob → Prop), (∀ g, Q (.tup [.sl .frozen [], .int .i64 (codeOf g)]) h → Q' (.tup [.sl .frozen [], .int .i64 (codeOf g)]) h) → (∀ e', Q (.tup [.sl .frozen (paVs e'), .int .i64 0]) h → Q' (.tup [.sl .frozen (paVs e'), .int .i64 0]) h) → CallA ap 52 0 bs' [.sl .frozen (paVs f), .str n, tyV (.mk k' n' l')] h Q' := fun bs' Q' hQ1 hQ2 =>
        bind36 hA f n _ hfa hx hl fb1 gb1
          (fun ho => hQ1 1 (hno 1 ⟨.occL ea.symm eb.symm hne ho, none_occ ho hne fb1 (.inl ⟨ea.symm, eb.symm⟩), fun _ _ => rfl, fun _ _ _ _ _ _ h1 _ h2 => absurd (by rw [← ea] at h1; simp only [Ty.mk.injEq] at h1; exact h1.1.symm) h2⟩))
          (fun ho => hQ2 _ (hq _ (fo_bind hf hx (ga1.2 n (by simp [occ])) fb1 gb1 nb ho (byOne_bound hf.s.ok fb1 hx) (by simp [byOne]) (.inl ⟨ea.symm, eb.symm⟩) (.bindL ea.symm eb.symm hne ho))))
      simp only [tyV] at bnd
      by_cases h1 : k' = 1
      · have h2 : ¬ n = n' := fun e => hk' ⟨h1, e⟩
        subst h1
        have h2' : (n == n') = false := by simpa using h2
        simp [tyV, splice, pas_demote, demote_tys, h2']
        refine bnd _ _ (fun g hh => ?_) (fun e' hh => ?_) <;> simp [pas_demote, pas_under, demoteL] <;> simpa using hh
      · have h1' : (k' == 1) = false := by simpa using h1
        simp [tyV, splice, pas_demote, demote_tys, h1']
        refine bnd _ _ (fun g hh => ?_) (fun e' hh => ?_) <;> simp [pas_demote, pas_under, demoteL] <;> simpa using hh
  · have hkb : (k == 1) = false := by simpa using hk
    by_cases hk' : k' = 1
    · subst hk'
      obtain rfl := fine_var' fb1
      have hx : look f n' = none := nb n' (by simp [occ])
      have hnv : ∀ y, Ty.mk k n l ≠ var y := fun y e => by
        simp only [var, Ty.mk.injEq] at e
        exact hk e.1
      have hne := hnv n'
      have bnd : ∀ (bs' : List Nat) (Q' : V → List Ob → Prop), (∀ g, Q (.tup [.sl .frozen [], .int .i64 (codeOf g)]) h → Q' (.tup [.sl .frozen [], .int .i64 (codeOf g)]) h) → (∀ e', Q (.tup [.sl .frozen (paVs e'), .int .i64 0]) h → Q' (.tup [.sl .frozen (paVs e'), .int .i64 0]) h) → CallA ap 52 0 bs' [.sl .frozen (paVs f), .str n', tyV (.mk k n l)] h Q' := fun bs' Q' hQ1 hQ2 =>
        bind36 hA f n' _ hfa hx hl fa1 ga1
          (fun ho => hQ1 1 (hno 1 ⟨.occR eb.symm ea.symm hnv ho, none_occ ho hne fa1 (.inr ⟨eb.symm, ea.symm⟩), fun _ _ => rfl, fun _ _ _ _ _ _ _ h1 _ h2 => absurd (by rw [← eb] at h1; simp only [Ty.mk.injEq] at h1; exact h1.1.symm) h2⟩))
          (fun ho => hQ2 _ (hq _ (fo_bind hf hx (gb1.2 n' (by simp [occ])) fa1 ga1 na ho (byOne_bound hf.s.ok fa1 hx) (by simp [byOne]) (.inr ⟨eb.symm, ea.symm⟩) (.bindR eb.symm ea.symm hnv ho))))
      simp only [tyV] at bnd
      simp [tyV, splice, pas_demote, demote_tys, hkb]
      refine bnd _ _ (fun g hh => ?_) (fun e' hh => ?_) <;> simp [pas_demote, pas_under, demoteL] <;> simpa using hh
    · have hkb' : (k' == 1) = false := by simpa using hk'
      by_cases hsame : k = k' ∧ n = n' ∧ l.length = l'.length
      · obtain ⟨rfl, rfl, hll⟩ := hsame
        have hlen2 : l.length ≤ 2 := (okT_len (fine_ok _ fa1)).1
        have fl : ∀ p ∈ l, fine p = true := fun p hp => by
          simp only [fine, Bool.and_eq_true] at fa1
          exact fineL_mem fa1.2 hp
        have fl' : ∀ p ∈ l', fine p = true := fun p hp => by
          simp only [fine, Bool.and_eq_true] at fb1
          exact fineL_mem fb1.2 hp
        have gl : ∀ p ∈ l, good A p := fun p hp => good_arg hk ga1 hp
        have gl' : ∀ p ∈ l', good A p := fun p hp => good_arg hk gb1 hp
        rw [hat_mk _ hk] at ha1
        simp only [Ty.mk.injEq, true_and] at ha1
        have noOcc : ∀ g : Nat, ∀ x, hat (sge f) a = var x ∨ hat (sge f) b = var x → g = 1 := fun g x hx => by
          rw [← ea, ← eb] at hx
          simp only [var, Ty.mk.injEq] at hx
          rcases hx with hx | hx <;> exact absurd hx.1 hk
        have noHead : ∀ g : Nat, ∀ k2 n2 l2 k' n' l2', hat (sge f) a = .mk k2 n2 l2 → hat (sge f) b = .mk k' n' l2' → k2 ≠ 1 → k' ≠ 1 → ¬ (k2 = k' ∧ n2 = n' ∧ l2.length = l2'.length) → g = 0 := fun g k2 n2 l2 k' n' l2' h1 h2 _ _ hne => by
          rw [← ea] at h1
          rw [← eb] at h2
          simp only [Ty.mk.injEq] at h1 h2
          obtain ⟨rfl, rfl, rfl⟩ := h1
          obtain ⟨rfl, rfl, rfl⟩ := h2
          exact absurd ⟨rfl, rfl, hll⟩ hne
        have hcg : ∀ g : Nat, (codeOf g == 0) = false := fun g => by unfold codeOf; split <;> rfl
        match l, l', hll, hlen2, fl, fl', gl, gl', ha1 with
        | [], [], _, _, _, _, _, _, _ =>
          simp [tyV, tyVs, splice, hkb]
          refine wpA_loop (CallA.hle ap) ?_
          simp [forget, noLoc, locOf, pas_demote, pas_under, pas_demote]
          have := hq f (fo_refl hf (by rw [← ea, ← eb]) (.a0 ea.symm eb.symm hk))
          simpa using this
        | [p], [q], _, _, fl, fl', gl, gl', ha1 =>
          have ep : hat (sge f) p = p := by rw [hatL_1] at ha1; simpa using ha1
          have iho := ih f p q hf (gl p (by simp)) (fl p (by simp)) (gl' q (by simp)) (fl' q (by simp)) (Nat.le_refl _) (.inl ⟨rfl, by rw [← ea, ep]; simp only [szN, szL]; omega⟩)
          simp [tyV, tyVs, splice, hkb]
          refine wpA_loop (CallA.hle ap) ?_
          simp [forget, noLoc, locOf, ty_take, ty_agg, demote_ty, pas_demote]
          refine iho _ _ _ (fun f1 hf1 => ?_) (fun g hn1 => ?_)
          · simp [w1]
            refine wpA_loop (CallA.hle ap) ?_
            simp [forget, noLoc, locOf, pas_demote, pas_under, pas_demote]
            exact hq f1 (fo_1 ea.symm eb.symm hk hf1)
          · simp [w1]
            refine wpA_loop (CallA.hle ap) ?_
            simp [forget, noLoc, locOf, demoteL]
            exact hno g ⟨.a1 ea.symm eb.symm hk hn1.uni, none_1 ea.symm eb.symm hk hn1.none, noOcc g, noHead g⟩
        | [p, p'], [q, q'], _, _, fl, fl', gl, gl', ha1 =>
          have ep : hat (sge f) p = p ∧ hat (sge f) p' = p' := by rw [hatL_2] at ha1; simpa using ha1
          have iho := ih f p q hf (gl p (by simp)) (fl p (by simp)) (gl' q (by simp)) (fl' q (by simp)) (Nat.le_refl _) (.inl ⟨rfl, by rw [← ea, ep.1]; simp only [szN, szL]; omega⟩)
          simp [tyV, tyVs, splice, hkb]
          refine wpA_loop (CallA.hle ap) ?_
          simp [forget, noLoc, locOf, ty_take, ty_agg, demote_ty, pas_demote]
          refine iho _ _ _ (fun f1 hf1 => ?_) (fun g hn1 => ?_)
          · simp [w1]
            have iho2 := ih f1 p' q' hf1.fit (gl p' (by simp)) (fl p' (by simp)) (gl' q' (by simp)) (fl' q' (by simp)) hf1.leU (hf1.less.imp (fun e => ⟨e, by rw [← ea, ep.2]; simp only [szN, szL]; omega⟩) id)
            refine wpA_loop (CallA.hle ap) ?_
            simp [forget, noLoc, locOf, ty_take, ty_agg, demote_ty, pas_demote]
            refine iho2 _ _ _ (fun f2 hf2 => ?_) (fun g hn2 => ?_)
            · simp [w2]
              refine wpA_loop (CallA.hle ap) ?_
              simp [forget, noLoc, locOf, pas_demote, pas_under, pas_demote]
              have := hq f2 (fo_2 ea.symm eb.symm hk hf1 hf2)
              simpa using this
            · simp [w2]
              refine wpA_loop (CallA.hle ap) ?_
              simp [forget, noLoc, locOf, demoteL]
              exact hno g ⟨.a2 ea.symm eb.symm hk hf1.uni hn2.uni, none_22 ea.symm eb.symm hk hf1 hn2.none, noOcc g, noHead g⟩
          · simp [w1]
            refine wpA_loop (CallA.hle ap) ?_
            simp [forget, noLoc, locOf, demoteL, hcg g]
            exact hno g ⟨.a2e ea.symm eb.symm hk hn1.uni, none_21 ea.symm eb.symm hk hn1.none, noOcc g, noHead g⟩
        | _ :: _ :: _ :: _, _, _, h2, _, _, _, _, _ => simp at h2
      · have noOcc : ∀ x, hat (sge f) a = var x ∨ hat (sge f) b = var x → 0 = 1 := fun x hx => by
          rw [← ea, ← eb] at hx
          simp only [var, Ty.mk.injEq] at hx
          rcases hx with hx | hx
          · exact absurd hx.1 hk
          · exact absurd hx.1 hk'
        have hno' := hno 0 ⟨.head ea.symm eb.symm hk hk' hsame, none_mk ea.symm eb.symm hk hk' hsame, noOcc, fun _ _ _ _ _ _ _ _ _ _ _ => rfl⟩
        by_cases h1 : k = k'
        · subst h1
          by_cases h2 : n = n'
          · subst h2
            have h3 : ¬ l.length = l'.length := fun e => hsame ⟨rfl, rfl, e⟩
            have h3' : ((l.length : Int) != (l'.length : Int)) = true := by simp only [bne_iff_ne, ne_eq]; omega
            simp [tyV, splice, hkb, h3']
            simpa [codeOf] using hno'
          · have h2' : (n != n') = true := by simpa using h2
            have h2'' : (n == n') = false := by simpa using h2
            simp [tyV, splice, hkb, h2'']
            simpa [codeOf] using hno'
        · have h1' : (k != k') = true := by simpa using h1
          simp [tyV, splice, hkb, hkb', h1']
          simpa [codeOf] using hno'


theorem ref33 {A : List Nam} (hA : A.length ≤ 1000) : ∀ (m n : Nat) (f : En) (a b : Ty), U A f < m → szN (hat (sge f) a) < n → Fit A f → good A a → fine a = true → good A b → fine b = true → RefU A f a b := by
  intro m
  induction m with
  | zero => intro n f a b h; omega
  | succ m ihm =>
    intro n
    induction n with
    | zero => intro f a b _ h; omega
    | succ n ihn =>
      intro f a b hU hs hf ga fa gb fb
      refine ref_step A hA f a b hf ga fa gb fb fun f' p q hf' gp fp gq fq hle hor => ?_
      rcases hor with ⟨e, hlt⟩ | hlt
      · exact ihn f' p q (by omega) (by rw [e]; omega) hf' gp fp gq fq
      · exact ihm _ f' p q (by omega) (Nat.lt_succ_self _) hf' gp fp gq fq

theorem refUok {A : List Nam} (hA : A.length ≤ 1000) {f : En} {a b : Ty} (hf : Fit A f) (ga : good A a) (fa : fine a = true) (gb : good A b) (fb : fine b = true) : RefU A f a b :=
  ref33 hA _ _ f a b (Nat.lt_succ_self _) (Nat.lt_succ_self _) hf ga fa gb fb

end
end Go.Gt
