/- Terms are made: a step: on the abstract machine. -/
import Derived.Test.YtabjkoehbbobdaaTtF8
import Derived.Test.YtabjkoehbbobdaaTtFa
namespace Go.Tt
open Go.Am Go.Proofs
set_option maxRecDepth 100000

theorem tm_v (k : Int) (x : Nm) (n : Int) (ty : Ty) (l : Tms) (a : Alts) (b : Binds) : tmV (.mk k x n ty l a b) = .agg ([.int .i64 k, .str x, .int .i64 n] ++ (tyV ty).cells ++ [.sl .frozen (tmVs l), .sl .frozen (alVs a), .sl .frozen (biVs b)]) := by simp only [tmV]
theorem ty0_c : (tyV ty0).cells = [.int .i64 0, .str [], .sl .frozen []] := by simp [ty0, tyV, tyVs]
theorem dem_tm_cells (t : Tm) : demoteL (tmV t).cells = (tmV t).cells := by
  have := demote_tm t
  obtain ⟨k, s, n, ⟨k', n', l'⟩, l2, a2, b2⟩ := t
  simp only [tm_mk, V.demote, V.agg.injEq] at this
  simpa [tm_mk] using this

/-- What binds nothing but one name, of some terms. -/
theorem mk_of1 {m : Nat} (k : Int) (x : Nm) (ty : Ty) {t : Tm} (hx : x ≠ [113]) (h : MkT m t) : MkT (m + 1) (.mk k x 0 ty (.cons t .nil) .nil .nil) := by
  have h1 := h.ok
  have h2 := h.sh
  have h3 := h.sz
  exact ⟨by simp [okTm, okTms, okAlts, okBinds, hx, h1], by simp [shT, shL, shA, shB, Binds.names, h2], by simp [szT, szL, szA, szB, Nat.pow_succ]; have := szT_pos t; omega⟩
theorem mk_of2 {m : Nat} (k : Int) (x : Nm) (ty : Ty) {t u : Tm} (hx : x ≠ [113]) (h : MkT m t) (h' : MkT m u) : MkT (m + 1) (.mk k x 0 ty (.cons t (.cons u .nil)) .nil .nil) := by
  have h1 := h.ok
  have h2 := h.sh
  have h3 := h.sz
  have g1 := h'.ok
  have g2 := h'.sh
  have g3 := h'.sz
  exact ⟨by simp [okTm, okTms, okAlts, okBinds, hx, h1, g1], by simp [shT, shL, shA, shB, Binds.names, h2, g2], by simp [szT, szL, szA, szB, Nat.pow_succ]; have := szT_pos t; omega⟩
theorem mk_let1 {m : Nat} (x : Nm) (ty : Ty) {t u : Tm} (h : MkT m t) (h' : MkT m u) : MkT (m + 1) (.mk 9 [] 0 ty0 (.cons u .nil) .nil (.cons x ty t .nil)) := by
  have h1 := h.ok
  have h2 := h.sh
  have h3 := h.sz
  have g1 := h'.ok
  have g2 := h'.sh
  have g3 := h'.sz
  exact ⟨by simp [okTm, okTms, okAlts, okBinds, h1, g1], by simp [shT, shL, shA, shB, Binds.names, h2, g2], by simp [szT, szL, szA, szB, Nat.pow_succ]; have := szT_pos t; omega⟩
theorem mk_let2 {m : Nat} (x : Nm) (ty : Ty) {t u : Tm} (h : MkT m t) (h' : MkT m u) : MkT (m + 1) (.mk 9 [] 0 ty0 (.cons u .nil) .nil (.cons x ty t (.cons x ty t .nil))) := by
  have h1 := h.ok
  have h2 := h.sh
  have h3 := h.sz
  have g1 := h'.ok
  have g2 := h'.sh
  have g3 := h'.sz
  exact ⟨by simp [okTm, okTms, okAlts, okBinds, h1, g1], by simp [shT, shL, shA, shB, Binds.names, h2, g2], by simp [szT, szL, szA, szB, Nat.pow_succ]; have := szT_pos t; omega⟩

theorem mk_step (tg : Tag) (l : List Int) (p m : Nat) (ih : MkS tg l p m) (deep i : Int) (hd : ¬ deep < 1) (vars : List Nm) (bs : List Nat) (h : List Ob) (Q : V → List Ob → Prop) (hdm : deep ≤ ((m + 1 : Nat) : Int)) (hi1 : 0 ≤ i) (hi2 : i + 80 * 5 ^ (m + 1) < 1000000) (hv : vars.length + 2 * (m + 1) ≤ 12) (hvq : ∀ x ∈ vars, x ≠ [113]) (hp : h[p]? = some (seqB tg l i))
    (hq : ∀ (t : Tm) (j : Int), i ≤ j → j ≤ i + 80 * 5 ^ (m + 1) → MkT (m + 1) t → Q (tmV t) (h.set p (seqB tg l j))) : CallA ap 5 0 bs [.ptr p 0, .sl .frozen (vars.map .str), .int .i64 deep] h Q := by
  have hpw : (1 : Int) ≤ 5 ^ m := by
    have : (0 : Int) < 5 ^ m := Int.pow_pos (by omega)
    omega
  have hpe : (5 : Int) ^ (m + 1) = 5 * 5 ^ m := by rw [Int.pow_succ]; omega
  have hmm : (m : Int) ≤ 6 := by omega
  rw [hpe] at hi2 hq
  refine CallA.code (af := ac5) rfl (Nat.le_of_ble_eq_true rfl) ?_
  simp [ac5]
  refine next30 tg l i 16 p hp hi1 (by omega) (by omega) (by omega) fun n hn1 hn2 => ?_
  have H1 := (HP.refl hp).set (seqB tg l (i + 1))
  generalize h.set p (seqB tg l (i + 1)) = H at H1 ⊢
  have hw : IntKind.wrap .i64 (deep - 1) = deep - 1 := wrap64 (by omega) (by omega)
  have fin : ∀ (k : Int) (x : Nm) (n j : Int), x ≠ [113] → i ≤ j → j ≤ i + 80 * (5 * 5 ^ m) → Q (.agg [.int .i64 k, .str x, .int .i64 n, .int .i64 0, .str [], .sl .frozen [], .sl .frozen [], .sl .frozen [], .sl .frozen []]) (h.set p (seqB tg l j)) := fun k x n j hx h1 h2 => by
    have := hq _ j h1 h2 (leaf_ok (m + 1) k x n hx)
    rwa [leaf_v] at this
  simp [hd, hw]
  by_cases h14 : 14 ≤ n
  · have b0 : (n == 0) = false := by simp; omega
    have b1 : (n == 1) = false := by simp; omega
    have b2 : (n == 2) = false := by simp; omega
    have b3 : (n == 3) = false := by simp; omega
    have b4 : (n == 4) = false := by simp; omega
    have b5 : (n == 5) = false := by simp; omega
    have b6 : (n == 6) = false := by simp; omega
    have b7 : (n == 7) = false := by simp; omega
    have b8 : (n == 8) = false := by simp; omega
    have b9 : (n == 9) = false := by simp; omega
    have b10 : (n == 10) = false := by simp; omega
    have b11 : (n == 11) = false := by simp; omega
    have b12 : (n == 12) = false := by simp; omega
    have b13 : (n == 13) = false := by simp; omega
    simp [b0, b1, b2, b3, b4, b5, b6, b7, b8, b9, b10, b11, b12, b13]
    simp only [dem_strs']
    refine ih (deep - 1) (i + 1) vars _ _ _ (by omega) (by omega) (by omega) (by omega) (by omega) hvq H1.get fun t1 j1 g1 g2 ht1 => ?_
    have H2 := H1.set (seqB tg l j1)
    generalize H.set p (seqB tg l j1) = H' at H2 ⊢
    simp
    refine type10 tg l p 1 1 j1 _ _ _ (by omega) (by omega) (by omega) (by omega) (by omega) H2.get fun t j2 g3 g4 ht => ?_
    have H3 := H2.set (seqB tg l j2)
    generalize H'.set p (seqB tg l j2) = H'' at H3 ⊢
    obtain ⟨k1, n1, l1⟩ := t
    simp [tyV, splice]
    refine next30 tg l j2 4 p H3.get (by omega) (by omega) (by omega) (by omega) fun c hc1 hc2 => ?_
    have H4 := H3.set (seqB tg l (j2 + 1))
    generalize H''.set p (seqB tg l (j2 + 1)) = HA at H4 ⊢
    have hplt := H4.lt
    simp
    obtain ⟨W, hW⟩ : ∃ W : Int, W = 80 * 5 ^ m + 12 := ⟨_, rfl⟩
    obtain ⟨I, hI⟩ : ∃ I : Nat → St → Prop, ∀ n0 s', I n0 s' ↔ (∃ (al : AltL) (vs : List V) (jj : Int) (tg3 : Tag), al.length + n0 ≤ 3 ∧ (∀ x ∈ al, x.2.1.length ≤ 10 ∧ MkT m x.2.2) ∧ i ≤ jj ∧ jj ≤ i + 20 + W * ((al.length : Int) + 1) ∧ demoteL vs = alVs (toA al) ∧ (∀ v ∈ vs, v.cells.length = 11) ∧ vs.length = al.length ∧ HP h p (seqB tg l jj) s'.h ∧ FamAt tg3 vs 11 h.length s'.h ∧
      s'.r 0 = .ptr p 0 ∧ s'.r 1 = .sl .frozen (vars.map .str) ∧ s'.r 8 = .int .i64 (deep - 1) ∧ s'.r 19 = .int .i64 n0 ∧ s'.r 6 = .loc 6 0 ∧ s'.r 18 = .loc 18 0 ∧ s'.l 6 = some [.int .i64 0, .str [], .int .i64 0, .int .i64 0, .str [], .sl .clip [], .sl .clip [], .sl .clip [], .sl .clip []] ∧
      s'.l 18 = some [.int .i64 10, .str [], .int .i64 0, .int .i64 k1, .str n1, .sl .frozen (tyVs l1), .sl .clip [tmV t1], .sl tg3 vs, .sl .clip []]) := ⟨_, fun _ _ => Iff.rfl⟩
    refine loop_ind (CallA.hle ap) I ?_ (n := c.toNat) ((hI _ _).2 ⟨[], [], j2 + 1, .clip, by simp; omega, by simp, by omega, by simp; omega, by simp [toA, alVs], by simp, rfl, H4, .inl ⟨rfl, rfl⟩, by simp; omega⟩)
    rintro n0 ⟨r, lo, h'⟩ hst
    obtain ⟨al, vs, jj, tg3, hal, hgood, hj1, hj2, hvs, hvc, hvl, HPh, hfam, r0, r1, r8, r19, r6, r18, lo6, lo18⟩ := (hI _ _).1 hst
    simp only at HPh hfam r0 r1 r8 r19 r6 r18 lo6 lo18
    simp [forget, noLoc, locOf, r19]
    have hWn : W * ((al.length : Int) + 1) ≤ W * 4 := Int.mul_le_mul_of_nonneg_left (by omega) (by omega)
    have hW2 : W * (((al.length + 1 : Nat) : Int) + 1) = W * ((al.length : Int) + 1) + W := by
      have : (((al.length + 1 : Nat) : Int) + 1) = ((al.length : Int) + 1) + 1 := by omega
      rw [this, Int.mul_add W ((al.length : Int) + 1) 1, Int.mul_one]
    refine condA_dec (fun c1 => ?_) fun c1 => ?_
    · have hw : IntKind.wrap .i64 ((n0 : Int) - 1) = ((n0 - 1 : Nat) : Int) := by rw [wrap64 (by omega) (by omega)]; omega
      have hWn3 : W * ((al.length : Int) + 1) ≤ W * 3 := Int.mul_le_mul_of_nonneg_left (by omega) (by omega)
      simp [r0]
      refine word14 tg l jj p [[84, 114, 117, 101], [70, 97, 108, 115, 101], [78, 105, 108], [67, 111, 110, 115], [80, 97, 105, 114], []] (by simp) (by simp) (by omega) (by omega) HPh.get fun cn hcn => ?_
      have P1 := HPh.set (seqB tg l (jj + 1))
      have F1 : FamAt tg3 vs 11 h.length (h'.set p (seqB tg l (jj + 1))) := by
        rcases hfam with hf | ⟨q, e1, e2, e3⟩
        · exact .inl hf
        · exact .inr ⟨q, e1, e2, by rw [List.getElem?_set_ne (by omega)]; exact e3⟩
      generalize h'.set p (seqB tg l (jj + 1)) = G1 at P1 F1 ⊢
      simp [r1, splice, dem_strs']
      refine texts56 vars (by omega) ?_
      have hG := P1.len
      have P2 := P1.app [.fam vars.length 1]
      obtain ⟨ra, hra⟩ : ∃ ra, ra = G1.length := ⟨_, rfl⟩
      have F2 : FamAt tg3 vs 11 h.length (G1 ++ [.fam vars.length 1]) := F1.up fun q hq => by
        rcases F1 with ⟨e1, _⟩ | ⟨q', e1, e2, e3⟩
        · rw [e1] at hq; cases hq
        · rw [e1] at hq; cases hq; exact List.getElem?_append_left (List.getElem?_eq_some_iff.1 e3).1
      have R2 : (G1 ++ [Ob.fam vars.length 1])[ra]? = some (.fam (vars.length + 0) 1) := by rw [hra]; simp
      have hlt3 : ∀ q, tg3 = .fam q → q < ra := fun q hq => by
        rcases F1 with ⟨e1, _⟩ | ⟨q', e1, e2, e3⟩
        · rw [e1] at hq; cases hq
        · rw [e1] at hq; cases hq; rw [hra]; exact (List.getElem?_eq_some_iff.1 e3).1
      rw [← hra]
      have hra2 : h.length ≤ ra := by omega
      generalize G1 ++ [Ob.fam vars.length 1] = G2 at P2 F2 R2 ⊢
      simp
      refine place17 [[84, 114, 117, 101], [70, 97, 108, 115, 101], [78, 105, 108], [67, 111, 110, 115], [80, 97, 105, 114], []] cn (by simp) hcn fun q hq1 hq2 => ?_
      obtain ⟨mm, hmm, hia⟩ := many6 q hq1 (by simpa using hq2)
      simp [hia, r0]
      refine next30 tg l (jj + 1) 8 p P2.get (by omega) (by omega) (by omega) (by omega) fun k8 hk81 hk82 => ?_
      have P3 := P2.set (seqB tg l (jj + 1 + 1))
      have F3 : FamAt tg3 vs 11 h.length (G2.set p (seqB tg l (jj + 1 + 1))) := by
        rcases F2 with hf | ⟨q, e1, e2, e3⟩
        · exact .inl hf
        · exact .inr ⟨q, e1, e2, by rw [List.getElem?_set_ne (by omega)]; exact e3⟩
      have R3 : (G2.set p (seqB tg l (jj + 1 + 1)))[ra]? = some (.fam (vars.length + 0) 1) := by rw [List.getElem?_set_ne (by omega)]; exact R2
      generalize G2.set p (seqB tg l (jj + 1 + 1)) = G3 at P3 F3 R3 ⊢
      obtain ⟨e8, he8⟩ : ∃ e8, e8 = (k8 == 0) := ⟨_, rfl⟩
      simp [← he8]
      cases e8
      case' false =>
        simp
        obtain ⟨M, hM⟩ : ∃ M, M = mm := ⟨_, rfl⟩
        obtain ⟨jx, hjx⟩ : ∃ jx, jx = jj + 1 + 1 := ⟨_, rfl⟩
        obtain ⟨G4, hG4⟩ : ∃ G4, G4 = G3 := ⟨_, rfl⟩
        rw [← hM] at hmm ⊢
        rw [← hG4] at P3 F3 R3 ⊢
        rw [← hjx] at P3
        replace hM : M = 0 ∨ M = 1 ∨ M = 2 := hmm
        replace hjx : jj ≤ jx ∧ jx ≤ jj + 4 := by omega
      case' true =>
        simp [r0]
        refine next30 tg l (jj + 1 + 1) 3 p P3.get (by omega) (by omega) (by omega) (by omega) fun M hM1 hM2 => ?_
        replace P3 := P3.set (seqB tg l (jj + 1 + 1 + 1))
        have F3' : FamAt tg3 vs 11 h.length (G3.set p (seqB tg l (jj + 1 + 1 + 1))) := by
          rcases F3 with hf | ⟨q, e1, e2, e3⟩
          · exact .inl hf
          · exact .inr ⟨q, e1, e2, by rw [List.getElem?_set_ne (by omega)]; exact e3⟩
        replace R3 : (G3.set p (seqB tg l (jj + 1 + 1 + 1)))[ra]? = some (.fam (vars.length + 0) 1) := by rw [List.getElem?_set_ne (by omega)]; exact R3
        clear F3
        have F3 := F3'
        clear F3'
        generalize G3.set p (seqB tg l (jj + 1 + 1 + 1)) = G4 at P3 F3 R3 ⊢
        obtain ⟨jx, hjx⟩ : ∃ jx, jx = jj + 1 + 1 + 1 := ⟨_, rfl⟩
        rw [← hjx] at P3
        have hM : M = 0 ∨ M = 1 ∨ M = 2 := by omega
        replace hjx : jj ≤ jx ∧ jx ≤ jj + 4 := by omega
        simp
      all_goals
        obtain ⟨J, hJ⟩ : ∃ J : Nat → St → Prop, ∀ n2 s', J n2 s' ↔ (∃ (av : List Nm) (jy : Int) (tg2 : Tag), (av.length : Int) + n2 = M ∧ jx ≤ jy ∧ jy ≤ jx + av.length ∧ (∀ x ∈ av, x ≠ [113]) ∧ HP h p (seqB tg l jy) s'.h ∧ FamAt tg3 vs 11 h.length s'.h ∧ s'.h[ra]? = some (.fam (vars.length + av.length) 1) ∧ FamAt tg2 (av.map .str) 1 (ra + 1) s'.h ∧
          s'.r 0 = .ptr p 0 ∧ s'.r 1 = .sl .frozen (vars.map .str) ∧ s'.r 8 = .int .i64 (deep - 1) ∧ s'.r 19 = .int .i64 n0 ∧ s'.r 6 = .loc 6 0 ∧ s'.r 18 = .loc 18 0 ∧ s'.r 20 = .loc 20 0 ∧ s'.r 21 = .sl (.fam ra) ((vars ++ av).map .str) ∧ s'.r 22 = .int .i64 M ∧ s'.r 23 = .int .i64 av.length ∧
          s'.l 6 = some [.int .i64 0, .str [], .int .i64 0, .int .i64 0, .str [], .sl .clip [], .sl .clip [], .sl .clip [], .sl .clip []] ∧
          s'.l 18 = some [.int .i64 10, .str [], .int .i64 0, .int .i64 k1, .str n1, .sl .frozen (tyVs l1), .sl .clip [tmV t1], .sl tg3 vs, .sl .clip []] ∧
          s'.l 20 = some [.str cn, .sl tg2 (av.map .str), .int .i64 0, .str [], .int .i64 0, .int .i64 0, .str [], .sl .clip [], .sl .clip [], .sl .clip [], .sl .clip []]) := ⟨_, fun _ _ => Iff.rfl⟩
        refine loop_ind (CallA.hle ap) J ?_ (n := M.toNat) ((hJ _ _).2 ⟨[], jx, .clip, by simp; omega, by omega, by simp, by simp, P3, F3, R3, .inl ⟨rfl, rfl⟩, by simp [r0, r1, r8, r19, r6, r18, lo6, lo18]⟩)
        clear hst r0 r1 r8 r19 r6 r18 lo6 lo18 r lo
        rintro n2 ⟨r, lo, h2⟩ hst
        obtain ⟨av, jy, tg2, hav, hy1, hy2, hvq2, Pk, Fk, Rk, F2k, r0, r1, r8, r19, r6, r18, r20, r21, r22, r23, lo6, lo18, lo20⟩ := (hJ _ _).1 hst
        simp only at Pk Fk Rk F2k r0 r1 r8 r19 r6 r18 r20 r21 r22 r23 lo6 lo18 lo20
        simp [forget, noLoc, locOf, r22, r23]
        have hal2 : av.length ≤ 2 := by omega
        refine condA_dec (fun c2 => ?_) fun c2 => ?_
        · have hw2 : IntKind.wrap .i64 ((av.length : Int) + 1) = ((av.length + 1 : Nat) : Int) := by rw [wrap64 (by omega) (by omega)]; omega
          simp [r0]
          refine next30 tg l jy 5 p Pk.get (by omega) (by omega) (by omega) (by omega) fun k5 hk51 hk52 => ?_
          obtain ⟨x, hx, hxi⟩ := name3 k5 hk51 hk52
          have P5 := Pk.set (seqB tg l (jy + 1))
          have F5 : FamAt tg3 vs 11 h.length (h2.set p (seqB tg l (jy + 1))) := by
            rcases Fk with hf | ⟨q, e1, e2, e3⟩
            · exact .inl hf
            · exact .inr ⟨q, e1, e2, by rw [List.getElem?_set_ne (by omega)]; exact e3⟩
          have R5 : (h2.set p (seqB tg l (jy + 1)))[ra]? = some (.fam (vars.length + av.length) 1) := by rw [List.getElem?_set_ne (by omega)]; exact Rk
          have F25 : FamAt tg2 (av.map .str) 1 (ra + 1) (h2.set p (seqB tg l (jy + 1))) := by
            rcases F2k with hf | ⟨q, e1, e2, e3⟩
            · exact .inl hf
            · exact .inr ⟨q, e1, e2, by rw [List.getElem?_set_ne (by omega)]; exact e3⟩
          generalize h2.set p (seqB tg l (jy + 1)) = G5 at P5 F5 R5 F25 ⊢
          have hraG : ra < G5.length := (List.getElem?_eq_some_iff.1 R5).1
          simp [hxi, r20, lo20]
          refine ⟨strs_cells _ _, by simp only [lim]; omega, ?_⟩
          refine kTag_one F25 (by show ra + 1 ≤ G5.length; omega) fun r2 G6 a1 a2 a3 a4 a5 a6 => ?_
          dsimp only at a3 a4 a5 a6
          have hne2 : tg2 ≠ .fam ra := fun e => by
            rcases F25 with ⟨e1, _⟩ | ⟨q, e1, e2, e3⟩
            · rw [e1] at e; cases e
            · rw [e1] at e; cases e; omega
          have R6 : G6[ra]? = some (.fam (vars.length + av.length) 1) := by rw [a5 ra hraG hne2]; exact R5
          have F6 : FamAt tg3 vs 11 h.length G6 := F5.up fun q hq => by
            have hlt := hlt3 q hq
            refine a5 q (by omega) fun e => ?_
            rcases F25 with ⟨e1, _⟩ | ⟨q', e1, e2, e3⟩
            · rw [e1] at e; cases e
            · rw [e1] at e; cases e; omega
          have P6 := a6 h p _ (by omega) P5
          have hra6 : ra < G6.length := (List.getElem?_eq_some_iff.1 R6).1
          simp [r20, r21, r23, lo20, splice, R6]
          refine ⟨?_, by simp only [lim]; omega, ?_⟩
          · rintro v (⟨a, _, rfl⟩ | ⟨a, _, rfl⟩ | rfl) <;> rfl
          have hG7 : FamAt tg3 vs 11 h.length (G6.set ra (.fam (vars.length + av.length + 1) 1)) := F6.up fun q hq => List.getElem?_set_ne (by have := hlt3 q hq; omega)
          have F27 : (G6.set ra (.fam (vars.length + av.length + 1) 1))[r2]? = some (.fam (av.length + 1) 1) := by
            rw [List.getElem?_set_ne (by omega)]; simpa using a2
          simp [hw2]
          refine ⟨n2 - 1, by omega, (hJ _ _).2 ⟨av ++ [x], jy + 1, .fam r2, by simp; omega, by omega, by simp; omega, fun y hy => by
            rcases List.mem_append.1 hy with hy | hy
            · exact hvq2 y hy
            · simp at hy; subst hy; exact hx, P6.far (by omega) _, hG7, by rw [List.getElem?_set_self hra6]; simp [Nat.add_assoc], .inr ⟨r2, rfl, by omega, by simpa using F27⟩, ?_⟩⟩
          simp [r0, r1, r8, r19, r6, r18, r20, r21, r22, r23, lo6, lo18, lo20]
        · simp [r0, r1, r8, r19, r6, r18, r20, r21, r22, r23, lo6, lo18, lo20, demL_app, dem_strs', ← List.map_append]
          refine ih (deep - 1) jy (vars ++ av) _ _ _ (by omega) (by omega) (by omega) (by omega) (by simp; omega) (fun y hy => by
            rcases List.mem_append.1 hy with hy | hy
            · exact hvq y hy
            · exact hvq2 y hy) Pk.get fun b j9 g7 g8 hb => ?_
          have P9 := Pk.set (seqB tg l j9)
          have F9 : FamAt tg3 vs 11 h.length (h2.set p (seqB tg l j9)) := by
            rcases Fk with hf | ⟨q, e1, e2, e3⟩
            · exact .inl hf
            · exact .inr ⟨q, e1, e2, by rw [List.getElem?_set_ne (by omega)]; exact e3⟩
          generalize h2.set p (seqB tg l j9) = G9 at P9 F9 ⊢
          obtain ⟨kb, sb, nb, ⟨kb', nb', lb'⟩, b1, b2, b3⟩ := b
          simp [tm_mk, splice, r0, r1, r8, r19, r6, r18, r20, r21, r22, r23, lo6, lo18, lo20]
          obtain ⟨E, hE⟩ : ∃ E : V, E = .agg [.str cn, .sl tg2 (av.map .str), .int .i64 kb, .str sb, .int .i64 nb, .int .i64 kb', .str nb', .sl .frozen (tyVs lb'), .sl .frozen (tmVs b1), .sl .frozen (alVs b2), .sl .frozen (biVs b3)] := ⟨_, rfl⟩
          have hE2 : E.demote = alV cn av (.mk kb sb nb (.mk kb' nb' lb') b1 b2 b3) := by
            rw [hE]
            simp [alV, tm_mk, dem_strs', demote_tys, demote_tms, demote_als, demote_bis]
          have hE3 : E.cells.length = 11 := by rw [hE]; rfl
          rw [← hE]
          refine ⟨fun v hv => ?_, by simp only [lim]; omega, ?_⟩
          · rcases hv with hv | rfl
            · exact hvc v hv
            · exact hE3
          refine kTag_one F9 P9.len fun r9 GA a1 a2 a3 a4 a5 a6 => ?_
          dsimp only at a3 a4 a5 a6
          have PA := a6 h p _ (Nat.le_refl _) P9
          simp [r0, r1, r8, r19, r6, r18, r20, r21, r22, r23, lo6, lo18, lo20, splice, hw]
          refine ⟨n0 - 1, by omega, (hI _ _).2 ⟨al ++ [(cn, av, .mk kb sb nb (.mk kb' nb' lb') b1 b2 b3)], vs ++ [E], j9, .fam r9, by simp; omega, fun y hy => ?_, by omega, ?_, ?_, fun v hv => ?_, by simp [hvl], PA, .inr ⟨r9, rfl, a1, by simpa using a2⟩, ?_⟩⟩
          · rcases List.mem_append.1 hy with hy | hy
            · exact hgood y hy
            · simp at hy; subst hy; exact ⟨by show av.length ≤ 10; omega, hb⟩
          · have el : (al ++ [(cn, av, Tm.mk kb sb nb (.mk kb' nb' lb') b1 b2 b3)]).length = al.length + 1 := by simp
            rw [el, hW2]
            omega
          · rw [demL_app, hvs, toA_v, toA_v]
            simp [demoteL, hE2]
          · rcases List.mem_append.1 hv with hv | hv
            · exact hvc v hv
            · simp at hv; subst hv; exact hE3
          · simp [r0, r1, r8, r19, r6, r18, r20, r21, r22, r23, lo6, lo18, lo20]
    · simp [r0, r1, r8, r19, r6, r18, lo6, lo18, splice, hvs, demote_tm, under_tm, demote_tys, under_tys, under_als]
      rw [HPh.tk]
      have := hq _ jj (by omega) (by omega) (mk_caseT (.mk k1 n1 l1) ht1 (by omega) hgood)
      rw [tm_mk] at this
      simpa [tmVs, biVs] using this
  have hn : n = 0 ∨ n = 1 ∨ n = 2 ∨ n = 3 ∨ n = 4 ∨ n = 5 ∨ n = 6 ∨ n = 7 ∨ n = 8 ∨ n = 9 ∨ n = 10 ∨ n = 11 ∨ n = 12 ∨ n = 13 := by omega
  rcases hn with rfl | rfl | rfl | rfl | rfl | rfl | rfl | rfl | rfl | rfl | rfl | rfl | rfl | rfl <;> simp
  · simp only [dem_strs']
    refine texts56 vars (by omega) ?_
    simp [splice]
    refine ⟨strs_cells _ _, by simp only [lim]; omega, ?_⟩
    simp [demL_app, dem_strs', V.demote, demoteL, List.set_append]
    have e1 : List.map V.str vars ++ [V.str [117]] = (vars ++ [[117]]).map V.str := by simp
    have H2 := H1.app [.fam (vars.length + 1) 1]
    rw [e1]
    refine word14 tg l (i + 1) p (vars ++ [[117]]) (by simp) (by simp; omega) (by omega) (by omega) H2.get fun x hx => ?_
    have H3 := H2.set (seqB tg l (i + 1 + 1))
    have hx2 : x ≠ [113] := by
      rcases List.mem_append.1 hx with hx | hx
      · exact hvq x hx
      · simp at hx; subst hx; decide
    simp [splice]
    rw [H3.tk]
    exact fin 1 x 0 _ hx2 (by omega) (by omega)
  · simp only [dem_strs']
    refine texts56 vars (by omega) ?_
    simp [splice]
    refine ⟨strs_cells _ _, by simp only [lim]; omega, ?_⟩
    simp [demL_app, dem_strs', V.demote, demoteL, List.set_append]
    have e1 : List.map V.str vars ++ [V.str [117]] = (vars ++ [[117]]).map V.str := by simp
    have H2 := H1.app [.fam (vars.length + 1) 1]
    rw [e1]
    refine word14 tg l (i + 1) p (vars ++ [[117]]) (by simp) (by simp; omega) (by omega) (by omega) H2.get fun x hx => ?_
    have H3 := H2.set (seqB tg l (i + 1 + 1))
    have hx2 : x ≠ [113] := by
      rcases List.mem_append.1 hx with hx | hx
      · exact hvq x hx
      · simp at hx; subst hx; decide
    simp [splice]
    rw [H3.tk]
    exact fin 1 x 0 _ hx2 (by omega) (by omega)
  · simp only [dem_strs']
    refine texts56 vars (by omega) ?_
    simp [splice]
    refine ⟨strs_cells _ _, by simp only [lim]; omega, ?_⟩
    simp [demL_app, dem_strs', V.demote, demoteL, List.set_append]
    have e1 : List.map V.str vars ++ [V.str [117]] = (vars ++ [[117]]).map V.str := by simp
    have H2 := H1.app [.fam (vars.length + 1) 1]
    rw [e1]
    refine word14 tg l (i + 1) p (vars ++ [[117]]) (by simp) (by simp; omega) (by omega) (by omega) H2.get fun x hx => ?_
    have H3 := H2.set (seqB tg l (i + 1 + 1))
    have hx2 : x ≠ [113] := by
      rcases List.mem_append.1 hx with hx | hx
      · exact hvq x hx
      · simp at hx; subst hx; decide
    simp [splice]
    rw [H3.tk]
    exact fin 1 x 0 _ hx2 (by omega) (by omega)
  · refine next30 tg l (i + 1) 9 p H1.get (by omega) (by omega) (by omega) (by omega) fun k hk1 hk2 => ?_
    have H3 := H1.set (seqB tg l (i + 1 + 1))
    have hw2 : IntKind.wrap .i64 (k - 3) = k - 3 := wrap64 (by omega) (by omega)
    simp [splice, hw2]
    rw [H3.tk]
    exact fin 3 [] (k - 3) _ (by decide) (by omega) (by omega)
  · refine word14 tg l (i + 1) p [[84, 114, 117, 101], [78, 105, 108], [67, 111, 110, 115], [80, 97, 105, 114], [122, 122]] (by simp) (by simp) (by omega) (by omega) H1.get fun x hx => ?_
    have H3 := H1.set (seqB tg l (i + 1 + 1))
    have hx2 : x ≠ [113] := by
      intro e; subst e; simp at hx
    simp [splice]
    rw [H3.tk]
    exact fin 2 x 0 _ hx2 (by omega) (by omega)
  · refine word14 tg l (i + 1) p [[112, 114, 105, 109, 73, 110, 116, 65, 100, 100], [112, 114, 105, 109, 73, 110, 116, 69, 113], [112, 114, 105, 109, 73, 110, 116, 83, 104, 111, 119], [112, 114, 105, 109]] (by simp) (by simp) (by omega) (by omega) H1.get fun x hx => ?_
    have H3 := H1.set (seqB tg l (i + 1 + 1))
    have hx2 : x ≠ [113] := by
      intro e; subst e; simp at hx
    simp [splice]
    rw [H3.tk]
    exact fin 11 x 0 _ hx2 (by omega) (by omega)
  · simp only [dem_strs']
    refine ih (deep - 1) (i + 1) vars _ _ _ (by omega) (by omega) (by omega) (by omega) (by omega) hvq H1.get fun t1 j1 g1 g2 ht1 => ?_
    have H2 := H1.set (seqB tg l j1)
    generalize H.set p (seqB tg l j1) = H' at H2 ⊢
    simp [splice, tm_take, tm_agg, tm_sel, dem_strs']
    refine ih (deep - 1) j1 vars _ _ _ (by omega) (by omega) (by omega) (by omega) (by omega) hvq H2.get fun t2 j2 g3 g4 ht2 => ?_
    have H3 := H2.set (seqB tg l j2)
    simp [splice, demote_tm, under_tm]
    rw [H3.tk]
    have := hq _ j2 (by omega) (by omega) (mk_of2 5 [] ty0 (by decide) ht1 ht2)
    rw [tm_v, ty0_c] at this
    simpa [tmVs, alVs, biVs] using this
  · simp only [dem_strs']
    refine ih (deep - 1) (i + 1) vars _ _ _ (by omega) (by omega) (by omega) (by omega) (by omega) hvq H1.get fun t1 j1 g1 g2 ht1 => ?_
    have H2 := H1.set (seqB tg l j1)
    generalize H.set p (seqB tg l j1) = H' at H2 ⊢
    simp [splice, tm_take, tm_agg, tm_sel, dem_strs']
    refine ih (deep - 1) j1 vars _ _ _ (by omega) (by omega) (by omega) (by omega) (by omega) hvq H2.get fun t2 j2 g3 g4 ht2 => ?_
    have H3 := H2.set (seqB tg l j2)
    simp [splice, demote_tm, under_tm]
    rw [H3.tk]
    have := hq _ j2 (by omega) (by omega) (mk_of2 5 [] ty0 (by decide) ht1 ht2)
    rw [tm_v, ty0_c] at this
    simpa [tmVs, alVs, biVs] using this
  · simp only [dem_strs']
    refine ih (deep - 1) (i + 1) vars _ _ _ (by omega) (by omega) (by omega) (by omega) (by omega) hvq H1.get fun t1 j1 g1 g2 ht1 => ?_
    have H2 := H1.set (seqB tg l j1)
    generalize H.set p (seqB tg l j1) = H' at H2 ⊢
    simp [splice, tm_take, tm_agg, tm_sel, dem_strs']
    refine ih (deep - 1) j1 vars _ _ _ (by omega) (by omega) (by omega) (by omega) (by omega) hvq H2.get fun t2 j2 g3 g4 ht2 => ?_
    have H3 := H2.set (seqB tg l j2)
    simp [splice, demote_tm, under_tm]
    rw [H3.tk]
    have := hq _ j2 (by omega) (by omega) (mk_of2 5 [] ty0 (by decide) ht1 ht2)
    rw [tm_v, ty0_c] at this
    simpa [tmVs, alVs, biVs] using this
  · refine word14 tg l (i + 1) p [[120], [121], [122]] (by simp) (by simp) (by omega) (by omega) H1.get fun x hx => ?_
    have H2 := H1.set (seqB tg l (i + 1 + 1))
    generalize H.set p (seqB tg l (i + 1 + 1)) = H' at H2 ⊢
    have hx2 : x ≠ [113] := by
      intro e; subst e; simp at hx
    simp
    refine type10 tg l p 2 2 (i + 1 + 1) _ _ _ (by omega) (by omega) (by omega) (by omega) (by omega) H2.get fun t j1 g1 g2 ht => ?_
    have H3 := H2.set (seqB tg l j1)
    generalize H'.set p (seqB tg l j1) = H'' at H3 ⊢
    obtain ⟨k1, n1, l1⟩ := t
    simp [tyV, splice, dem_strs']
    refine texts56 vars (by omega) ?_
    simp [splice]
    refine ⟨strs_cells _ _, by simp only [lim]; omega, ?_⟩
    have H4 := H3.app [.fam (vars.length + 1) 1]
    simp [demL_app, dem_strs', V.demote, demoteL, List.set_append]
    rw [strs_snoc]
    refine ih (deep - 1) j1 (vars ++ [x]) _ _ _ (by omega) (by omega) (by omega) (by omega) (by simp; omega) (fun y hy => by
      rcases List.mem_append.1 hy with hy | hy
      · exact hvq y hy
      · simp at hy; subst hy; exact hx2) H4.get fun b j2 g3 g4 hb => ?_
    have H5 := H4.set (seqB tg l j2)
    simp [tyV, splice, demote_tm, under_tm, demote_tys, under_tys]
    rw [H5.tk]
    have := hq _ j2 (by omega) (by omega) (mk_of1 6 x (.mk k1 n1 l1) hx2 hb)
    rw [tm_mk] at this
    simpa [tmVs, alVs, biVs] using this
  · refine word14 tg l (i + 1) p [[120], [121], [122]] (by simp) (by simp) (by omega) (by omega) H1.get fun x hx => ?_
    have H2 := H1.set (seqB tg l (i + 1 + 1))
    generalize H.set p (seqB tg l (i + 1 + 1)) = H' at H2 ⊢
    have hx2 : x ≠ [113] := by
      intro e; subst e; simp at hx
    simp
    refine type10 tg l p 2 2 (i + 1 + 1) _ _ _ (by omega) (by omega) (by omega) (by omega) (by omega) H2.get fun t j1 g1 g2 ht => ?_
    have H3 := H2.set (seqB tg l j1)
    generalize H'.set p (seqB tg l j1) = H'' at H3 ⊢
    obtain ⟨k1, n1, l1⟩ := t
    simp [tyV, splice, dem_strs']
    refine texts56 vars (by omega) ?_
    simp [splice]
    refine ⟨strs_cells _ _, by simp only [lim]; omega, ?_⟩
    have H4 := H3.app [.fam (vars.length + 1) 1]
    simp [demL_app, dem_strs', V.demote, demoteL, List.set_append]
    rw [strs_snoc]
    refine ih (deep - 1) j1 (vars ++ [x]) _ _ _ (by omega) (by omega) (by omega) (by omega) (by simp; omega) (fun y hy => by
      rcases List.mem_append.1 hy with hy | hy
      · exact hvq y hy
      · simp at hy; subst hy; exact hx2) H4.get fun b j2 g3 g4 hb => ?_
    have H5 := H4.set (seqB tg l j2)
    simp [tyV, splice, demote_tm, under_tm, demote_tys, under_tys]
    rw [H5.tk]
    have := hq _ j2 (by omega) (by omega) (mk_of1 6 x (.mk k1 n1 l1) hx2 hb)
    rw [tm_mk] at this
    simpa [tmVs, alVs, biVs] using this
  · refine type10 tg l p 1 1 (i + 1) _ _ _ (by omega) (by omega) (by omega) (by omega) (by omega) H1.get fun t j1 g1 g2 ht => ?_
    have H3 := H1.set (seqB tg l j1)
    generalize H.set p (seqB tg l j1) = H' at H3 ⊢
    obtain ⟨k1, n1, l1⟩ := t
    simp [tyV, splice, dem_strs']
    refine ih (deep - 1) j1 vars _ _ _ (by omega) (by omega) (by omega) (by omega) (by omega) hvq H3.get fun b j2 g3 g4 hb => ?_
    have H5 := H3.set (seqB tg l j2)
    simp [tyV, splice, demote_tm, under_tm, demote_tys, under_tys]
    rw [H5.tk]
    have := hq _ j2 (by omega) (by omega) (mk_of1 7 [] (.mk k1 n1 l1) (by decide) hb)
    rw [tm_mk] at this
    simpa [tmVs, alVs, biVs] using this
  · refine word14 tg l (i + 1) p [[97], [98], [99]] (by simp) (by simp) (by omega) (by omega) H1.get fun x hx => ?_
    have H2 := H1.set (seqB tg l (i + 1 + 1))
    generalize H.set p (seqB tg l (i + 1 + 1)) = H' at H2 ⊢
    have hx2 : x ≠ [113] := by
      intro e; subst e; simp at hx
    simp [dem_strs']
    refine ih (deep - 1) (i + 1 + 1) vars _ _ _ (by omega) (by omega) (by omega) (by omega) (by omega) hvq H2.get fun b j2 g3 g4 hb => ?_
    have H5 := H2.set (seqB tg l j2)
    simp [splice, demote_tm, under_tm, dem_ty_cells, under_ty_cells, demL_app, undL_app]
    rw [H5.tk]
    have := hq _ j2 (by omega) (by omega) (mk_of1 8 x ty0 hx2 hb)
    rw [tm_v, ty0_c] at this
    simpa [tmVs, alVs, biVs] using this
  · refine word14 tg l (i + 1) p [[120], [121], [103]] (by simp) (by simp) (by omega) (by omega) H1.get fun x hx => ?_
    have H2 := H1.set (seqB tg l (i + 1 + 1))
    generalize H.set p (seqB tg l (i + 1 + 1)) = H' at H2 ⊢
    have hx2 : x ≠ [113] := by
      intro e; subst e; simp at hx
    have hvx : ∀ y ∈ vars ++ [x], y ≠ [113] := fun y hy => by
      rcases List.mem_append.1 hy with hy | hy
      · exact hvq y hy
      · simp at hy; subst hy; exact hx2
    simp [dem_strs']
    refine texts56 vars (by omega) ?_
    simp [splice]
    refine ⟨strs_cells _ _, by simp only [lim]; omega, ?_⟩
    have H4 := H2.app [.fam (vars.length + 1) 1]
    generalize H' ++ [Ob.fam (vars.length + 1) 1] = H'' at H4 ⊢
    refine type10 tg l p 2 2 (i + 1 + 1) _ _ _ (by omega) (by omega) (by omega) (by omega) (by omega) H4.get fun t j1 g1 g2 ht => ?_
    have H5 := H4.set (seqB tg l j1)
    generalize H''.set p (seqB tg l j1) = H3 at H5 ⊢
    obtain ⟨k1, n1, l1⟩ := t
    simp [tyV, splice, demL_app, dem_strs', V.demote, demoteL]
    rw [strs_snoc]
    refine ih (deep - 1) j1 (vars ++ [x]) _ _ _ (by omega) (by omega) (by omega) (by omega) (by simp; omega) hvx H5.get fun b j2 g3 g4 hb => ?_
    have H6 := H5.set (seqB tg l j2)
    generalize H3.set p (seqB tg l j2) = H7 at H6 ⊢
    obtain ⟨kb, sb, nb, ⟨kb', nb', lb'⟩, b1, b2, b3⟩ := b
    simp [splice, tm_mk, tyV, demL_app, dem_strs', V.demote, demoteL]
    rw [strs_snoc]
    refine ih (deep - 1) j2 (vars ++ [x]) _ _ _ (by omega) (by omega) (by omega) (by omega) (by simp; omega) hvx H6.get fun u j3 g5 g6 hu => ?_
    have H8 := H6.set (seqB tg l j3)
    generalize H7.set p (seqB tg l j3) = H9 at H8 ⊢
    simp [splice]
    refine next30 tg l j3 6 p H8.get (by omega) (by omega) (by omega) (by omega) fun k hk1 hk2 => ?_
    have HA := H8.set (seqB tg l (j3 + 1))
    generalize H9.set p (seqB tg l (j3 + 1)) = HB at HA ⊢
    by_cases hk0 : k = 0
    · subst hk0
      simp [splice, lim]
      simp [demote_tm, under_tm, demote_tys, under_tys, demote_tms, demote_als, demote_bis, under_tms, under_als, under_bis]
      rw [(HA.app [Ob.fam 2 13]).tk]
      have := hq _ (j3 + 1) (by omega) (by omega) (mk_let2 x (.mk k1 n1 l1) hb hu)
      rw [tm_v, ty0_c] at this
      simpa [tmVs, alVs, biVs, tm_mk, tyV] using this
    · have e0 : (k == 0) = false := by simpa using hk0
      simp [e0, splice]
      simp [demote_tm, under_tm, demote_tys, under_tys, demote_tms, demote_als, demote_bis, under_tms, under_als, under_bis]
      rw [HA.tk]
      have := hq _ (j3 + 1) (by omega) (by omega) (mk_let1 x (.mk k1 n1 l1) hb hu)
      rw [tm_v, ty0_c] at this
      simpa [tmVs, alVs, biVs, tm_mk, tyV] using this

end Go.Tt
