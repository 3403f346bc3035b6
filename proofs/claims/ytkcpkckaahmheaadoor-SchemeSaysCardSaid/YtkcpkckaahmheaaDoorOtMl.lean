/- The reference's Close, with what is not for all: on the abstract machine. -/
import Derived.Test.YtkcpkckaahmheaaDoorOtMc
import Derived.Test.YtkcpkckaahmheaaDoorOtMk
import Derived.Test.YtkcpkckaahmheaaDoorOtMh

namespace Go.Ot
open Go.Am Go.Proofs
set_option maxRecDepth 100000

section
variable {bs : List Nat} {h : List Ob} {Q : V → List Ob → Prop}

theorem closeR {A : List Nam} (hA : A.length ≤ 1000) (N : List Nam) (hN : N.length < 1000000) (t : Ty) (ps : En) (hl : ps.length ≤ 900) (hf : ∀ u ∈ t :: ps.map (·.2), fine u = true ∧ good A u)
    (hq : ∀ M : List Nam, M = (varsTL [] (t :: ps.map (·.2))).filter (fun x => !decide (x ∈ N)) → Q (.agg ([.sl .frozen (M.map .str), .sl .frozen (paVs ps)] ++ (tyV t).cells)) h) :
    CallA ap 21 0 bs [.sl .frozen (paVs ps), tyV t, .sl .frozen (N.map .str)] h Q := by
  refine CallA.code (af := ac21) rfl (Nat.le_of_ble_eq_true rfl) ?_
  obtain ⟨k, nn, l⟩ := t
  simp [ac21, splice, tyV, demote_tys, pas_demote]
  have e2 : V.agg [.int .i64 k, .str nn, .sl .frozen (tyVs l)] = tyV (.mk k nn l) := by simp [tyV]
  rw [e2]
  refine all31 _ ps (by omega) ?_
  simp [demote_tys]
  refine vars23 hA _ (by simp; omega) hf ?_
  have hlen := lenA hA hf
  revert hq hlen
  generalize varsTL [] (Ty.mk k nn l :: ps.map (·.2)) = O
  intro hq hlen
  simp
  obtain ⟨I, hI⟩ : ∃ I : Nat → St → Prop, ∀ n s, I n s ↔ (∃ C D : List Nam, O = C ++ D ∧ n = D.length ∧ s.r 2 = .sl .frozen (N.map .str) ∧ s.r 8 = .sl .frozen (O.map .str) ∧ s.r 9 = .int .i64 C.length ∧ s.r 6 = .loc 6 0 ∧ s.r 7 = .loc 7 0 ∧ s.l 6 = some [.sl .clip [], .sl .clip [], .int .i64 0, .str [], .sl .clip []] ∧
    (C.filter (fun x => !decide (x ∈ N)) = [] ∧ s.l 7 = some [.sl .clip [], .sl .frozen (paVs ps), .int .i64 k, .str nn, .sl .frozen (tyVs l)] ∧ s.h = h ∨ C.filter (fun x => !decide (x ∈ N)) ≠ [] ∧ s.l 7 = some [.sl (.fam h.length) ((C.filter (fun x => !decide (x ∈ N))).map .str), .sl .frozen (paVs ps), .int .i64 k, .str nn, .sl .frozen (tyVs l)] ∧ s.h = h ++ [.fam (C.filter (fun x => !decide (x ∈ N))).length 1])) := ⟨_, fun _ _ => Iff.rfl⟩
  refine loop_ind (CallA.hle ap) I ?_ (n := O.length) ((hI _ _).2 ⟨[], O, by simp⟩)
  rintro n ⟨r, lo, h'⟩ hst
  obtain ⟨C, D, e, hn, r2, r8, r9, r6, r7, l6, hor⟩ := (hI _ _).1 hst
  simp only at r2 r8 r9 r6 r7 l6 hor
  have hCD : C.length + D.length = O.length := by rw [e]; simp
  simp [forget, noLoc, locOf, r8, r9]
  refine condA_dec (fun d => ?_) fun d => ?_
  · obtain ⟨x, D', rfl⟩ : ∃ x D', D = x :: D' := by
      cases D with
      | nil => simp at hCD; omega
      | cons x D' => exact ⟨x, D', rfl⟩
    have g1 : (O.map V.str)[C.length]? = some (.str x) := by rw [e]; simp
    simp only [List.getElem?_map] at g1
    have hw : IntKind.wrap .i64 ((C.length : Int) + 1) = (C.length : Int) + 1 := wrap64 (by omega) (by omega)
    have hfl : (C.filter (fun x => !decide (x ∈ N))).length ≤ C.length := List.length_filter_le _ _
    simp [r2, r8, r9, g1, dem_strs]
    refine has40 N x hN fun b hb => ?_
    have hap : (C ++ [x]).filter (fun x => !decide (x ∈ N)) = C.filter (fun x => !decide (x ∈ N)) ++ (if x ∈ N then [] else [x]) := by
      rw [List.filter_append]; congr 1
      by_cases hx : x ∈ N <;> simp [hx]
    revert hor hap hfl
    generalize C.filter (fun x => !decide (x ∈ N)) = M
    intro hor hfl hap
    by_cases hx : x ∈ N
    · have : b = true := hb.2 hx
      subst this
      rw [if_pos hx, List.append_nil] at hap
      rcases hor with ⟨h0, l7, rfl⟩ | ⟨hne, l7, rfl⟩
      · simp [r9, hw]
        exact ⟨D'.length, by simp at hn; omega, (hI _ _).2 ⟨C ++ [x], D', by simpa using e, rfl, by simp [r2], by simp [r8], by simp, by simp [r6], by simp [r7], by simp [l6], by rw [hap]; exact .inl ⟨h0, by simp [l7], by simp⟩⟩⟩
      · simp [r9, hw]
        exact ⟨D'.length, by simp at hn; omega, (hI _ _).2 ⟨C ++ [x], D', by simpa using e, rfl, by simp [r2], by simp [r8], by simp, by simp [r6], by simp [r7], by simp [l6], by rw [hap]; exact .inr ⟨hne, by simp [l7], by simp⟩⟩⟩
    · have : b = false := by cases b <;> simp_all
      subst this
      rw [if_neg hx] at hap
      rcases hor with ⟨h0, l7, rfl⟩ | ⟨hne, l7, rfl⟩
      · subst h0
        simp [r8, r9, r7, l7, hw, g1, lim, splice]
        exact ⟨D'.length, by simp at hn; omega, (hI _ _).2 ⟨C ++ [x], D', by simpa using e, rfl, by simp [r2], by simp [r8], by simp, by simp [r6], by simp [r7], by simp [l6], by rw [hap]; exact .inr ⟨by simp, by simp, by simp⟩⟩⟩
      · have hll : M.length + 1 ≤ lim := by simp only [lim]; omega
        simp [r8, r9, r7, l7, hw, g1, splice, hll]
        refine ⟨fun v hv => ?_, D'.length, by simp at hn; omega, (hI _ _).2 ⟨C ++ [x], D', by simpa using e, rfl, by simp [r2], by simp [r8], by simp, by simp [r6], by simp [r7], by simp [l6], by rw [hap]; exact .inr ⟨by simp, by simp, by simp⟩⟩⟩
        rcases hv with ⟨y, _, rfl⟩ | rfl <;> rfl
  · have : D = [] := List.length_eq_zero_iff.1 (by omega)
    subst this
    have e : O = C := by simpa using e
    subst e
    have := hq _ rfl
    simp only [tyV, cells_agg, List.cons_append, List.nil_append] at this
    rcases hor with ⟨h0, l7, rfl⟩ | ⟨hne, l7, rfl⟩
    · rw [h0] at this
      simp [r6, r7, l6, l7, splice, demote_tys, under_tys, pas_demote, pas_under]
      exact this
    · simp [r6, r7, l6, l7, splice, demote_tys, under_tys, pas_demote, pas_under, dem_strs, under_strs]
      exact this

end
end Go.Ot

namespace Go.Ot
open Go.Am Go.Proofs
set_option maxRecDepth 100000
set_option maxHeartbeats 4000000

@[simp] theorem sc_loc (R : List Nam) (ys : En) (T : Ty) : (scV R ys T).isLoc = false := rfl
@[simp] theorem sc_demote (R : List Nam) (ys : En) (T : Ty) : (scV R ys T).demote = scV R ys T := by
  obtain ⟨k, n, l⟩ := T
  simp [scV, tyV, dem_strs, pas_demote, demote_tys]

theorem part5 (n : Int) (h : 0 ≤ n) : ∃ k : Nat, n.tmod 100000 = (k : Int) ∧ k < 100000 := by
  have h4 := Int.tmod_lt_of_pos n (show (0 : Int) < 100000 by omega)
  have h5 := Int.tmod_nonneg 100000 h
  exact ⟨(n.tmod 100000).toNat, by omega, by omega⟩

theorem part6 (n : Int) : -1000000 < n.tmod 100000 ∧ n.tmod 100000 < 1000000 := by
  have h1 := Int.tmod_lt_of_pos n (show (0 : Int) < 100000 by omega)
  have h2 := Int.lt_tmod_of_pos n (show (0 : Int) < 100000 by omega)
  exact ⟨by omega, by omega⟩

theorem schemeSays (l : List Int) (n from0 : Int) (nt : List Nam) (hn1 : -9223372036854775808 ≤ from0) (hn2 : from0 < 9223372036854775808) : CallA ap 6 0 [] [.sl .frozen (l.map (.int .i64)), .int .i64 n, .int .i64 from0, .sl .frozen (nt.map .str)] [] fun v _ => v = .bool true := by
  refine CallA.code (af := ac6) rfl (Nat.le_of_ble_eq_true rfl) ?_
  simp [ac6]
  refine firstO ?_
  simp
  by_cases hl : (200 : Int) < l.length
  · simp [hl]
  by_cases hl2 : (5 : Int) < nt.length
  · simp [hl, hl2]
  simp [hl, hl2, splice]
  refine schemeM (h := [seqB .frozen l 0]) .frozen l 0 0 (by omega) (by omega) (by simp) fun N ps t j _ hj1 hNn hNm hpl hpm hm => ?_
  obtain ⟨k, nn, tl⟩ := t
  simp [tyV, splice]
  refine schemeM (h := [seqB .frozen l j]) .frozen l 0 j (by omega) (by omega) (by simp) fun N2 ps2 t2 j2 _ hj2 hN2n hN2m hpl2 hpm2 hm2 => ?_
  obtain ⟨k2, nn2, tl2⟩ := t2
  simp [tyV, splice]
  refine predsM (h := [seqB .frozen l j2]) .frozen l 0 2 (by omega) 5 (by omega) j2 (by omega) (by omega) (by simp) fun p j3 _ _ hpl3 hpm3 => ?_
  simp
  generalize seqB .frozen l j3 = ob
  have es : V.agg [.sl .frozen (N.map .str), .sl .frozen (paVs ps), .int .i64 k, .str nn, .sl .frozen (tyVs tl)] = scV N ps (.mk k nn tl) := by simp [scV, tyV]
  have es2 : V.agg [.sl .frozen (N2.map .str), .sl .frozen (paVs ps2), .int .i64 k2, .str nn2, .sl .frozen (tyVs tl2)] = scV N2 ps2 (.mk k2 nn2 tl2) := by simp [scV, tyV]
  have hnt : nt.length ≤ 5 := by omega
  have ht := hm.fine
  have ht2 := hm2.fine
  have et : V.agg [.int .i64 k, .str nn, .sl .frozen (tyVs tl)] = tyV (.mk k nn tl) := by simp [tyV]
  have hfp : ∀ p ∈ ps, fine p.2 = true := fun p hp => (hpm p hp).t.fine
  have hfp2 : ∀ p ∈ ps2, fine p.2 = true := fun p hp => (hpm2 p hp).t.fine
  have hfp3 : ∀ q ∈ p, fine q.2 = true := fun q hq => (hpm3 q hq).t.fine
  have all : ∀ (t : Ty) (ps : En) (d : Nat), Made 3 t → (∀ x ∈ ps, PrM d x) → ∀ u ∈ t :: ps.map (·.2), fine u = true ∧ good abc u := fun t ps d h1 h2 u hu => by
    rcases List.mem_cons.1 hu with rfl | hu
    · exact ⟨h1.fine, h1.good⟩
    · obtain ⟨p, hp, rfl⟩ := List.mem_map.1 hu
      exact ⟨(h2 p hp).t.fine, (h2 p hp).t.good⟩
  have hf := all _ _ _ hm hpm
  have hf2 := all _ _ _ hm2 hpm2
  have hf3 := all _ _ _ hm hpm3
  have hsh : ∀ x ∈ N, x.length = 1 := fun x hx => by obtain ⟨j, _, rfl⟩ := hNm x hx; rfl
  have four : ∀ N : List Nam, N.Nodup → (∀ x ∈ N, ∃ j, j < 4 ∧ x = nm j) → N.length ≤ 4 := fun N h1 h2 => by
    have := List.Nodup.length_le_of_subset (l₂ := [nm 0, nm 1, nm 2, nm 3]) h1 fun x hx => by
      obtain ⟨j, hj, rfl⟩ := h2 x hx
      match j, hj with
      | 0, _ => simp
      | 1, _ => simp
      | 2, _ => simp
      | 3, _ => simp
    simpa using this
  have hNl := four N hNn hNm
  have hN2l := four N2 hN2n hN2m
  have hp6 := part6 n
  refine condA_dec (fun d => ?_) fun d => ?_
  · have w1' : IntKind.wrap .i64 (from0 + 1) = from0 + 1 := wrap64 (by omega) (by omega)
    have w2' : IntKind.wrap .i64 (-(from0 + 1)) = -(from0 + 1) := wrap64 (by omega) (by omega)
    obtain ⟨k0, hk, hk0⟩ := part5 (-(from0 + 1)) (by omega)
    simp [w1', w2', hk, pas_demote, demote_tys, dem_strs]
    clear hk w1' w2'
    obtain ⟨m, hmm⟩ : ∃ m, m = n.tmod 100000 := ⟨_, rfl⟩
    rw [← hmm] at hp6
    obtain ⟨Tf, hTf⟩ : ∃ T, T = apT (look (zipE N (frs k0 N.length))) (.mk k nn tl) := ⟨_, rfl⟩
    obtain ⟨Pf, hPf⟩ : ∃ P, P = mapE (look (zipE N (frs k0 N.length))) ps := ⟨_, rfl⟩
    have hfTf : fine Tf = true := by rw [hTf]; exact ren_fine ht
    have hfPf : ∀ p ∈ Pf, fine p.2 = true := fun p hp => by
      rw [hPf] at hp
      simp only [mapE, List.mem_map] at hp
      obtain ⟨q, hq, rfl⟩ := hp
      exact ren_fine (hfp q hq)
    have hPfl : Pf.length ≤ 3 := by rw [hPf, mapE_len]; exact hpl
    rw [es]
    refine fresh10 N k0 hk0 (by omega) hNn hsh ps (by omega) hfp (.mk k nn tl) ht ?_
    rw [← hTf, ← hPf]
    obtain ⟨kf, nf, tf⟩ := Tf
    have esf : V.agg [.sl .frozen ((frs k0 N.length).map .str), .sl .frozen (paVs Pf), .int .i64 kf, .str nf, .sl .frozen (tyVs tf)] = scV (frs k0 N.length) Pf (.mk kf nf tf) := by simp [scV, tyV]
    simp only [tyV]
    simp [splice, pas_demote, demote_tys, dem_strs]
    rw [es]
    refine refFresh N k0 hk0 (by omega) ps (by omega) hfp (.mk k nn tl) ht ?_
    rw [← hTf, ← hPf]
    simp only [tyV]
    simp [splice, pas_demote, demote_tys, dem_strs, ← hmm]
    rw [es]
    refine canonR (A := abc) (by simp [abc]) N (by omega) (.mk k nn tl) ps (by omega) hf fun R1 y1 T1 g1 => ?_
    simp [pas_demote, demote_tys, dem_strs]
    rw [es2]
    refine canonR (A := abc) (by simp [abc]) N2 (by omega) (.mk k2 nn2 tl2) ps2 (by omega) hf2 fun R2 y2 T2 g2 => ?_
    obtain ⟨a1, a2, a3, a4⟩ := canon_fine g1 ht hfp
    obtain ⟨b1, b2, b3, b4⟩ := canon_fine g2 ht2 hfp2
    simp
    refine sameScheme2 R1 R2 (by omega) (by omega) y1 y2 (by omega) (by omega) a2 b2 T1 T2 a1 b1 fun c hc => ?_
    simp [pas_demote, demote_tys, dem_strs]
    rw [es]
    refine canonK (A := abc) (by simp [abc]) N (by omega) (.mk k nn tl) ps (by omega) hf fun R3 y3 T3 g3 => ?_
    simp [pas_demote, demote_tys, dem_strs]
    rw [es]
    refine canonR (A := abc) (by simp [abc]) N (by omega) (.mk k nn tl) ps (by omega) hf fun R4 y4 T4 g4 => ?_
    obtain ⟨q1, q2, q3⟩ := canon_one g3 g4
    obtain ⟨q4, q5, q6⟩ := canon_one g1 g3
    subst q1 q2 q3 q4 q5 q6
    simp
    refine sameScheme2 _ _ (by omega) (by omega) _ _ (by omega) (by omega) a2 a2 _ _ a1 a1 fun c3 hc3 => ?_
    have : c3 = true := hc3.2 ⟨rfl, rfl, rfl⟩
    subst this
    simp [pas_demote, demote_tys, dem_strs]
    rw [es]
    refine freeC (A := abc) (by simp [abc]) N (by omega) (.mk k nn tl) ps (by omega) hf fun F1 hF1 => ?_
    simp [pas_demote, demote_tys, dem_strs]
    rw [es]
    refine refFree (A := abc) (by simp [abc]) N (by omega) (.mk k nn tl) ps (by omega) hf fun F2 hF2 => ?_
    rw [← hF1] at hF2
    subst hF2
    have hFl : F2.length < 1000000 := by
      rw [hF1]; exact Nat.lt_of_le_of_lt (List.length_filter_le _ _) (Nat.lt_of_le_of_lt (lenA (A := abc) (by simp [abc]) hf) (by omega))
    simp [dem_strs]
    refine texts2 F2 F2 hFl hFl fun c4 hc4 => ?_
    have : c4 = true := hc4.2 rfl
    subst this
    simp [pas_demote, demote_tys, dem_strs]
    rw [et]
    refine closeC (A := abc) (by simp [abc]) nt (by omega) (.mk k nn tl) p (by omega) hf3 fun M1 hM1 => ?_
    have esc : ∀ M : List Nam, V.agg ([.sl .frozen (M.map .str), .sl .frozen (paVs p)] ++ (tyV (.mk k nn tl)).cells) = scV M p (.mk k nn tl) := fun M => rfl
    rw [esc]
    simp [pas_demote, demote_tys, dem_strs]
    rw [et]
    refine closeR (A := abc) (by simp [abc]) nt (by omega) (.mk k nn tl) p (by omega) hf3 fun M2 hM2 => ?_
    rw [← hM1] at hM2
    subst hM2
    have hMl : M2.length < 1000000 := by
      rw [hM1]; exact Nat.lt_of_le_of_lt (List.length_filter_le _ _) (Nat.lt_of_le_of_lt (lenA (A := abc) (by simp [abc]) hf3) (by omega))
    rw [esc]
    simp
    refine sameScheme2 _ _ hMl hMl _ _ (by omega) (by omega) hfp3 hfp3 _ _ ht ht fun c5 hc5 => ?_
    have : c5 = true := hc5.2 ⟨rfl, rfl, rfl⟩
    subst this
    simp [pas_demote, demote_tys, dem_strs]
    rw [esf]
    refine sameScheme2 _ _ (by rw [frs_len]; omega) (by rw [frs_len]; omega) _ _ (by omega) (by omega) hfPf hfPf _ _ hfTf hfTf fun c6 hc6 => ?_
    have : c6 = true := hc6.2 ⟨rfl, rfl, rfl⟩
    subst this
    simp [pas_demote]
    refine sortP p (by omega) hfp3 fun x1 _ o1 o2 => ?_
    simp [pas_demote]
    refine sortR p (by omega) hfp3 fun x2 hx2 o3 o4 => ?_
    have : x1 = x2 := uniqP o1 o3 fun q => (o2 q).trans (o4 q).symm
    subst this
    have hfx : ∀ q ∈ x1, fine q.2 = true := fun q hq => hfp3 q ((o2 q).1 hq)
    simp [pas_demote]
    refine preds3 x1 x1 (by omega) (by omega) hfx hfx fun c7 hc7 => ?_
    have : c7 = true := hc7.2 rfl
    subst this
    simp
    refine nameG m hp6.1 hp6.2 ?_
    simp
    refine nameR m hp6.1 hp6.2 ?_
    simp [pas_demote, demote_tys, dem_strs]
    rw [es, es2]
    refine sameS2 (A := abc) (A2 := abc) (by simp [abc]) (by simp [abc]) N N2 (by omega) (by omega) (.mk k nn tl) (.mk k2 nn2 tl2) ps ps2 (by omega) (by omega) hf hf2 fun R5 y5 T5 g5 R6 y6 T6 g6 c8 hc8 => ?_
    obtain ⟨z1, z2, z3⟩ := canon_one g1 g5
    obtain ⟨z4, z5, z6⟩ := canon_one g2 g6
    subst z1 z2 z3 z4 z5 z6
    have hcc : c8 = c := by
      cases c <;> cases c8 <;> simp_all
    subst hcc
    simp [pas_demote, demote_tys, dem_strs]
    rw [es]
    refine sameS2 (A := abc) (A2 := abc) (by simp [abc]) (by simp [abc]) N N (by omega) (by omega) (.mk k nn tl) (.mk k nn tl) ps ps (by omega) (by omega) hf hf fun R5 y5 T5 g5 R6 y6 T6 g6 c9 hc9 => ?_
    obtain ⟨z1, z2, z3⟩ := canon_one g5 g6
    have : c9 = true := hc9.2 ⟨z1.symm, z2.symm, z3.symm⟩
    subst this
    simp
  · obtain ⟨k0, hk, hk0⟩ := part5 from0 (by omega)
    simp [hk, pas_demote, demote_tys, dem_strs]
    clear hk
    obtain ⟨m, hmm⟩ : ∃ m, m = n.tmod 100000 := ⟨_, rfl⟩
    rw [← hmm] at hp6
    obtain ⟨Tf, hTf⟩ : ∃ T, T = apT (look (zipE N (frs k0 N.length))) (.mk k nn tl) := ⟨_, rfl⟩
    obtain ⟨Pf, hPf⟩ : ∃ P, P = mapE (look (zipE N (frs k0 N.length))) ps := ⟨_, rfl⟩
    have hfTf : fine Tf = true := by rw [hTf]; exact ren_fine ht
    have hfPf : ∀ p ∈ Pf, fine p.2 = true := fun p hp => by
      rw [hPf] at hp
      simp only [mapE, List.mem_map] at hp
      obtain ⟨q, hq, rfl⟩ := hp
      exact ren_fine (hfp q hq)
    have hPfl : Pf.length ≤ 3 := by rw [hPf, mapE_len]; exact hpl
    rw [es]
    refine fresh10 N k0 hk0 (by omega) hNn hsh ps (by omega) hfp (.mk k nn tl) ht ?_
    rw [← hTf, ← hPf]
    obtain ⟨kf, nf, tf⟩ := Tf
    have esf : V.agg [.sl .frozen ((frs k0 N.length).map .str), .sl .frozen (paVs Pf), .int .i64 kf, .str nf, .sl .frozen (tyVs tf)] = scV (frs k0 N.length) Pf (.mk kf nf tf) := by simp [scV, tyV]
    simp only [tyV]
    simp [splice, pas_demote, demote_tys, dem_strs]
    rw [es]
    refine refFresh N k0 hk0 (by omega) ps (by omega) hfp (.mk k nn tl) ht ?_
    rw [← hTf, ← hPf]
    simp only [tyV]
    simp [splice, pas_demote, demote_tys, dem_strs, ← hmm]
    rw [es]
    refine canonR (A := abc) (by simp [abc]) N (by omega) (.mk k nn tl) ps (by omega) hf fun R1 y1 T1 g1 => ?_
    simp [pas_demote, demote_tys, dem_strs]
    rw [es2]
    refine canonR (A := abc) (by simp [abc]) N2 (by omega) (.mk k2 nn2 tl2) ps2 (by omega) hf2 fun R2 y2 T2 g2 => ?_
    obtain ⟨a1, a2, a3, a4⟩ := canon_fine g1 ht hfp
    obtain ⟨b1, b2, b3, b4⟩ := canon_fine g2 ht2 hfp2
    simp
    refine sameScheme2 R1 R2 (by omega) (by omega) y1 y2 (by omega) (by omega) a2 b2 T1 T2 a1 b1 fun c hc => ?_
    simp [pas_demote, demote_tys, dem_strs]
    rw [es]
    refine canonK (A := abc) (by simp [abc]) N (by omega) (.mk k nn tl) ps (by omega) hf fun R3 y3 T3 g3 => ?_
    simp [pas_demote, demote_tys, dem_strs]
    rw [es]
    refine canonR (A := abc) (by simp [abc]) N (by omega) (.mk k nn tl) ps (by omega) hf fun R4 y4 T4 g4 => ?_
    obtain ⟨q1, q2, q3⟩ := canon_one g3 g4
    obtain ⟨q4, q5, q6⟩ := canon_one g1 g3
    subst q1 q2 q3 q4 q5 q6
    simp
    refine sameScheme2 _ _ (by omega) (by omega) _ _ (by omega) (by omega) a2 a2 _ _ a1 a1 fun c3 hc3 => ?_
    have : c3 = true := hc3.2 ⟨rfl, rfl, rfl⟩
    subst this
    simp [pas_demote, demote_tys, dem_strs]
    rw [es]
    refine freeC (A := abc) (by simp [abc]) N (by omega) (.mk k nn tl) ps (by omega) hf fun F1 hF1 => ?_
    simp [pas_demote, demote_tys, dem_strs]
    rw [es]
    refine refFree (A := abc) (by simp [abc]) N (by omega) (.mk k nn tl) ps (by omega) hf fun F2 hF2 => ?_
    rw [← hF1] at hF2
    subst hF2
    have hFl : F2.length < 1000000 := by
      rw [hF1]; exact Nat.lt_of_le_of_lt (List.length_filter_le _ _) (Nat.lt_of_le_of_lt (lenA (A := abc) (by simp [abc]) hf) (by omega))
    simp [dem_strs]
    refine texts2 F2 F2 hFl hFl fun c4 hc4 => ?_
    have : c4 = true := hc4.2 rfl
    subst this
    simp [pas_demote, demote_tys, dem_strs]
    rw [et]
    refine closeC (A := abc) (by simp [abc]) nt (by omega) (.mk k nn tl) p (by omega) hf3 fun M1 hM1 => ?_
    have esc : ∀ M : List Nam, V.agg ([.sl .frozen (M.map .str), .sl .frozen (paVs p)] ++ (tyV (.mk k nn tl)).cells) = scV M p (.mk k nn tl) := fun M => rfl
    rw [esc]
    simp [pas_demote, demote_tys, dem_strs]
    rw [et]
    refine closeR (A := abc) (by simp [abc]) nt (by omega) (.mk k nn tl) p (by omega) hf3 fun M2 hM2 => ?_
    rw [← hM1] at hM2
    subst hM2
    have hMl : M2.length < 1000000 := by
      rw [hM1]; exact Nat.lt_of_le_of_lt (List.length_filter_le _ _) (Nat.lt_of_le_of_lt (lenA (A := abc) (by simp [abc]) hf3) (by omega))
    rw [esc]
    simp
    refine sameScheme2 _ _ hMl hMl _ _ (by omega) (by omega) hfp3 hfp3 _ _ ht ht fun c5 hc5 => ?_
    have : c5 = true := hc5.2 ⟨rfl, rfl, rfl⟩
    subst this
    simp [pas_demote, demote_tys, dem_strs]
    rw [esf]
    refine sameScheme2 _ _ (by rw [frs_len]; omega) (by rw [frs_len]; omega) _ _ (by omega) (by omega) hfPf hfPf _ _ hfTf hfTf fun c6 hc6 => ?_
    have : c6 = true := hc6.2 ⟨rfl, rfl, rfl⟩
    subst this
    simp [pas_demote]
    refine sortP p (by omega) hfp3 fun x1 _ o1 o2 => ?_
    simp [pas_demote]
    refine sortR p (by omega) hfp3 fun x2 hx2 o3 o4 => ?_
    have : x1 = x2 := uniqP o1 o3 fun q => (o2 q).trans (o4 q).symm
    subst this
    have hfx : ∀ q ∈ x1, fine q.2 = true := fun q hq => hfp3 q ((o2 q).1 hq)
    simp [pas_demote]
    refine preds3 x1 x1 (by omega) (by omega) hfx hfx fun c7 hc7 => ?_
    have : c7 = true := hc7.2 rfl
    subst this
    simp
    refine nameG m hp6.1 hp6.2 ?_
    simp
    refine nameR m hp6.1 hp6.2 ?_
    simp [pas_demote, demote_tys, dem_strs]
    rw [es, es2]
    refine sameS2 (A := abc) (A2 := abc) (by simp [abc]) (by simp [abc]) N N2 (by omega) (by omega) (.mk k nn tl) (.mk k2 nn2 tl2) ps ps2 (by omega) (by omega) hf hf2 fun R5 y5 T5 g5 R6 y6 T6 g6 c8 hc8 => ?_
    obtain ⟨z1, z2, z3⟩ := canon_one g1 g5
    obtain ⟨z4, z5, z6⟩ := canon_one g2 g6
    subst z1 z2 z3 z4 z5 z6
    have hcc : c8 = c := by
      cases c <;> cases c8 <;> simp_all
    subst hcc
    simp [pas_demote, demote_tys, dem_strs]
    rw [es]
    refine sameS2 (A := abc) (A2 := abc) (by simp [abc]) (by simp [abc]) N N (by omega) (by omega) (.mk k nn tl) (.mk k nn tl) ps ps (by omega) (by omega) hf hf fun R5 y5 T5 g5 R6 y6 T6 g6 c9 hc9 => ?_
    obtain ⟨z1, z2, z3⟩ := canon_one g5 g6
    have : c9 = true := hc9.2 ⟨z1.symm, z2.symm, z3.symm⟩
    subst this
    simp

end Go.Ot
