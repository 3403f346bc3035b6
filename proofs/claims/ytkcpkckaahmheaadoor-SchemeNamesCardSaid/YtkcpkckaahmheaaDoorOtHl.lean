/- The law SchemeNames on the abstract machine. -/
import Derived.Test.YtkcpkckaahmheaaDoorOtHk
import Derived.Test.YtkcpkckaahmheaaDoorOtGe
namespace Go.Ot
open Go.Am Go.Proofs
set_option maxRecDepth 100000
set_option maxHeartbeats 4000000

theorem names4 (q : Nat) (hq : q < 4) : ∃ b0 b1 b2 : Nam, [V.sl .clip [V.str [120], V.str [121], V.str [122]], V.sl .clip [V.str [98], V.str [99], V.str [97]], V.sl .clip [V.str [99], V.str [97], V.str [98]], V.sl .clip [V.str [113, 49], V.str [97], V.str [122, 122]]][q]? = some (.sl .clip [.str b0, .str b1, .str b2]) ∧ [b0, b1, b2].Nodup := by
  match q, hq with
  | 0, _ => exact ⟨_, _, _, rfl, by decide⟩
  | 1, _ => exact ⟨_, _, _, rfl, by decide⟩
  | 2, _ => exact ⟨_, _, _, rfl, by decide⟩
  | 3, _ => exact ⟨_, _, _, rfl, by decide⟩

theorem schemeNames (l : List Int) (k0 : Int) : CallA ap 5 0 [] [.sl .frozen (l.map (.int .i64)), .int .i64 k0] [] fun v _ => v = .bool true := by
  refine CallA.code (af := ac5) rfl (Nat.le_of_ble_eq_true rfl) ?_
  simp [ac5]
  refine firstO ?_
  simp
  by_cases hl : (100 : Int) < l.length
  · simp [hl]
  simp [hl, splice]
  refine made10 .frozen l 0 3 3 0 _ [seqB .frozen l 0] _ (by omega) (by omega) (by omega) (by omega) (by decide) (by simp) fun t j hj1 hj2 hm => ?_
  have hj3 : j ≤ 16 := by
    have : (2 : Int) ^ (3 + 1) = 16 := by decide
    omega
  have ht := hm.fine
  have hg := hm.good
  obtain ⟨k, nn, tl⟩ := t
  simp [tyV, splice]
  refine predsM (h := [seqB .frozen l j]) .frozen l 0 0 (by omega) 4 (by omega) j (by omega) (by omega) (by simp) fun ps j2 _ _ hlen hps => ?_
  have hfp : ∀ p ∈ ps, fine p.2 = true := fun p hp => (hps p hp).t.fine
  have hgp : ∀ p ∈ ps, good abc p.2 := fun p hp => (hps p hp).t.good
  have hlf : ∀ p ∈ ps, leaf p.2 := fun p hp => (hps p hp).t.leaf
  have hf : ∀ u ∈ Ty.mk k nn tl :: ps.map (·.2), fine u = true ∧ good abc u := fun u hu => by
    rcases List.mem_cons.1 hu with rfl | hu
    · exact ⟨ht, hg⟩
    · obtain ⟨p, hp, rfl⟩ := List.mem_map.1 hu
      exact ⟨hfp p hp, hgp p hp⟩
  have e2 : V.agg [.int .i64 k, .str nn, .sl .frozen (tyVs tl)] = tyV (.mk k nn tl) := by simp [tyV]
  simp [demote_tys, pas_demote]
  rw [e2]
  generalize seqB .frozen l j2 = ob
  obtain ⟨N, hN⟩ : ∃ N, N = varsTL [] (Ty.mk k nn tl :: ps.map (·.2)) := ⟨_, rfl⟩
  have hNl : N.length ≤ 1000 := by rw [hN]; exact lenA (A := abc) (by simp [abc]) hf
  refine close9 (A := abc) (by simp [abc]) (.mk k nn tl) ps (by omega) hf N hN hNl ?_
  obtain ⟨q, hq1, hq2⟩ := modcO (m := 4) (by omega) (by omega) k0
  obtain ⟨b0, b1, b2, hB, hBn⟩ := names4 q (by omega)
  have w3 : IntKind.wrap .i64 3 = 3 := by decide
  have w2' : IntKind.wrap .i64 2 = 2 := by decide
  simp [tyV, splice, hq2, hB]
  refine wpA_loop (CallA.hle ap) ?_
  simp [forget, noLoc, locOf]
  refine var31 b0 ?_
  simp [lim, w1, splice]
  refine wpA_loop (CallA.hle ap) ?_
  simp [forget, noLoc, locOf]
  refine var31 b1 ?_
  simp [lim, w2', splice]
  refine wpA_loop (CallA.hle ap) ?_
  simp [forget, noLoc, locOf]
  refine var31 b2 ?_
  simp [lim, w3, splice]
  refine wpA_loop (CallA.hle ap) ?_
  simp [forget, noLoc, locOf, pas_length]
  obtain ⟨B, hBe⟩ : ∃ B, B = [b0, b1, b2] := ⟨_, rfl⟩
  rw [← hBe] at hBn
  have hAB : abc.length = B.length := by rw [hBe]; rfl
  have hBl : B.length = 3 := by rw [hBe]; rfl
  obtain ⟨E, hE⟩ : ∃ E, E = zipE abc B := ⟨_, rfl⟩
  have hEl : E.length = 3 := by rw [hE, hBe]; rfl
  have hEv : [V.agg [V.str [97], V.int .i64 1, V.str b0, V.sl .frozen []], V.agg [V.str [98], V.int .i64 1, V.str b1, V.sl .frozen []], V.agg [V.str [99], V.int .i64 1, V.str b2, V.sl .frozen []]] = paVs E := by
    rw [hE, hBe]; simp [zipE, abc, paVs, paV, var, tyV, tyVs]
  have hw0 : IntKind.wrap .i64 ((ps.length : Int) - 1) = (ps.length : Int) - 1 := wrap64 (by omega) (by omega)
  obtain ⟨I, hI⟩ : ∃ I : Nat → St → Prop, ∀ n s, I n s ↔ (∃ A D : En, ps = A ++ D ∧ n = A.length ∧ s.r 5 = .bool true ∧ s.r 8 = .sl .frozen (paVs ps) ∧ s.r 11 = .sl (.fam 1) (paVs E) ∧ s.r 14 = .int .i64 ((A.length : Int) - 1) ∧ s.r 7 = .loc 7 0 ∧ s.r 9 = .loc 9 0 ∧
    s.l 7 = some [.int .i64 k, .str nn, .sl .frozen (tyVs tl)] ∧ s.l 9 = some [.sl .frozen (N.map .str), .sl .frozen (paVs ps), .int .i64 k, .str nn, .sl .frozen (tyVs tl)] ∧
    (D = [] ∧ s.r 13 = .sl .clip [] ∧ s.h = [ob, .fam 3 4] ∨ D ≠ [] ∧ s.r 13 = .sl (.fam 2) (paVs D.reverse) ∧ s.h = [ob, .fam 3 4, .fam D.length 4])) := ⟨_, fun _ _ => Iff.rfl⟩
  refine loop_ind (CallA.hle ap) I ?_ (n := ps.length) ((hI _ _).2 ⟨ps, [], by simp [hEv, hw0]⟩)
  rintro n ⟨r, lo, h'⟩ hst
  obtain ⟨A, D, ePs, hn, r5, r8, r11, r14, r7, r9, l7, l9, hor⟩ := (hI _ _).1 hst
  simp only at r5 r8 r11 r14 r7 r9 l7 l9 hor
  simp [forget, noLoc, locOf, r14]
  refine condA_dec (fun d => ?_) fun d => ?_
  · have hA0 : 0 < A.length := by omega
    obtain ⟨A', p, rfl⟩ : ∃ A' p, A = A' ++ [p] := by
      rcases List.eq_nil_or_concat A with rfl | ⟨A', p, e⟩
      · simp at hA0
      · exact ⟨A', p, by simpa using e⟩
    have hpl : A'.length + 1 + D.length = ps.length := by rw [ePs]; simp; omega
    have g1 : (paVs ps)[A'.length]? = some (paV p) := by rw [ePs]; simp [paVs]
    have e5 : ((A'.length : Int) + 1 - 1) = (A'.length : Int) := by omega
    have hw1 : IntKind.wrap .i64 ((A'.length : Int) - 1) = (A'.length : Int) - 1 := wrap64 (by omega) (by omega)
    have hD : (paVs D.reverse).length = D.length := by rw [pas_length]; simp
    have hs : paVs D.reverse ++ [paV p] = paVs (p :: D).reverse := by simp [paVs]
    rcases hor with ⟨h0, r13, rfl⟩ | ⟨hne, r13, rfl⟩
    · subst h0
      have h10 : [paV p] = paVs [p] := rfl
      simp [r8, r14, r13, e5, g1, pa_cells, pa_take, pa_agg, pa_loc, lim, hw1]
      exact ⟨A'.length, by simp at hn; omega, (hI _ _).2 ⟨A', [p], by simpa using ePs, rfl, by simp [r5, r8, r11, r7, r9, l7, l9, h10]⟩⟩
    · simp only [List.reverse_cons] at hs
      simp [r8, r14, r13, e5, g1, pa_cells, pa_take, pa_agg, pa_loc, hw1, hD, hs]
      refine ⟨fun v hv => pas_mem hv, by simp only [lim]; omega, A'.length, by simp at hn; omega, (hI _ _).2 ⟨A', p :: D, by simpa using ePs, rfl, by simp [r5, r8, r11, r7, r9, l7, l9]⟩⟩
  · have : A = [] := List.length_eq_zero_iff.1 (by omega)
    subst this
    have ePs : ps = D := by simpa using ePs
    subst ePs
    have hr13 : ∃ tg, r 13 = .sl tg (paVs ps.reverse) := by
      rcases hor with ⟨h0, r13, _⟩ | ⟨_, r13, _⟩
      · exact ⟨.clip, by rw [r13, h0]; rfl⟩
      · exact ⟨_, r13⟩
    obtain ⟨tg, r13⟩ := hr13
    clear hor
    simp [r11, r13, pas_demote]
    refine preds16 E (by omega) ps.reverse (by simp; omega) (by simpa using fun p hp => hfp p hp) ?_
    simp [r11, r7, l7, pas_demote, demote_tys]
    rw [e2]
    refine refOk ht _ _ _ E (by omega) ?_
    have hAn : abc.Nodup := by decide
    obtain ⟨t2, ht2⟩ : ∃ t2, t2 = apT (look E) (.mk k nn tl) := ⟨_, rfl⟩
    obtain ⟨ps2, hps2⟩ : ∃ ps2, ps2 = mapE (look E) ps.reverse := ⟨_, rfl⟩
    have hft2 : fine t2 = true := by rw [ht2, hE]; exact ren_fine ht
    have hgt2 : good (abc ++ B) t2 := by rw [ht2, hE]; exact ren_good hAn hAB ht hg
    have hps2l : ps2.length = ps.length := by rw [hps2, mapE_len]; simp
    have hm2 : ∀ p, p ∈ ps2 ↔ p ∈ mapE (look (zipE abc B)) ps := fun p => by
      rw [hps2, hE]; exact mapE_mem (fun p => by simp) p
    have hf2 : ∀ u ∈ t2 :: ps2.map (·.2), fine u = true ∧ good (abc ++ B) u := fun u hu => by
      rcases List.mem_cons.1 hu with rfl | hu
      · exact ⟨hft2, hgt2⟩
      · obtain ⟨p, hp, rfl⟩ := List.mem_map.1 hu
        have := (hm2 p).1 hp
        simp only [mapE, List.mem_map] at this
        obtain ⟨q, hq, rfl⟩ := this
        exact ⟨ren_fine (hfp q hq), ren_good hAn hAB (hfp q hq) (hgp q hq)⟩
    rw [← ht2]
    obtain ⟨k2, nn2, tl2⟩ := t2
    have e3 : V.agg [.int .i64 k2, .str nn2, .sl .frozen (tyVs tl2)] = tyV (.mk k2 nn2 tl2) := by simp [tyV]
    simp only [tyV]
    simp [pas_demote, demote_tys]
    rw [e3, ← hps2]
    obtain ⟨N2, hN2⟩ : ∃ N, N = varsTL [] (Ty.mk k2 nn2 tl2 :: ps2.map (·.2)) := ⟨_, rfl⟩
    have hN2l : N2.length ≤ 1000 := by rw [hN2]; exact lenA (A := abc ++ B) (by simp [abc, hBl]) hf2
    refine close9 (A := abc ++ B) (by simp [abc, hBl]) (.mk k2 nn2 tl2) ps2 (by omega) hf2 N2 hN2 hN2l ?_
    simp only [tyV]
    simp [r9, l9, pas_demote, demote_tys, dem_strs, splice]
    have e4 : V.agg [.sl .frozen (N.map .str), .sl .frozen (paVs ps), .int .i64 k, .str nn, .sl .frozen (tyVs tl)] = .agg ([.sl .frozen (N.map .str), .sl .frozen (paVs ps)] ++ (tyV (.mk k nn tl)).cells) := by simp [tyV]
    have e5 : V.agg [.sl .frozen (N2.map .str), .sl .frozen (paVs ps2), .int .i64 k2, .str nn2, .sl .frozen (tyVs tl2)] = .agg ([.sl .frozen (N2.map .str), .sl .frozen (paVs ps2)] ++ (tyV (.mk k2 nn2 tl2)).cells) := by simp [tyV]
    rw [e4]
    refine canonC (A := abc) (by simp [abc]) N (by omega) (.mk k nn tl) ps (by omega) hf fun xs L F R ys m hxl hxp hxm hL hF hm26 hR hRL hyl hyp hym => ?_
    rw [hN, filter_none (fun _ h => h)] at hF
    rw [hN, filter_all fun x hx => (vars_same hxm x).1 hx] at hL
    subst hF
    obtain ⟨T, hT⟩ : ∃ T, T = apT (look (zipE L R)) (.mk k nn tl) := ⟨_, rfl⟩
    have hLn : L.Nodup := by rw [hL]; exact varsTL_nodup _ _ (by simp)
    have hLl : L.length ≤ 3 := by
      have hfx : ∀ u ∈ Ty.mk k nn tl :: xs.map (·.2), fine u = true ∧ good abc u := fun u hu => by
        rcases List.mem_cons.1 hu with rfl | hu
        · exact ⟨ht, hg⟩
        · obtain ⟨p, hp, rfl⟩ := List.mem_map.1 hu
          exact ⟨hfp p ((hxm p).1 hp), hgp p ((hxm p).1 hp)⟩
      have := List.Nodup.length_le_of_subset hLn fun x hx => vars_in hfx (by rw [← hL]; exact hx)
      simpa [abc] using this
    have hfT : fine T = true := by rw [hT]; exact ren_fine ht
    have hgT : good (abc ++ R) T := by rw [hT]; exact ren_good hLn hRL.symm ht hg
    have hfys : ∀ p ∈ ys, fine p.2 = true ∧ good (abc ++ R) p.2 := fun p hp => by
      have := (hym p).1 hp
      simp only [mapE, List.mem_map] at this
      obtain ⟨q, hq, rfl⟩ := this
      exact ⟨ren_fine (hfp q hq), ren_good hLn hRL.symm (hfp q hq) (hgp q hq)⟩
    have hfc : ∀ u ∈ T :: ys.map (·.2), fine u = true ∧ good (abc ++ R) u := fun u hu => by
      rcases List.mem_cons.1 hu with rfl | hu
      · exact ⟨hfT, hgT⟩
      · obtain ⟨p, hp, rfl⟩ := List.mem_map.1 hu
        exact hfys p hp
    have hcA : (abc ++ R).length ≤ 12 := by simp [abc]; omega
    rw [← hT]
    have again := fun xs' ys' => canon_again ht (xs' := xs') (ys' := ys') hlf hfp hxp hxm hL hR hm26 hRL hyp hym
    rw [← hT] at again
    obtain ⟨k3, nn3, tl3⟩ := T
    have e6 : V.agg [.sl .frozen (R.map .str), .sl .frozen (paVs ys), .int .i64 k3, .str nn3, .sl .frozen (tyVs tl3)] = .agg ([.sl .frozen (R.map .str), .sl .frozen (paVs ys)] ++ (tyV (.mk k3 nn3 tl3)).cells) := by simp [tyV]
    simp only [tyV]
    simp [r7, l7, demote_tys, splice]
    have e1 : [V.agg [.int .i64 k, .str nn, .sl .frozen (tyVs tl)]] = tyVs [.mk k nn tl] := by simp [tyVs, tyV]
    rw [e1]
    refine vars23 (A := abc) (by simp [abc]) [.mk k nn tl] (by simp) (fun u hu => hf u (by simp at hu; simp [hu])) ?_
    simp
    obtain ⟨O, hO⟩ : ∃ O, O = varsTL [] [Ty.mk k nn tl] := ⟨_, rfl⟩
    rw [← hO]
    have hOm : ∀ x, x ∈ O ↔ occ x (.mk k nn tl) = true := fun x => by rw [hO]; simp [varsTL, varsT_mem]
    have hOl : O.length ≤ 1000 := by rw [hO]; exact lenA (A := abc) (by simp [abc]) fun u hu => hf u (by simp at hu; simp [hu])
    obtain ⟨J, hJ⟩ : ∃ J : Nat → St → Prop, ∀ n s, J n s ↔ (∃ (i : Nat) (b : Bool), i + n = ps.length ∧ s.r 5 = .bool true ∧ s.r 8 = .sl .frozen (paVs ps) ∧ s.r 17 = .bool b ∧ s.r 18 = .sl .frozen (O.map .str) ∧ s.r 19 = .int .i64 i ∧ s.r 9 = .loc 9 0 ∧ s.r 15 = .loc 15 0 ∧ s.r 16 = .loc 16 0 ∧
      s.l 9 = some [.sl .frozen (N.map .str), .sl .frozen (paVs ps), .int .i64 k, .str nn, .sl .frozen (tyVs tl)] ∧ s.l 15 = some [.sl .frozen (N2.map .str), .sl .frozen (paVs ps2), .int .i64 k2, .str nn2, .sl .frozen (tyVs tl2)] ∧ s.l 16 = some [.sl .frozen (R.map .str), .sl .frozen (paVs ys), .int .i64 k3, .str nn3, .sl .frozen (tyVs tl3)] ∧
      s.h = h' ∧ (b = true → ∀ p ∈ ps.take i, ∀ x, occ x p.2 = true → occ x (.mk k nn tl) = true)) := ⟨_, fun _ _ => Iff.rfl⟩
    refine loop_ind (CallA.hle ap) J ?_ (n := ps.length) ((hJ _ _).2 ⟨0, true, by simp [r5, r8, r9, l9]⟩)
    clear hst hI I l7 l9 r5 r8 r11 r14 r7 r9 r13 d lo r n hn
    rintro n ⟨r, lo, h''⟩ hst
    obtain ⟨i, b, hin, r5, r8, r17, r18, r19, r9, r15, r16, l9, l15, l16, rfl, hb⟩ := (hJ _ _).1 hst
    simp only at r5 r8 r17 r18 r19 r9 r15 r16 l9 l15 l16
    simp [forget, noLoc, locOf, r8, r19, pas_length]
    refine condA_dec (fun d => ?_) fun d => ?_
    · have hi : i < ps.length := by omega
      have g1 : (paVs ps)[i]? = some (paV ps[i]) := by simp [paVs, hi]
      have hw : IntKind.wrap .i64 ((i : Int) + 1) = ((i + 1 : Nat) : Int) := by rw [wrap64 (by omega) (by omega)]; omega
      have htk : ps.take (i + 1) = ps.take i ++ [ps[i]] := by rw [List.take_add_one, List.getElem?_eq_getElem hi]; rfl
      have hpf : fine ps[i].2 = true ∧ good abc ps[i].2 := ⟨hfp _ (List.getElem_mem hi), hgp _ (List.getElem_mem hi)⟩
      generalize ps[i] = p at *
      have e7 : [tyV p.2] = tyVs [p.2] := by simp [tyVs]
      simp [r8, r19, g1, pa_cells, pa_tail, ty_agg, demote_ty]
      rw [e7]
      refine vars23 (A := abc) (by simp [abc]) [p.2] (by simp) (fun u hu => by rw [List.mem_singleton] at hu; subst hu; exact hpf) ?_
      simp
      obtain ⟨W, hW⟩ : ∃ W, W = varsTL [] [p.2] := ⟨_, rfl⟩
      rw [← hW]
      have hWm : ∀ x, x ∈ W ↔ occ x p.2 = true := fun x => by rw [hW]; simp [varsTL, varsT_mem]
      have hWl : W.length ≤ 1000 := by rw [hW]; exact lenA (A := abc) (by simp [abc]) fun u hu => by rw [List.mem_singleton] at hu; subst hu; exact hpf
      obtain ⟨K, hK⟩ : ∃ K : Nat → St → Prop, ∀ n s, K n s ↔ (∃ (q : Nat) (c : Bool), q + n = W.length ∧ s.r 5 = .bool true ∧ s.r 8 = .sl .frozen (paVs ps) ∧ s.r 17 = .bool c ∧ s.r 18 = .sl .frozen (O.map .str) ∧ s.r 19 = .int .i64 i ∧ s.r 20 = .sl .frozen (W.map .str) ∧ s.r 21 = .int .i64 q ∧ s.r 9 = .loc 9 0 ∧ s.r 15 = .loc 15 0 ∧ s.r 16 = .loc 16 0 ∧
        s.l 9 = some [.sl .frozen (N.map .str), .sl .frozen (paVs ps), .int .i64 k, .str nn, .sl .frozen (tyVs tl)] ∧ s.l 15 = some [.sl .frozen (N2.map .str), .sl .frozen (paVs ps2), .int .i64 k2, .str nn2, .sl .frozen (tyVs tl2)] ∧ s.l 16 = some [.sl .frozen (R.map .str), .sl .frozen (paVs ys), .int .i64 k3, .str nn3, .sl .frozen (tyVs tl3)] ∧
        s.h = h'' ∧ (c = true → b = true ∧ ∀ x ∈ W.take q, occ x (.mk k nn tl) = true)) := ⟨_, fun _ _ => Iff.rfl⟩
      refine loop_ind (CallA.hle ap) K ?_ (n := W.length) ((hK _ _).2 ⟨0, b, by simp [r5, r8, r17, r18, r19, r9, r15, r16, l9, l15, l16]⟩)
      rintro n2 ⟨rr, lo2, h2⟩ hst2
      obtain ⟨q2, c, hqn, v5, v8, v17, v18, v19, v20, v21, v9, v15, v16, m9, m15, m16, rfl, hc⟩ := (hK _ _).1 hst2
      simp only at v5 v8 v17 v18 v19 v20 v21 v9 v15 v16 m9 m15 m16
      simp [forget, noLoc, locOf, v20, v21]
      refine condA_dec (fun d2 => ?_) fun d2 => ?_
      · have hq2' : q2 < W.length := by omega
        have g2 : (W.map V.str)[q2]? = some (.str W[q2]) := by simp [hq2']
        have hwq : IntKind.wrap .i64 ((q2 : Int) + 1) = ((q2 + 1 : Nat) : Int) := by rw [wrap64 (by omega) (by omega)]; omega
        have htq : W.take (q2 + 1) = W.take q2 ++ [W[q2]] := by rw [List.take_add_one, List.getElem?_eq_getElem hq2']; rfl
        generalize W[q2] = w at *
        simp only [List.getElem?_map] at g2
        cases c with
        | false =>
          simp [v17, v21, hwq]
          exact ⟨n2 - 1, by omega, (hK _ _).2 ⟨q2 + 1, false, by omega, by simp [v5, v8, v18, v19, v20, v9, v15, v16, m9, m15, m16]⟩⟩
        | true =>
          simp [v17, v18, v20, v21, g2, dem_strs]
          refine has40 O w (by omega) fun b' hb' => ?_
          simp [v21, hwq]
          refine ⟨n2 - 1, by omega, (hK _ _).2 ⟨q2 + 1, b', by omega, by simp [v5], by simp [v8], by simp, by simp [v18], by simp [v19], by simp [v20], by simp, by simp [v9], by simp [v15], by simp [v16], by simp [m9], by simp [m15], by simp [m16], rfl, fun hbt => ⟨(hc rfl).1, fun x hx => ?_⟩⟩⟩
          rw [htq] at hx
          rcases List.mem_append.1 hx with hx | hx
          · exact (hc rfl).2 x hx
          · rw [List.mem_singleton] at hx; subst hx; exact (hOm x).1 (hb'.1 hbt)
      · have hfull : W.take q2 = W := List.take_of_length_le (by omega)
        rw [hfull] at hc
        simp [v19, hw]
        refine ⟨n - 1, by omega, (hJ _ _).2 ⟨i + 1, c, by omega, by simp [v5], by simp [v8], by simp [v17], by simp [v18], by simp, by simp [v9], by simp [v15], by simp [v16], by simp [m9], by simp [m15], by simp [m16], rfl, fun hct p' hp' x hx => ?_⟩⟩
        rw [htk] at hp'
        rcases List.mem_append.1 hp' with hp' | hp'
        · exact hb (hc hct).1 p' hp' x hx
        · rw [List.mem_singleton] at hp'; subst hp'; exact (hc hct).2 x ((hWm x).2 hx)
    · have hfull : ps.take i = ps := List.take_of_length_le (by omega)
      rw [hfull] at hb
      have hRl : R.length ≤ 3 := by omega
      cases b with
      | false =>
        simp [r5, r17, r16, l16, demote_tys, pas_demote, dem_strs]
        rw [e6]
        refine canonC (A := abc ++ R) hcA R (by omega) (.mk k3 nn3 tl3) ys (by omega) hfc fun xs' L' F' R' ys' m' _ hx1 hx2 hL' hF' _ hR' hRL' _ hy1 hy2 => ?_
        obtain ⟨q1, q2, q3⟩ := (again xs' ys').2 hx1 hx2 hL' hF' hR' hRL' hy1 hy2
        rw [q2]
        subst q1 q3
        simp only [tyV]
        simp [r16, l16, demote_tys, pas_demote, dem_strs]
        rw [e6]
        refine sameScheme R' (by omega) ys' (by omega) (fun p hp => (hfys p hp).1) (.mk k3 nn3 tl3) hfT ?_
        simp [r9, l9, demote_tys, pas_demote, dem_strs]
        rw [e4]
        refine freeC (A := abc) (by simp [abc]) N (by omega) (.mk k nn tl) ps (by omega) hf fun F1 hF1 => ?_
        rw [hN, filter_none (fun _ h => h)] at hF1
        subst hF1
        simp [r16, l16, demote_tys, pas_demote, dem_strs]
        rw [e6]
        refine freeC (A := abc ++ R') (by omega) R' (by omega) (.mk k3 nn3 tl3) ys' (by omega) hfc fun F2 hF2 => ?_
        rw [(again xs' ys').1, filter_none (fun _ h => h)] at hF2
        subst hF2
        simp
      | true =>
        simp [r5, r17, r9, r15, l9, l15, demote_tys, pas_demote, dem_strs]
        rw [e4, e5]
        refine sameS (A := abc) (A2 := abc ++ B) (by simp [abc]) (by simp [abc, hBl]) N N2 (by omega) (by omega) (.mk k nn tl) (.mk k2 nn2 tl2) ps ps2 (by omega) (by omega) hf hf2 (fun xs L F R ys m _ _ g3 g4 g5 g6 g7 g8 _ g10 g11 xs2 L2 F2 R2 ys2 m2 _ _ j3 j4 j5 _ j7 j8 _ j10 j11 => ?_) ?_
        · rw [hN] at g4 g5
          rw [hN2] at j4 j5
          exact same_law hAn hBn hAB ht hlf hfp hg.2 (hb rfl) (by rw [ht2, hE]) hm2 g3 g4 g5 g6 g7 g8 g10 g11 j3 j4 j5 j7 j8 j10 j11
        simp [r16, l16, demote_tys, pas_demote, dem_strs]
        rw [e6]
        refine canonC (A := abc ++ R) hcA R (by omega) (.mk k3 nn3 tl3) ys (by omega) hfc fun xs' L' F' R' ys' m' _ hx1 hx2 hL' hF' _ hR' hRL' _ hy1 hy2 => ?_
        obtain ⟨q1, q2, q3⟩ := (again xs' ys').2 hx1 hx2 hL' hF' hR' hRL' hy1 hy2
        rw [q2]
        subst q1 q3
        simp only [tyV]
        simp [r16, l16, demote_tys, pas_demote, dem_strs]
        rw [e6]
        refine sameScheme R' (by omega) ys' (by omega) (fun p hp => (hfys p hp).1) (.mk k3 nn3 tl3) hfT ?_
        simp [r9, l9, demote_tys, pas_demote, dem_strs]
        rw [e4]
        refine freeC (A := abc) (by simp [abc]) N (by omega) (.mk k nn tl) ps (by omega) hf fun F1 hF1 => ?_
        rw [hN, filter_none (fun _ h => h)] at hF1
        subst hF1
        simp [r16, l16, demote_tys, pas_demote, dem_strs]
        rw [e6]
        refine freeC (A := abc ++ R') (by omega) R' (by omega) (.mk k3 nn3 tl3) ys' (by omega) hfc fun F2 hF2 => ?_
        rw [(again xs' ys').1, filter_none (fun _ h => h)] at hF2
        subst hF2
        simp

end Go.Ot
