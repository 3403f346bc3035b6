/- New variables, put back in their places: the law on the abstract machine. -/
import Derived.Test.YtgngmbnbldkgnaaDoorStC3
namespace Go.St
open Go.Am Go.Proofs
set_option maxRecDepth 100000

section
variable {bs : List Nat} {h : List Ob} {Q : V → List Ob → Prop}

theorem pred18 (p : Nam × Ty) (hf : fine p.2 = true) (hq : Q (.bool true) h) : CallA ap 18 0 bs [paV p, paV p] h Q := by
  refine CallA.code (af := ac18) rfl (Nat.le_of_ble_eq_true rfl) ?_
  obtain ⟨c, k, m, tl⟩ := p
  have hty : V.agg [.int .i64 k, .str m, .sl .frozen (tyVs tl)] = tyV (.mk k m tl) := by simp [tyV]
  simp [ac18, paV, tyV, demote_tys]
  rw [hty]
  refine sameOk (fine_ok _ hf) (fine_ok _ hf) _ _ _ ?_
  rw [(beqT_iff _ _).2 rfl]
  simp
  exact hq

theorem preds15 (ps : En) (hl : ps.length ≤ 1000) (hf : ∀ p ∈ ps, fine p.2 = true) (hq : Q (.bool true) h) : CallA ap 15 0 bs [.sl .frozen (paVs ps), .sl .frozen (paVs ps)] h Q := by
  refine CallA.code (af := ac15) rfl (Nat.le_of_ble_eq_true rfl) ?_
  simp [ac15, pas_length]
  obtain ⟨I, hI⟩ : ∃ I : Nat → St → Prop, ∀ n s, I n s ↔ (∃ i : Nat, i + n = ps.length ∧ s.r 0 = .sl .frozen (paVs ps) ∧ s.r 1 = .sl .frozen (paVs ps) ∧ s.r 5 = .int .i64 i ∧ s.h = h) := ⟨_, fun _ _ => Iff.rfl⟩
  refine loop_ind (CallA.hle ap) I ?_ (n := ps.length) ((hI _ _).2 ⟨0, by simp⟩)
  rintro n ⟨r, lo, h'⟩ hst
  obtain ⟨i, hin, r0, r1, r5, rfl⟩ := (hI _ _).1 hst
  simp only at r0 r1 r5
  simp [forget, noLoc, r0, r5, pas_length]
  refine condA_dec (fun h1 => ?_) fun h1 => ?_
  · have hi : i < ps.length := by omega
    have g1 : (paVs ps)[i]? = some (paV ps[i]) := by simp [paVs, hi]
    have hw : IntKind.wrap .i64 ((i : Int) + 1) = ((i + 1 : Nat) : Int) := by rw [wrap64 (by omega) (by omega)]; omega
    have hfi := hf _ (List.getElem_mem hi)
    generalize ps[i] = p at *
    simp [r0, r1, r5, g1, pa_cells, pa_take, pa_agg, pa_demote, pa_loc]
    refine pred18 p hfi ?_
    simp [r5, hw]
    exact ⟨n - 1, by omega, (hI _ _).2 ⟨i + 1, by omega, by simp [r0, r1]⟩⟩
  · simp
    exact hq

theorem first6 (hq : Q (.bool true) h) : CallA ap 6 0 bs [] h Q := by
  refine CallA.code (af := ac6) rfl (Nat.le_of_ble_eq_true rfl) ?_
  simp [ac6]
  refine CallA.code (af := ac26) rfl (Nat.le_of_ble_eq_true rfl) ?_
  simp [ac26, w1]
  have e : Lib.itoa 1 = [49] := by simp [Lib.itoa, Lib.decDigits]
  refine itoa32 1 (by omega) (by omega) ?_
  have hb : (Utf8.encode 98).data.toList = [98] := by decide
  have ha : (Utf8.encode 97).data.toList = [97] := by decide
  have w98 : IntKind.wrap .i64 98 = 98 := wrap64 (by omega) (by omega)
  have w97 : IntKind.wrap .i64 97 = 97 := wrap64 (by omega) (by omega)
  have x98 : IntKind.wrap .i32 98 = 98 := by decide
  have x97 : IntKind.wrap .i32 97 = 97 := by decide
  simp [e, w98, x98, hb]
  refine CallA.code (af := ac26) rfl (Nat.le_of_ble_eq_true rfl) ?_
  simp [ac26, w97, x97, ha]
  refine CallA.code (af := ac26) rfl (Nat.le_of_ble_eq_true rfl) ?_
  simp [ac26, w97, x97, ha]
  exact hq

end
theorem part1000 (k : Int) (h : 0 ≤ k) : ∃ j : Nat, k.tmod 1000 = (j : Int) ∧ j < 1000 := by
  have h1 := Int.tmod_nonneg 1000 h
  have h2 := Int.tmod_lt_of_pos k (by omega : (0 : Int) < 1000)
  exact ⟨(k.tmod 1000).toNat, by omega, by omega⟩

/-- Behind what is made. -/
theorem mapE_back {L R : List Nam} (hL : L.Nodup) (hR : R.Nodup) (hl : L.length = R.length) (ps : En) (hf : ∀ p ∈ ps, fine p.2 = true) (hv : ∀ p ∈ ps, ∀ y, occ y p.2 = true → y ∈ L) : mapE (look (zipE R L)) (mapE (look (zipE L R)) ps) = ps := by
  rw [mapE, mapE, List.map_map]
  conv => rhs; rw [← List.map_id ps]
  refine List.map_congr_left fun p hp => ?_
  simp only [Function.comp, id_eq]
  rw [back_ty hL hR hl (hf p hp) (hv p hp)]

theorem occL_mem {y : Nam} {u : Ty} : ∀ {l : List Ty}, u ∈ l → occ y u = true → occL y l = true
  | a :: l, hu, h => by
    simp only [occL, Bool.or_eq_true]
    rcases List.mem_cons.1 hu with rfl | hu
    · exact .inl h
    · exact .inr (occL_mem hu h)

theorem law8f (a : List Int) (n : Int) (hn1 : -9223372036854775808 ≤ n) (hn2 : n < 9223372036854775808) : CallA ap 3 0 [] [.sl .frozen (a.map (.int .i64)), .int .i64 n] [] fun v _ => v = .bool true := by
  refine CallA.code (af := ac3) rfl (Nat.le_of_ble_eq_true rfl) ?_
  simp [ac3]
  refine first6 ?_
  simp
  by_cases c1 : (100 : Int) < a.length
  · simp [c1]
  simp [c1]
  have p16 : (2 : Int) ^ (3 + 1) = 16 := by decide
  refine condA_dec (fun d1 => ?_) fun d1 => ?_
  · have w1' : IntKind.wrap .i64 (n + 1) = n + 1 := wrap64 (by omega) (by omega)
    have w2' : IntKind.wrap .i64 (-(n + 1)) = -(n + 1) := wrap64 (by omega) (by omega)
    obtain ⟨k0, hk, hk2⟩ := part1000 (-(n + 1)) (by omega)
    simp [w1', w2', hk, splice]
    clear hk w1' w2'
    refine made10 .frozen a 0 3 3 0 _ _ _ (by omega) (by omega) (by omega) (by omega) (by omega) rfl fun t j hj1 hj2 ht => ?_
    obtain ⟨k, nn, l⟩ := t
    have hfT := ht.fine
    have hgT := ht.good
    obtain ⟨T, hT⟩ : ∃ T, T = Ty.mk k nn l := ⟨_, rfl⟩
    have hty : tyV T = V.agg [.int .i64 k, .str nn, .sl .frozen (tyVs l)] := by rw [hT]; simp [tyV]
    rw [← hT] at hfT hgT
    simp [splice, tyV]
    refine predsM .frozen a 0 1 (by omega) 3 (by omega) j (by omega) (by omega) rfl fun ps j2 hj3 hj4 hps hpr => ?_
    have hfp : ∀ p ∈ ps, fine p.2 = true := fun p hp => (hpr p hp).t.fine
    have hall : ∀ u ∈ T :: ps.map (·.2), fine u = true ∧ good abc u := by
      intro u hu
      rcases List.mem_cons.1 hu with rfl | hu
      · exact ⟨hfT, hgT⟩
      · obtain ⟨p, hp, rfl⟩ := List.mem_map.1 hu
        exact ⟨hfp p hp, (hpr p hp).t.good⟩
    obtain ⟨L, hL⟩ : ∃ L, L = varsTL [] (T :: ps.map (·.2)) := ⟨_, rfl⟩
    have hnd : L.Nodup := by rw [hL]; exact varsTL_nodup _ _ (by simp)
    have hmem : ∀ y, y ∈ L ↔ occL y (T :: ps.map (·.2)) = true := fun y => by rw [hL, varsTL_mem]; simp
    have hsub : ∀ x ∈ L, x ∈ abc := by
      intro x hx
      have hx := (hmem x).1 hx
      have : ∀ m : List Ty, (∀ u ∈ m, good abc u) → occL x m = true → x ∈ abc := by
        intro m
        induction m with
        | nil => intro _ h; simp [occL] at h
        | cons u m ih =>
          intro hm h
          simp only [occL, Bool.or_eq_true] at h
          rcases h with h | h
          · exact (hm u (by simp)).2 x h
          · exact ih (fun w hw => hm w (by simp [hw])) h
      exact this _ (fun u hu => (hall u hu).2) hx
    have hLl : L.length ≤ 3 := Nat.le_trans (List.Nodup.length_le_of_subset hnd hsub) (by decide)
    have hshort : ∀ x ∈ L, x.length = 1 := fun x hx => by
      have := hsub x hx
      simp [abc] at this
      rcases this with rfl | rfl | rfl <;> rfl
    simp [pas_demote, demote_tys]
    rw [← hty]
    refine close9 (A := abc) (by decide) T ps (by omega) hall L hL (by omega) ?_
    rw [hty]
    have hcells : V.agg [.sl .frozen (L.map .str), .sl .frozen (paVs ps), .int .i64 k, .str nn, .sl .frozen (tyVs l)] = .agg ([.sl .frozen (L.map .str), .sl .frozen (paVs ps)] ++ (tyV T).cells) := by rw [hty]; simp
    have hLd : demoteL (L.map V.str) = L.map V.str := dem_strs L
    obtain ⟨ML, hML⟩ : ∃ M : List V, M = L.map .str := ⟨_, rfl⟩
    rw [← hML] at hcells hLd ⊢
    simp [splice, pas_demote, demote_tys, hLd]
    rw [hcells, hML]
    refine fresh10 L k0 (by omega) (by omega) hnd hshort ps (by omega) hfp T hfT ?_
    obtain ⟨R, hR⟩ : ∃ R, R = frs k0 L.length := ⟨_, rfl⟩
    rw [← hR, ← hML]
    have hRl : R.length = L.length := by rw [hR]; exact frs_len _ _
    have hRnd : R.Nodup := by rw [hR]; exact frs_nodup (by omega)
    obtain ⟨MR, hMR⟩ : ∃ M : List V, M = R.map .str := ⟨_, rfl⟩
    rw [← hMR]
    obtain ⟨E, hE⟩ : ∃ E, E = zipE L R := ⟨_, rfl⟩
    obtain ⟨E2, hE2⟩ : ∃ E2, E2 = zipE R L := ⟨_, rfl⟩
    have hbackT : apT (look E2) (apT (look E) T) = T := by
      rw [hE, hE2]
      exact back_ty hnd hRnd hRl.symm hfT fun y hy => (hmem y).2 (occL_mem (by simp) hy)
    have hbackP : mapE (look E2) (mapE (look E) ps) = ps := by
      rw [hE, hE2]
      exact mapE_back hnd hRnd hRl.symm ps hfp fun p hp y hy => (hmem y).2 (occL_mem (List.mem_cons_of_mem _ (List.mem_map.2 ⟨p, hp, rfl⟩)) hy)
    have hEf : ∀ x u, look E x = some u → fine u = true := fun x u hx => by
      have hm := look_mem hx
      rw [hE] at hm
      obtain ⟨b, _, e⟩ := zipE_mem hm
      simp only at e
      rw [e]; rfl
    rw [← hE]
    obtain ⟨ps', hps'⟩ : ∃ ps', ps' = mapE (look E) ps := ⟨_, rfl⟩
    obtain ⟨T', hT'⟩ : ∃ T', T' = apT (look E) T := ⟨_, rfl⟩
    have hfT' : fine T' = true := by rw [hT']; exact ap_fine _ hEf T hfT
    have hfp' : ∀ p ∈ ps', fine p.2 = true := by
      intro p hp
      rw [hps'] at hp
      obtain ⟨q, hq, rfl⟩ := List.mem_map.1 hp
      exact ap_fine _ hEf _ (hfp q hq)
    have hpl' : ps'.length = ps.length := by rw [hps', mapE_len]
    rw [← hps', ← hT']
    rw [← hT'] at hbackT
    rw [← hps'] at hbackP
    obtain ⟨k', nn', l'⟩ := T'
    have hMl : ML.length = L.length := by rw [hML]; simp
    have hMrl : MR.length = L.length := by rw [hMR]; simp [hRl]
    have wadd : IntKind.wrap .i64 ((k0 : Int) + L.length) = (k0 : Int) + L.length := wrap64 (by omega) (by omega)
    have hE2l : E2.length = L.length := by rw [hE2, zipE_len hRl, hRl]
    have gE2 : ∀ i, i < L.length → E2.take (i + 1) = E2.take i ++ [(R.getD i [], var (L.getD i []))] := by
      intro i h1
      rw [List.take_add_one]
      have : E2[i]? = some (R.getD i [], var (L.getD i [])) := by
        have h2 : i < R.length := by omega
        rw [hE2]; simp [zipE, List.getElem?_zipWith, h1, h2, List.getD_eq_getElem?_getD]
      rw [this]; rfl
    have gL : ∀ i, i < L.length → ML[i]? = some (.str (L.getD i [])) := fun i h1 => by rw [hML]; simp [h1, List.getD_eq_getElem?_getD]
    have gR : ∀ i, i < L.length → MR[i]? = some (.str (R.getD i [])) := fun i h1 => by
      have h2 : i < R.length := by omega
      rw [hMR]; simp [h2, List.getD_eq_getElem?_getD]
    simp [splice, tyV, hMl, hMrl, wadd]
    obtain ⟨I, hI⟩ : ∃ I : Nat → St → Prop, ∀ n s, I n s ↔ (∃ i : Nat, i + n = L.length ∧ s.r 5 = .bool true ∧ s.r 13 = .int .i64 i ∧ s.r 9 = .loc 9 0 ∧ s.r 10 = .loc 10 0 ∧ s.l 9 = some [.sl .frozen ML, .sl .frozen (paVs ps), .int .i64 k, .str nn, .sl .frozen (tyVs l)] ∧ s.l 10 = some [.sl .frozen MR, .sl .frozen (paVs ps'), .int .i64 k', .str nn', .sl .frozen (tyVs l')] ∧
      (i = 0 ∧ s.r 12 = .sl .clip [] ∧ s.h = [seqB .frozen a j2] ∨ 0 < i ∧ s.r 12 = .sl (.fam 1) (paVs (E2.take i)) ∧ s.h = [seqB .frozen a j2, .fam i 4])) := ⟨_, fun _ _ => Iff.rfl⟩
    refine loop_ind (CallA.hle ap) I ?_ (n := L.length) ((hI _ _).2 ⟨0, by simp⟩)
    rintro n' ⟨r, lo, h'⟩ hst
    obtain ⟨i, hin, r5, r13, r9, r10, l9, l10, hor⟩ := (hI _ _).1 hst
    simp only at r5 r13 r9 r10 l9 l10 hor
    simp [forget, noLoc, locOf, r13, r10, l10, hMrl]
    refine condA_dec (fun e1 => ?_) fun e1 => ?_
    · have hi : i < L.length := by omega
      have hi2 : i < R.length := by omega
      have hw : IntKind.wrap .i64 ((i : Int) + 1) = ((i + 1 : Nat) : Int) := by rw [wrap64 (by omega) (by omega)]; omega
      have g1 := gL i hi
      have g2 := gR i hi
      have g3 := gE2 i hi
      have hx : R.getD i [] = fr (k0 + i) := by rw [hR]; simp [frs, hi, List.getD_eq_getElem?_getD]
      obtain ⟨z1, z2⟩ := fr_len (k := k0 + i) (by omega)
      have hnot : fr (k0 + i) ∉ R.take i := by
        intro hm
        obtain ⟨q, hq, e⟩ := List.getElem_of_mem hm
        have hq1 : q < i := by simp at hq; omega
        have hq2 : q < (frs k0 L.length).length := by rw [frs_len]; omega
        rw [List.getElem_take] at e
        have e4 : R[q]'(by omega) = fr (k0 + q) := by
          have : R[q]? = some (fr (k0 + q)) := by rw [hR, List.getElem?_eq_getElem hq2, frs_get]
          rw [List.getElem?_eq_getElem (by omega)] at this
          exact Option.some.inj this
        rw [e4] at e
        have := fr_inj (by omega) (by omega) e
        omega
      have hdt : demoteL (MR.take i) = (R.take i).map .str := by rw [hMR, ← List.map_take]; exact dem_strs _
      rw [hx, fr] at g2 g3
      rw [fr] at hnot
      rw [fr, List.length_cons] at z1 z2
      generalize Lib.itoa ((k0 + i : Nat) : Int) = d at *
      generalize L.getD i [] = x at *
      have hml : (paVs (E2.take i)).length = i := by rw [pas_length]; simp; omega
      have hsn : paVs (E2.take i) ++ [paV (63 :: d, var x)] = paVs (E2.take (i + 1)) := by rw [g3]; simp [paVs]
      have hpv : V.agg [.str (63 :: d), .int .i64 1, .str x, .sl .frozen []] = paV (63 :: d, var x) := by simp [paV, var, tyV, tyVs]
      have hlen2 : ¬ ((d.length : Int) + 1 < 2) := by omega
      have hle : i ≤ L.length := by omega
      simp [r13, r10, l10, sliceV, bnd, hMrl, g2, hdt, hle]
      rw [← List.map_take]
      refine has40 (R.take i) (63 :: d) (by simp; omega) fun bb hb => ?_
      have hbf : bb = false := by
        cases bb
        · rfl
        · exact absurd (hb.1 rfl) hnot
      subst hbf
      simp [r13, r9, r10, l9, l10, g1, g2, hlen2]
      refine var31 _ ?_
      rcases hor with ⟨h0, r12, rfl⟩ | ⟨hpos, r12, rfl⟩
      · subst h0
        have h10 : [paV (63 :: d, var x)] = paVs (E2.take 1) := by rw [g3]; simp [paVs]
        simp [r13, r12, splice, hpv, pa_cells, pa_loc]
        exact ⟨by simp [lim], n' - 1, by omega, (hI _ _).2 ⟨1, by omega, by simp [r5, r9, r10, l9, l10, w1, h10]⟩⟩
      · simp [r13, r12, splice, hpv, pa_cells, pa_loc, hml, hsn]
        refine ⟨fun v hv => pas_mem hv, by simp only [lim]; omega, n' - 1, by omega, (hI _ _).2 ⟨i + 1, by omega, by simp [r5, r9, r10, l9, l10, hw]⟩⟩
    · have hi : i = L.length := by omega
      have hfull : E2.take i = E2 := List.take_of_length_le (by omega)
      have hty' : V.agg [.int .i64 k', .str nn', .sl .frozen (tyVs l')] = tyV (.mk k' nn' l') := by simp [tyV]
      have hty : V.agg [.int .i64 k, .str nn, .sl .frozen (tyVs l)] = tyV T := hty.symm
      rcases hor with ⟨h0, r12, rfl⟩ | ⟨hpos, r12, rfl⟩
      · have h00 : E2 = [] := List.length_eq_zero_iff.1 (by omega)
        have e0 : V.sl .frozen [] = .sl .frozen (paVs E2) := by rw [h00]; rfl
        simp [r5, r10, r12, l10, demote_tys]
        rw [hty', e0]
        refine refOk hfT' _ _ _ E2 (by omega) ?_
        rw [hbackT]
        simp [r9, l9, demote_tys]
        rw [demote_ty, hty]
        refine sameOk (fine_ok _ hfT) (fine_ok _ hfT) _ _ _ ?_
        rw [(beqT_iff _ _).2 rfl]
        simp [r10, r12, l10, pas_demote]
        rw [e0]
        refine preds16 E2 (by omega) ps' (by omega) hfp' ?_
        rw [hbackP]
        simp [r9, l9, pas_demote]
        refine preds15 ps (by omega) hfp ?_
        simp
      · rw [hfull] at r12
        simp [r5, r10, r12, l10, demote_tys, pas_demote]
        rw [hty']
        refine refOk hfT' _ _ _ E2 (by omega) ?_
        rw [hbackT]
        simp [r9, l9, demote_tys]
        rw [demote_ty, hty]
        refine sameOk (fine_ok _ hfT) (fine_ok _ hfT) _ _ _ ?_
        rw [(beqT_iff _ _).2 rfl]
        simp [r10, r12, l10, pas_demote]
        refine preds16 E2 (by omega) ps' (by omega) hfp' ?_
        rw [hbackP]
        simp [r9, l9, pas_demote]
        refine preds15 ps (by omega) hfp ?_
        simp
  · obtain ⟨k0, hk, hk2⟩ := part1000 n (by omega)
    simp [hk, splice]
    clear hk
    refine made10 .frozen a 0 3 3 0 _ _ _ (by omega) (by omega) (by omega) (by omega) (by omega) rfl fun t j hj1 hj2 ht => ?_
    obtain ⟨k, nn, l⟩ := t
    have hfT := ht.fine
    have hgT := ht.good
    obtain ⟨T, hT⟩ : ∃ T, T = Ty.mk k nn l := ⟨_, rfl⟩
    have hty : tyV T = V.agg [.int .i64 k, .str nn, .sl .frozen (tyVs l)] := by rw [hT]; simp [tyV]
    rw [← hT] at hfT hgT
    simp [splice, tyV]
    refine predsM .frozen a 0 1 (by omega) 3 (by omega) j (by omega) (by omega) rfl fun ps j2 hj3 hj4 hps hpr => ?_
    have hfp : ∀ p ∈ ps, fine p.2 = true := fun p hp => (hpr p hp).t.fine
    have hall : ∀ u ∈ T :: ps.map (·.2), fine u = true ∧ good abc u := by
      intro u hu
      rcases List.mem_cons.1 hu with rfl | hu
      · exact ⟨hfT, hgT⟩
      · obtain ⟨p, hp, rfl⟩ := List.mem_map.1 hu
        exact ⟨hfp p hp, (hpr p hp).t.good⟩
    obtain ⟨L, hL⟩ : ∃ L, L = varsTL [] (T :: ps.map (·.2)) := ⟨_, rfl⟩
    have hnd : L.Nodup := by rw [hL]; exact varsTL_nodup _ _ (by simp)
    have hmem : ∀ y, y ∈ L ↔ occL y (T :: ps.map (·.2)) = true := fun y => by rw [hL, varsTL_mem]; simp
    have hsub : ∀ x ∈ L, x ∈ abc := by
      intro x hx
      have hx := (hmem x).1 hx
      have : ∀ m : List Ty, (∀ u ∈ m, good abc u) → occL x m = true → x ∈ abc := by
        intro m
        induction m with
        | nil => intro _ h; simp [occL] at h
        | cons u m ih =>
          intro hm h
          simp only [occL, Bool.or_eq_true] at h
          rcases h with h | h
          · exact (hm u (by simp)).2 x h
          · exact ih (fun w hw => hm w (by simp [hw])) h
      exact this _ (fun u hu => (hall u hu).2) hx
    have hLl : L.length ≤ 3 := Nat.le_trans (List.Nodup.length_le_of_subset hnd hsub) (by decide)
    have hshort : ∀ x ∈ L, x.length = 1 := fun x hx => by
      have := hsub x hx
      simp [abc] at this
      rcases this with rfl | rfl | rfl <;> rfl
    simp [pas_demote, demote_tys]
    rw [← hty]
    refine close9 (A := abc) (by decide) T ps (by omega) hall L hL (by omega) ?_
    rw [hty]
    have hcells : V.agg [.sl .frozen (L.map .str), .sl .frozen (paVs ps), .int .i64 k, .str nn, .sl .frozen (tyVs l)] = .agg ([.sl .frozen (L.map .str), .sl .frozen (paVs ps)] ++ (tyV T).cells) := by rw [hty]; simp
    have hLd : demoteL (L.map V.str) = L.map V.str := dem_strs L
    obtain ⟨ML, hML⟩ : ∃ M : List V, M = L.map .str := ⟨_, rfl⟩
    rw [← hML] at hcells hLd ⊢
    simp [splice, pas_demote, demote_tys, hLd]
    rw [hcells, hML]
    refine fresh10 L k0 (by omega) (by omega) hnd hshort ps (by omega) hfp T hfT ?_
    obtain ⟨R, hR⟩ : ∃ R, R = frs k0 L.length := ⟨_, rfl⟩
    rw [← hR, ← hML]
    have hRl : R.length = L.length := by rw [hR]; exact frs_len _ _
    have hRnd : R.Nodup := by rw [hR]; exact frs_nodup (by omega)
    obtain ⟨MR, hMR⟩ : ∃ M : List V, M = R.map .str := ⟨_, rfl⟩
    rw [← hMR]
    obtain ⟨E, hE⟩ : ∃ E, E = zipE L R := ⟨_, rfl⟩
    obtain ⟨E2, hE2⟩ : ∃ E2, E2 = zipE R L := ⟨_, rfl⟩
    have hbackT : apT (look E2) (apT (look E) T) = T := by
      rw [hE, hE2]
      exact back_ty hnd hRnd hRl.symm hfT fun y hy => (hmem y).2 (occL_mem (by simp) hy)
    have hbackP : mapE (look E2) (mapE (look E) ps) = ps := by
      rw [hE, hE2]
      exact mapE_back hnd hRnd hRl.symm ps hfp fun p hp y hy => (hmem y).2 (occL_mem (List.mem_cons_of_mem _ (List.mem_map.2 ⟨p, hp, rfl⟩)) hy)
    have hEf : ∀ x u, look E x = some u → fine u = true := fun x u hx => by
      have hm := look_mem hx
      rw [hE] at hm
      obtain ⟨b, _, e⟩ := zipE_mem hm
      simp only at e
      rw [e]; rfl
    rw [← hE]
    obtain ⟨ps', hps'⟩ : ∃ ps', ps' = mapE (look E) ps := ⟨_, rfl⟩
    obtain ⟨T', hT'⟩ : ∃ T', T' = apT (look E) T := ⟨_, rfl⟩
    have hfT' : fine T' = true := by rw [hT']; exact ap_fine _ hEf T hfT
    have hfp' : ∀ p ∈ ps', fine p.2 = true := by
      intro p hp
      rw [hps'] at hp
      obtain ⟨q, hq, rfl⟩ := List.mem_map.1 hp
      exact ap_fine _ hEf _ (hfp q hq)
    have hpl' : ps'.length = ps.length := by rw [hps', mapE_len]
    rw [← hps', ← hT']
    rw [← hT'] at hbackT
    rw [← hps'] at hbackP
    obtain ⟨k', nn', l'⟩ := T'
    have hMl : ML.length = L.length := by rw [hML]; simp
    have hMrl : MR.length = L.length := by rw [hMR]; simp [hRl]
    have wadd : IntKind.wrap .i64 ((k0 : Int) + L.length) = (k0 : Int) + L.length := wrap64 (by omega) (by omega)
    have hE2l : E2.length = L.length := by rw [hE2, zipE_len hRl, hRl]
    have gE2 : ∀ i, i < L.length → E2.take (i + 1) = E2.take i ++ [(R.getD i [], var (L.getD i []))] := by
      intro i h1
      rw [List.take_add_one]
      have : E2[i]? = some (R.getD i [], var (L.getD i [])) := by
        have h2 : i < R.length := by omega
        rw [hE2]; simp [zipE, List.getElem?_zipWith, h1, h2, List.getD_eq_getElem?_getD]
      rw [this]; rfl
    have gL : ∀ i, i < L.length → ML[i]? = some (.str (L.getD i [])) := fun i h1 => by rw [hML]; simp [h1, List.getD_eq_getElem?_getD]
    have gR : ∀ i, i < L.length → MR[i]? = some (.str (R.getD i [])) := fun i h1 => by
      have h2 : i < R.length := by omega
      rw [hMR]; simp [h2, List.getD_eq_getElem?_getD]
    simp [splice, tyV, hMl, hMrl, wadd]
    obtain ⟨I, hI⟩ : ∃ I : Nat → St → Prop, ∀ n s, I n s ↔ (∃ i : Nat, i + n = L.length ∧ s.r 5 = .bool true ∧ s.r 13 = .int .i64 i ∧ s.r 9 = .loc 9 0 ∧ s.r 10 = .loc 10 0 ∧ s.l 9 = some [.sl .frozen ML, .sl .frozen (paVs ps), .int .i64 k, .str nn, .sl .frozen (tyVs l)] ∧ s.l 10 = some [.sl .frozen MR, .sl .frozen (paVs ps'), .int .i64 k', .str nn', .sl .frozen (tyVs l')] ∧
      (i = 0 ∧ s.r 12 = .sl .clip [] ∧ s.h = [seqB .frozen a j2] ∨ 0 < i ∧ s.r 12 = .sl (.fam 1) (paVs (E2.take i)) ∧ s.h = [seqB .frozen a j2, .fam i 4])) := ⟨_, fun _ _ => Iff.rfl⟩
    refine loop_ind (CallA.hle ap) I ?_ (n := L.length) ((hI _ _).2 ⟨0, by simp⟩)
    rintro n' ⟨r, lo, h'⟩ hst
    obtain ⟨i, hin, r5, r13, r9, r10, l9, l10, hor⟩ := (hI _ _).1 hst
    simp only at r5 r13 r9 r10 l9 l10 hor
    simp [forget, noLoc, locOf, r13, r10, l10, hMrl]
    refine condA_dec (fun e1 => ?_) fun e1 => ?_
    · have hi : i < L.length := by omega
      have hi2 : i < R.length := by omega
      have hw : IntKind.wrap .i64 ((i : Int) + 1) = ((i + 1 : Nat) : Int) := by rw [wrap64 (by omega) (by omega)]; omega
      have g1 := gL i hi
      have g2 := gR i hi
      have g3 := gE2 i hi
      have hx : R.getD i [] = fr (k0 + i) := by rw [hR]; simp [frs, hi, List.getD_eq_getElem?_getD]
      obtain ⟨z1, z2⟩ := fr_len (k := k0 + i) (by omega)
      have hnot : fr (k0 + i) ∉ R.take i := by
        intro hm
        obtain ⟨q, hq, e⟩ := List.getElem_of_mem hm
        have hq1 : q < i := by simp at hq; omega
        have hq2 : q < (frs k0 L.length).length := by rw [frs_len]; omega
        rw [List.getElem_take] at e
        have e4 : R[q]'(by omega) = fr (k0 + q) := by
          have : R[q]? = some (fr (k0 + q)) := by rw [hR, List.getElem?_eq_getElem hq2, frs_get]
          rw [List.getElem?_eq_getElem (by omega)] at this
          exact Option.some.inj this
        rw [e4] at e
        have := fr_inj (by omega) (by omega) e
        omega
      have hdt : demoteL (MR.take i) = (R.take i).map .str := by rw [hMR, ← List.map_take]; exact dem_strs _
      rw [hx, fr] at g2 g3
      rw [fr] at hnot
      rw [fr, List.length_cons] at z1 z2
      generalize Lib.itoa ((k0 + i : Nat) : Int) = d at *
      generalize L.getD i [] = x at *
      have hml : (paVs (E2.take i)).length = i := by rw [pas_length]; simp; omega
      have hsn : paVs (E2.take i) ++ [paV (63 :: d, var x)] = paVs (E2.take (i + 1)) := by rw [g3]; simp [paVs]
      have hpv : V.agg [.str (63 :: d), .int .i64 1, .str x, .sl .frozen []] = paV (63 :: d, var x) := by simp [paV, var, tyV, tyVs]
      have hlen2 : ¬ ((d.length : Int) + 1 < 2) := by omega
      have hle : i ≤ L.length := by omega
      simp [r13, r10, l10, sliceV, bnd, hMrl, g2, hdt, hle]
      rw [← List.map_take]
      refine has40 (R.take i) (63 :: d) (by simp; omega) fun bb hb => ?_
      have hbf : bb = false := by
        cases bb
        · rfl
        · exact absurd (hb.1 rfl) hnot
      subst hbf
      simp [r13, r9, r10, l9, l10, g1, g2, hlen2]
      refine var31 _ ?_
      rcases hor with ⟨h0, r12, rfl⟩ | ⟨hpos, r12, rfl⟩
      · subst h0
        have h10 : [paV (63 :: d, var x)] = paVs (E2.take 1) := by rw [g3]; simp [paVs]
        simp [r13, r12, splice, hpv, pa_cells, pa_loc]
        exact ⟨by simp [lim], n' - 1, by omega, (hI _ _).2 ⟨1, by omega, by simp [r5, r9, r10, l9, l10, w1, h10]⟩⟩
      · simp [r13, r12, splice, hpv, pa_cells, pa_loc, hml, hsn]
        refine ⟨fun v hv => pas_mem hv, by simp only [lim]; omega, n' - 1, by omega, (hI _ _).2 ⟨i + 1, by omega, by simp [r5, r9, r10, l9, l10, hw]⟩⟩
    · have hi : i = L.length := by omega
      have hfull : E2.take i = E2 := List.take_of_length_le (by omega)
      have hty' : V.agg [.int .i64 k', .str nn', .sl .frozen (tyVs l')] = tyV (.mk k' nn' l') := by simp [tyV]
      have hty : V.agg [.int .i64 k, .str nn, .sl .frozen (tyVs l)] = tyV T := hty.symm
      rcases hor with ⟨h0, r12, rfl⟩ | ⟨hpos, r12, rfl⟩
      · have h00 : E2 = [] := List.length_eq_zero_iff.1 (by omega)
        have e0 : V.sl .frozen [] = .sl .frozen (paVs E2) := by rw [h00]; rfl
        simp [r5, r10, r12, l10, demote_tys]
        rw [hty', e0]
        refine refOk hfT' _ _ _ E2 (by omega) ?_
        rw [hbackT]
        simp [r9, l9, demote_tys]
        rw [demote_ty, hty]
        refine sameOk (fine_ok _ hfT) (fine_ok _ hfT) _ _ _ ?_
        rw [(beqT_iff _ _).2 rfl]
        simp [r10, r12, l10, pas_demote]
        rw [e0]
        refine preds16 E2 (by omega) ps' (by omega) hfp' ?_
        rw [hbackP]
        simp [r9, l9, pas_demote]
        refine preds15 ps (by omega) hfp ?_
        simp
      · rw [hfull] at r12
        simp [r5, r10, r12, l10, demote_tys, pas_demote]
        rw [hty']
        refine refOk hfT' _ _ _ E2 (by omega) ?_
        rw [hbackT]
        simp [r9, l9, demote_tys]
        rw [demote_ty, hty]
        refine sameOk (fine_ok _ hfT) (fine_ok _ hfT) _ _ _ ?_
        rw [(beqT_iff _ _).2 rfl]
        simp [r10, r12, l10, pas_demote]
        refine preds16 E2 (by omega) ps' (by omega) hfp' ?_
        rw [hbackP]
        simp [r9, l9, pas_demote]
        refine preds15 ps (by omega) hfp ?_
        simp

end Go.St
