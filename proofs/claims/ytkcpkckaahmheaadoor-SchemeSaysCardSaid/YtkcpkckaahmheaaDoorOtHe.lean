/- Names; schemes with other names, all kinds: on the abstract machine. -/
import Derived.Test.YtkcpkckaahmheaaDoorOtHc
import Derived.Test.YtkcpkckaahmheaaDoorOtC3

namespace Go.Ot
open Go.Am Go.Proofs
set_option maxRecDepth 100000

theorem look_no {E : En} {x : Nam} (h : x ∉ E.map (·.1)) : look E x = none := by
  induction E with
  | nil => rfl
  | cons p E ih =>
    simp only [List.map_cons, List.mem_cons, not_or] at h
    simp only [look, if_neg (fun e => h.1 (Eq.symm e)), ih h.2]

theorem look_nid : ∀ E : En, (E.map (·.1)).Nodup → (∀ p ∈ E, ∃ x, p.2 = var x) → ∀ x, (look (E.filter nid) x).getD (var x) = (look E x).getD (var x)
  | [], _, _, x => rfl
  | p :: E, hn, hv, x => by
    simp only [List.map_cons, List.nodup_cons] at hn
    have ih := look_nid E hn.2 (fun q hq => hv q (List.mem_cons_of_mem _ hq)) x
    obtain ⟨y, hy⟩ := hv p (by simp)
    by_cases hp : nid p = true
    · rw [List.filter_cons_of_pos hp]
      simp only [look]
      split
      · rfl
      · exact ih
    · rw [List.filter_cons_of_neg hp]
      simp only [look]
      split
      · rename_i e
        have hyx : y = p.1 := by
          simp only [nid, hy, var] at hp
          simpa using hp
        have : look (E.filter nid) x = none := look_no fun hm => by
          obtain ⟨q, hq, e2⟩ := List.mem_map.1 hm
          exact hn.1 (e ▸ e2 ▸ List.mem_map_of_mem (List.mem_filter.1 hq).1)
        rw [this, hy, hyx, e]; rfl
      · exact ih

mutual
theorem apN {s r : Nam → Option Ty} (hs : ∀ x, (s x).getD (var x) = (r x).getD (var x)) : ∀ t : Ty, fine t = true → apT s t = apT r t
  | .mk k n l, h => by
    simp only [fine, Bool.and_eq_true, decide_eq_true_eq] at h
    by_cases hk : k = 1
    · subst hk
      have hl : l = [] := by simpa using h.1.2
      subst hl
      simp only [apT, if_true]
      exact hs n
    · simp only [apT, if_neg hk, apNL hs l h.2]
theorem apNL {s r : Nam → Option Ty} (hs : ∀ x, (s x).getD (var x) = (r x).getD (var x)) : ∀ l : List Ty, fineL l = true → apL s l = apL r l
  | [], _ => rfl
  | t :: l, h => by
    simp only [fineL, Bool.and_eq_true] at h
    simp only [apL, apN hs t h.1, apNL hs l h.2]
end
theorem mapN {s r : Nam → Option Ty} (hs : ∀ x, (s x).getD (var x) = (r x).getD (var x)) (ps : En) (hf : ∀ p ∈ ps, fine p.2 = true) : mapE s ps = mapE r ps := by
  simp only [mapE]
  exact List.map_congr_left fun p hp => by rw [apN hs _ (hf p hp)]

section
variable {bs : List Nat} {h : List Ob} {Q : V → List Ob → Prop}

def nm (i : Nat) : Nam := [UInt8.ofNat (97 + i)]

theorem nameL (i : Nat) (hi : i < 26) (hq : Q (.str (nm i)) h) : CallA ap 34 0 bs [.int .i64 i] h Q := by
  refine CallA.code (af := ac34) rfl (Nat.le_of_ble_eq_true rfl) ?_
  have e1 : ∀ i : Nat, i < 26 → (Utf8.encode (97 + (i : Int))).data.toList = [UInt8.ofNat (97 + i)] := by decide
  have e2 : ∀ i : Nat, i < 26 → IntKind.wrap .i32 (97 + (i : Int)) = 97 + (i : Int) := by decide
  have e3 : IntKind.wrap .i64 (97 + (i : Int)) = 97 + (i : Int) := wrap64 (by omega) (by omega)
  have e4 : (i : Int).tmod 26 = (i : Int) := Int.tmod_eq_of_lt (by omega) (by omega)
  have e5 : IntKind.wrap .i64 (i : Int) = (i : Int) := wrap64 (by omega) (by omega)
  have e6 : ¬ (26 : Int) ≤ (i : Int) := by omega
  have e9 : (i : Int).tmod 26 = (i : Int) := e4
  have e7 : ¬ (i : Int) < 0 := by omega
  simp [ac34, e7, e4, e3, e2 i hi, e6, e1 i hi]
  have e0 : nm i = [97 + UInt8.ofNat i] := by simp [nm]
  rwa [e0] at hq

/-- A scheme with other names. -/
theorem renamedG (N L R : List Nam) (hlr : L.length = R.length) (hl : L.length ≤ 1000) (hn : L.Nodup) (ps : En) (hps : ps.length ≤ 1000) (hf : ∀ p ∈ ps, fine p.2 = true) (t : Ty) (ht : fine t = true) (vs : V) (hvs : vs = .sl .frozen (N.map .str))
    (hq : Q (.agg ([.sl .frozen (R.map .str), .sl .frozen (paVs (mapE (look (zipE L R)) ps))] ++ (tyV (apT (look (zipE L R)) t)).cells)) h) :
    CallA ap 53 0 bs [.agg ([vs, .sl .frozen (paVs ps)] ++ (tyV t).cells), .sl .frozen (L.map .str), .sl .frozen (R.map .str)] h Q := by
  refine CallA.code (af := ac53) rfl (Nat.le_of_ble_eq_true rfl) ?_
  subst hvs
  have hu0 : (zipE L R).map (·.1) = L := zipE_fst hlr
  have hvar0 : ∀ p ∈ zipE L R, ∃ x, p.2 = var x := fun p hp => by obtain ⟨b, _, e⟩ := zipE_mem hp; exact ⟨b, e⟩
  have hlk0 := look_nid (zipE L R) (by rw [hu0]; exact hn) hvar0
  rw [← apN hlk0 t ht, ← mapN hlk0 ps hf] at hq
  obtain ⟨k, nn, l⟩ := t
  simp [ac53, tyV]
  obtain ⟨E, hE⟩ : ∃ E, E = zipE L R := ⟨_, rfl⟩
  have hEl : E.length = L.length := by rw [hE]; exact zipE_len hlr
  have hEt : ∀ i (h1 : i < L.length) (h2 : i < R.length), E.take (i + 1) = E.take i ++ [(L[i], var R[i])] := by
    intro i h1 h2
    rw [List.take_add_one]
    have : E[i]? = some (L[i], var R[i]) := by rw [hE]; simp [zipE, List.getElem?_zipWith, h1, h2]
    rw [this]; rfl
  rw [← hE] at hq
  obtain ⟨ML, hML⟩ : ∃ M : List V, M = L.map .str := ⟨_, rfl⟩
  obtain ⟨MR, hMR⟩ : ∃ M : List V, M = R.map .str := ⟨_, rfl⟩
  have gL : ∀ i (h1 : i < L.length), ML[i]? = some (.str L[i]) := fun i h1 => by rw [hML]; simp [h1]
  have gR : ∀ i (h1 : i < R.length), MR[i]? = some (.str R[i]) := fun i h1 => by rw [hMR]; simp [h1]
  have hMl : ML.length = L.length := by rw [hML]; simp
  have hMd : demoteL MR = MR := by rw [hMR]; exact dem_strs R
  have hMu : ∀ m, underL m MR = true := fun m => by rw [hMR]; exact under_strs m R
  rw [← hML, ← hMR]
  rw [← hMR] at hq
  obtain ⟨I, hI⟩ : ∃ I : Nat → St → Prop, ∀ n s, I n s ↔ (∃ i : Nat, i + n = L.length ∧ s.r 2 = .sl .frozen MR ∧ s.r 11 = .sl .frozen ML ∧ s.r 12 = .int .i64 L.length ∧ s.r 13 = .int .i64 i ∧ s.r 3 = .loc 3 0 ∧ s.r 6 = .loc 6 0 ∧ s.l 3 = some [.sl .frozen (N.map .str), .sl .frozen (paVs ps), .int .i64 k, .str nn, .sl .frozen (tyVs l)] ∧ s.l 6 = some [.sl .clip [], .sl .clip [], .int .i64 0, .str [], .sl .clip []] ∧
    (i = 0 ∧ s.r 7 = .sl .clip [] ∧ s.h = h ∨ 0 < i ∧ s.r 7 = .sl (.fam h.length) (paVs (E.take i)) ∧ s.h = h ++ [.fam i 4])) := ⟨_, fun _ _ => Iff.rfl⟩
  refine loop_ind (CallA.hle ap) I ?_ (n := L.length) ((hI _ _).2 ⟨0, by simp⟩)
  rintro n ⟨r, lo, h'⟩ hst
  obtain ⟨i, hin, r2, r11, r12, r13, r3, r6, l3, l6, hor⟩ := (hI _ _).1 hst
  simp only at r2 r11 r12 r13 r3 r6 l3 l6 hor
  simp [forget, noLoc, locOf, r12, r13]
  refine condA_dec (fun h1 => ?_) fun h1 => ?_
  · have hi : i < L.length := by omega
    have hi2 : i < R.length := by omega
    have hw : IntKind.wrap .i64 ((i : Int) + 1) = ((i + 1 : Nat) : Int) := by rw [wrap64 (by omega) (by omega)]; omega
    have htk := hEt i hi hi2
    have hml : (paVs (E.take i)).length = i := by rw [pas_length]; simp; omega
    have hsn : paVs (E.take i) ++ [paV (L[i], var R[i])] = paVs (E.take (i + 1)) := by rw [htk]; simp [paVs]
    have hpv : V.agg [.str L[i], .int .i64 1, .str R[i], .sl .frozen []] = paV (L[i], var R[i]) := by simp [paV, var, tyV, tyVs]
    simp [r2, r11, r13, gL i hi, gR i hi2]
    refine var52 _ ?_
    rcases hor with ⟨h0, r7, rfl⟩ | ⟨hpos, r7, rfl⟩
    · subst h0
      have h10 : [paV (L[0], var R[0])] = paVs (E.take 1) := by rw [htk]; simp [paVs]
      simp [r13, r7, splice, hpv, pa_cells, pa_loc]
      exact ⟨by simp [lim], n - 1, by omega, (hI _ _).2 ⟨1, by omega, by simp [r2, r11, r12, r3, r6, l3, l6, w1, h10]⟩⟩
    · simp [r13, r7, splice, hpv, pa_cells, pa_loc, hml, hsn]
      refine ⟨fun v hv => pas_mem hv, by simp only [lim]; omega, n - 1, by omega, (hI _ _).2 ⟨i + 1, by omega, by simp [r2, r11, r12, r3, r6, l3, l6, hw]⟩⟩
  · have hi : i = L.length := by omega
    have hfull : E.take i = E := List.take_of_length_le (by omega)
    have hu : Uniq E := by unfold Uniq; rw [hE, zipE_fst hlr]; exact hn
    have hok : ∀ p ∈ E, okT p.2 = true := fun p hp => by rw [hE] at hp; obtain ⟨b, _, e⟩ := zipE_mem hp; rw [e]; rfl
    have hff : ∀ x u, look (E.filter nid) x = some u → fine u = true := fun x u hx => by
      have hm := (List.mem_filter.1 (look_mem hx)).1
      rw [hE] at hm
      obtain ⟨b, _, e⟩ := zipE_mem hm
      simp only at e
      rw [e]; rfl
    have hty : V.agg [.int .i64 k, .str nn, .sl .frozen (tyVs l)] = tyV (.mk k nn l) := by simp [tyV]
    have rest : ∀ (tl : List Ob), (h ++ tl).take h.length = h := fun tl => List.take_left' rfl
    rcases hor with ⟨h0, r7, rfl⟩ | ⟨hpos, r7, rfl⟩
    · have hE0 : E = [] := List.length_eq_zero_iff.1 (by omega)
      simp [r7]
      have e0 : V.sl .frozen [] = .sl .frozen (paVs E) := by rw [hE0]; rfl
      rw [e0]
      refine of61 E hu hok (by omega) ?_
      simp [r2, splice]
      rw [hMR, dem_strs]
      refine clone54 R (by omega) ?_
      rw [← hMR]
      simp [r3, l3, pas_demote]
      refine preds37 h'.length (E.filter nid) (by simp) hff ps hps hf ?_
      simp [r3, l3, demote_tys]
      rw [hty]
      refine applyOk ht _ _ _ h'.length (E.filter nid) (by simp) hff ?_
      simp [r6, l6, splice, pas_demote, pas_under, hMd, hMu]
      rw [ty_take, ty_dc']
      exact ⟨ty_uc4 _ _, hq⟩
    · rw [hfull] at r7
      simp [r7, pas_demote]
      refine of61 E hu hok (by omega) ?_
      simp [r2, splice]
      rw [hMR, dem_strs]
      refine clone54 R (by omega) ?_
      rw [← hMR]
      simp [r3, l3, pas_demote]
      refine preds37 (h.length + 1) (E.filter nid) (by simp) hff ps hps hf ?_
      simp [r3, l3, demote_tys]
      rw [hty]
      refine applyOk ht _ _ _ (h.length + 1) (E.filter nid) (by simp) hff ?_
      simp [r6, l6, splice, pas_demote, pas_under, hMd, hMu]
      rw [ty_take, ty_dc']
      exact ⟨ty_uc4 _ _, hq⟩

theorem predsN (ps : En) (hl : ps.length ≤ 1000) (hf : ∀ p ∈ ps, fine p.2 = true) (hq : Q (.sl .frozen (paVs ps)) h) : CallA ap 38 0 bs [.agg [.map none], .sl .frozen (paVs ps)] h Q := by
  refine CallA.code (af := ac38) rfl (Nat.le_of_ble_eq_true rfl) ?_
  simp [ac38, pas_length]
  obtain ⟨rs, hrs⟩ : ∃ rs : En, rs = ps := ⟨_, rfl⟩
  have hrl : rs.length = ps.length := by rw [hrs]
  rw [← hrs] at hq
  obtain ⟨I, hI⟩ : ∃ I : Nat → St → Prop, ∀ n s, I n s ↔ (∃ i : Nat, i + n = ps.length ∧ s.r 8 = .sl .frozen (paVs ps) ∧ s.r 9 = .int .i64 ps.length ∧ s.r 10 = .int .i64 i ∧ s.r 2 = .loc 2 0 ∧ s.l 2 = some [.map none] ∧
    (i = 0 ∧ s.r 5 = .sl .clip [] ∧ s.h = h ∨ 0 < i ∧ s.r 5 = .sl (.fam h.length) (paVs (rs.take i)) ∧ s.h = h ++ [.fam i 4])) := ⟨_, fun _ _ => Iff.rfl⟩
  refine loop_ind (CallA.hle ap) I ?_ (n := ps.length) ((hI _ _).2 ⟨0, by simp⟩)
  rintro n ⟨r, lo, h'⟩ hst
  obtain ⟨i, hin, r8, r9, r10, r2, l2, hor⟩ := (hI _ _).1 hst
  simp only at r8 r9 r10 r2 l2 hor
  simp [forget, noLoc, locOf, r9, r10]
  refine condA_dec (fun h1 => ?_) fun h1 => ?_
  · have hi : i < ps.length := by omega
    have g1 : (paVs ps)[i]? = some (paV ps[i]) := by simp [paVs, hi]
    have hw : IntKind.wrap .i64 ((i : Int) + 1) = ((i + 1 : Nat) : Int) := by rw [wrap64 (by omega) (by omega)]; omega
    have htk : rs.take (i + 1) = rs.take i ++ [(ps[i].1, ps[i].2)] := by rw [hrs, List.take_add_one, List.getElem?_eq_getElem hi]; rfl
    have hml : (paVs (rs.take i)).length = i := by rw [pas_length]; simp; omega
    have hsn : paVs (rs.take i) ++ [paV (ps[i].1, ps[i].2)] = paVs (rs.take (i + 1)) := by rw [htk]; simp [paVs]
    have hfi := hf _ (List.getElem_mem hi)
    generalize ps[i] = p at *
    obtain ⟨c, k, m, tl⟩ := p
    simp only at hfi htk hsn
    have hpv : V.agg (.str c :: (tyV (.mk k m tl)).cells) = paV (c, .mk k m tl) := rfl
    have hty : V.agg [.int .i64 k, .str m, .sl .frozen (tyVs tl)] = tyV (.mk k m tl) := by simp [tyV]
    have g2 : (paVs ps)[i]? = some (.agg [.str c, .int .i64 k, .str m, .sl .frozen (tyVs tl)]) := by rw [g1]; simp [paV, tyV]
    simp [r8, r10, r2, l2, g2, splice, demote_tys]
    rw [hty]
    rcases hor with ⟨h0, r5, rfl⟩ | ⟨hpos, r5, rfl⟩
    · refine apply_no _ _ (Nat.le_refl _) hfi _ _ _ ?_
      subst h0
      have h10 : [paV (c, .mk k m tl)] = paVs (rs.take 1) := by rw [htk]; simp [paVs]
      simp [r10, r5, splice, hpv, pa_cells, pa_loc]
      exact ⟨by simp [lim], n - 1, by omega, (hI _ _).2 ⟨1, by omega, by simp [r8, r9, r2, l2, w1, h10]⟩⟩
    · refine apply_no _ _ (Nat.le_refl _) hfi _ _ _ ?_
      simp [r10, r5, splice, hpv, pa_cells, pa_loc, hml, hsn]
      refine ⟨fun v hv => pas_mem hv, by simp only [lim]; omega, n - 1, by omega, (hI _ _).2 ⟨i + 1, by omega, by simp [r8, r9, r2, l2, hw]⟩⟩
  · have hi : i = ps.length := by omega
    have hfull : rs.take i = rs := List.take_of_length_le (by omega)
    rcases hor with ⟨h0, r5, rfl⟩ | ⟨hpos, r5, rfl⟩
    · have : rs = [] := List.length_eq_zero_iff.1 (by omega)
      rw [this] at hq
      simp [r5]
      simpa [paVs] using hq
    · rw [hfull] at r5
      simp [r5, pas_demote, pas_under]
      exact hq

end
end Go.Ot

namespace Go.Ot
open Go.Am Go.Proofs
set_option maxRecDepth 100000

section
variable {bs : List Nat} {h : List Ob} {Q : V → List Ob → Prop}

theorem or1 (N : List Nam) (hN : N.length < 1000000) (x : Nam) (q : Nat) (cs : List V) (hg : h[q]? = some (.box (.sl .frozen (N.map .str) :: cs))) (hq : Q (.bool (!decide (x ∈ N))) h) : CallA ap 75 0 bs [.str x, .ptr q 0] h Q := by
  refine CallA.code (af := ac75) rfl (Nat.le_of_ble_eq_true rfl) ?_
  simp [ac75, hg, dem_strs]
  refine contF N x hN fun b hb => ?_
  have : b = decide (x ∈ N) := by by_cases hx : x ∈ N <;> simp_all
  subst this
  simp
  simpa using hq

theorem lenA {A : List Nam} (hA : A.length ≤ 1000) {l : List Ty} (hf : ∀ t ∈ l, fine t = true ∧ good A t) : (varsTL [] l).length ≤ 1000 :=
  Nat.le_trans (List.Nodup.length_le_of_subset (varsTL_nodup _ _ (by simp)) fun x hx => vars_in hf hx) hA

/-- What a scheme is for, in order. -/
theorem orderC {A : List Nam} (hA : A.length ≤ 1000) (N : List Nam) (hN : N.length < 1000000) (t : Ty) (ps : En) (hl : ps.length < 20) (hf : ∀ u ∈ t :: ps.map (·.2), fine u = true ∧ good A u)
    (hq : ∀ xs : En, xs.length ≤ ps.length → xs.Pairwise ltP → (∀ p, p ∈ xs ↔ p ∈ ps) → ∀ M : List Nam, M = (varsTL [] (t :: xs.map (·.2))).filter (fun x => decide (x ∈ N)) → Q (.sl .frozen (M.map .str)) h) :
    CallA ap 51 0 bs [.agg ([.sl .frozen (N.map .str), .sl .frozen (paVs ps)] ++ (tyV t).cells)] h Q := by
  refine CallA.codeF (af := ac51) rfl (Nat.le_of_ble_eq_true rfl) ?_
  obtain ⟨k, nn, l⟩ := t
  simp [ac51, tyV, pas_demote]
  have e2 : V.agg [.int .i64 k, .str nn, .sl .frozen (tyVs l)] = tyV (.mk k nn l) := by simp [tyV]
  refine sortP ps hl (fun p hp => (hf p.2 (by simp; exact .inr ⟨p.1, hp⟩)).1) fun xs hxl hlt hmem => ?_
  simp [demote_tys, pas_demote]
  rw [e2]
  generalize hT : (Ty.mk k nn l) = t at *
  have hfx : ∀ u ∈ t :: xs.map (·.2), fine u = true ∧ good A u := fun u hu => by
    rcases List.mem_cons.1 hu with rfl | hu
    · exact hf u (by simp)
    · obtain ⟨p, hp, rfl⟩ := List.mem_map.1 hu
      exact hf p.2 (List.mem_cons_of_mem _ (List.mem_map_of_mem ((hmem p).1 hp)))
  refine stands t xs (by omega) hA hfx fun g ver => ?_
  have hlen := lenA hA hfx
  have hq := hq xs hxl hlt hmem
  revert hq hlen
  generalize varsTL [] (t :: xs.map (·.2)) = o
  intro hlen hq
  simp
  cases o with
  | nil =>
    simp [rowV, rowH]
    refine delete0 _ _ ?_
    simp
    exact ⟨.sl .frozen [], .same _, by simp, by simpa using hq [] (by simp)⟩
  | cons a o =>
    simp [rowV, rowH]
    generalize hH : h ++ _ = H
    have hlk : H[h.length + (g.length + 1)]? = some (.vec ver 1 ((a :: o).map .str)) := by
      rw [← hH, List.getElem?_append_right (by omega)]
      simp
    have hHl : H.length = h.length + (g.length + 1) + 1 := by rw [← hH]; simp; omega
    have hbx : ∃ cs, H[h.length]? = some (.box (.sl .frozen (N.map .str) :: cs)) := by
      rw [← hH]; simp
    obtain ⟨cs0, hbx⟩ := hbx
    refine deleteV (a :: o) hlen (fun x => !decide (x ∈ N)) _ _ (by omega) hlk (fun x cs bs Q' hq' => ?_) fun M cs e h1 h2 => ?_
    · refine or1 N hN x _ cs0 ?_ hq'
      rw [List.getElem?_set_ne (by omega)]; exact hbx
    · simp
      refine ⟨.sl .frozen (M.map .str), frzS M cs (by omega) (by rw [List.getElem?_set_self (by omega)]) h1 h2, by simp [dem_strs, under_strs], ?_⟩
      have ht : (H.set (h.length + (g.length + 1)) (.vec ver 1 cs)).take h.length = h := by
        rw [List.take_set_of_le (by omega), ← hH]; simp
      simp [dem_strs]
      rw [ht]
      exact hq M (by simpa using e)

theorem frzA {n : Nat} {hh : List Ob} {v w : V} (l : List V) (hv : Frz n hh v w) : Frz n hh (.agg (v :: l)) (.agg (w :: l)) := by
  refine .agg _ _ (by simp) fun i x y hx hy => ?_
  cases i with
  | zero => simp at hx hy; subst hx; subst hy; exact hv
  | succ i => simp at hx hy; rw [hx] at hy; obtain rfl := Option.some.inj hy; exact .same _

/-- A type for all but some of its names. -/
theorem closeC {A : List Nam} (hA : A.length ≤ 1000) (N : List Nam) (hN : N.length < 1000000) (t : Ty) (ps : En) (hl : ps.length ≤ 900) (hf : ∀ u ∈ t :: ps.map (·.2), fine u = true ∧ good A u)
    (hq : ∀ M : List Nam, M = (varsTL [] (t :: ps.map (·.2))).filter (fun x => !decide (x ∈ N)) → Q (.agg ([.sl .frozen (M.map .str), .sl .frozen (paVs ps)] ++ (tyV t).cells)) h) :
    CallA ap 15 0 bs [.sl .frozen (paVs ps), tyV t, .sl .frozen (N.map .str)] h Q := by
  refine CallA.codeF (af := ac15) rfl (Nat.le_of_ble_eq_true rfl) ?_
  obtain ⟨k, nn, l⟩ := t
  simp [ac15, tyV, demote_tys, pas_demote]
  have e2 : V.agg [.int .i64 k, .str nn, .sl .frozen (tyVs l)] = tyV (.mk k nn l) := by simp [tyV]
  rw [e2]
  have hfp : ∀ p ∈ ps, fine p.2 = true := fun p hp => (hf p.2 (by simp; exact .inr ⟨p.1, hp⟩)).1
  have hft : fine (.mk k nn l) = true := (hf _ (by simp)).1
  refine stands (.mk k nn l) ps (by omega) hA hf fun g ver => ?_
  have hlen := lenA hA hf
  revert hq hlen
  generalize varsTL [] (Ty.mk k nn l :: ps.map (·.2)) = o
  intro hq hlen
  simp [dem_strs]
  cases o with
  | nil =>
    simp [rowV, rowH]
    refine without0 N ?_
    simp [pas_demote]
    refine predsN ps (by omega) hfp ?_
    simp [demote_tys]
    rw [e2]
    refine cloneOk (fine_ok _ hft) _ _ _ ?_
    simp [tyV, splice]
    refine ⟨_, .same _, by simp [pas_demote, pas_under, demote_tys, under_tys], ?_⟩
    simpa [pas_demote, demote_tys, tyV] using hq [] (by simp)
  | cons a o =>
    simp [rowV, rowH]
    have hlk : (h ++ (g ++ [Ob.vec ver 1 (V.str a :: o.map V.str)]))[h.length + g.length]? = some (.vec ver 1 ((a :: o).map .str)) := by
      rw [← List.append_assoc, ← List.length_append]; simp
    refine withoutV (a :: o) N hlen hN (by simp) hlk fun M cs e h1 h2 => ?_
    generalize hH : (h ++ (g ++ [Ob.vec ver 1 (V.str a :: o.map V.str)])) ++ [Ob.box [V.sl .frozen (N.map .str)]] = H
    have hHl : H.length = h.length + (g.length + 1) + 1 := by rw [← hH]; simp; omega
    simp [pas_demote]
    refine predsN ps (by omega) hfp ?_
    simp [demote_tys]
    rw [e2]
    refine cloneOk (fine_ok _ hft) _ _ _ ?_
    simp [tyV, splice]
    refine ⟨_, frzA _ (frzS M cs (by omega) (by rw [List.getElem?_set_self (by omega)]) h1 h2), by simp [dem_strs, under_strs, pas_demote, pas_under, demote_tys, under_tys], ?_⟩
    have ht : (H.set (h.length + g.length) (.vec ver 1 cs)).take h.length = h := by
      rw [List.take_set_of_le (by omega), ← hH]; simp
    simp [dem_strs, pas_demote, demote_tys]
    rw [ht]
    simpa [tyV] using hq M e

end
end Go.Ot
