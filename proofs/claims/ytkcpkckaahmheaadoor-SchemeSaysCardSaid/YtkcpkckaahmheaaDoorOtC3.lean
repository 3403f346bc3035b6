/- New names: on the abstract machine. -/
import Derived.Test.YtkcpkckaahmheaaDoorOtS2
import Derived.Test.YtkcpkckaahmheaaDoorOtR8
namespace Go.Ot
open Go.Am Go.Proofs
set_option maxRecDepth 100000

theorem pas_mem {e : En} {v : V} (hv : v ∈ paVs e) : v.cells.length = 4 := by
  simp only [paVs, List.mem_map] at hv
  obtain ⟨y, -, rfl⟩ := hv
  exact pa_cells y

/-- Each part's type by what a row gives. -/
def mapE (s : Nam → Option Ty) (ps : En) : En := ps.map fun p => (p.1, apT s p.2)
theorem mapE_len (s : Nam → Option Ty) (ps : En) : (mapE s ps).length = ps.length := by simp [mapE]
theorem mapE_take (s : Nam → Option Ty) (ps : En) (i : Nat) (h : i < ps.length) : (mapE s ps).take (i + 1) = (mapE s ps).take i ++ [(ps[i].1, apT s ps[i].2)] := by
  rw [List.take_add_one]
  simp [mapE, h]

section
variable {bs : List Nat} {h : List Ob} {Q : V → List Ob → Prop}

theorem itoa32 (n : Int) (h1 : 0 ≤ n) (h2 : n < 1000000) (hq : Q (.str (Lib.itoa n)) h) : CallA ap 62 0 bs [.int .i64 n] h Q := by
  refine CallA.code (af := ac62) rfl (Nat.le_of_ble_eq_true rfl) ?_
  simp [ac62]
  refine CallA.code (af := ac81) rfl (Nat.le_of_ble_eq_true rfl) ?_
  simp [ac81]
  refine CallA.prim (p := itoaP) rfl (v := .str (Lib.itoa n)) ?_ ?_
  · simp only [itoaP]
    rw [if_pos ⟨by omega, by omega⟩]
  · simp
    exact hq

theorem clone54 (L : List Nam) (hL : L.length ≤ 1000) (hq : Q (.sl .frozen (L.map .str)) h) : CallA ap 79 0 bs [.sl .frozen (L.map .str)] h Q := by
  refine CallA.code (af := ac79) rfl (Nat.le_of_ble_eq_true rfl) ?_
  cases L with
  | nil =>
    simp [ac79]
    exact hq
  | cons a l =>
    have e : demoteL (l.map V.str) = l.map V.str := dem_strs l
    have u : ∀ m, underL m (l.map V.str) = true := fun m => under_strs m l
    have hl : l.length + 1 ≤ 1000 := by simpa using hL
    simp [ac79, e, u]
    refine ⟨by simp only [lim]; omega, ?_⟩
    simpa using hq

theorem preds16 (e : En) (he : e.length ≤ 1000) (ps : En) (hl : ps.length ≤ 1000) (hf : ∀ p ∈ ps, fine p.2 = true) (hq : Q (.sl .frozen (paVs (mapE (look e) ps))) h) : CallA ap 23 0 bs [.sl .frozen (paVs e), .sl .frozen (paVs ps)] h Q := by
  refine CallA.code (af := ac23) rfl (Nat.le_of_ble_eq_true rfl) ?_
  simp [ac23]
  obtain ⟨rs, hrs⟩ : ∃ rs, rs = mapE (look e) ps := ⟨_, rfl⟩
  have hrl : rs.length = ps.length := by rw [hrs, mapE_len]
  rw [← hrs] at hq
  obtain ⟨I, hI⟩ : ∃ I : Nat → St → Prop, ∀ n s, I n s ↔ (∃ i : Nat, i + n = ps.length ∧ s.r 0 = .sl .frozen (paVs e) ∧ s.r 1 = .sl .frozen (paVs ps) ∧ s.r 6 = .int .i64 i ∧
    (i = 0 ∧ s.r 5 = .sl .clip [] ∧ s.h = h ∨ 0 < i ∧ s.r 5 = .sl (.fam h.length) (paVs (rs.take i)) ∧ s.h = h ++ [.fam i 4])) := ⟨_, fun _ _ => Iff.rfl⟩
  refine loop_ind (CallA.hle ap) I ?_ (n := ps.length) ((hI _ _).2 ⟨0, by simp⟩)
  rintro n ⟨r, lo, h'⟩ hst
  obtain ⟨i, hin, r0, r1, r6, hor⟩ := (hI _ _).1 hst
  simp only at r0 r1 r6 hor
  simp [forget, noLoc, r1, r6, pas_length]
  refine condA_dec (fun h1 => ?_) fun h1 => ?_
  · have hi : i < ps.length := by omega
    have g1 : (paVs ps)[i]? = some (paV ps[i]) := by simp [paVs, hi]
    have hw : IntKind.wrap .i64 ((i : Int) + 1) = ((i + 1 : Nat) : Int) := by rw [wrap64 (by omega) (by omega)]; omega
    have htk : rs.take (i + 1) = rs.take i ++ [(ps[i].1, apT (look e) ps[i].2)] := by rw [hrs]; exact mapE_take _ _ _ hi
    have hml : (paVs (rs.take i)).length = i := by rw [pas_length]; simp; omega
    have hsn : paVs (rs.take i) ++ [paV (ps[i].1, apT (look e) ps[i].2)] = paVs (rs.take (i + 1)) := by rw [htk]; simp [paVs]
    have hfi := hf _ (List.getElem_mem hi)
    generalize ps[i] = p at *
    obtain ⟨c, k, m, tl⟩ := p
    simp only at hfi htk hsn
    have hpv : V.agg (.str c :: (tyV (apT (look e) (.mk k m tl))).cells) = paV (c, apT (look e) (.mk k m tl)) := rfl
    have hty : V.agg [.int .i64 k, .str m, .sl .frozen (tyVs tl)] = tyV (.mk k m tl) := by simp [tyV]
    have g2 : (paVs ps)[i]? = some (.agg [.str c, .int .i64 k, .str m, .sl .frozen (tyVs tl)]) := by rw [g1]; simp [paV, tyV]
    simp [r0, r1, r6, g2, pas_demote, demote_tys]
    rw [hty]
    refine refOk hfi _ _ _ e (by omega) ?_
    rcases hor with ⟨h0, r5, rfl⟩ | ⟨hpos, r5, rfl⟩
    · subst h0
      have h10 : [paV (c, apT (look e) (.mk k m tl))] = paVs (rs.take 1) := by rw [htk]; simp [paVs]
      simp [r5, r6, splice, hpv, pa_cells, pa_loc]
      exact ⟨by simp [lim], n - 1, by omega, (hI _ _).2 ⟨1, by omega, by simp [r0, r1, w1, h10]⟩⟩
    · simp [r5, r6, splice, hpv, pa_cells, pa_loc, hml, hsn]
      refine ⟨fun v hv => pas_mem hv, by simp only [lim]; omega, n - 1, by omega, (hI _ _).2 ⟨i + 1, by omega, by simp [r0, r1, hw]⟩⟩
  · have hi : i = ps.length := by omega
    have hfull : rs.take i = rs := List.take_of_length_le (by omega)
    rcases hor with ⟨h0, r5, rfl⟩ | ⟨hpos, r5, rfl⟩
    · have : rs = [] := List.length_eq_zero_iff.1 (by omega)
      rw [this] at hq
      simp [r5]
      simpa [paVs] using hq
    · rw [hfull] at r5
      simp [r5, pas_demote, pas_under]
      exact hq

theorem preds37 (q : Nat) (f : En) (hq0 : h[q]? = some (mapOb f)) (hff : ∀ x u, look f x = some u → fine u = true) (ps : En) (hl : ps.length ≤ 1000) (hf : ∀ p ∈ ps, fine p.2 = true) (hq : Q (.sl .frozen (paVs (mapE (look f) ps))) h) : CallA ap 38 0 bs [.agg [.map (some q)], .sl .frozen (paVs ps)] h Q := by
  refine CallA.code (af := ac38) rfl (Nat.le_of_ble_eq_true rfl) ?_
  have hql : q < h.length := (List.getElem?_eq_some_iff.1 hq0).1
  simp [ac38, pas_length]
  obtain ⟨rs, hrs⟩ : ∃ rs, rs = mapE (look f) ps := ⟨_, rfl⟩
  have hrl : rs.length = ps.length := by rw [hrs, mapE_len]
  rw [← hrs] at hq
  obtain ⟨I, hI⟩ : ∃ I : Nat → St → Prop, ∀ n s, I n s ↔ (∃ i : Nat, i + n = ps.length ∧ s.r 8 = .sl .frozen (paVs ps) ∧ s.r 9 = .int .i64 ps.length ∧ s.r 10 = .int .i64 i ∧ s.r 2 = .loc 2 0 ∧ s.l 2 = some [.map (some q)] ∧
    (i = 0 ∧ s.r 5 = .sl .clip [] ∧ s.h = h ∨ 0 < i ∧ s.r 5 = .sl (.fam h.length) (paVs (rs.take i)) ∧ s.h = h ++ [.fam i 4])) := ⟨_, fun _ _ => Iff.rfl⟩
  refine loop_ind (CallA.hle ap) I ?_ (n := ps.length) ((hI _ _).2 ⟨0, by simp⟩)
  rintro n ⟨r, lo, h'⟩ hst
  obtain ⟨i, hin, r8, r9, r10, r2, l2, hor⟩ := (hI _ _).1 hst
  simp only at r8 r9 r10 r2 l2 hor
  simp [forget, noLoc, locOf, r9, r10]
  refine condA_dec (fun h1 => ?_) fun h1 => ?_
  · have hi : i < ps.length := by omega
    have g1 : (paVs ps)[i]? = some (paV ps[i]) := by simp [paVs, hi]
    have hw : IntKind.wrap .i64 ((i : Int) + 1) = ((i + 1 : Nat) : Int) := by rw [wrap64 (by omega) (by omega)]; omega
    have htk : rs.take (i + 1) = rs.take i ++ [(ps[i].1, apT (look f) ps[i].2)] := by rw [hrs]; exact mapE_take _ _ _ hi
    have hml : (paVs (rs.take i)).length = i := by rw [pas_length]; simp; omega
    have hsn : paVs (rs.take i) ++ [paV (ps[i].1, apT (look f) ps[i].2)] = paVs (rs.take (i + 1)) := by rw [htk]; simp [paVs]
    have hfi := hf _ (List.getElem_mem hi)
    generalize ps[i] = p at *
    obtain ⟨c, k, m, tl⟩ := p
    simp only at hfi htk hsn
    have hpv : V.agg (.str c :: (tyV (apT (look f) (.mk k m tl))).cells) = paV (c, apT (look f) (.mk k m tl)) := rfl
    have hty : V.agg [.int .i64 k, .str m, .sl .frozen (tyVs tl)] = tyV (.mk k m tl) := by simp [tyV]
    have g2 : (paVs ps)[i]? = some (.agg [.str c, .int .i64 k, .str m, .sl .frozen (tyVs tl)]) := by rw [g1]; simp [paV, tyV]
    simp [r8, r10, r2, l2, g2, splice, demote_tys]
    rw [hty]
    rcases hor with ⟨h0, r5, rfl⟩ | ⟨hpos, r5, rfl⟩
    · refine applyOk hfi _ _ _ q f hq0 hff ?_
      subst h0
      have h10 : [paV (c, apT (look f) (.mk k m tl))] = paVs (rs.take 1) := by rw [htk]; simp [paVs]
      simp [r10, r5, splice, hpv, pa_cells, pa_loc]
      exact ⟨by simp [lim], n - 1, by omega, (hI _ _).2 ⟨1, by omega, by simp [r8, r9, r2, l2, w1, h10]⟩⟩
    · refine applyOk hfi _ _ _ q f (by rw [List.getElem?_append_left hql]; exact hq0) hff ?_
      simp [r10, r5, splice, hpv, pa_cells, pa_loc, hml, hsn]
      refine ⟨fun v hv => pas_mem hv, by simp only [lim]; omega, n - 1, by omega, (hI _ _).2 ⟨i + 1, by omega, by simp [r8, r9, r2, l2, hw]⟩⟩
  · have hi : i = ps.length := by omega
    have hfull : rs.take i = rs := List.take_of_length_le (by omega)
    rcases hor with ⟨h0, r5, rfl⟩ | ⟨hpos, r5, rfl⟩
    · have : rs = [] := List.length_eq_zero_iff.1 (by omega)
      rw [this] at hq
      simp [r5]
      simpa [paVs] using hq
    · rw [hfull] at r5
      simp [r5, pas_demote, pas_under]
      exact hq

theorem var52 (x : Nam) (hq : Q (.agg [.int .i64 1, .str x, .sl .frozen []]) h) : CallA ap 77 0 bs [.str x] h Q := by
  refine CallA.code (af := ac77) rfl (Nat.le_of_ble_eq_true rfl) ?_
  simp [ac77, splice]
  exact hq

/-- A scheme with other names. -/
theorem renamed33 (L R : List Nam) (hlr : L.length = R.length) (hl : L.length ≤ 1000) (hn : L.Nodup) (hne : ∀ j (h1 : j < L.length) (h2 : j < R.length), L[j] ≠ R[j]) (ps : En) (hps : ps.length ≤ 1000) (hf : ∀ p ∈ ps, fine p.2 = true) (t : Ty) (ht : fine t = true) (vs : V) (hvs : vs = .sl .frozen (L.map .str))
    (hq : Q (.agg ([.sl .frozen (R.map .str), .sl .frozen (paVs (mapE (look (zipE L R)) ps))] ++ (tyV (apT (look (zipE L R)) t)).cells)) h) :
    CallA ap 53 0 bs [.agg ([vs, .sl .frozen (paVs ps)] ++ (tyV t).cells), .sl .frozen (L.map .str), .sl .frozen (R.map .str)] h Q := by
  refine CallA.code (af := ac53) rfl (Nat.le_of_ble_eq_true rfl) ?_
  subst hvs
  obtain ⟨k, nn, l⟩ := t
  simp [ac53, tyV]
  obtain ⟨E, hE⟩ : ∃ E, E = zipE L R := ⟨_, rfl⟩
  have hEl : E.length = L.length := by rw [hE]; exact zipE_len hlr
  have hEt : ∀ i (h1 : i < L.length) (h2 : i < R.length), E.take (i + 1) = E.take i ++ [(L[i], var R[i])] := by
    intro i h1 h2
    rw [List.take_add_one]
    have : E[i]? = some (L[i], var R[i]) := by rw [hE]; simp [zipE, List.getElem?_zipWith, h1, h2]
    rw [this]; rfl
  rw [← hE] at hq
  obtain ⟨ML, hML⟩ : ∃ M : List V, M = L.map .str := ⟨_, rfl⟩
  obtain ⟨MR, hMR⟩ : ∃ M : List V, M = R.map .str := ⟨_, rfl⟩
  have gL : ∀ i (h1 : i < L.length), ML[i]? = some (.str L[i]) := fun i h1 => by rw [hML]; simp [h1]
  have gR : ∀ i (h1 : i < R.length), MR[i]? = some (.str R[i]) := fun i h1 => by rw [hMR]; simp [h1]
  have hMl : ML.length = L.length := by rw [hML]; simp
  have hMd : demoteL MR = MR := by rw [hMR]; exact dem_strs R
  have hMu : ∀ m, underL m MR = true := fun m => by rw [hMR]; exact under_strs m R
  rw [← hML, ← hMR]
  rw [← hMR] at hq
  obtain ⟨I, hI⟩ : ∃ I : Nat → St → Prop, ∀ n s, I n s ↔ (∃ i : Nat, i + n = L.length ∧ s.r 2 = .sl .frozen MR ∧ s.r 11 = .sl .frozen ML ∧ s.r 12 = .int .i64 L.length ∧ s.r 13 = .int .i64 i ∧ s.r 3 = .loc 3 0 ∧ s.r 6 = .loc 6 0 ∧ s.l 3 = some [.sl .frozen ML, .sl .frozen (paVs ps), .int .i64 k, .str nn, .sl .frozen (tyVs l)] ∧ s.l 6 = some [.sl .clip [], .sl .clip [], .int .i64 0, .str [], .sl .clip []] ∧
    (i = 0 ∧ s.r 7 = .sl .clip [] ∧ s.h = h ∨ 0 < i ∧ s.r 7 = .sl (.fam h.length) (paVs (E.take i)) ∧ s.h = h ++ [.fam i 4])) := ⟨_, fun _ _ => Iff.rfl⟩
  refine loop_ind (CallA.hle ap) I ?_ (n := L.length) ((hI _ _).2 ⟨0, by simp⟩)
  rintro n ⟨r, lo, h'⟩ hst
  obtain ⟨i, hin, r2, r11, r12, r13, r3, r6, l3, l6, hor⟩ := (hI _ _).1 hst
  simp only at r2 r11 r12 r13 r3 r6 l3 l6 hor
  simp [forget, noLoc, locOf, r12, r13]
  refine condA_dec (fun h1 => ?_) fun h1 => ?_
  · have hi : i < L.length := by omega
    have hi2 : i < R.length := by omega
    have hw : IntKind.wrap .i64 ((i : Int) + 1) = ((i + 1 : Nat) : Int) := by rw [wrap64 (by omega) (by omega)]; omega
    have htk := hEt i hi hi2
    have hml : (paVs (E.take i)).length = i := by rw [pas_length]; simp; omega
    have hsn : paVs (E.take i) ++ [paV (L[i], var R[i])] = paVs (E.take (i + 1)) := by rw [htk]; simp [paVs]
    have hpv : V.agg [.str L[i], .int .i64 1, .str R[i], .sl .frozen []] = paV (L[i], var R[i]) := by simp [paV, var, tyV, tyVs]
    simp [r2, r11, r13, gL i hi, gR i hi2]
    refine var52 _ ?_
    rcases hor with ⟨h0, r7, rfl⟩ | ⟨hpos, r7, rfl⟩
    · subst h0
      have h10 : [paV (L[0], var R[0])] = paVs (E.take 1) := by rw [htk]; simp [paVs]
      simp [r13, r7, splice, hpv, pa_cells, pa_loc]
      exact ⟨by simp [lim], n - 1, by omega, (hI _ _).2 ⟨1, by omega, by simp [r2, r11, r12, r3, r6, l3, l6, w1, h10]⟩⟩
    · simp [r13, r7, splice, hpv, pa_cells, pa_loc, hml, hsn]
      refine ⟨fun v hv => pas_mem hv, by simp only [lim]; omega, n - 1, by omega, (hI _ _).2 ⟨i + 1, by omega, by simp [r2, r11, r12, r3, r6, l3, l6, hw]⟩⟩
  · have hi : i = L.length := by omega
    have hfull : E.take i = E := List.take_of_length_le (by omega)
    have hu : Uniq E := by unfold Uniq; rw [hE, zipE_fst hlr]; exact hn
    have hok : ∀ p ∈ E, okT p.2 = true := fun p hp => by rw [hE] at hp; obtain ⟨b, _, e⟩ := zipE_mem hp; rw [e]; rfl
    have hnid : E.filter nid = E := by
      rw [List.filter_eq_self]
      intro p hp
      obtain ⟨j, hj, rfl⟩ := List.getElem_of_mem hp
      have hj1 : j < L.length := by omega
      have hj2 : j < R.length := by omega
      have : E[j] = (L[j], var R[j]) := by
        have : E[j]? = some (L[j], var R[j]) := by rw [hE]; simp [zipE, List.getElem?_zipWith, hj1, hj2]
        rw [List.getElem?_eq_getElem hj] at this
        exact Option.some.inj this
      rw [this]
      have := hne j hj1 hj2
      simp [nid, var]
      first | exact fun e => this e.symm | exact this
    have hff : ∀ x u, look E x = some u → fine u = true := fun x u hx => by
      have hm := look_mem hx
      rw [hE] at hm
      obtain ⟨b, _, e⟩ := zipE_mem hm
      simp only at e
      rw [e]; rfl
    have hty : V.agg [.int .i64 k, .str nn, .sl .frozen (tyVs l)] = tyV (.mk k nn l) := by simp [tyV]
    have rest : ∀ (tl : List Ob), (h ++ tl).take h.length = h := fun tl => List.take_left' rfl
    rcases hor with ⟨h0, r7, rfl⟩ | ⟨hpos, r7, rfl⟩
    · have hE0 : E = [] := List.length_eq_zero_iff.1 (by omega)
      simp [r7]
      have e0 : V.sl .frozen [] = .sl .frozen (paVs E) := by rw [hE0]; rfl
      rw [e0]
      refine of61 E hu hok (by omega) ?_
      rw [hnid]
      simp [r2, splice]
      rw [hMR, dem_strs]
      refine clone54 R (by omega) ?_
      rw [← hMR]
      simp [r3, l3, pas_demote]
      refine preds37 h'.length E (by simp) hff ps hps hf ?_
      simp [r3, l3, demote_tys]
      rw [hty]
      refine applyOk ht _ _ _ h'.length E (by simp) hff ?_
      simp [r6, l6, splice, pas_demote, pas_under, hMd, hMu]
      rw [ty_take, ty_dc']
      exact ⟨ty_uc4 _ _, hq⟩
    · rw [hfull] at r7
      simp [r7, pas_demote]
      refine of61 E hu hok (by omega) ?_
      rw [hnid]
      simp [r2, splice]
      rw [hMR, dem_strs]
      refine clone54 R (by omega) ?_
      rw [← hMR]
      simp [r3, l3, pas_demote]
      refine preds37 (h.length + 1) E (by simp) hff ps hps hf ?_
      simp [r3, l3, demote_tys]
      rw [hty]
      refine applyOk ht _ _ _ (h.length + 1) E (by simp) hff ?_
      simp [r6, l6, splice, pas_demote, pas_under, hMd, hMu]
      rw [ty_take, ty_dc']
      exact ⟨ty_uc4 _ _, hq⟩

/-- New names for all of a scheme's variables. -/
theorem fresh10 (L : List Nam) (k0 : Nat) (hk0 : k0 < 100000) (hl : L.length ≤ 1000) (hn : L.Nodup) (hshort : ∀ x ∈ L, x.length = 1) (ps : En) (hps : ps.length ≤ 1000) (hf : ∀ p ∈ ps, fine p.2 = true) (t : Ty) (ht : fine t = true)
    (hq : Q (.tup [.agg ([.sl .frozen ((frs k0 L.length).map .str), .sl .frozen (paVs (mapE (look (zipE L (frs k0 L.length))) ps))] ++ (tyV (apT (look (zipE L (frs k0 L.length))) t)).cells), .int .i64 ((k0 + L.length : Nat) : Int)]) h) :
    CallA ap 28 0 bs [.agg ([.sl .frozen (L.map .str), .sl .frozen (paVs ps)] ++ (tyV t).cells), .int .i64 k0] h Q := by
  refine CallA.code (af := ac28) rfl (Nat.le_of_ble_eq_true rfl) ?_
  obtain ⟨k, nn, l⟩ := t
  obtain ⟨R, hR⟩ : ∃ R, R = frs k0 L.length := ⟨_, rfl⟩
  have hRl : R.length = L.length := by rw [hR]; exact frs_len _ _
  rw [← hR] at hq
  simp [ac28, tyV]
  obtain ⟨ML, hML⟩ : ∃ M : List V, M = L.map .str := ⟨_, rfl⟩
  obtain ⟨MR, hMR⟩ : ∃ M : List V, M = R.map .str := ⟨_, rfl⟩
  have hMl : ML.length = L.length := by rw [hML]; simp
  have hMrl : MR.length = L.length := by rw [hMR]; simp [hRl]
  have hMc : ∀ v ∈ MR, v.cells.length = 1 := fun v hv => by rw [hMR] at hv; obtain ⟨x, _, rfl⟩ := List.mem_map.1 hv; rfl
  have gR : ∀ i, i < L.length → MR[i]? = some (.str (63 :: Lib.itoa ((k0 + i : Nat) : Int))) := fun i h1 => by
    rw [hMR, hR]; simp [frs, h1, fr]
  rw [← hML]
  obtain ⟨I, hI⟩ : ∃ I : Nat → St → Prop, ∀ n s, I n s ↔ (∃ i : Nat, i + n = L.length ∧ s.r 1 = .int .i64 ((k0 + i : Nat) : Int) ∧ s.r 9 = .int .i64 L.length ∧ s.r 10 = .int .i64 i ∧ s.r 2 = .loc 2 0 ∧ s.r 4 = .loc 4 0 ∧ s.l 2 = some [.sl .frozen ML, .sl .frozen (paVs ps), .int .i64 k, .str nn, .sl .frozen (tyVs l)] ∧ s.l 4 = some [.sl .clip [], .sl .clip [], .int .i64 0, .str [], .sl .clip []] ∧
    (i = 0 ∧ s.r 6 = .sl .clip [] ∧ s.h = h ∨ 0 < i ∧ s.r 6 = .sl (.fam h.length) (MR.take i) ∧ s.h = h ++ [.fam i 1])) := ⟨_, fun _ _ => Iff.rfl⟩
  refine loop_ind (CallA.hle ap) I ?_ (n := L.length) ((hI _ _).2 ⟨0, by simp⟩)
  rintro n ⟨r, lo, h'⟩ hst
  obtain ⟨i, hin, r1, r9, r10, r2, r4, l2, l4, hor⟩ := (hI _ _).1 hst
  simp only at r1 r9 r10 r2 r4 l2 l4 hor
  simp [forget, noLoc, locOf, r9, r10]
  refine condA_dec (fun h1 => ?_) fun h1 => ?_
  · have hi : i < L.length := by omega
    have hw : IntKind.wrap .i64 ((i : Int) + 1) = ((i + 1 : Nat) : Int) := by rw [wrap64 (by omega) (by omega)]; omega
    have hw2 : IntKind.wrap .i64 ((k0 : Int) + i + 1) = (k0 : Int) + ((i : Int) + 1) := by rw [wrap64 (by omega) (by omega)]; omega
    have htk : MR.take (i + 1) = MR.take i ++ [.str (63 :: Lib.itoa ((k0 + i : Nat) : Int))] := by rw [List.take_add_one, gR i hi]; rfl
    have hml : min i MR.length = i := by omega
    have hz : (Lib.itoa ((k0 : Int) + i)).length ≤ 1000000 := by
      have := (fr_len (k := k0 + i) (by omega)).2
      rw [fr, List.length_cons] at this
      have e : ((k0 + i : Nat) : Int) = (k0 : Int) + i := by omega
      rw [e] at this
      omega
    simp [r1]
    refine itoa32 _ (by omega) (by omega) ?_
    have hs1 : [(63 : UInt8)].length + (Lib.itoa ((k0 : Int) + i)).length ≤ 4611686018427387904 := by simp only [List.length_cons, List.length_nil]; omega
    have hcast : ((k0 + i : Nat) : Int) = (k0 : Int) + i := by omega
    rw [hcast] at htk
    have hb : binV .add (.str [63]) (.str (Lib.itoa ((k0 : Int) + i))) = some (.str (63 :: Lib.itoa ((k0 : Int) + i))) := b_cat _ _ hs1
    clear hs1
    rcases hor with ⟨h0, r6, rfl⟩ | ⟨hpos, r6, rfl⟩
    · subst h0
      have hb0 : binV .add (.str [63]) (.str (Lib.itoa (k0 : Int))) = some (.str (63 :: Lib.itoa (k0 : Int))) := by simpa using hb
      have h10 : [V.str (63 :: Lib.itoa (k0 : Int))] = MR.take 1 := by rw [htk]; simp
      have w0 : IntKind.wrap .i64 ((k0 : Int) + 1) = (k0 : Int) + 1 := wrap64 (by omega) (by omega)
      simp [r1, r10, r6, hb0]
      exact ⟨by simp [lim], n - 1, by omega, (hI _ _).2 ⟨1, by omega, by simp [r9, r2, r4, l2, l4, w1, w0, h10]⟩⟩
    · simp [r1, r10, r6, hb, hml]
      refine ⟨fun v hv => ?_, by simp only [lim]; omega, n - 1, by omega, (hI _ _).2 ⟨i + 1, by omega, by simp [r9, r2, r4, l2, l4, hw, hw2, htk]⟩⟩
      rcases hv with hv | rfl
      · exact hMc v (List.mem_of_mem_take hv)
      · rfl
  · have hi : i = L.length := by omega
    have hfull : MR.take i = MR := List.take_of_length_le (by omega)
    have hne : ∀ j (h1 : j < L.length) (h2 : j < R.length), L[j] ≠ R[j] := fun j h1 h2 e => by
      have a := hshort _ (List.getElem_mem h1)
      have b : R[j] = fr (k0 + j) := by simp [hR, frs]
      rw [e, b] at a
      have := (fr_len (k := k0 + j) (by omega)).1
      omega
    have hMd : demoteL MR = MR := by rw [hMR]; exact dem_strs R
    have hLd : demoteL ML = ML := by rw [hML]; exact dem_strs L
    have hMu : ∀ m, underL m MR = true := fun m => by rw [hMR]; exact under_strs m R
    have hcells : V.agg [.sl .frozen ML, .sl .frozen (paVs ps), .int .i64 k, .str nn, .sl .frozen (tyVs l)] = .agg ([.sl .frozen (L.map .str), .sl .frozen (paVs ps)] ++ (tyV (.mk k nn l)).cells) := by simp [tyV, hML]
    have hk : ((k0 : Int) + i) = ((k0 + L.length : Nat) : Int) := by omega
    rcases hor with ⟨h0, r6, rfl⟩ | ⟨hpos, r6, rfl⟩
    · have hM0 : MR = [] := List.length_eq_zero_iff.1 (by omega)
      simp [r2, l2, r6, pas_demote, demote_tys, hLd]
      have e0 : V.sl .frozen [] = .sl .frozen (R.map .str) := by rw [← hMR, hM0]
      rw [hcells, hML, e0]
      refine renamed33 L R hRl.symm hl hn hne ps hps hf (.mk k nn l) ht _ rfl ?_
      rw [← hMR]
      simp [r1, r4, l4, splice, pas_demote, pas_under, ty_take, ty_dc', ty_uc4, hMd, hMu]
      rw [hi]
      simpa [hMR] using hq
    · rw [hfull] at r6
      simp [r2, l2, r6, pas_demote, demote_tys, hLd, hMd]
      rw [hcells, hML, hMR]
      refine renamed33 L R hRl.symm hl hn hne ps hps hf (.mk k nn l) ht _ rfl ?_
      rw [← hMR]
      simp [r1, r4, l4, splice, pas_demote, pas_under, ty_take, ty_dc', ty_uc4, hMd, hMu]
      rw [hi]
      simpa [hMR] using hq

end
end Go.Ot
