/- The reference's free names, names, plain form: on the abstract machine. -/
import Derived.Test.YtkcpkckaahmheaaDoorOtMa

namespace Go.Ot
open Go.Am Go.Proofs
set_option maxRecDepth 100000

section
variable {bs : List Nat} {h : List Ob} {Q : V → List Ob → Prop}

theorem strs_mem {l : List Nam} {v : V} (hv : v ∈ l.map V.str) : v.cells.length = 1 := by
  obtain ⟨x, _, rfl⟩ := List.mem_map.1 hv; rfl

/-- What stands in a scheme and is not for all: the reference. -/
theorem refFree {A : List Nam} (hA : A.length ≤ 1000) (N : List Nam) (hN : N.length < 1000000) (t : Ty) (ps : En) (hl : ps.length ≤ 900) (hf : ∀ u ∈ t :: ps.map (·.2), fine u = true ∧ good A u)
    (hq : ∀ M : List Nam, M = (varsTL [] (t :: ps.map (·.2))).filter (fun x => !decide (x ∈ N)) → Q (.sl .frozen (M.map .str)) h) :
    CallA ap 32 0 bs [.agg ([.sl .frozen (N.map .str), .sl .frozen (paVs ps)] ++ (tyV t).cells)] h Q := by
  refine CallA.code (af := ac32) rfl (Nat.le_of_ble_eq_true rfl) ?_
  obtain ⟨k, nn, l⟩ := t
  simp [ac32, tyV, demote_tys, pas_demote]
  have e2 : V.agg [.int .i64 k, .str nn, .sl .frozen (tyVs l)] = tyV (.mk k nn l) := by simp [tyV]
  rw [e2]
  refine all31 _ ps (by omega) ?_
  simp [demote_tys]
  refine vars23 hA _ (by simp; omega) hf ?_
  have hlen := lenA hA hf
  revert hq hlen
  generalize varsTL [] (Ty.mk k nn l :: ps.map (·.2)) = O
  intro hq hlen
  simp
  obtain ⟨I, hI⟩ : ∃ I : Nat → St → Prop, ∀ n s, I n s ↔ (∃ C D : List Nam, O = C ++ D ∧ n = D.length ∧ s.r 4 = .sl .frozen (O.map .str) ∧ s.r 5 = .int .i64 C.length ∧ s.r 1 = .loc 1 0 ∧ s.l 1 = some [.sl .frozen (N.map .str), .sl .frozen (paVs ps), .int .i64 k, .str nn, .sl .frozen (tyVs l)] ∧
    (C.filter (fun x => !decide (x ∈ N)) = [] ∧ s.r 3 = .sl .clip [] ∧ s.h = h ∨ C.filter (fun x => !decide (x ∈ N)) ≠ [] ∧ s.r 3 = .sl (.fam h.length) ((C.filter (fun x => !decide (x ∈ N))).map .str) ∧ s.h = h ++ [.fam (C.filter (fun x => !decide (x ∈ N))).length 1])) := ⟨_, fun _ _ => Iff.rfl⟩
  refine loop_ind (CallA.hle ap) I ?_ (n := O.length) ((hI _ _).2 ⟨[], O, by simp⟩)
  rintro n ⟨r, lo, h'⟩ hst
  obtain ⟨C, D, e, hn, r4, r5, r1, l1, hor⟩ := (hI _ _).1 hst
  simp only at r4 r5 r1 l1 hor
  have hCD : C.length + D.length = O.length := by rw [e]; simp
  simp [forget, noLoc, locOf, r4, r5]
  refine condA_dec (fun d => ?_) fun d => ?_
  · obtain ⟨x, D', rfl⟩ : ∃ x D', D = x :: D' := by
      cases D with
      | nil => simp at hCD; omega
      | cons x D' => exact ⟨x, D', rfl⟩
    have g1 : (O.map V.str)[C.length]? = some (.str x) := by rw [e]; simp
    simp only [List.getElem?_map] at g1
    have hw : IntKind.wrap .i64 ((C.length : Int) + 1) = (C.length : Int) + 1 := wrap64 (by omega) (by omega)
    have hfl : (C.filter (fun x => !decide (x ∈ N))).length ≤ C.length := List.length_filter_le _ _
    simp [r4, r5, r1, l1, g1, dem_strs]
    refine has40 N x hN fun b hb => ?_
    have hap : (C ++ [x]).filter (fun x => !decide (x ∈ N)) = C.filter (fun x => !decide (x ∈ N)) ++ (if x ∈ N then [] else [x]) := by
      rw [List.filter_append]; congr 1
      by_cases hx : x ∈ N <;> simp [hx]
    revert hor hap hfl
    generalize C.filter (fun x => !decide (x ∈ N)) = M
    intro hor hfl hap
    by_cases hx : x ∈ N
    · have : b = true := hb.2 hx
      subst this
      rw [if_pos hx, List.append_nil] at hap
      rcases hor with ⟨h0, r3, rfl⟩ | ⟨hne, r3, rfl⟩
      · simp [r5, hw]
        exact ⟨D'.length, by simp at hn; omega, (hI _ _).2 ⟨C ++ [x], D', by simpa using e, rfl, by simp [r4], by simp, by simp [r1], by simp [l1], by rw [hap]; exact .inl ⟨h0, by simp [r3], by simp⟩⟩⟩
      · simp [r5, hw]
        exact ⟨D'.length, by simp at hn; omega, (hI _ _).2 ⟨C ++ [x], D', by simpa using e, rfl, by simp [r4], by simp, by simp [r1], by simp [l1], by rw [hap]; exact .inr ⟨hne, by simp [r3], by simp⟩⟩⟩
    · have : b = false := by cases b <;> simp_all
      subst this
      rw [if_neg hx] at hap
      rcases hor with ⟨h0, r3, rfl⟩ | ⟨hne, r3, rfl⟩
      · subst h0
        simp [r3, r4, r5, hw, g1, lim]
        exact ⟨D'.length, by simp at hn; omega, (hI _ _).2 ⟨C ++ [x], D', by simpa using e, rfl, by simp [r4], by simp, by simp [r1], by simp [l1], by rw [hap]; exact .inr ⟨by simp, by simp, by simp⟩⟩⟩
      · simp [r3, r4, r5, hw, g1]
        refine ⟨fun v hv => ?_, by simp only [lim]; omega, D'.length, by simp at hn; omega, (hI _ _).2 ⟨C ++ [x], D', by simpa using e, rfl, by simp [r4], by simp, by simp [r1], by simp [l1], by rw [hap]; exact .inr ⟨by simp, by simp, by simp⟩⟩⟩
        rcases hv with ⟨y, _, rfl⟩ | rfl <;> rfl
  · have : D = [] := List.length_eq_zero_iff.1 (by omega)
    subst this
    have e : O = C := by simpa using e
    subst e
    rcases hor with ⟨h0, r3, rfl⟩ | ⟨hne, r3, rfl⟩
    · simp [r3]
      simpa [h0] using hq _ rfl
    · simp [r3, dem_strs, under_strs]
      exact hq _ rfl

theorem refName (i : Nat) (hi : i < 26) (hq : Q (.str (nm i)) h) : CallA ap 35 0 bs [.int .i64 i] h Q := by
  refine CallA.code (af := ac35) rfl (Nat.le_of_ble_eq_true rfl) ?_
  have e2 : ∀ i : Nat, i < 26 → IntKind.wrap .u8 (97 + (i : Int)) = 97 + (i : Int) := by decide
  have e3 : IntKind.wrap .i64 (97 + (i : Int)) = 97 + (i : Int) := wrap64 (by omega) (by omega)
  have e4 : (i : Int).tmod 26 = (i : Int) := Int.tmod_eq_of_lt (by omega) (by omega)
  have e5 : (i : Int).tdiv 26 = 0 := Int.tdiv_eq_zero_of_lt (by omega) (by omega)
  have e7 : ¬ (i : Int) < 0 := by omega
  have e8 : (97 + (i : Int)).toNat = 97 + i := by omega
  have hcv : convV .text (.sl .clip [.int .u8 (97 + (i : Int))]) = some (.str (nm i)) := by
    simp [convV, bytesV, nm, e8]
  simp [ac35, e7, e4, e5, e3, e2 i hi, hcv]
  have w0 : IntKind.wrap .i64 0 = 0 := by decide
  refine wpA_loop (CallA.hle ap) ?_
  have el : (nm i).length = 1 := rfl
  simp [forget, noLoc, w0, binV, el]
  exact hq

end
end Go.Ot

namespace Go.Ot
open Go.Am Go.Proofs
set_option maxRecDepth 100000
set_option maxHeartbeats 1000000

theorem zipE_snoc {L R : List Nam} (hl : L.length = R.length) (x y : Nam) : zipE (L ++ [x]) (R ++ [y]) = zipE L R ++ [(x, var y)] := by
  simp only [zipE]
  rw [List.zipWith_append hl]
  rfl

section
variable {bs : List Nat} {h : List Ob} {Q : V → List Ob → Prop}

theorem refCanon {A : List Nam} (hA : A.length ≤ 12) (N : List Nam) (hN : N.length < 1000000) (t : Ty) (ps : En) (hl : ps.length < 20) (hf : ∀ u ∈ t :: ps.map (·.2), fine u = true ∧ good A u)
    (hq : ∀ (xs : En) (L F R : List Nam) (ys : En) (m : Nat), xs.length ≤ ps.length → xs.Pairwise ltP → (∀ p, p ∈ xs ↔ p ∈ ps) → L = (varsTL [] (t :: xs.map (·.2))).filter (fun x => decide (x ∈ N)) →
      F = (varsTL [] (t :: ps.map (·.2))).filter (fun x => !decide (x ∈ N)) → m ≤ 26 → R = names F m → R.length = L.length →
      ys.length ≤ ps.length → ys.Pairwise ltP → (∀ p, p ∈ ys ↔ p ∈ mapE (look (zipE L R)) ps) →
      Q (.agg ([.sl .frozen (R.map .str), .sl .frozen (paVs ys)] ++ (tyV (apT (look (zipE L R)) t)).cells)) h) :
    CallA ap 30 0 bs [.agg ([.sl .frozen (N.map .str), .sl .frozen (paVs ps)] ++ (tyV t).cells)] h Q := by
  refine CallA.code (af := ac30) rfl (Nat.le_of_ble_eq_true rfl) ?_
  have hA' : A.length ≤ 1000 := by omega
  have hfp : ∀ p ∈ ps, fine p.2 = true := fun p hp => (hf p.2 (by simp; exact .inr ⟨p.1, hp⟩)).1
  have hft : fine t = true := (hf _ (by simp)).1
  obtain ⟨k, nn, l⟩ := t
  have e2 : V.agg ([.sl .frozen (N.map .str), .sl .frozen (paVs ps)] ++ (tyV (.mk k nn l)).cells) = .agg [.sl .frozen (N.map .str), .sl .frozen (paVs ps), .int .i64 k, .str nn, .sl .frozen (tyVs l)] := by simp [tyV]
  have e3 : V.agg [.int .i64 k, .str nn, .sl .frozen (tyVs l)] = tyV (.mk k nn l) := by simp [tyV]
  simp [ac30, tyV, demote_tys, pas_demote, dem_strs]
  rw [← e2]
  refine refFree hA' N hN (.mk k nn l) ps (by omega) hf fun F hF => ?_
  simp [pas_demote]
  refine sortR ps (by omega) hfp fun xs hxl hxs hxm => ?_
  simp [demote_tys, pas_demote]
  rw [e3]
  have hfx : ∀ u ∈ (Ty.mk k nn l) :: xs.map (·.2), fine u = true ∧ good A u := fun u hu => by
    rcases List.mem_cons.1 hu with rfl | hu
    · exact hf _ (by simp)
    · obtain ⟨p, hp, rfl⟩ := List.mem_map.1 hu
      exact hf p.2 (List.mem_cons_of_mem _ (List.mem_map_of_mem ((hxm p).1 hp)))
  refine all31 _ xs (by omega) ?_
  simp [demote_tys]
  refine vars23 hA' _ (by simp; omega) hfx ?_
  have hOn : (varsTL [] (Ty.mk k nn l :: xs.map (·.2))).Nodup := varsTL_nodup _ _ (by simp)
  have hOl : (varsTL [] (Ty.mk k nn l :: xs.map (·.2))).length ≤ 12 := Nat.le_trans (List.Nodup.length_le_of_subset hOn fun x hx => vars_in hfx hx) hA
  have hFn : F.Nodup := by rw [hF]; exact List.Pairwise.filter _ (varsTL_nodup _ _ (by simp))
  have hFl : F.length ≤ 12 := Nat.le_trans (List.Nodup.length_le_of_subset hFn fun x hx => vars_in hf (by rw [hF] at hx; exact (List.mem_filter.1 hx).1)) hA
  have hqO := fun L R ys m => hq xs L F R ys m hxl hxs hxm
  clear hq
  revert hqO hOn hOl
  generalize varsTL [] (Ty.mk k nn l :: xs.map (·.2)) = O
  intro hOn hOl hq
  simp [splice]
  obtain ⟨I, hI⟩ : ∃ I : Nat → St → Prop, ∀ n s, I n s ↔ (∃ (C D Lc : List Nam) (m : Nat), O = C ++ D ∧ n = D.length ∧ Lc = C.filter (fun x => decide (x ∈ N)) ∧ m ≤ 26 ∧ (names F m).length = Lc.length ∧ s.r 3 = .sl .frozen (F.map .str) ∧ s.r 4 = .sl .frozen (O.map .str) ∧ s.r 8 = .int .i64 C.length ∧ s.r 7 = .int .i64 m ∧ s.r 1 = .loc 1 0 ∧ s.r 2 = .loc 2 0 ∧ s.r 6 = .loc 6 0 ∧
    s.l 1 = some [.sl .frozen (N.map .str), .sl .frozen (paVs ps), .int .i64 k, .str nn, .sl .frozen (tyVs l)] ∧ s.l 2 = some [.sl .clip [], .sl .clip [], .int .i64 0, .str [], .sl .clip []] ∧
    (Lc = [] ∧ s.r 5 = .sl .clip [] ∧ s.l 6 = some [.sl .clip [], .sl .clip [], .int .i64 0, .str [], .sl .clip []] ∧ s.h = h ∨
     Lc ≠ [] ∧ s.r 5 = .sl (.fam (h.length + 1)) (paVs (zipE Lc (names F m))) ∧ s.l 6 = some [.sl (.fam h.length) ((names F m).map .str), .sl .clip [], .int .i64 0, .str [], .sl .clip []] ∧ s.h = h ++ [.fam Lc.length 1, .fam Lc.length 4])) := ⟨_, fun _ _ => Iff.rfl⟩
  refine loop_ind (CallA.hle ap) I ?_ (n := O.length) ((hI _ _).2 ⟨[], O, [], 0, by simp [names]⟩)
  rintro n ⟨r, lo, h'⟩ hst
  obtain ⟨C, D, Lc, m, e, hn, hLc, hm26, hml, r3, r4, r8, r7, r1, r2, r6, l1, l2, hor⟩ := (hI _ _).1 hst
  simp only at r3 r4 r8 r7 r1 r2 r6 l1 l2 hor
  have hCD : C.length + D.length = O.length := by rw [e]; simp
  have hLl : Lc.length ≤ C.length := by rw [hLc]; exact List.length_filter_le _ _
  simp [forget, noLoc, locOf, r4, r8]
  refine condA_dec (fun d => ?_) fun d => ?_
  · obtain ⟨x, D', rfl⟩ : ∃ x D', D = x :: D' := by
      cases D with
      | nil => simp at hCD; omega
      | cons x D' => exact ⟨x, D', rfl⟩
    have hpl : C.length + 1 + D'.length = O.length := by simp at hCD; omega
    have g1 : (O.map V.str)[C.length]? = some (.str x) := by rw [e]; simp
    simp only [List.getElem?_map] at g1
    have hw : IntKind.wrap .i64 ((C.length : Int) + 1) = (C.length : Int) + 1 := wrap64 (by omega) (by omega)
    simp [r4, r8, r1, l1, g1, dem_strs]
    refine has40 N x hN fun b hb => ?_
    have hap : (C ++ [x]).filter (fun x => decide (x ∈ N)) = Lc ++ (if x ∈ N then [x] else []) := by
      rw [List.filter_append, hLc]; congr 1
      by_cases hx : x ∈ N <;> simp [hx]
    have hcnt := names_count F hm26
    by_cases hx : x ∈ N
    · have : b = true := hb.2 hx
      subst this
      rw [if_pos hx] at hap
      simp
      rcases hor with ⟨h0, r5, l6, rfl⟩ | ⟨hne, r5, l6, rfl⟩
      · obtain ⟨K, hK⟩ : ∃ K : Nat → St → Prop, ∀ n s, K n s ↔ (∃ (m' : Nat), m' + n = 26 ∧ names F m' = names F m ∧ s.r 3 = .sl .frozen (F.map .str) ∧ s.r 4 = .sl .frozen (O.map .str) ∧ s.r 8 = .int .i64 C.length ∧ s.r 7 = .int .i64 m' ∧ s.r 1 = .loc 1 0 ∧ s.r 2 = .loc 2 0 ∧ s.r 6 = .loc 6 0 ∧
          s.l 1 = some [.sl .frozen (N.map .str), .sl .frozen (paVs ps), .int .i64 k, .str nn, .sl .frozen (tyVs l)] ∧ s.l 2 = some [.sl .clip [], .sl .clip [], .int .i64 0, .str [], .sl .clip []] ∧ s.r 5 = .sl .clip [] ∧ s.l 6 = some [.sl .clip [], .sl .clip [], .int .i64 0, .str [], .sl .clip []] ∧ s.h = h') := ⟨_, fun _ _ => Iff.rfl⟩
        refine loop_ind (CallA.hle ap) K ?_ (n := 26 - m) ((hK _ _).2 ⟨m, by omega, rfl, by simp [r3, r4, r8, r7, r1, r2, r6, l1, l2, r5, l6]⟩)
        rintro n2 ⟨rr, lo2, h2⟩ hst2
        obtain ⟨m', hmn, hnm, v3, v4, v8, v7, v1, v2, v6, m1, m2, v5, m6, rfl⟩ := (hK _ _).1 hst2
        simp only at v3 v4 v8 v7 v1 v2 v6 m1 m2 v5 m6
        have hcnt2 := names_count F (m := m') (by omega)
        rw [hnm] at hcnt2
        have hm24 : m' < 26 := by omega
        have hw7 : IntKind.wrap .i64 ((m' : Int) + 1) = (m' : Int) + 1 := wrap64 (by omega) (by omega)
        simp [forget, noLoc, locOf, v3, v7]
        refine refName m' hm24 ?_
        simp [dem_strs]
        refine has40 F (nm m') (by omega) fun c hc => ?_
        have hnx := names_next F m'
        by_cases hmF : nm m' ∈ F
        · have : c = true := hc.2 hmF
          subst this
          rw [if_pos hmF, List.append_nil, hnm] at hnx
          simp [v7, hw7]
          exact ⟨n2 - 1, by omega, (hK _ _).2 ⟨m' + 1, by omega, hnx, by simp [v3, v4, v8, v1, v2, v6, m1, m2, v5, m6]⟩⟩
        · have : c = false := by cases c <;> simp_all
          subst this
          rw [if_neg hmF, hnm] at hnx
          have hz := zipE_snoc hml.symm x (nm m')
          rw [← hnx] at hz
          have hv : V.agg [.str x, .int .i64 1, .str (nm m'), .sl .frozen []] = paV (x, var (nm m')) := by simp [paV, var, tyV, tyVs]
          simp [v7, v6, m6]
          refine refName m' hm24 ?_
          subst h0
          simp [v4, v8, v7, v6, v5, m6, splice, lim, g1]
          refine refName m' hm24 ?_
          simp
          refine var31 (nm m') ?_
          have hm0 : names F m = [] := List.length_eq_zero_iff.1 (by simpa using hml)
          rw [hm0] at hnx
          have hp1 : [paV (x, var (nm m'))] = paVs (zipE [x] (names F (m' + 1))) := by rw [hnx]; simp [zipE, paVs]
          simp [v8, v7, splice, lim, hv, pa_cells, pa_loc, hw7, hw]
          refine ⟨D'.length, by simp at hn; omega, (hI _ _).2 ⟨C ++ [x], D', [x], m' + 1, by simpa using e, rfl, by rw [hap]; simp, by omega, by rw [hnx]; simp, by simp [v3], by simp [v4], by simp, by simp, by simp [v1], by simp [v2], by simp [v6], by simp [m1], by simp [m2], .inr ⟨by simp, by simp [hp1], by simp [hnx], by simp⟩⟩⟩
      · obtain ⟨K, hK⟩ : ∃ K : Nat → St → Prop, ∀ n s, K n s ↔ (∃ (m' : Nat), m' + n = 26 ∧ names F m' = names F m ∧ s.r 3 = .sl .frozen (F.map .str) ∧ s.r 4 = .sl .frozen (O.map .str) ∧ s.r 8 = .int .i64 C.length ∧ s.r 7 = .int .i64 m' ∧ s.r 1 = .loc 1 0 ∧ s.r 2 = .loc 2 0 ∧ s.r 6 = .loc 6 0 ∧
          s.l 1 = some [.sl .frozen (N.map .str), .sl .frozen (paVs ps), .int .i64 k, .str nn, .sl .frozen (tyVs l)] ∧ s.l 2 = some [.sl .clip [], .sl .clip [], .int .i64 0, .str [], .sl .clip []] ∧ s.r 5 = .sl (.fam (h.length + 1)) (paVs (zipE Lc (names F m))) ∧ s.l 6 = some [.sl (.fam h.length) ((names F m).map .str), .sl .clip [], .int .i64 0, .str [], .sl .clip []] ∧ s.h = h ++ [.fam Lc.length 1, .fam Lc.length 4]) := ⟨_, fun _ _ => Iff.rfl⟩
        refine loop_ind (CallA.hle ap) K ?_ (n := 26 - m) ((hK _ _).2 ⟨m, by omega, rfl, by simp [r3, r4, r8, r7, r1, r2, r6, l1, l2, r5, l6]⟩)
        rintro n2 ⟨rr, lo2, h2⟩ hst2
        obtain ⟨m', hmn, hnm, v3, v4, v8, v7, v1, v2, v6, m1, m2, v5, m6, rfl⟩ := (hK _ _).1 hst2
        simp only at v3 v4 v8 v7 v1 v2 v6 m1 m2 v5 m6
        have hcnt2 := names_count F (m := m') (by omega)
        rw [hnm] at hcnt2
        have hm24 : m' < 26 := by omega
        have hw7 : IntKind.wrap .i64 ((m' : Int) + 1) = (m' : Int) + 1 := wrap64 (by omega) (by omega)
        simp [forget, noLoc, locOf, v3, v7]
        refine refName m' hm24 ?_
        simp [dem_strs]
        refine has40 F (nm m') (by omega) fun c hc => ?_
        have hnx := names_next F m'
        by_cases hmF : nm m' ∈ F
        · have : c = true := hc.2 hmF
          subst this
          rw [if_pos hmF, List.append_nil, hnm] at hnx
          simp [v7, hw7]
          exact ⟨n2 - 1, by omega, (hK _ _).2 ⟨m' + 1, by omega, hnx, by simp [v3, v4, v8, v1, v2, v6, m1, m2, v5, m6]⟩⟩
        · have : c = false := by cases c <;> simp_all
          subst this
          rw [if_neg hmF, hnm] at hnx
          have hz := zipE_snoc hml.symm x (nm m')
          rw [← hnx] at hz
          have hv : V.agg [.str x, .int .i64 1, .str (nm m'), .sl .frozen []] = paV (x, var (nm m')) := by simp [paV, var, tyV, tyVs]
          simp [v7, v6, m6]
          refine refName m' hm24 ?_
          have hl1 : Lc.length + 1 ≤ lim := by simp only [lim]; omega
          have hzl : (paVs (zipE Lc (names F m))).length = Lc.length := by rw [pas_length, zipE_len hml.symm]
          simp [v4, v8, v7, v6, v5, m6, splice, hml, hl1, g1]
          refine ⟨fun v hv' => by rcases hv' with ⟨y, _, rfl⟩ | rfl <;> rfl, ?_⟩
          refine refName m' hm24 ?_
          simp
          refine var31 (nm m') ?_
          have hp1 : paVs (zipE Lc (names F m)) ++ [paV (x, var (nm m'))] = paVs (zipE (Lc ++ [x]) (names F (m' + 1))) := by rw [hz]; simp [paVs]
          simp [v8, v7, splice, hv, pa_cells, pa_loc, hw7, hw, hzl, hl1, hp1]
          refine ⟨fun v hv' => pas_mem hv', D'.length, by simp at hn; omega, (hI _ _).2 ⟨C ++ [x], D', Lc ++ [x], m' + 1, by simpa using e, rfl, by rw [hap], by omega, by rw [hnx]; simp [hml], by simp [v3], by simp [v4], by simp, by simp, by simp [v1], by simp [v2], by simp [v6], by simp [m1], by simp [m2], .inr ⟨by simp, by simp, by simp [hnx], by simp⟩⟩⟩
    · have : b = false := by cases b <;> simp_all
      subst this
      rw [if_neg hx, List.append_nil] at hap
      simp [r8, hw]
      refine ⟨D'.length, by simp at hn; omega, (hI _ _).2 ⟨C ++ [x], D', Lc, m, by simpa using e, rfl, hap.symm, hm26, hml, by simp [r3], by simp [r4], by simp, by simp [r7], by simp [r1], by simp [r2], by simp [r6], by simp [l1], by simp [l2], ?_⟩⟩
      rcases hor with ⟨h0, r5, l6, rfl⟩ | ⟨hne, r5, l6, rfl⟩
      · exact .inl ⟨h0, by simp [r5], by simp [l6], rfl⟩
      · exact .inr ⟨hne, by simp [r5], by simp [l6], rfl⟩
  · have : D = [] := List.length_eq_zero_iff.1 (by omega)
    subst this
    have e : O = C := by simpa using e
    subst e
    have hzl : (zipE Lc (names F m)).length = Lc.length := zipE_len hml.symm
    have hap : ∀ x u, look (zipE Lc (names F m)) x = some u → fine u = true := fun x u hx => by
      obtain ⟨b, _, e⟩ := zipE_mem (look_mem hx)
      simp only at e
      rw [e]; rfl
    have hfm : ∀ p ∈ mapE (look (zipE Lc (names F m))) ps, fine p.2 = true := fun p hp => by
      simp only [mapE, List.mem_map] at hp
      obtain ⟨q, hq', rfl⟩ := hp
      exact ap_fine _ hap _ (hfp q hq')
    have fin := fun ys => hq Lc (names F m) ys m hLc hF hm26 rfl hml
    obtain ⟨T, hT⟩ : ∃ T, apT (look (zipE Lc (names F m))) (.mk k nn l) = T := ⟨_, rfl⟩
    rw [hT] at fin
    obtain ⟨k', nn', l'⟩ := T
    rcases hor with ⟨h0, r5, l6, rfl⟩ | ⟨hne, r5, l6, rfl⟩
    · have hm0 : names F m = [] := List.length_eq_zero_iff.1 (by rw [hml, h0]; rfl)
      have E0 : V.sl .frozen [] = V.sl .frozen (paVs (zipE Lc (names F m))) := by rw [h0]; simp [zipE, paVs]
      simp [r1, l1, r5, demote_tys]
      rw [e3, E0]
      refine refOk hft _ _ _ _ (by rw [hzl]; omega) ?_
      rw [hT]
      simp only [tyV]
      simp [r1, r6, l1, r5, l6, splice, pas_demote]
      rw [E0]
      refine preds16 _ (by rw [hzl]; omega) ps (by omega) hfp ?_
      simp [pas_demote]
      refine sortR _ (by rw [mapE_len]; omega) hfm fun ys y1 y2 y3 => ?_
      rw [mapE_len] at y1
      have := fin ys y1 y2 y3
      simp [r2, r6, l2, splice, pas_demote, pas_under, demote_tys, under_tys]
      simpa [tyV, hm0] using this

    · have E0 : V.sl .frozen (paVs (zipE Lc (names F m))) = V.sl .frozen (paVs (zipE Lc (names F m))) := rfl
      have hm0 : True := trivial
      simp [r1, l1, r5, pas_demote, demote_tys]
      rw [e3, E0]
      refine refOk hft _ _ _ _ (by rw [hzl]; omega) ?_
      rw [hT]
      simp only [tyV]
      simp [r1, r6, l1, r5, l6, splice, pas_demote]
      rw [E0]
      refine preds16 _ (by rw [hzl]; omega) ps (by omega) hfp ?_
      simp [pas_demote]
      refine sortR _ (by rw [mapE_len]; omega) hfm fun ys y1 y2 y3 => ?_
      rw [mapE_len] at y1
      have := fin ys y1 y2 y3
      simp [r2, r6, l2, splice, pas_demote, pas_under, demote_tys, under_tys, dem_strs, under_strs]
      simpa [tyV, hm0] using this

end
end Go.Ot
