/- Whether schemes are the same: on the abstract machine. -/
import Derived.Test.YtkcpkckaahmheaaDoorOtMc

namespace Go.Ot
open Go.Am Go.Proofs
set_option maxRecDepth 100000
set_option maxHeartbeats 1000000

theorem take_ext {α : Type} {a b : List α} {i : Nat} (hl : a.length = b.length) (hi : a.length ≤ i) (h : a.take i = b.take i) : a = b := by
  rwa [List.take_of_length_le hi, List.take_of_length_le (by omega)] at h

section
variable {bs : List Nat} {h : List Ob} {Q : V → List Ob → Prop}

theorem texts2 (a b : List Nam) (ha : a.length < 1000000) (hb : b.length < 1000000) (hq : ∀ c : Bool, (c = true ↔ a = b) → Q (.bool c) h) : CallA ap 31 0 bs [.sl .frozen (a.map .str), .sl .frozen (b.map .str)] h Q := by
  refine CallA.code (af := ac31) rfl (Nat.le_of_ble_eq_true rfl) ?_
  simp [ac31]
  by_cases hl : a.length = b.length
  rotate_left
  · have hl' : ((a.length : Int) != (b.length : Int)) = true := bne_iff_ne.2 (by omega)
    simp [hl']
    exact hq false ⟨fun h => (by cases h), fun e => absurd (by rw [e]) hl⟩
  have hl' : ((a.length : Int) != (b.length : Int)) = false := by rw [hl]; simp
  simp [hl']
  obtain ⟨I, hI⟩ : ∃ I : Nat → St → Prop, ∀ n s, I n s ↔ (∃ i : Nat, i + n = a.length ∧ a.take i = b.take i ∧ s.h = h ∧ s.r 0 = .sl .frozen (a.map .str) ∧ s.r 1 = .sl .frozen (b.map .str) ∧ s.r 5 = .int .i64 i) := ⟨_, fun _ _ => Iff.rfl⟩
  refine loop_ind (CallA.hle ap) I ?_ (n := a.length) ((hI _ _).2 ⟨0, by simp⟩)
  rintro n ⟨r, lo, h'⟩ hst
  obtain ⟨i, hin, heq, rfl, r0, r1, r5⟩ := (hI _ _).1 hst
  simp only at r0 r1 r5
  simp [forget, noLoc, r0, r5]
  refine condA_dec (fun c1 => ?_) fun c1 => ?_
  · have hi : i < a.length := by omega
    have hi2 : i < b.length := by omega
    have hw : IntKind.wrap .i64 ((i : Int) + 1) = ((i + 1 : Nat) : Int) := by rw [wrap64 (by omega) (by omega)]; omega
    by_cases he : a[i] = b[i]
    · simp [r0, r1, r5, hi, hi2, hw, he]
      refine ⟨n - 1, by omega, (hI _ _).2 ⟨i + 1, by omega, ?_, rfl, by simp [r0, r1]⟩⟩
      rw [List.take_add_one, List.take_add_one, heq, List.getElem?_eq_getElem hi, List.getElem?_eq_getElem hi2, he]
    · have he' : (a[i] == b[i]) = false := by simpa using he
      have he'' : (a[i] != b[i]) = true := bne_iff_ne.2 he
      simp [r0, r1, r5, hi, hi2, he']
      exact hq false ⟨fun h => (by cases h), fun e => absurd (by subst e; rfl) he⟩
  · simp
    exact hq true ⟨fun _ => take_ext hl (by omega) heq, fun _ => rfl⟩

theorem equal2 (a b : List Nam) (ha : a.length < 1000000) (hb : b.length < 1000000) (hq : ∀ c : Bool, (c = true ↔ a = b) → Q (.bool c) h) : CallA ap 58 0 bs [.sl .frozen (a.map .str), .sl .frozen (b.map .str)] h Q := by
  refine CallA.code (af := ac58) rfl (Nat.le_of_ble_eq_true rfl) ?_
  simp [ac58]
  by_cases hl : a.length = b.length
  rotate_left
  · have hl' : ((a.length : Int) != (b.length : Int)) = true := bne_iff_ne.2 (by omega)
    simp [hl']
    exact hq false ⟨fun h => (by cases h), fun e => absurd (by rw [e]) hl⟩
  have hl' : ((a.length : Int) != (b.length : Int)) = false := by rw [hl]; simp
  simp [hl']
  obtain ⟨I, hI⟩ : ∃ I : Nat → St → Prop, ∀ n s, I n s ↔ (∃ i : Nat, i + n = a.length ∧ a.take i = b.take i ∧ s.h = h ∧ s.r 0 = .sl .frozen (a.map .str) ∧ s.r 1 = .sl .frozen (b.map .str) ∧ s.r 12 = .int .i64 b.length ∧ s.r 13 = .int .i64 i) := ⟨_, fun _ _ => Iff.rfl⟩
  refine loop_ind (CallA.hle ap) I ?_ (n := a.length) ((hI _ _).2 ⟨0, by simp [hl]⟩)
  rintro n ⟨r, lo, h'⟩ hst
  obtain ⟨i, hin, heq, rfl, r0, r1, r12, r13⟩ := (hI _ _).1 hst
  simp only at r0 r1 r12 r13
  simp [forget, noLoc, r12, r13]
  refine condA_dec (fun c1 => ?_) fun c1 => ?_
  · have hi : i < a.length := by omega
    have hi2 : i < b.length := by omega
    have hw : IntKind.wrap .i64 ((i : Int) + 1) = ((i + 1 : Nat) : Int) := by rw [wrap64 (by omega) (by omega)]; omega
    by_cases he : a[i] = b[i]
    · simp [r0, r1, r13, hi, hi2, hw, he]
      refine ⟨n - 1, by omega, (hI _ _).2 ⟨i + 1, by omega, ?_, rfl, by simp [r0, r1, r12]⟩⟩
      rw [List.take_add_one, List.take_add_one, heq, List.getElem?_eq_getElem hi, List.getElem?_eq_getElem hi2, he]
    · have he' : (a[i] == b[i]) = false := by simpa using he
      have he'' : (a[i] != b[i]) = true := bne_iff_ne.2 he
      simp [r0, r1, r13, hi, hi2, he']
      exact hq false ⟨fun h => (by cases h), fun e => absurd (by subst e; rfl) he⟩
  · simp
    exact hq true ⟨fun _ => take_ext hl (by omega) heq, fun _ => rfl⟩

theorem preds3 (a b : En) (ha : a.length ≤ 1000) (hb : b.length ≤ 1000) (hfa : ∀ p ∈ a, fine p.2 = true) (hfb : ∀ p ∈ b, fine p.2 = true) (hq : ∀ c : Bool, (c = true ↔ a = b) → Q (.bool c) h) : CallA ap 13 0 bs [.sl .frozen (paVs a), .sl .frozen (paVs b)] h Q := by
  refine CallA.code (af := ac13) rfl (Nat.le_of_ble_eq_true rfl) ?_
  simp [ac13, pas_length]
  by_cases hl : a.length = b.length
  rotate_left
  · have hl' : ((a.length : Int) != (b.length : Int)) = true := bne_iff_ne.2 (by omega)
    simp [hl']
    exact hq false ⟨fun h => (by cases h), fun e => absurd (by rw [e]) hl⟩
  have hl' : ((a.length : Int) != (b.length : Int)) = false := by rw [hl]; simp
  simp [hl']
  obtain ⟨I, hI⟩ : ∃ I : Nat → St → Prop, ∀ n s, I n s ↔ (∃ i : Nat, i + n = a.length ∧ a.take i = b.take i ∧ s.h = h ∧ s.r 0 = .sl .frozen (paVs a) ∧ s.r 1 = .sl .frozen (paVs b) ∧ s.r 5 = .int .i64 i) := ⟨_, fun _ _ => Iff.rfl⟩
  refine loop_ind (CallA.hle ap) I ?_ (n := a.length) ((hI _ _).2 ⟨0, by simp⟩)
  rintro n ⟨r, lo, h'⟩ hst
  obtain ⟨i, hin, heq, rfl, r0, r1, r5⟩ := (hI _ _).1 hst
  simp only at r0 r1 r5
  simp [forget, noLoc, r0, r5, pas_length]
  refine condA_dec (fun c1 => ?_) fun c1 => ?_
  · have hi : i < a.length := by omega
    have hi2 : i < b.length := by omega
    have hw : IntKind.wrap .i64 ((i : Int) + 1) = ((i + 1 : Nat) : Int) := by rw [wrap64 (by omega) (by omega)]; omega
    have g1 : (paVs a)[i]? = some (paV a[i]) := by simp [paVs, hi]
    have g2 : (paVs b)[i]? = some (paV b[i]) := by simp [paVs, hi2]
    have f1 := hfa _ (List.getElem_mem hi)
    have f2 := hfb _ (List.getElem_mem hi2)
    have e1 : a[i]? = some a[i] := List.getElem?_eq_getElem hi
    have e2 : b[i]? = some b[i] := List.getElem?_eq_getElem hi2
    generalize a[i] = p at *
    generalize b[i] = q at *
    simp [r0, r1, r5, g1, g2, pa_cells, pa_take, pa_agg, pa_demote, pa_loc]
    refine pred2 p q f1 f2 ?_
    cases hs : sameB p q with
    | true =>
      have hpq := (sameB_iff p q).1 hs
      subst hpq
      simp [r5, hw]
      exact ⟨n - 1, by omega, (hI _ _).2 ⟨i + 1, by omega, by rw [List.take_add_one, List.take_add_one, heq, e1, e2], rfl, by simp [r0, r1]⟩⟩
    | false =>
      simp
      exact hq false ⟨fun h => (by cases h), fun e => by
        subst e
        rw [e1] at e2
        rw [(sameB_iff p q).2 (Option.some.inj e2)] at hs; cases hs⟩
  · simp
    exact hq true ⟨fun _ => take_ext hl (by omega) heq, fun _ => rfl⟩

theorem sameD2 (p q : Nam × Ty) (hp : okT p.2 = true) (hp2 : okT q.2 = true) (hq : Q (.bool (cmpP p q == 0)) h) : CallA ap 61 0 bs [paV p, paV q] h Q := by
  refine CallA.code (af := ac61) rfl (Nat.le_of_ble_eq_true rfl) ?_
  simp [ac61, pa_cells, pa_take, pa_agg, pa_demote, pa_loc]
  refine compareP p q hp hp2 ?_
  simp
  exact hq

theorem equalF2 (a b : En) (ha : a.length ≤ 1000) (hb : b.length ≤ 1000) (hfa : ∀ p ∈ a, okT p.2 = true) (hfb : ∀ p ∈ b, okT p.2 = true) (hq : ∀ c : Bool, (c = true ↔ a = b) → Q (.bool c) h) : CallA ap 60 0 bs [.sl .frozen (paVs a), .sl .frozen (paVs b), .fn 61 []] h Q := by
  refine CallA.code (af := ac60) rfl (Nat.le_of_ble_eq_true rfl) ?_
  simp [ac60, pas_length]
  by_cases hl : a.length = b.length
  rotate_left
  · have hl' : ((a.length : Int) != (b.length : Int)) = true := bne_iff_ne.2 (by omega)
    simp [hl']
    exact hq false ⟨fun h => (by cases h), fun e => absurd (by rw [e]) hl⟩
  have hl' : ((a.length : Int) != (b.length : Int)) = false := by rw [hl]; simp
  simp [hl']
  obtain ⟨I, hI⟩ : ∃ I : Nat → St → Prop, ∀ n s, I n s ↔ (∃ i : Nat, i + n = a.length ∧ a.take i = b.take i ∧ s.h = h ∧ s.r 1 = .sl .frozen (paVs b) ∧ s.r 2 = .fn 61 [] ∧ s.r 15 = .sl .frozen (paVs a) ∧ s.r 16 = .int .i64 b.length ∧ s.r 17 = .int .i64 i) := ⟨_, fun _ _ => Iff.rfl⟩
  refine loop_ind (CallA.hle ap) I ?_ (n := a.length) ((hI _ _).2 ⟨0, by simp [hl, pas_length]⟩)
  rintro n ⟨r, lo, h'⟩ hst
  obtain ⟨i, hin, heq, rfl, r1, r2, r15, r16, r17⟩ := (hI _ _).1 hst
  simp only at r1 r2 r15 r16 r17
  simp [forget, noLoc, r16, r17]
  refine condA_dec (fun c1 => ?_) fun c1 => ?_
  · have hi : i < a.length := by omega
    have hi2 : i < b.length := by omega
    have hw : IntKind.wrap .i64 ((i : Int) + 1) = ((i + 1 : Nat) : Int) := by rw [wrap64 (by omega) (by omega)]; omega
    have g1 : (paVs a)[i]? = some (paV a[i]) := by simp [paVs, hi]
    have g2 : (paVs b)[i]? = some (paV b[i]) := by simp [paVs, hi2]
    have f1 := hfa _ (List.getElem_mem hi)
    have f2 := hfb _ (List.getElem_mem hi2)
    have e1 : a[i]? = some a[i] := List.getElem?_eq_getElem hi
    have e2 : b[i]? = some b[i] := List.getElem?_eq_getElem hi2
    generalize a[i] = p at *
    generalize b[i] = q at *
    simp [r1, r2, r15, r17, g1, g2, pa_cells, pa_take, pa_agg, pa_demote, pa_loc, splice]
    refine sameD2 p q f1 f2 ?_
    by_cases hs : cmpP p q = 0
    · have hpq := cmpP_zero hs
      subst hpq
      simp [hs, r17, hw]
      exact ⟨n - 1, by omega, (hI _ _).2 ⟨i + 1, by omega, by rw [List.take_add_one, List.take_add_one, heq, e1, e2], rfl, by simp [r1, r2, r15, r16]⟩⟩
    · have hs' : (cmpP p q == 0) = false := by simpa using hs
      simp [hs']
      exact hq false ⟨fun h => (by cases h), fun e => by
        subst e
        rw [e1] at e2
        rw [Option.some.inj e2, cmpP_refl] at hs
        exact absurd rfl hs⟩
  · simp
    exact hq true ⟨fun _ => take_ext hl (by omega) heq, fun _ => rfl⟩

end
end Go.Ot

namespace Go.Ot
open Go.Am Go.Proofs
set_option maxRecDepth 100000
set_option maxHeartbeats 1000000

theorem names_le (F : List Nam) (m d : Nat) : (names F m).length ≤ (names F (m + d)).length ∧ ((names F m).length = (names F (m + d)).length → names F m = names F (m + d)) := by
  induction d with
  | zero => exact ⟨Nat.le_refl _, fun _ => rfl⟩
  | succ d ih =>
    rw [← Nat.add_assoc, names_next]
    by_cases h : nm (m + d) ∈ F
    · rw [if_pos h, List.append_nil]; exact ih
    · rw [if_neg h, List.length_append]
      exact ⟨by have := ih.1; simp; omega, fun e => by have := ih.1; simp at e; omega⟩
theorem names_eq {F : List Nam} {m m' : Nat} (h : (names F m).length = (names F m').length) : names F m = names F m' := by
  rcases Nat.le_total m m' with hm | hm
  · obtain ⟨d, rfl⟩ := Nat.le.dest hm
    exact (names_le F m d).2 h
  · obtain ⟨d, rfl⟩ := Nat.le.dest hm
    exact ((names_le F m' d).2 h.symm).symm

/-- What a plain form is. -/
structure CanonOf (N : List Nam) (t : Ty) (ps : En) (R : List Nam) (ys : En) (T : Ty) : Prop where
  ex : ∃ (xs : En) (L F : List Nam) (m : Nat), xs.length ≤ ps.length ∧ xs.Pairwise ltP ∧ (∀ p, p ∈ xs ↔ p ∈ ps) ∧ L = (varsTL [] (t :: xs.map (·.2))).filter (fun x => decide (x ∈ N)) ∧
      F = (varsTL [] (t :: ps.map (·.2))).filter (fun x => !decide (x ∈ N)) ∧ m ≤ 26 ∧ R = names F m ∧ R.length = L.length ∧
      ys.length ≤ ps.length ∧ ys.Pairwise ltP ∧ (∀ p, p ∈ ys ↔ p ∈ mapE (look (zipE L R)) ps) ∧ T = apT (look (zipE L R)) t

theorem canon_one {N : List Nam} {t : Ty} {ps : En} {R R' : List Nam} {ys ys' : En} {T T' : Ty} (h : CanonOf N t ps R ys T) (h' : CanonOf N t ps R' ys' T') : R' = R ∧ ys' = ys ∧ T' = T := by
  obtain ⟨xs, L, F, m, g1, g2, g3, g4, g5, g6, g7, g8, g9, g10, g11, g12⟩ := h.ex
  obtain ⟨xs', L', F', m', j1, j2, j3, j4, j5, j6, j7, j8, j9, j10, j11, j12⟩ := h'.ex
  have e : xs' = xs := uniqP j2 g2 fun p => (j3 p).trans (g3 p).symm
  subst e
  have eL : L' = L := by rw [g4, j4]
  have eF : F' = F := by rw [g5, j5]
  subst eL eF
  have eR : R' = R := by rw [g7, j7]; exact names_eq (by rw [← g7, ← j7, g8, j8])
  subst eR
  exact ⟨rfl, uniqP j10 g10 fun p => (j11 p).trans (g11 p).symm, by rw [g12, j12]⟩

theorem canon_fine {N : List Nam} {t : Ty} {ps : En} {R : List Nam} {ys : En} {T : Ty} (h : CanonOf N t ps R ys T) (ht : fine t = true) (hf : ∀ p ∈ ps, fine p.2 = true) : fine T = true ∧ (∀ p ∈ ys, fine p.2 = true) ∧ R.length ≤ 26 ∧ ys.length ≤ ps.length := by
  obtain ⟨xs, L, F, m, g1, g2, g3, g4, g5, g6, g7, g8, g9, g10, g11, g12⟩ := h.ex
  refine ⟨by rw [g12]; exact ren_fine ht, fun p hp => ?_, ?_, g9⟩
  · have := (g11 p).1 hp
    simp only [mapE, List.mem_map] at this
    obtain ⟨q, hq, rfl⟩ := this
    exact ren_fine (hf q hq)
  · rw [g7]; simp only [names, List.length_map]
    exact Nat.le_trans (List.length_filter_le _ _) (by simp; exact g6)

section
variable {bs : List Nat} {h : List Ob} {Q : V → List Ob → Prop}

def scV (R : List Nam) (ys : En) (T : Ty) : V := .agg ([.sl .frozen (R.map .str), .sl .frozen (paVs ys)] ++ (tyV T).cells)

theorem canonK {A : List Nam} (hA : A.length ≤ 12) (N : List Nam) (hN : N.length < 1000000) (t : Ty) (ps : En) (hl : ps.length < 20) (hf : ∀ u ∈ t :: ps.map (·.2), fine u = true ∧ good A u)
    (hq : ∀ R ys T, CanonOf N t ps R ys T → Q (scV R ys T) h) : CallA ap 16 0 bs [scV N ps t] h Q :=
  canonC hA N hN t ps hl hf fun xs L F R ys m g1 g2 g3 g4 g5 g6 g7 g8 g9 g10 g11 => hq R ys _ ⟨xs, L, F, m, g1, g2, g3, g4, g5, g6, g7, g8, g9, g10, g11, rfl⟩
theorem canonR {A : List Nam} (hA : A.length ≤ 12) (N : List Nam) (hN : N.length < 1000000) (t : Ty) (ps : En) (hl : ps.length < 20) (hf : ∀ u ∈ t :: ps.map (·.2), fine u = true ∧ good A u)
    (hq : ∀ R ys T, CanonOf N t ps R ys T → Q (scV R ys T) h) : CallA ap 30 0 bs [scV N ps t] h Q :=
  refCanon hA N hN t ps hl hf fun xs L F R ys m g1 g2 g3 g4 g5 g6 g7 g8 g9 g10 g11 => hq R ys _ ⟨xs, L, F, m, g1, g2, g3, g4, g5, g6, g7, g8, g9, g10, g11, rfl⟩

theorem sameScheme2 (R R' : List Nam) (hR : R.length < 1000000) (hR' : R'.length < 1000000) (ys ys' : En) (hy : ys.length ≤ 1000) (hy' : ys'.length ≤ 1000) (hf : ∀ p ∈ ys, fine p.2 = true) (hf' : ∀ p ∈ ys', fine p.2 = true) (t t' : Ty) (ht : fine t = true) (ht' : fine t' = true)
    (hq : ∀ c : Bool, (c = true ↔ R = R' ∧ ys = ys' ∧ t = t') → Q (.bool c) h) :
    CallA ap 26 0 bs [scV R ys t, scV R' ys' t'] h Q := by
  refine CallA.code (af := ac26) rfl (Nat.le_of_ble_eq_true rfl) ?_
  obtain ⟨k, nn, l⟩ := t
  obtain ⟨k', nn', l'⟩ := t'
  have e2 : V.agg [.int .i64 k, .str nn, .sl .frozen (tyVs l)] = tyV (.mk k nn l) := by simp [tyV]
  have e3 : V.agg [.int .i64 k', .str nn', .sl .frozen (tyVs l')] = tyV (.mk k' nn' l') := by simp [tyV]
  simp [ac26, scV, tyV, dem_strs]
  refine texts2 R R' hR hR' fun c hc => ?_
  cases c with
  | false =>
    simp
    exact hq false ⟨fun h => (by cases h), fun e => by simpa using hc.2 e.1⟩
  | true =>
    simp [pas_demote]
    refine preds3 ys ys' hy hy' hf hf' fun c2 hc2 => ?_
    cases c2 with
    | false =>
      simp
      exact hq false ⟨fun h => (by cases h), fun e => by simpa using hc2.2 e.2.1⟩
    | true =>
      simp [demote_tys]
      rw [e2, e3]
      refine sameOk (fine_ok _ ht) (fine_ok _ ht') _ _ _ ?_
      simp
      exact hq _ (by rw [beqT_iff]; exact ⟨fun e => ⟨hc.1 rfl, hc2.1 rfl, e⟩, fun e => e.2.2⟩)

theorem sameS2 {A A2 : List Nam} (hA : A.length ≤ 12) (hA2 : A2.length ≤ 12) (N N2 : List Nam) (hN : N.length < 1000000) (hN2 : N2.length < 1000000) (t t2 : Ty) (ps ps2 : En) (hl : ps.length < 20) (hl2 : ps2.length < 20) (hf : ∀ u ∈ t :: ps.map (·.2), fine u = true ∧ good A u) (hf2 : ∀ u ∈ t2 :: ps2.map (·.2), fine u = true ∧ good A2 u)
    (hq : ∀ R ys T, CanonOf N t ps R ys T → ∀ R2 ys2 T2, CanonOf N2 t2 ps2 R2 ys2 T2 → ∀ c : Bool, (c = true ↔ R = R2 ∧ ys = ys2 ∧ T = T2) → Q (.bool c) h) :
    CallA ap 25 0 bs [scV N ps t, scV N2 ps2 t2] h Q := by
  refine CallA.code (af := ac25) rfl (Nat.le_of_ble_eq_true rfl) ?_
  have hfp : ∀ p ∈ ps, fine p.2 = true := fun p hp => (hf p.2 (by simp; exact .inr ⟨p.1, hp⟩)).1
  have hft : fine t = true := (hf _ (by simp)).1
  have hfp2 : ∀ p ∈ ps2, fine p.2 = true := fun p hp => (hf2 p.2 (by simp; exact .inr ⟨p.1, hp⟩)).1
  have hft2 : fine t2 = true := (hf2 _ (by simp)).1
  obtain ⟨k, nn, l⟩ := t
  obtain ⟨k2, nn2, l2⟩ := t2
  have e2 : scV N ps (.mk k nn l) = .agg [.sl .frozen (N.map .str), .sl .frozen (paVs ps), .int .i64 k, .str nn, .sl .frozen (tyVs l)] := by simp [tyV, scV]
  have e3 : scV N2 ps2 (.mk k2 nn2 l2) = .agg [.sl .frozen (N2.map .str), .sl .frozen (paVs ps2), .int .i64 k2, .str nn2, .sl .frozen (tyVs l2)] := by simp [tyV, scV]
  rw [e2, e3]
  simp [ac25, demote_tys, pas_demote, dem_strs]
  rw [← e2]
  refine canonK hA N hN (.mk k nn l) ps hl hf fun R ys T g => ?_
  obtain ⟨f1, f2, f3, f4⟩ := canon_fine g hft hfp
  have hq := hq R ys T g
  obtain ⟨k3, nn3, l3⟩ := T
  simp [scV, tyV, demote_tys, pas_demote, dem_strs]
  rw [← e3]
  refine canonK hA2 N2 hN2 (.mk k2 nn2 l2) ps2 hl2 hf2 fun R2 ys2 T2 g2 => ?_
  obtain ⟨f5, f6, f7, f8⟩ := canon_fine g2 hft2 hfp2
  have hq := hq R2 ys2 T2 g2
  obtain ⟨k4, nn4, l4⟩ := T2
  have e4 : V.agg [.int .i64 k3, .str nn3, .sl .frozen (tyVs l3)] = tyV (.mk k3 nn3 l3) := by simp [tyV]
  have e5 : V.agg [.int .i64 k4, .str nn4, .sl .frozen (tyVs l4)] = tyV (.mk k4 nn4 l4) := by simp [tyV]
  simp [scV, splice, tyV, dem_strs]
  refine equal2 R R2 (by omega) (by omega) fun c hc => ?_
  cases c with
  | false =>
    simp
    exact hq false ⟨fun h => (by cases h), fun e => by simpa using hc.2 e.1⟩
  | true =>
    simp [demote_tys]
    rw [e4, e5]
    refine same12 _ _ (fine_ok _ f1) (fine_ok _ f5) ?_
    by_cases h0 : cmpT (.mk k3 nn3 l3) (.mk k4 nn4 l4) = 0
    · have hTT := cmpT_zero _ _ h0
      simp [h0, tyV, pas_demote]
      refine equalF2 ys ys2 (by omega) (by omega) (fun p hp => fine_ok _ (f2 p hp)) (fun p hp => fine_ok _ (f6 p hp)) fun c2 hc2 => ?_
      simp
      exact hq c2 (by rw [hc2]; exact ⟨fun e => ⟨hc.1 rfl, e, hTT⟩, fun e => e.2.1⟩)
    · have hb0 : (cmpT (.mk k3 nn3 l3) (.mk k4 nn4 l4) == 0) = false := by simpa using h0
      simp [hb0]
      exact hq false ⟨fun h => (by cases h), fun e => by
        rw [e.2.2] at h0
        have := ty_anti (.mk k4 nn4 l4) (.mk k4 nn4 l4)
        omega⟩

end
end Go.Ot
