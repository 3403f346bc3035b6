/- Contexts in order: each once: on the abstract machine. -/
import Derived.Test.YtkcpkckaahmheaaDoorOtGa
namespace Go.Ot
open Go.Am Go.Proofs
set_option maxRecDepth 100000

section
variable {bs : List Nat} {h : List Ob} {Q : V → List Ob → Prop}

theorem stableP {r ver n : Nat} (hn : n < 20) (hr : r < h.length) (ps : En) (hps : ps.length = n) (hh : h[r]? = some (.vec ver 4 (rowP ps))) (hok : ∀ p ∈ ps, okT p.2 = true)
    (hq : ∀ qs : En, qs.Perm ps → qs.Pairwise leP → Q (.tup []) (h.set r (.vec ver 4 (rowP qs)))) :
    CallA ap 39 0 bs [.vec r ver 0 n 4, .fn 40 []] h Q := by
  refine CallA.code (af := ac39) rfl (Nat.le_of_ble_eq_true rfl) ?_
  simp [ac39]
  refine CallA.code (af := ac67) rfl (Nat.le_of_ble_eq_true rfl) ?_
  have d1 : ¬ (20 : Int) ≤ (n : Int) := by omega
  have d2 : ¬ (20 : Int) < (n : Int) := by omega
  simp [ac67]
  refine wpA_loop (CallA.hle ap) ?_
  simp [forget, noLoc, d1]
  refine insertP (by omega) hr ps hps hh hok fun qs h1 h2 => ?_
  simp
  refine wpA_loop (CallA.hle ap) ?_
  simp [forget, noLoc, d2]
  exact hq qs h1 h2

theorem stable0 (hq : Q (.tup []) h) : CallA ap 39 0 bs [.sl .frozen [], .fn 40 []] h Q := by
  refine CallA.code (af := ac39) rfl (Nat.le_of_ble_eq_true rfl) ?_
  simp [ac39]
  refine CallA.code (af := ac67) rfl (Nat.le_of_ble_eq_true rfl) ?_
  simp [ac67]
  refine wpA_loop (CallA.hle ap) ?_
  simp [forget, noLoc]
  refine CallA.code (af := ac82) rfl (Nat.le_of_ble_eq_true rfl) ?_
  simp [ac82, w1]
  refine wpA_loop (CallA.hle ap) ?_
  simp [forget, noLoc]
  refine wpA_loop (CallA.hle ap) ?_
  simp [forget, noLoc]
  exact hq

theorem pa_dc (p : Nam × Ty) : demoteL (paV p).cells = (paV p).cells := by obtain ⟨c, k, n, l⟩ := p; simp [paV, tyV, demote_tys]
theorem sameC (p q : Nam × Ty) (hp : okT p.2 = true) (hq2 : okT q.2 = true) (hq : Q (.bool (cmpP p q == 0)) h) : CallA ap 43 0 bs [paV p, paV q] h Q := by
  refine CallA.code (af := ac43) rfl (Nat.le_of_ble_eq_true rfl) ?_
  simp [ac43, pa_cells, pa_loc, pa_take, pa_agg, pa_demote]
  refine compareP p q hp hq2 ?_
  simp
  exact hq

theorem vec_at {r ver n off i : Nat} {k : IntKind} {j : Int} (hj : j = (i : Int)) (hi : i < n) : iaddrV 4 (.vec r ver off n 4) (.int k j) = some (.vptr r ver (off + i * 4)) := by
  subst hj
  simp only [iaddrV]
  rw [Int.toNat_natCast, if_pos ⟨by omega, hi, trivial⟩]

theorem snoc_lt {X : En} {z w : Nam × Ty} (h1 : X.Pairwise ltP) (h2 : ∀ a ∈ X, leP a z) (h3 : ltP z w) : (X ++ [w]).Pairwise ltP := by
  rw [List.pairwise_append]
  refine ⟨h1, by simp, fun a ha b hb => ?_⟩
  rw [List.mem_singleton] at hb
  subst hb
  have := cmpP_tr a z b
  have h4 := h2 a ha
  unfold TR at this
  unfold leP at h4
  unfold ltP at *
  omega
theorem leP_refl (p : Nam × Ty) : leP p p := by unfold leP; rw [cmpP_refl]; omega
theorem lt_of {y x : Nam × Ty} (h1 : leP y x) (h2 : cmpP x y ≠ 0) : ltP y x := by
  have := cmpP_anti y x
  unfold leP at h1; unfold ltP; omega
theorem splice_len' {cs xs : List V} {k : Nat} (hk : k + xs.length ≤ cs.length) : (splice cs k xs).length = cs.length := by
  simp [splice]; omega
theorem splice_tk {cs xs : List V} {k : Nat} (hk : k ≤ cs.length) : (splice cs k xs).take k = cs.take k := by
  unfold splice
  rw [List.append_assoc, List.take_append_of_le_length (by simp; omega), List.take_take, Nat.min_self]

/-- What is left of a row that is in order: each once. -/
theorem compactP {r ver n : Nat} (hn0 : 0 < n) (hn : n ≤ 1000) (hr : r < h.length) (L : En) (hL : L.length = n) (hh : h[r]? = some (.vec ver 4 (rowP L))) (hok : ∀ p ∈ L, okT p.2 = true) (hsort : L.Pairwise leP)
    (hq : ∀ (xs : En) (cs : List V), xs.length ≤ n → xs.Pairwise ltP → (∀ p, p ∈ xs ↔ p ∈ L) → xs.length * 4 ≤ cs.length → cs.take (xs.length * 4) = rowP xs → Q (.vec r ver 0 xs.length 4) (h.set r (.vec ver 4 cs))) :
    CallA ap 42 0 bs [.vec r ver 0 n 4, .fn 43 []] h Q := by
  refine CallA.code (af := ac42) rfl (Nat.le_of_ble_eq_true rfl) ?_
  simp [ac42]
  have whole : L.Pairwise ltP → Q (.vec r ver 0 n 4) h := fun hs => by
    have := hq L (rowP L) (by omega) hs (fun _ => Iff.rfl) (by rw [rowP_len]; omega) (List.take_of_length_le (by rw [rowP_len]; omega))
    rwa [hL, set_same hh] at this
  refine condA_dec (fun d1 => ?_) fun d1 => ?_
  · simp
    refine whole ?_
    match L, hL with
    | [p], _ => simp
    | [], hL => simp at hL; omega
    | _ :: _ :: _, hL => simp at hL; omega
  simp
  obtain ⟨I, hI⟩ : ∃ I : Nat → St → Prop, ∀ m s, I m s ↔ (∃ (A : En) (y : Nam × Ty) (R : En), m = R.length ∧ L = A ++ y :: R ∧ s.r 0 = .vec r ver 0 n 4 ∧ s.r 1 = .fn 43 [] ∧ s.r 5 = .int .i64 ((A.length : Int) + 1) ∧ s.h = h ∧ (A ++ [y]).Pairwise ltP) := ⟨_, fun _ _ => Iff.rfl⟩
  obtain ⟨y0, R0, e0⟩ : ∃ y R, L = y :: R := by
    cases L with
    | nil => simp at hL; omega
    | cons y R => exact ⟨y, R, rfl⟩
  refine loop_ind (CallA.hle ap) I ?_ (n := R0.length) ((hI _ _).2 ⟨[], y0, R0, rfl, by simpa using e0, by simp, by simp, by simp, rfl, by simp⟩)
  clear e0 y0 R0
  rintro m ⟨rr, lo, h'⟩ hs
  obtain ⟨A, y, R, hm, eL, r0, r1, r5, rfl, hA⟩ := (hI _ _).1 hs
  simp only at r0 r1 r5
  have htot : A.length + 1 + R.length = n := by rw [← hL, eL]; simp; omega
  simp [forget, noLoc, r0, r5]
  refine condA_dec (fun d2 => ?_) fun d2 => ?_
  rotate_left
  · simp [r0]
    have : R = [] := List.length_eq_zero_iff.1 (by omega)
    subst this
    exact whole (by rw [eL]; exact hA)
  obtain ⟨x, R', rfl⟩ : ∃ x R', R = x :: R' := by
    cases R with
    | nil => simp at htot; omega
    | cons x R' => exact ⟨x, R', rfl⟩
  have hlen : A.length + 2 + R'.length = n := by simp at htot; omega
  have w5 : IntKind.wrap .i64 ((A.length : Int) + 1 + 1) = (A.length : Int) + 1 + 1 := wrap64 (by omega) (by omega)
  have w4 : IntKind.wrap .i64 (A.length : Int) = (A.length : Int) := wrap64 (by omega) (by omega)
  have i1 : iaddrV 4 (.vec r ver 0 n 4) (.int .i64 ((A.length : Int) + 1)) = some (.vptr r ver (0 + (A.length + 1) * 4)) := vec_at (by omega) (by omega)
  have i2 : iaddrV 4 (.vec r ver 0 n 4) (.int .i64 (A.length : Int)) = some (.vptr r ver (0 + A.length * 4)) := vec_at rfl (by omega)
  have s1 := rowP_at (A ++ [y]) x R'
  have s2 := rowP_at A y (x :: R')
  simp at s1 s2
  rw [← eL] at s1 s2
  have okx : okT x.2 = true := hok x (by rw [eL]; simp)
  have oky : okT y.2 = true := hok y (by rw [eL]; simp)
  simp [r0, r1, r5, i1, i2, w4, hh, loadV, cellsAt, s1, s2, pa_loc, pa_demote]
  refine sameC x y okx oky ?_
  simp
  by_cases hxy : cmpP x y = 0
  rotate_left
  · have hb : (cmpP x y == 0) = false := by simpa using hxy
    simp [hb, r5, w5]
    refine ⟨R'.length, by simp at hm; omega, (hI _ _).2 ⟨A ++ [y], x, R', rfl, by simpa using eL, by simp [r0], by simp [r1], by simp, rfl, ?_⟩⟩
    have hyx : leP y x := by
      rw [eL] at hsort
      exact (List.pairwise_cons.1 (List.pairwise_append.1 hsort).2.1).1 x (by simp)
    refine snoc_lt hA (fun a ha => ?_) (lt_of hyx hxy)
    rcases List.mem_append.1 ha with ha | ha
    · exact ltP_le ((List.pairwise_append.1 hA).2.2 a ha y (by simp))
    · rw [List.mem_singleton] at ha; subst ha; exact leP_refl _
  · have hyx : x = y := cmpP_zero hxy
    subst hyx
    have hk0 : A.length + 1 < n := by omega
    have tn : ((A.length : Int) + 1).toNat = A.length + 1 := by omega
    have sl : ∀ rr : Nat → V, rr 30 = .int .i64 ((A.length : Int) + 1) → sliceV 4 rr (.vec r ver 0 n 4) (some (.t 30)) none none = some (.vec r ver ((A.length + 1) * 4) (n - (A.length + 1)) 4) := fun rr e => by
      have c1 : A.length + 1 ≤ n := by omega
      have c2 : (0 : Int) ≤ (A.length : Int) + 1 := by omega
      simp [sliceV, bnd, ev, e, tn, c1, c2, hk0]
    simp [hxy, r0, r5, sl]
    obtain ⟨I2, hI2⟩ : ∃ I2 : Nat → St → Prop, ∀ m s, I2 m s ↔ (∃ (X H0 : En) (z : Nam × Ty) (Z : En) (k2 : Nat), m = Z.length ∧ s.r 0 = .vec r ver 0 n 4 ∧ s.r 1 = .fn 43 [] ∧ s.r 5 = .int .i64 (X.length : Int) ∧ s.r 6 = .vec r ver ((A.length + 1) * 4) (n - (A.length + 1)) 4 ∧ s.r 7 = .int .i64 (k2 : Int) ∧
      s.h = h'.set r (.vec ver 4 (rowP (X ++ H0 ++ z :: Z))) ∧ X.length + H0.length + 1 = A.length + 1 + k2 ∧ 1 ≤ k2 ∧ A.length + 1 + k2 + Z.length = n ∧ X.Pairwise ltP ∧ (∀ a ∈ X, leP a z) ∧ (z :: Z).Pairwise leP ∧ (∀ p, p ∈ X ∨ p ∈ Z ↔ p ∈ L) ∧ z ∈ X) := ⟨_, fun _ _ => Iff.rfl⟩
    have ehh : h' = h'.set r (.vec ver 4 (rowP (A ++ [x] ++ [] ++ x :: R'))) := by
      have : A ++ [x] ++ [] ++ x :: R' = L := by rw [eL]; simp
      rw [this]; exact (set_same hh).symm
    refine loop_ind (CallA.hle ap) I2 ?_ (n := R'.length) ((hI2 _ _).2 ⟨A ++ [x], [], x, R', 1, rfl, by simp [r0], by simp [r1], by simp [r5], by simp, by simp, ehh, by simp, by omega, by omega, hA, fun a ha => ?_, ?_, fun p => ?_, by simp⟩)
    rotate_left
    · rcases List.mem_append.1 ha with ha | ha
      · exact ltP_le ((List.pairwise_append.1 hA).2.2 a ha x (by simp))
      · rw [List.mem_singleton] at ha; subst ha; exact leP_refl _
    · rw [eL] at hsort
      exact (List.pairwise_cons.1 (List.pairwise_append.1 hsort).2.1).2
    · rw [eL]; simp [or_assoc]
    rintro m2 ⟨rr2, lo2, h2⟩ hs2
    obtain ⟨X, H0, z, Z, k2, hm2, r0, r1, r5, r6, r7, rfl, hXH, hk2, hkz, hX, hXz, hzZ, hmem, hzX⟩ := (hI2 _ _).1 hs2
    have hzL : z ∈ L := (hmem z).1 (.inl hzX)
    simp only at r0 r1 r5 r6 r7
    have w7 : IntKind.wrap .i64 ((k2 : Int) + 1) = ((k2 + 1 : Nat) : Int) := by rw [wrap64 (by omega) (by omega)]; omega
    simp [forget, noLoc, r6, r7]
    refine condA_dec (fun d3 => ?_) fun d3 => ?_
    · obtain ⟨w, Z', rfl⟩ : ∃ w Z', Z = w :: Z' := by
        cases Z with
        | nil => simp at hkz; omega
        | cons w Z' => exact ⟨w, Z', rfl⟩
      have hzl : A.length + 1 + k2 + Z'.length + 1 = n := by simp at hkz; omega
      have w8 : IntKind.wrap .i64 ((k2 : Int) - 1) = ((k2 - 1 : Nat) : Int) := by rw [wrap64 (by omega) (by omega)]; omega
      have wX : IntKind.wrap .i64 ((X.length : Int) + 1) = (X.length : Int) + 1 := wrap64 (by omega) (by omega)
      have i3 : iaddrV 4 (.vec r ver ((A.length + 1) * 4) (n - (A.length + 1)) 4) (.int .i64 (k2 : Int)) = some (.vptr r ver ((X ++ H0 ++ [z]).length * 4)) := by
        rw [vec_at rfl (by omega)]; congr 2; simp; omega
      have i4 : iaddrV 4 (.vec r ver ((A.length + 1) * 4) (n - (A.length + 1)) 4) (.int .i64 ((k2 - 1 : Nat) : Int)) = some (.vptr r ver ((X ++ H0).length * 4)) := by
        rw [vec_at rfl (by omega)]; congr 2; simp; omega
      have i5 : iaddrV 4 (.vec r ver 0 n 4) (.int .i64 (X.length : Int)) = some (.vptr r ver (X.length * 4)) := by
        rw [vec_at rfl (by omega)]; simp
      have s3 := rowP_at (X ++ H0 ++ [z]) w Z'
      have s4 := rowP_at (X ++ H0) z (w :: Z')
      have okw : okT w.2 = true := hok w ((hmem w).1 (.inr (by simp)))
      have okz : okT z.2 = true := hok z hzL
      simp at i3 i4 s3 s4
      simp [r1, r6, r7, w8, i3, i4, hr, loadV, cellsAt, s3, s4, pa_loc, pa_demote]
      refine sameC w z okw okz ?_
      simp
      by_cases hwz : cmpP w z = 0
      · have : w = z := cmpP_zero hwz
        subst this
        simp [hwz, r7, w7]
        refine ⟨Z'.length, by simp at hm2; omega, (hI2 _ _).2 ⟨X, H0 ++ [w], w, Z', k2 + 1, rfl, by simp [r0], by simp [r1], by simp [r5], by simp [r6], by simp, by simp, by simp; omega, by omega, by omega, hX, hXz, (List.pairwise_cons.1 hzZ).2, fun p => ?_, hzX⟩⟩
        rw [← hmem p]
        constructor
        · rintro (h1 | h1)
          · exact .inl h1
          · exact .inr (List.mem_cons_of_mem _ h1)
        · rintro (h1 | h1)
          · exact .inl h1
          · rcases List.mem_cons.1 h1 with rfl | h1
            · exact .inl hzX
            · exact .inr h1
      · have hb : (cmpP w z == 0) = false := by simpa using hwz
        have hzw : ltP z w := lt_of ((List.pairwise_cons.1 hzZ).1 w (by simp)) hwz
        have put : ∃ H1 : En, H1.length = H0.length ∧ splice (rowP (X ++ (H0 ++ z :: w :: Z'))) (X.length * 4) (paV w).cells = rowP (X ++ [w] ++ H1 ++ w :: Z') := by
          cases H0 with
          | nil => exact ⟨[], rfl, by rw [List.nil_append, rowP_put]; simp⟩
          | cons g H0 => exact ⟨H0 ++ [z], by simp, by rw [List.cons_append, rowP_put]; simp⟩
        obtain ⟨H1, hH1, hput⟩ := put
        simp [hb, r0, r5, r6, r7, i3, i5, hr, loadV, cellsAt, s3, pa_loc, pa_cells, okP, hput, w7, wX]
        refine ⟨by rw [rowP_len]; simp; omega, Z'.length, by simp at hm2; omega, (hI2 _ _).2 ⟨X ++ [w], H1, w, Z', k2 + 1, rfl, by simp [r0], by simp [r1], by simp, by simp [r6], by simp, by simp, by simp; omega, by omega, by omega, snoc_lt hX hXz hzw, fun a ha => ?_, (List.pairwise_cons.1 hzZ).2, fun p => ?_, by simp⟩⟩
        · rcases List.mem_append.1 ha with ha | ha
          · exact leP_trans (hXz a ha) (ltP_le hzw)
          · rw [List.mem_singleton] at ha; subst ha; exact leP_refl _
        · rw [← hmem p]; simp [or_assoc]
    · have hZ0 : Z.length = 0 := by omega
      have hkz' : A.length + 1 + k2 = n := by omega
      have : Z = [] := List.length_eq_zero_iff.1 hZ0
      subst this
      have hX0 : 0 < X.length := List.length_pos_of_mem hzX
      have hXn : X.length < n := by omega
      have hfl : ((List.replicate (n - X.length) [V.str [], V.int .i64 0, V.str [], V.sl .clip []]).flatten).length = (n - X.length) * 4 := by simp
      have hok0 : okStore bs r ((List.replicate (n - X.length) [V.str [], V.int .i64 0, V.str [], V.sl .clip []]).flatten) := fun b _ _ => by
        rw [underL_eq, List.all_eq_true]
        intro v hv
        simp only [List.mem_flatten, List.mem_replicate] at hv
        obtain ⟨l, ⟨_, rfl⟩, hv⟩ := hv
        simp only [List.mem_cons, List.not_mem_nil, or_false] at hv
        rcases hv with rfl | rfl | rfl | rfl <;> rfl
      have sl1 : ∀ rr : Nat → V, rr 60 = .int .i64 (X.length : Int) → sliceV 4 rr (.vec r ver 0 n 4) (some (.t 60)) none none = some (.vec r ver (X.length * 4) (n - X.length) 4) := fun rr e => by
        have c0 : X ≠ [] := List.length_pos_iff.1 hX0
        have c1 : X.length ≤ n := by omega
        simp [sliceV, bnd, ev, e, c0, c1, hXn]
      have sl2 : ∀ rr : Nat → V, rr 63 = .int .i64 (X.length : Int) → sliceV 4 rr (.vec r ver 0 n 4) none (some (.t 63)) none = some (.vec r ver 0 X.length 4) := fun rr e => by
        have c1 : X.length ≤ n := by omega
        simp [sliceV, bnd, ev, e, c1]
      have hkn : ¬ k2 < n - (A.length + 1) := by omega
      simp [hkn, r0, r5, sl1, sl2, hr]
      have hM : (rowP (X ++ (H0 ++ [z]))).length = n * 4 := by rw [rowP_len]; simp; omega
      refine ⟨by rw [hM]; omega, hok0, hq X _ (by omega) hX (fun p => by simpa using hmem p) ?_ ?_⟩
      · rw [splice_len' (by rw [hM, hfl]; omega), hM]; omega
      · rw [splice_tk (by rw [hM]; omega), rowP_app, List.take_append_of_le_length (by rw [rowP_len]; omega), List.take_of_length_le (by rw [rowP_len]; omega)]

end

end Go.Ot
