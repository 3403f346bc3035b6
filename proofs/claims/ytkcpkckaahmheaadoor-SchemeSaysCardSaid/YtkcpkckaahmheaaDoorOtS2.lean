/- Contexts are made, are the same; all names of types; a type for all of its names: on the abstract machine. -/
import Derived.Test.YtkcpkckaahmheaaDoorOtE0
import Derived.Test.YtkcpkckaahmheaaDoorOtR8
import Derived.Test.YtkcpkckaahmheaaDoorOtK

namespace Go.Ot
open Go.Am Go.Proofs
set_option maxRecDepth 100000

/-- A part of a context, as it is made. -/
structure PrM (m : Nat) (p : Nam × Ty) : Prop where
  c : p.1 = [69, 113] ∨ p.1 = [79, 114, 100] ∨ p.1 = [83, 104, 111, 119] ∨ p.1 = [78, 117, 109]
  t : Made m p.2

theorem ty_dc' (x : Ty) : demoteL (tyV x).cells = (tyV x).cells := by cases x; simp [tyV, demote_tys]
theorem ty_uc4 (m : Nat) (x : Ty) : underL m (tyV x).cells = true := by cases x; simp [tyV, under_tys]

section
variable {bs : List Nat} {h : List Ob} {Q : V → List Ob → Prop}

theorem predM (tg : Tag) (l : List Int) (p : Nat) (m : Nat) (hm : m ≤ 3) (i : Int) (hi1 : 0 ≤ i) (hi2 : i < 900000) (hp : h[p]? = some (seqB tg l i))
    (hq : ∀ (x : Nam × Ty) (j : Int), i ≤ j → j ≤ i + 16 → PrM m x → Q (paV x) (h.set p (seqB tg l j))) : CallA ap 37 0 bs [.ptr p 0, .int .i64 m] h Q := by
  refine CallA.code (af := ac37) rfl (Nat.le_of_ble_eq_true rfl) ?_
  have hpl : p < h.length := (List.getElem?_eq_some_iff.1 hp).1
  have p2 : (2 : Int) ^ (m + 1) ≤ 16 := by
    have : m = 0 ∨ m = 1 ∨ m = 2 ∨ m = 3 := by omega
    rcases this with rfl | rfl | rfl | rfl <;> decide
  simp [ac37]
  refine next30 tg l i 4 p hp hi1 (by omega) (by omega) (by omega) fun n hn1 hn2 => ?_
  have hn : n = 0 ∨ n = 1 ∨ n = 2 ∨ n = 3 := by omega
  have all : ∀ (c : Nam) (t : Ty) (j : Int), (c = [69, 113] ∨ c = [79, 114, 100] ∨ c = [83, 104, 111, 119] ∨ c = [78, 117, 109]) → Made m t → i + 1 ≤ j → j + 1 ≤ i + 1 + 2 ^ (m + 1) → Q (paV (c, t)) (h.set p (seqB tg l j)) :=
    fun c t j hc ht h1 h2 => hq (c, t) _ (by omega) (by omega) ⟨hc, ht⟩
  rcases hn with rfl | rfl | rfl | rfl
  all_goals
    simp
    refine made10 tg l p m m (i + 1) _ _ _ (by omega) (by omega) (by omega) (by omega) (by omega) (by simp [hpl]) fun t j hj1 hj2 ht => ?_
    simp [splice, ty_take, ty_agg, demote_ty, under_ty]
    first
      | (simpa [List.take_of_length_le, paV, ty_dc', ty_uc4] using all [69, 113] t j (by simp) ht hj1 hj2; done)
      | (simpa [List.take_of_length_le, paV, ty_dc', ty_uc4] using all [79, 114, 100] t j (by simp) ht hj1 hj2; done)
      | (simpa [List.take_of_length_le, paV, ty_dc', ty_uc4] using all [83, 104, 111, 119] t j (by simp) ht hj1 hj2; done)
      | (simpa [List.take_of_length_le, paV, ty_dc', ty_uc4] using all [78, 117, 109] t j (by simp) ht hj1 hj2; done)

theorem predsM (tg : Tag) (l : List Int) (p : Nat) (m : Nat) (hm : m ≤ 3) (k : Nat) (hk : k ≤ 6) (i : Int) (hi1 : 0 ≤ i) (hi2 : i < 800000) (hp : h[p]? = some (seqB tg l i))
    (hq : ∀ (ps : En) (j : Int), i ≤ j → j ≤ i + 100 → ps.length ≤ k → (∀ x ∈ ps, PrM m x) → Q (.sl .frozen (paVs ps)) (h.set p (seqB tg l j))) : CallA ap 8 0 bs [.ptr p 0, .int .i64 k, .int .i64 m] h Q := by
  refine CallA.code (af := ac8) rfl (Nat.le_of_ble_eq_true rfl) ?_
  have hpl : p < h.length := (List.getElem?_eq_some_iff.1 hp).1
  have wk : IntKind.wrap .i64 ((k : Int) + 1) = k + 1 := wrap64 (by omega) (by omega)
  simp [ac8, wk]
  refine next30 tg l i (k + 1) p hp hi1 (by omega) (by omega) (by omega) fun n hn1 hn2 => ?_
  simp
  obtain ⟨I, hI⟩ : ∃ I : Nat → St → Prop, ∀ n s, I n s ↔ (∃ (ps : En) (j : Int), s.r 0 = .ptr p 0 ∧ s.r 2 = .int .i64 m ∧ s.r 8 = .int .i64 n ∧ ps.length + n ≤ k ∧ (∀ x ∈ ps, PrM m x) ∧ i ≤ j ∧ j ≤ i + 1 + 16 * ps.length ∧
    (ps = [] ∧ s.r 7 = .sl .clip [] ∧ s.h = h.set p (seqB tg l j) ∨ ps ≠ [] ∧ s.r 7 = .sl (.fam h.length) (paVs ps) ∧ s.h = h.set p (seqB tg l j) ++ [.fam ps.length 4])) := ⟨_, fun _ _ => Iff.rfl⟩
  refine loop_ind (CallA.hle ap) I ?_ (n := n.toNat) ((hI _ _).2 ⟨[], i + 1, by simp; omega⟩)
  rintro n ⟨r, lo, h'⟩ hs
  obtain ⟨ps, j, e0, e2, e8, hps, hok, hj1, hj2, hor⟩ := (hI _ _).1 hs
  simp only at e0 e2 e8 hor
  simp [forget, noLoc, e0, e2, e8]
  refine condA_dec (fun h1 => ?_) fun h1 => ?_
  · have hw : IntKind.wrap .i64 ((n : Int) - 1) = ((n - 1 : Nat) : Int) := by rw [wrap64 (by omega) (by omega)]; omega
    rcases hor with ⟨rfl, e7, rfl⟩ | ⟨hne, e7, rfl⟩
    · have hj3 : j ≤ i + 1 := by simpa using hj2
      have hps3 : n ≤ k := by simpa using hps
      simp [e0, e2, e7, e8]
      refine predM tg l p m hm j (by omega) (by omega) (by simp [hpl]) fun x k' hk1 hk2 hx => ?_
      simp [e0, e2, e7, e8, pa_cells, pa_loc, lim, hw]
      refine ⟨n - 1, by omega, (hI _ _).2 ⟨[x], k', ?_⟩⟩
      simp [e0, e2, paVs, hx]
      omega
    · have hlen := List.length_pos_iff.2 hne
      simp [e0, e2, e7, e8]
      refine predM tg l p m hm j (by omega) (by omega) (by rw [List.getElem?_append_left (by simpa using hpl)]; simp [hpl]) fun x k' hk1 hk2 hx => ?_
      have hall : ∀ v, v ∈ paVs ps ∨ v = paV x → v.cells.length = 4 := by
        rintro v (hv | rfl)
        · simp only [paVs, List.mem_map] at hv
          obtain ⟨y, -, rfl⟩ := hv
          exact pa_cells y
        · exact pa_cells x
      have hset : (h.set p (seqB tg l j) ++ [Ob.fam ps.length 4]).set p (seqB tg l k') = h.set p (seqB tg l k') ++ [.fam ps.length 4] := by
        simp [List.set_append, hpl]
      rw [hset]
      simp [e0, e2, e7, e8, pa_cells, pa_loc, lim, hw, pas_length]
      refine ⟨fun v hv => hall v hv, by omega, ?_⟩
      refine ⟨n - 1, by omega, (hI _ _).2 ⟨ps ++ [x], k', ?_⟩⟩
      refine ⟨by simp [e0], by simp [e2], by simp, by simp; omega, ?_, by omega, by simp; omega, .inr ⟨by simp, by simp [paVs], ?_⟩⟩
      · intro y hy
        simp at hy
        rcases hy with hy | rfl
        · exact hok y hy
        · exact hx
      · simp
  · simp [e0, e2, e8]
    rcases hor with ⟨rfl, e7, rfl⟩ | ⟨hne, e7, rfl⟩
    · simp [e7]
      have hj3 : j ≤ i + 1 := by simpa using hj2
      have := hq [] j (by omega) (by omega) (by simp) (by simp)
      simpa [List.take_of_length_le, paVs] using this
    · simp [e7, pas_demote, pas_under]
      have := hq ps j (by omega) (by omega) (by omega) hok
      simpa [List.take_of_length_le, List.take_append] using this

theorem tyVs_len' (l : List Ty) : (tyVs l).length = l.length := by induction l <;> simp_all [tyVs]
theorem tyVs_snoc (l : List Ty) (t : Ty) : tyVs l ++ [tyV t] = tyVs (l ++ [t]) := by induction l <;> simp_all [tyVs]
theorem tyVs_mem {l : List Ty} {v : V} (h : v ∈ tyVs l) : v.cells.length = 3 := by
  induction l with
  | nil => simp [tyVs] at h
  | cons t l ih =>
    simp only [tyVs, List.mem_cons] at h
    rcases h with rfl | h
    · exact ty_cells t
    · exact ih h

theorem pa_tail (p : Nam × Ty) : (paV p).cells.tail.take 3 = (tyV p.2).cells := by simp [paV, ty_take]

theorem all31 (t : Ty) (ps : En) (hl : ps.length ≤ 1000) (hq : Q (.sl .frozen (tyVs (t :: ps.map (·.2)))) h) : CallA ap 56 0 bs [tyV t, .sl .frozen (paVs ps)] h Q := by
  refine CallA.code (af := ac56) rfl (Nat.le_of_ble_eq_true rfl) ?_
  simp [ac56, splice, ty_take, ty_agg]
  obtain ⟨ts, hts⟩ : ∃ ts : List Ty, ts = ps.map (·.2) := ⟨_, rfl⟩
  have htl : ts.length = ps.length := by rw [hts]; simp
  rw [← hts] at hq
  obtain ⟨I, hI⟩ : ∃ I : Nat → St → Prop, ∀ n s, I n s ↔ (∃ i : Nat, i + n = ps.length ∧ s.r 1 = .sl .frozen (paVs ps) ∧ s.r 6 = .int .i64 i ∧
    (i = 0 ∧ s.r 5 = .sl .clip [tyV t] ∧ s.h = h ∨ 0 < i ∧ s.r 5 = .sl (.fam h.length) (tyVs (t :: ts.take i)) ∧ s.h = h ++ [.fam (i + 1) 3])) := ⟨_, fun _ _ => Iff.rfl⟩
  refine loop_ind (CallA.hle ap) I ?_ (n := ps.length) ((hI _ _).2 ⟨0, by simp⟩)
  rintro n ⟨r, lo, h'⟩ hst
  obtain ⟨i, hin, r1, r6, hor⟩ := (hI _ _).1 hst
  simp only at r1 r6 hor
  simp [forget, noLoc, locOf, r1, r6, pas_length]
  refine condA_dec (fun h1 => ?_) fun h1 => ?_
  · have hi : i < ps.length := by omega
    have g1 : (paVs ps)[i]? = some (paV ps[i]) := by simp [paVs, hi]
    have hw : IntKind.wrap .i64 ((i : Int) + 1) = ((i + 1 : Nat) : Int) := by rw [wrap64 (by omega) (by omega)]; omega
    have gi : ts[i]? = some ps[i].2 := by rw [hts]; simp [hi]
    have htk : ts.take (i + 1) = ts.take i ++ [ps[i].2] := by rw [List.take_add_one, gi]; rfl
    have hsn : tyVs (t :: ts.take i) ++ [tyV ps[i].2] = tyVs (t :: ts.take (i + 1)) := by rw [tyVs_snoc, htk]; rfl
    have hml : (tyVs (t :: ts.take i)).length = i + 1 := by rw [tyVs_len']; simp; omega
    rcases hor with ⟨h0, r5, rfl⟩ | ⟨hpos, r5, rfl⟩
    · subst h0
      have h10 : [tyV t, tyV ps[0].2] = tyVs (t :: ts.take 1) := by rw [htk]; simp [tyVs]
      simp [r1, r5, r6, g1, pa_cells, pa_tail, ty_agg, ty_sel, h10]
      exact ⟨fun v hv => tyVs_mem hv, by simp [lim], n - 1, by omega, (hI _ _).2 ⟨1, by omega, by simp [r1, w1]⟩⟩
    · simp [r1, r5, r6, g1, pa_cells, pa_tail, ty_agg, ty_sel, hml, hsn]
      refine ⟨fun v hv => ?_, by simp only [lim]; omega, n - 1, by omega, (hI _ _).2 ⟨i + 1, by omega, by simp [r1, hw]⟩⟩
      exact tyVs_mem hv
  · have hi : i = ps.length := by omega
    have hfull : ts.take i = ts := List.take_of_length_le (by omega)
    rcases hor with ⟨h0, r5, rfl⟩ | ⟨hpos, r5, rfl⟩
    · have : ts = [] := List.length_eq_zero_iff.1 (by omega)
      rw [this] at hq
      simp [r1, r5, r6, demote_ty, under_ty]
      simpa [tyVs] using hq
    · rw [hfull] at r5
      simp [r1, r5, r6, demote_tys, under_tys]
      exact hq

/-- All names of types. -/
theorem vars23 {A : List Nam} (hA : A.length ≤ 1000) (l : List Ty) (hl : l.length ≤ 1000) (hf : ∀ t ∈ l, fine t = true ∧ good A t) (hq : Q (.sl .frozen ((varsTL [] l).map .str)) h) : CallA ap 18 0 bs [.sl .frozen (tyVs l)] h Q := by
  refine CallA.code (af := ac18) rfl (Nat.le_of_ble_eq_true rfl) ?_
  simp [ac18]
  have hvar : ∀ i, varsTL [] (l.take (i + 1)) = (match l[i]? with | some t => varsT (varsTL [] (l.take i)) t | none => varsTL [] (l.take i)) := by
    have app : ∀ (a b : List Ty) (o : List Nam), varsTL o (a ++ b) = varsTL (varsTL o a) b := by
      intro a
      induction a with
      | nil => intro b o; rfl
      | cons x a ih => intro b o; simp only [List.cons_append, varsTL]; exact ih b _
    intro i
    rw [List.take_add_one]
    cases l[i]? with
    | none => simp
    | some t => rw [app]; rfl
  have sub : ∀ i x, x ∈ varsTL [] (l.take i) → x ∈ A := by
    intro i x hx
    rcases (varsTL_mem x _ []).1 hx with hx | hx
    · cases hx
    · have : ∀ m : List Ty, (∀ t ∈ m, t ∈ l) → occL x m = true → x ∈ A := by
        intro m
        induction m with
        | nil => intro _ h; simp [occL] at h
        | cons t m ih =>
          intro hm h
          simp only [occL, Bool.or_eq_true] at h
          rcases h with h | h
          · exact (hf t (hm t (by simp))).2.2 x h
          · exact ih (fun u hu => hm u (by simp [hu])) h
      exact this _ (fun t ht => List.mem_of_mem_take ht) hx
  obtain ⟨I, hI⟩ : ∃ I : Nat → St → Prop, ∀ n s, I n s ↔ (∃ i : Nat, i + n = l.length ∧ s.r 0 = .sl .frozen (tyVs l) ∧ (∃ tg, s.r 3 = .sl tg ((varsTL [] (l.take i)).map .str) ∧ (tg = .frozen ∨ tg = .clip)) ∧ s.r 4 = .int .i64 i ∧ s.h = h) := ⟨_, fun _ _ => Iff.rfl⟩
  refine loop_ind (CallA.hle ap) I ?_ (n := l.length) ((hI _ _).2 ⟨0, by simp [varsTL]⟩)
  rintro n ⟨r, lo, h'⟩ hst
  obtain ⟨i, hin, r0, ⟨tg, r3, htg⟩, r4, rfl⟩ := (hI _ _).1 hst
  simp only at r0 r3 r4
  simp [forget, noLoc, locOf, r0, r3, r4, tyVs_len']
  have nd : (varsTL [] (l.take i)).Nodup := varsTL_nodup _ _ (by simp)
  refine condA_dec (fun h1 => ?_) fun h1 => ?_
  · have hi : i < l.length := by omega
    have gi : l[i]? = some l[i] := List.getElem?_eq_getElem hi
    have gt : ∀ (m : List Ty) (j : Nat) (t : Ty), m[j]? = some t → (tyVs m)[j]? = some (tyV t) := by
      intro m
      induction m with
      | nil => intro j t h; simp at h
      | cons x m ih => intro j t h; cases j with
        | zero => simp at h; subst h; simp [tyVs]
        | succ j => simp at h; simp [tyVs, ih j t h]
    have g1 := gt l i _ gi
    have hw : IntKind.wrap .i64 ((i : Int) + 1) = ((i + 1 : Nat) : Int) := by rw [wrap64 (by omega) (by omega)]; omega
    have hv := hvar i
    rw [gi] at hv
    simp only at hv
    obtain ⟨f1, f2⟩ := hf l[i] (List.getElem_mem hi)
    generalize l[i] = t at *
    simp [r0, r3, r4, g1, ty_sel, ty_take, ty_agg, demote_ty, dem_strs]
    refine vars50 hA _ t (Nat.le_refl _) f1 f2 _ _ _ _ nd (fun x hx => sub i x hx) ?_
    simp [r0, r3, r4, hw]
    exact ⟨n - 1, by omega, (hI _ _).2 ⟨i + 1, by omega, by simp [r0], ⟨.frozen, by simp [hv], .inl rfl⟩, by simp⟩⟩
  · have hi : i = l.length := by omega
    have hfull : l.take i = l := List.take_of_length_le (by omega)
    rw [hfull] at r3
    simp [r0, r3, r4, dem_strs, under_strs]
    exact hq

/-- A type for all of its names. -/
theorem close9 {A : List Nam} (hA : A.length ≤ 1000) (t : Ty) (ps : En) (hl : ps.length ≤ 900) (hf : ∀ u ∈ t :: ps.map (·.2), fine u = true ∧ good A u) (L : List Nam) (hL : L = varsTL [] (t :: ps.map (·.2))) (hLl : L.length ≤ 1000)
    (hq : Q (.agg ([.sl .frozen (L.map .str), .sl .frozen (paVs ps)] ++ (tyV t).cells)) h) : CallA ap 21 0 bs [.sl .frozen (paVs ps), tyV t, .sl .frozen []] h Q := by
  refine CallA.code (af := ac21) rfl (Nat.le_of_ble_eq_true rfl) ?_
  obtain ⟨k, nn, l⟩ := t
  simp [ac21, splice, tyV, demote_tys, pas_demote]
  have e2 : V.agg [.int .i64 k, .str nn, .sl .frozen (tyVs l)] = tyV (.mk k nn l) := by simp [tyV]
  rw [e2]
  refine all31 _ ps (by omega) ?_
  simp [demote_tys]
  refine vars23 hA _ (by simp; omega) hf ?_
  rw [← hL]
  obtain ⟨M, hM⟩ : ∃ M : List V, M = L.map .str := ⟨_, rfl⟩
  have hMl : M.length = L.length := by rw [hM]; simp
  have hMd : demoteL M = M := by rw [hM]; exact dem_strs L
  have hMu : ∀ m, underL m M = true := fun m => by rw [hM]; exact under_strs m L
  have hMi : ∀ i, i < L.length → ∃ x, M[i]? = some (.str x) := fun i hi => ⟨L[i], by rw [hM]; simp [hi]⟩
  have hMc : ∀ v ∈ M, v.cells.length = 1 := fun v hv => by rw [hM] at hv; obtain ⟨x, _, rfl⟩ := List.mem_map.1 hv; rfl
  rw [← hM] at hq ⊢
  simp
  obtain ⟨I, hI⟩ : ∃ I : Nat → St → Prop, ∀ n s, I n s ↔ (∃ i : Nat, i + n = L.length ∧ s.r 2 = .sl .frozen [] ∧ s.r 8 = .sl .frozen M ∧ s.r 9 = .int .i64 i ∧ s.r 6 = .loc 6 0 ∧ s.r 7 = .loc 7 0 ∧ s.l 6 = some [.sl .clip [], .sl .clip [], .int .i64 0, .str [], .sl .clip []] ∧
    (i = 0 ∧ s.l 7 = some [.sl .clip [], .sl .frozen (paVs ps), .int .i64 k, .str nn, .sl .frozen (tyVs l)] ∧ s.h = h ∨ 0 < i ∧ s.l 7 = some [.sl (.fam h.length) (M.take i), .sl .frozen (paVs ps), .int .i64 k, .str nn, .sl .frozen (tyVs l)] ∧ s.h = h ++ [.fam i 1])) := ⟨_, fun _ _ => Iff.rfl⟩
  refine loop_ind (CallA.hle ap) I ?_ (n := L.length) ((hI _ _).2 ⟨0, by simp⟩)
  rintro n ⟨r, lo, h'⟩ hst
  obtain ⟨i, hin, r2, r8, r9, r6, r7, l6, hor⟩ := (hI _ _).1 hst
  simp only at r2 r8 r9 r6 r7 l6 hor
  simp [forget, noLoc, locOf, r2, r8, r9, r6, r7, hMl]
  refine condA_dec (fun h1 => ?_) fun h1 => ?_
  · have hi : i < L.length := by omega
    have hw : IntKind.wrap .i64 ((i : Int) + 1) = ((i + 1 : Nat) : Int) := by rw [wrap64 (by omega) (by omega)]; omega
    obtain ⟨x, hx⟩ := hMi i hi
    have htk : M.take (i + 1) = M.take i ++ [.str x] := by rw [List.take_add_one, hx]; rfl
    have hml : min i M.length = i := by omega
    simp [r2, r8, r9, r6, r7, hx]
    refine has40 [] x (by simp) fun b hb => ?_
    have : b = false := by cases b with
      | false => rfl
      | true => have := hb.1 rfl; simp at this
    subst this
    rcases hor with ⟨h0, l7, rfl⟩ | ⟨hpos, l7, rfl⟩
    · subst h0
      simp [r2, r8, r9, r6, r7, l6, l7, hx, splice]
      exact ⟨by simp [lim], n - 1, by omega, (hI _ _).2 ⟨1, by omega, by simp [r2, r8, r6, r7, l6, w1, htk]⟩⟩
    · simp [r2, r8, r9, r6, r7, l6, l7, hx, splice, hml]
      refine ⟨fun v hv => ?_, by simp only [lim]; omega, n - 1, by omega, (hI _ _).2 ⟨i + 1, by omega, by simp [r2, r8, r6, r7, l6, hw, htk]⟩⟩
      rcases hv with hv | rfl
      · exact hMc v (List.mem_of_mem_take hv)
      · rfl
  · have hi : i = L.length := by omega
    have hfull : M.take i = M := List.take_of_length_le (by omega)
    simp only [tyV, cells_agg, List.cons_append, List.nil_append] at hq
    rcases hor with ⟨h0, l7, rfl⟩ | ⟨hpos, l7, rfl⟩
    · have hM0 : M = [] := List.length_eq_zero_iff.1 (by omega)
      rw [hM0] at hq
      simp [r2, r8, r9, r6, r7, l6, l7, splice, demote_tys, under_tys, pas_demote, pas_under]
      exact hq
    · rw [hfull] at l7
      simp [r2, r8, r9, r6, r7, l6, l7, splice, demote_tys, under_tys, pas_demote, pas_under, hMd, hMu]
      exact hq

end
end Go.Ot

namespace Go.Ot
open Go.Am Go.Proofs
set_option maxRecDepth 100000

section
variable {bs : List Nat} {h : List Ob} {Q : V → List Ob → Prop}

theorem nan54 (a : Int) (hq : Q (.bool false) h) : CallA ap 93 0 bs [.int .i64 a] h Q := by
  refine CallA.code (af := ac93) rfl (Nat.le_of_ble_eq_true rfl) ?_
  simp [ac93]
  exact hq

def cmpI (a b : Int) : Int := if a < b then -1 else if b < a then 1 else 0

theorem cmp35 (a b : Int) (hq : Q (.int .i64 (cmpI a b)) h) : CallA ap 85 0 bs [.int .i64 a, .int .i64 b] h Q := by
  refine CallA.code (af := ac85) rfl (Nat.le_of_ble_eq_true rfl) ?_
  simp [ac85]
  refine nan54 a ?_
  simp
  refine nan54 b ?_
  simp
  refine condA_dec (fun h1 => ?_) fun h1 => ?_
  · simp
    simpa [cmpI, h1] using hq
  · simp
    refine condA_dec (fun h2 => ?_) fun h2 => ?_
    · simp
      simpa [cmpI, h1, h2] using hq
    · simp
      simpa [cmpI, h1, h2] using hq

theorem cmp36 (a b : List UInt8) (hq : Q (.int .i64 (Lib.compareBytes a b)) h) : CallA ap 69 0 bs [.str a, .str b] h Q := by
  refine CallA.code (af := ac69) rfl (Nat.le_of_ble_eq_true rfl) ?_
  simp [ac69]
  refine CallA.code (af := ac84) rfl (Nat.le_of_ble_eq_true rfl) ?_
  simp [ac84]
  refine CallA.prim (p := cmpP) rfl rfl ?_
  simp
  exact hq

end
end Go.Ot

namespace Go.Ot
open Go.Am Go.Proofs
set_option maxRecDepth 100000

def orL : List Int → Int
  | [] => 0
  | x :: l => if x = 0 then orL l else x

mutual
def cmpT : Ty → Ty → Int
  | .mk k n l, .mk k' n' l' => orL [cmpI k k', Lib.compareBytes n n', cmpI l.length l'.length, cmpTs l l']
def cmpTs : List Ty → List Ty → Int
  | [], [] => 0
  | [], _ :: _ => -1
  | _ :: _, [] => 1
  | a :: l, b :: m => if cmpT a b = 0 then cmpTs l m else cmpT a b
end

section
variable {bs : List Nat} {h : List Ob} {Q : V → List Ob → Prop}

theorem or34 (a b c d : Int) (hq : Q (.int .i64 (orL [a, b, c, d])) h) : CallA ap 68 0 bs [.sl .frozen [.int .i64 a, .int .i64 b, .int .i64 c, .int .i64 d]] h Q := by
  refine CallA.code (af := ac68) rfl (Nat.le_of_ble_eq_true rfl) ?_
  simp [ac68]
  refine wpA_loop (CallA.hle ap) ?_
  simp [forget, noLoc]
  refine condA_split (fun h1 => ?_) fun h1 => ?_
  · simp at h1
    simp
    simpa [orL, h1] using hq
  simp at h1
  simp [w1]
  refine wpA_loop (CallA.hle ap) ?_
  simp [forget, noLoc]
  refine condA_split (fun h2 => ?_) fun h2 => ?_
  · simp at h2
    simp
    simpa [orL, h1, h2] using hq
  simp at h2
  simp [w2]
  refine wpA_loop (CallA.hle ap) ?_
  simp [forget, noLoc]
  refine condA_split (fun h3 => ?_) fun h3 => ?_
  · simp at h3
    simp
    simpa [orL, h1, h2, h3] using hq
  simp at h3
  simp [w3]
  refine wpA_loop (CallA.hle ap) ?_
  simp [forget, noLoc]
  refine condA_split (fun h4 => ?_) fun h4 => ?_
  · simp at h4
    simp
    simpa [orL, h1, h2, h3, h4] using hq
  simp at h4
  simp [w4]
  refine wpA_loop (CallA.hle ap) ?_
  simp [forget, noLoc]
  simpa [orL, h1, h2, h3, h4] using hq


/-- What compares two types. -/
def Cmp (a b : Ty) : Prop := ∀ (bs : List Nat) (h : List Ob) (Q : V → List Ob → Prop), Q (.int .i64 (cmpT a b)) h → CallA ap 70 0 bs [tyV a, tyV b] h Q

theorem cmpf37 (l m : List Ty) (hl : l.length ≤ 2) (hm : m.length ≤ 2) (hc : ∀ a ∈ l, ∀ b ∈ m, Cmp a b) (hq : Q (.int .i64 (cmpTs l m)) h) :
    CallA ap 86 0 bs [.sl .frozen (tyVs l), .sl .frozen (tyVs m), .fn 70 []] h Q := by
  refine CallA.code (af := ac86) rfl (Nat.le_of_ble_eq_true rfl) ?_
  match l, m with
  | [], [] =>
    simp [ac86, tyVs]
    refine wpA_loop (CallA.hle ap) ?_
    simp [forget, noLoc, locOf]
    simpa [cmpTs] using hq
  | [], b :: m =>
    simp [ac86, tyVs]
    refine wpA_loop (CallA.hle ap) ?_
    simp [forget, noLoc, locOf]
    simpa [cmpTs] using hq
  | a :: l, [] =>
    simp [ac86, tyVs]
    refine wpA_loop (CallA.hle ap) ?_
    have : (0 : Int) < (l.length : Int) + 1 := by omega
    simp [forget, noLoc, locOf, this, ty_sel, splice, ty_take, ty_agg]
    simpa [cmpTs] using hq
  | a :: l, b :: m =>
    simp [ac86, tyVs]
    refine wpA_loop (CallA.hle ap) ?_
    have e1 : (0 : Int) < (l.length : Int) + 1 := by omega
    have e2 : ¬ (m.length : Int) + 1 ≤ 0 := by omega
    simp [forget, noLoc, locOf, e1, e2, ty_sel, splice, ty_take, ty_agg, demote_ty]
    refine hc a (by simp) b (by simp) _ _ _ ?_
    simp
    refine condA_split (fun h1 => ?_) fun h1 => ?_
    · simp at h1
      simp
      simpa [cmpTs, h1] using hq
    simp at h1
    simp [w1]
    refine wpA_loop (CallA.hle ap) ?_
    match l, m with
    | [], [] =>
      simp [forget, noLoc, locOf]
      simpa [cmpTs, h1] using hq
    | [], [b2] =>
      simp [forget, noLoc, locOf, tyVs]
      simpa [cmpTs, h1] using hq
    | [a2], [] =>
      simp [forget, noLoc, locOf, tyVs, ty_sel, splice, ty_take, ty_agg]
      simpa [cmpTs, h1] using hq
    | [a2], [b2] =>
      simp [forget, noLoc, locOf, tyVs, ty_sel, splice, ty_take, ty_agg, demote_ty]
      refine hc a2 (by simp) b2 (by simp) _ _ _ ?_
      simp
      refine condA_split (fun h2 => ?_) fun h2 => ?_
      · simp at h2
        simp
        simpa [cmpTs, h1, h2] using hq
      simp at h2
      simp [w2]
      refine wpA_loop (CallA.hle ap) ?_
      simp [forget, noLoc, locOf, tyVs]
      simpa [cmpTs, h1, h2] using hq
    | a2 :: a3 :: l, m => simp at hl
    | l, b2 :: b3 :: m => simp at hm

theorem cmp11 : ∀ (m : Nat) (a b : Ty), SizeOf.sizeOf a ≤ m → okT a = true → okT b = true → Cmp a b := by
  intro m
  induction m with
  | zero => intro a b h; cases a; simp at h
  | succ m ih =>
    intro a b hm ha hb bs h Q hq
    obtain ⟨k, n, l⟩ := a
    obtain ⟨k', n', l'⟩ := b
    refine CallA.code (af := ac70) rfl (Nat.le_of_ble_eq_true rfl) ?_
    simp [ac70, tyV]
    refine cmp35 k k' ?_
    simp
    refine cmp36 n n' ?_
    simp
    refine cmp35 l.length l'.length ?_
    simp [demote_tys]
    obtain ⟨a1, a2⟩ := okT_len ha
    obtain ⟨b1, b2⟩ := okT_len hb
    refine cmpf37 l l' a1 b1 (fun a h1 b h2 => ih a b ?_ (a2 a h1) (b2 b h2)) ?_
    · have := List.sizeOf_lt_of_mem h1
      simp at hm
      omega
    simp
    refine or34 _ _ _ _ ?_
    simp
    simpa [cmpT] using hq

theorem same12 (a b : Ty) (ha : okT a = true) (hb : okT b = true) (hq : Q (.bool (cmpT a b == 0)) h) : CallA ap 59 0 bs [tyV a, tyV b] h Q := by
  refine CallA.code (af := ac59) rfl (Nat.le_of_ble_eq_true rfl) ?_
  simp [ac59, ty_sel, splice, demote_ty, ty_take, ty_agg]
  refine cmp11 _ a b (Nat.le_refl _) ha hb _ _ _ ?_
  simp
  exact hq

end
end Go.Ot
