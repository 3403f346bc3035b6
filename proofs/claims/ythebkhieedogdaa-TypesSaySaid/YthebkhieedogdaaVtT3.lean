/- The law TypesParts on the abstract machine. -/
import Derived.Test.YthebkhieedogdaaVtT2
import Derived.Test.YthebkhieedogdaaVtL
namespace Go.Vt
open Go.Am Go.Proofs
set_option maxRecDepth 100000

def kR : List (Nat × V) := [(5, .ptr 3 0), (4, .ptr 2 0), (2, .ptr 0 0), (6, .ptr 4 0)]

/-- What lies in memory when so many parts have been handed out. -/
def YP (o1 : Ob) (t : Ty) (st : Nat) (pre : List Ty) : List Ob :=
  [.box [.bool false], o1, .box (tyV t).cells, .box [.int .i64 pre.length], .box [.sl (if seenOf [] pre = [] then .clip else .fam 7) ((seenOf [] pre).map .str)], .box (tyV t).cells, .loop (4 * 64) kR st none] ++
    (if seenOf [] pre = [] then [] else [.fam (seenOf [] pre).length 1])

theorem seen_sub : ∀ (l : List Ty) (o : List Nam) (A : List Nam), (∀ x ∈ o, x ∈ A) → (∀ k n m, .mk k n m ∈ l → k = 1 → n ∈ A) → ∀ x ∈ seenOf o l, x ∈ A
  | [], o, A, h, _ => h
  | .mk k n m :: l, o, A, h, h2 => by
    simp only [seenOf]
    refine seen_sub l _ A ?_ fun k n m hm => h2 k n m (by simp [hm])
    split
    · rename_i hc
      intro x hx
      rcases List.mem_append.1 hx with hx | hx
      · exact h x hx
      · simp at hx; subst hx; exact h2 k x m (by simp) hc.1
    · exact h
theorem seen_nodup : ∀ (l : List Ty) (o : List Nam), o.Nodup → (seenOf o l).Nodup
  | [], o, h => h
  | .mk k n m :: l, o, h => by
    simp only [seenOf]
    refine seen_nodup l _ ?_
    split
    · rename_i hc
      exact List.nodup_append.2 ⟨h, by simp, fun a ha b hb => by simp at hb; subst hb; exact fun e => hc.2 (e ▸ ha)⟩
    · exact h

mutual
theorem all_occ : ∀ (t : Ty) (n : Nam) (m : List Ty), fine t = true → .mk 1 n m ∈ allT t → occ n t = true
  | .mk k x l, n, m, hf, h => by
    simp only [fine, Bool.and_eq_true, decide_eq_true_eq] at hf
    simp only [allT, List.mem_cons, Ty.mk.injEq] at h
    rcases h with ⟨rfl, rfl, rfl⟩ | h
    · simp [occ]
    · by_cases hk : k = 1
      · have : l = [] := by simpa [hk] using hf.1.2
        subst this
        simp [allTL] at h
      · simp only [occ, hk, if_false]
        exact all_occL l n m hf.2 h
theorem all_occL : ∀ (l : List Ty) (n : Nam) (m : List Ty), fineL l = true → .mk 1 n m ∈ allTL l → occL n l = true
  | [], n, m, _, h => by simp [allTL] at h
  | t :: l, n, m, hf, h => by
    simp only [fineL, Bool.and_eq_true] at hf
    simp only [allTL, List.mem_append] at h
    simp only [occL, Bool.or_eq_true]
    rcases h with h | h
    · exact .inl (all_occ t n m hf.1 h)
    · exact .inr (all_occL l n m hf.2 h)
end

mutual
theorem all_ok : ∀ t u : Ty, okT t = true → u ∈ allT t → okT u = true
  | .mk k n l, u, h, hu => by
    simp only [allT, List.mem_cons] at hu
    rcases hu with rfl | hu
    · exact h
    · simp only [okT, Bool.and_eq_true] at h
      exact all_okL l u h.2 hu
theorem all_okL : ∀ (l : List Ty) (u : Ty), okTs l = true → u ∈ allTL l → okT u = true
  | [], u, _, hu => by simp [allTL] at hu
  | t :: l, u, h, hu => by
    simp only [okTs, Bool.and_eq_true] at h
    simp only [allTL, List.mem_append] at hu
    exact hu.elim (all_ok t u h.1) (all_okL l u h.2)
end

section
variable {h : List Ob} {Q : V → List Ob → Prop}

theorem round0 {o1 : Ob} {t : Ty} {A : List Nam} (hA : A.length ≤ 1000) (ht : okT t = true) (hf : fine t = true) (hg : good A t) (hs : sizeT t < 1000000) : Rounds [0] 6 t (YP o1 t 0) := by
  intro pre u suf Q hp hq
  have hu : u ∈ allT t := by rw [← hp]; simp
  have hlen : ((pre ++ u :: suf).length : Int) = sizeT t := by rw [hp, all_len]
  have hul := all_ok t u ht hu
  have hsub : ∀ l : List Ty, (∀ x ∈ l, x ∈ allT t) → (seenOf [] l).length ≤ 1000 := fun l hl =>
    Nat.le_trans (List.Nodup.length_le_of_subset (seen_nodup l [] (by simp)) (seen_sub l [] A (by simp) fun k n m hm hk => by subst hk; exact hg.2 n (all_occ t n m hf (hl _ hm)))) hA
  have hpre := hsub pre fun x hx => by rw [← hp]; simp [hx]
  have hw : IntKind.wrap .i64 ((pre.length : Int) + 1) = ((pre.length + 1 : Nat) : Int) := by
    simp at hlen
    rw [wrap64 (by omega) (by omega)]; omega
  have hsn : seenOf [] (pre ++ [u]) = match u with | .mk k n _ => if k = 1 ∧ n ∉ seenOf [] pre then seenOf [] pre ++ [n] else seenOf [] pre := by
    rw [seenOf_append]; cases u; rfl
  refine CallA.yld (key := 4 * 64) (regs := kR) (ab := ab4_0) rfl rfl rfl ?_
  have hfst : pre = [] → u = t := fun e => by
    subst e
    cases t
    simp [allT] at hp
    exact hp.1
  obtain ⟨k, n, l⟩ := u
  have e0 : tyV (.mk k n l) = .agg [.int .i64 k, .str n, .sl .frozen (tyVs l)] := rfl
  have hdt : V.agg (demoteL (List.take 3 (tyV (.mk k n l)).cells)) = tyV (.mk k n l) := by rw [ty_take, ty_dc, ty_agg]
  have hcm : (cmpT (.mk k n l) (.mk k n l) == 0) = true := by rw [ty_refl]; rfl
  have hlast : ∀ S : List Nam, seenOf [] (pre ++ [.mk k n l]) = S → YP o1 t 0 (pre ++ [.mk k n l]) = [.box [.bool false], o1, .box (tyV t).cells, .box [.int .i64 (pre.length + 1 : Nat)], .box [.sl (if S = [] then .clip else .fam 7) (S.map .str)], .box (tyV t).cells, .loop (4 * 64) kR 0 none] ++ (if S = [] then [] else [.fam S.length 1]) := by
    rintro S rfl
    simp [YP]
  by_cases hp0 : pre = []
  · have := hfst hp0
    subst this
    subst hp0
    simp [ab4_0, YP, kR, startB, splice, asgP, rnd, rndO, seenOf]
    rw [hdt]
    refine same12 _ _ ht ht ?_
    rw [hcm]
    simp [tyV]
    by_cases hk : k = 1
    · subst hk
      simp
      refine has40 [] n (by simp) fun b hb => ?_
      have : b = false := by cases b <;> simp_all
      subst this
      simp [lim, splice, okStore, underL, w1]
      rw [hlast [n] (by simp [seenOf])] at hq
      simpa [tyV, kR] using hq
    · have hkb : (k == 1) = false := by simpa using hk
      simp [hkb, splice, okStore, underL, w1]
      rw [hlast [] (by simp [seenOf, hk])] at hq
      simpa [tyV, kR] using hq
  · have hz : ((pre.length : Int) == 0) = false := by simpa using hp0
    by_cases hS : seenOf [] pre = []
    · simp [ab4_0, YP, kR, startB, splice, asgP, rnd, rndO, hS, hz, tyV]
      by_cases hk : k = 1
      · subst hk
        simp
        refine has40 [] n (by simp) fun b hb => ?_
        have : b = false := by cases b <;> simp_all
        subst this
        simp [lim, splice, okStore, underL, hw]
        rw [hlast [n] (by simp [seenOf_append, hS, seenOf])] at hq
        simpa [kR] using hq
      · have hkb : (k == 1) = false := by simpa using hk
        simp [hkb, splice, okStore, underL, hw]
        rw [hlast [] (by simp [seenOf_append, hS, seenOf, hk])] at hq
        simpa [kR] using hq
    · simp [ab4_0, YP, kR, startB, splice, asgP, rnd, rndO, hS, hz, tyV]
      by_cases hk : k = 1
      · subst hk
        simp [dem_strs]
        refine has40 (seenOf [] pre) n (by omega) fun b hb => ?_
        cases b with
        | true =>
          have hn : n ∈ seenOf [] pre := hb.1 rfl
          simp [splice, okStore, underL, hw]
          rw [hlast (seenOf [] pre) (by simp [seenOf_append, seenOf, hn])] at hq
          simpa [kR, hS] using hq
        | false =>
          have hn : ¬ n ∈ seenOf [] pre := fun h => by simpa using hb.2 h
          simp [splice, okStore, underL, hw]
          refine ⟨fun v hv => ?_, by simp only [lim]; omega, ?_⟩
          · rcases hv with ⟨x, _, rfl⟩ | rfl <;> rfl
          rw [hlast (seenOf [] pre ++ [n]) (by simp [seenOf_append, seenOf, hn])] at hq
          simpa [kR] using hq
      · have hkb : (k == 1) = false := by simpa using hk
        simp [hkb, splice, okStore, underL, hw]
        rw [hlast (seenOf [] pre) (by simp [seenOf_append, seenOf, hk])] at hq
        simpa [kR, hS] using hq

end
end Go.Vt
