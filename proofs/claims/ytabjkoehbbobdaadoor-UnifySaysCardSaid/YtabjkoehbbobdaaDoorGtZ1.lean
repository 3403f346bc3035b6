/- All pairs are made one: by the program, by the reference: on the abstract machine. -/
import Derived.Test.YtabjkoehbbobdaaDoorGtY8
import Derived.Test.YtabjkoehbbobdaaDoorGtY9
namespace Go.Gt
open Go.Am Go.Proofs
set_option maxRecDepth 100000

theorem pr_fst' (p : Ty × Ty) : (prV p).cells.take 3 = (tyV p.1).cells := by rw [pr_c, List.take_left' (ty_cells p.1)]

theorem prs_get (l : List (Ty × Ty)) (i : Nat) (hi : i < (prVs l).length) : (prVs l)[i] = prV (l[i]'(by simpa [prs_length] using hi)) := by simp [prVs]

structure OkP (A : List Nam) (p : Ty × Ty) : Prop where
  ga : good A p.1
  fa : fine p.1 = true
  gb : good A p.2
  fb : fine p.2 = true

section
variable {bs : List Nat} {h : List Ob} {Q : V → List Ob → Prop}

theorem all16 {A : List Nam} (hA : A.length ≤ 1000) (l : List (Ty × Ty)) (hl : l.length < 100000) (hg : ∀ p ∈ l, OkP A p)
    (hq : ∀ (tl : List Ob) (o : Option Nat) (f : En), RepS (h ++ tl) o f → FoL A [] l f → Q (.tup [.agg [.map o], .nili]) (h ++ tl))
    (hno : ∀ (tl : List Ob) (g : Nat), FailL [] l g → Q (.tup [.agg [.map none], .sent g]) (h ++ tl)) : CallA ap 16 0 bs [.sl .frozen (prVs l)] h Q := by
  refine CallA.code (af := ac16) rfl (Nat.le_of_ble_eq_true rfl) ?_
  simp [ac16, prs_length]
  obtain ⟨I, hI⟩ : ∃ I : Nat → St → Prop, ∀ n s, I n s ↔ (∃ (i : Nat) (tl : List Ob) (o : Option Nat) (f : En), i + n = l.length ∧ RepS (h ++ tl) o f ∧ FoL A [] (l.take i) f ∧ s.r 8 = .sl .frozen (prVs l) ∧ s.r 9 = .int .i64 l.length ∧ s.r 10 = .int .i64 i ∧
    s.r 2 = .loc 2 0 ∧ s.r 4 = .loc 4 0 ∧ s.l 2 = some [.map none] ∧ s.l 4 = some [.map o] ∧ s.h = h ++ tl) := ⟨_, fun _ _ => Iff.rfl⟩
  refine loop_ind (CallA.hle ap) I ?_ (n := l.length) ((hI _ _).2 ⟨0, [], none, [], by simp, .inl ⟨rfl, rfl⟩, by simpa using foL_nil (fit_nil hA), by simp⟩)
  rintro n ⟨r, lo, h'⟩ hs
  obtain ⟨i, tl, o, f, hin, hr, hfo, r8, r9, r10, r2, r4, l2, l4, rfl⟩ := (hI _ _).1 hs
  simp only at r8 r9 r10 r2 r4 l2 l4
  simp [forget, noLoc, locOf, r9, r10]
  refine condA_dec (fun h1 => ?_) fun h1 => ?_
  · have hi : i < l.length := by omega
    have g1 : (prVs l)[i]? = some (prV l[i]) := by simp [prVs, hi]
    have hw : IntKind.wrap .i64 ((i : Int) + 1) = ((i + 1 : Nat) : Int) := by rw [wrap64 (by omega) (by omega)]; omega
    have htake : l.take (i + 1) = l.take i ++ [l[i]] := by rw [List.take_add_one]; simp [hi]
    have hdrop : l = l.take i ++ l[i] :: l.drop (i + 1) := by rw [← List.drop_eq_getElem_cons hi, List.take_append_drop]
    obtain ⟨ga, fa, gb, fb⟩ := hg _ (List.getElem_mem hi)
    generalize hp : l[i] = p at *
    simp [r8, r10, r4, l4, g1, pr_cells, pr_take, pr_agg, pr_loc, pr_fst', pr_snd, ty_agg, demote_ty, splice]
    refine oneOk hfo.fit ga fa gb fb _ _ _ o hr (fun tl2 o2 f2 hr2 hf2 => ?_) (fun tl2 g hn => ?_)
    · simp [r10, r4, l4, hw, splice]
      refine ⟨n - 1, by omega, (hI _ _).2 ⟨i + 1, tl ++ tl2, o2, f2, by omega, by simpa using hr2, ?_, ?_⟩⟩
      · rw [htake]; exact hfo.snoc hf2
      · simp [r8, r9, r2, r4, l2]
    · simp [r2, r4, l2, l4, splice]
      have := hno (tl ++ tl2) g (by rw [hdrop]; exact hfo.fail hn)
      simpa using this
  · have hi : i = l.length := by omega
    subst hi
    simp [r2, r4, l2, l4, splice]
    rw [List.take_length] at hfo
    exact hq tl o f hr hfo

theorem refAll17 {A : List Nam} (hA : A.length ≤ 1000) (l : List (Ty × Ty)) (hl : l.length < 100000) (hg : ∀ p ∈ l, OkP A p)
    (hq : ∀ (f : En), FoL A [] l f → Q (.tup [.sl .frozen (paVs f), .int .i64 0]) h)
    (hno : ∀ (g : Nat), FailL [] l g → Q (.tup [.sl .frozen [], .int .i64 (codeOf g)]) h) : CallA ap 17 0 bs [.sl .frozen (prVs l)] h Q := by
  refine CallA.code (af := ac17) rfl (Nat.le_of_ble_eq_true rfl) ?_
  simp [ac17]
  have hcg : ∀ g : Nat, (codeOf g == 0) = false := fun g => by unfold codeOf; split <;> rfl
  obtain ⟨I, hI⟩ : ∃ I : Nat → St → Prop, ∀ n s, I n s ↔ (∃ (i : Nat), i ≤ l.length ∧ s.r 0 = .sl .frozen (prVs l) ∧ s.r 6 = .int .i64 i ∧ s.h = h ∧
    ((∃ (tg : Tag) (f : En), i + n = l.length ∧ FoL A [] (l.take i) f ∧ s.r 4 = .sl tg (paVs f) ∧ s.r 5 = .int .i64 0) ∨ ∃ g, FailL [] l g ∧ s.r 4 = .sl .frozen [] ∧ s.r 5 = .int .i64 (codeOf g))) := ⟨_, fun _ _ => Iff.rfl⟩
  refine loop_ind (CallA.hle ap) I ?_ (n := l.length) ((hI _ _).2 ⟨0, by omega, by simp, by simp, rfl, .inl ⟨.clip, [], by simp, by simpa using foL_nil (fit_nil hA), by simp [paVs], by simp⟩⟩)
  rintro n ⟨r, lo, h'⟩ hs
  obtain ⟨i, hle, r0, r6, rfl, hor⟩ := (hI _ _).1 hs
  simp only at r0 r6 hor
  rcases hor with ⟨tg, f, hin, hfo, r4, r5⟩ | ⟨g, hfail, r4, r5⟩
  · by_cases hi : i < l.length
    · have hii : (decide ((i : Int) < (l.length : Int))) = true := by simpa using hi
      have g1 : (prVs l)[i]? = some (prV l[i]) := by simp [prVs, hi]
      have hw : IntKind.wrap .i64 ((i : Int) + 1) = ((i + 1 : Nat) : Int) := by rw [wrap64 (by omega) (by omega)]; omega
      have htake : l.take (i + 1) = l.take i ++ [l[i]] := by rw [List.take_add_one]; simp [hi]
      have hdrop : l = l.take i ++ l[i] :: l.drop (i + 1) := by rw [← List.drop_eq_getElem_cons hi, List.take_append_drop]
      obtain ⟨ga, fa, gb, fb⟩ := hg _ (List.getElem_mem hi)
      generalize hp : l[i] = p at *
      simp [forget, noLoc, r0, r4, r5, r6, prs_length, hi, prs_get, hp, pr_cells, pr_fst', pr_snd, ty_agg, demote_ty, pas_demote]
      refine refUok hA hfo.fit ga fa gb fb _ _ _ (fun f2 hf2 => ?_) (fun g hn => ?_)
      · simp [r6, hw]
        refine ⟨n - 1, by omega, (hI _ _).2 ⟨i + 1, by omega, by simp [r0], by simp, rfl, .inl ⟨.frozen, f2, by omega, ?_, by simp, by simp⟩⟩⟩
        rw [htake]; exact hfo.snoc hf2
      · simp [r6, hw]
        exact ⟨n - 1, by omega, (hI _ _).2 ⟨i + 1, by omega, by simp [r0], by simp, rfl, .inr ⟨g, by rw [hdrop]; exact hfo.fail hn, by simp, by simp⟩⟩⟩
    · have hi' : i = l.length := by omega
      subst hi'
      rw [List.take_length] at hfo
      simp [forget, noLoc, r0, r4, r5, r6, prs_length, pas_demote, pas_under]
      exact hq f hfo
  · by_cases hi : i < l.length
    · simp [forget, noLoc, r0, r4, r5, r6, prs_length, hi, hcg g]
      exact hno g hfail
    · simp [forget, noLoc, r0, r4, r5, r6, prs_length, hi]
      exact hno g hfail

theorem isN (hq : Q (.bool true) h) : CallA ap 12 0 bs [.nili, .int .i64 0] h Q := by
  refine CallA.code (af := ac12) rfl (Nat.le_of_ble_eq_true rfl) ?_
  simp [ac12]
  refine CallA.code (af := ac40) rfl (Nat.le_of_ble_eq_true rfl) ?_
  simp [ac40, splice]
  refine CallA.code (af := ac39) rfl (Nat.le_of_ble_eq_true rfl) ?_
  simp [ac39]
  refine CallA.code (af := ac54) rfl (Nat.le_of_ble_eq_true rfl) ?_
  simp [ac54]
  refine CallA.code (af := ac49) rfl (Nat.le_of_ble_eq_true rfl) ?_
  simp [ac49, splice]
  refine CallA.code (af := ac53) rfl (Nat.le_of_ble_eq_true rfl) ?_
  simp [ac53]
  exact hq

/-- The reference's pairs for two types. -/
theorem refU11 {A : List Nam} (hA : A.length ≤ 1000) {a b : Ty} (ga : good A a) (fa : fine a = true) (gb : good A b) (fb : fine b = true)
    (hq : ∀ f : En, Fo A [] a b f → Q (.tup [.sl .frozen (paVs f), .int .i64 0]) h) (hno : ∀ g : Nat, Fail [] a b g → Q (.tup [.sl .frozen [], .int .i64 (codeOf g)]) h) : CallA ap 11 0 bs [tyV a, tyV b] h Q := by
  refine CallA.code (af := ac11) rfl (Nat.le_of_ble_eq_true rfl) ?_
  simp [ac11, ty_take, ty_agg, demote_ty]
  refine refUok hA (fit_nil hA) ga fa gb fb _ _ _ (fun f hf => ?_) (fun g hn => ?_)
  · simp [pas_demote, pas_under]
    exact hq f hf
  · simp
    exact hno g hn

end
end Go.Gt
