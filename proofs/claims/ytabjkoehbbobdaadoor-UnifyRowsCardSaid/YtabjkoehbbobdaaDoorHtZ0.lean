/- All pairs are made one: on the abstract machine. -/
import Derived.Test.YtabjkoehbbobdaaDoorHtY9
namespace Go.Ht
open Go.Am Go.Proofs
set_option maxRecDepth 100000

theorem pr_fst' (p : Ty × Ty) : (prV p).cells.take 3 = (tyV p.1).cells := by rw [pr_c, List.take_left' (ty_cells p.1)]

theorem prs_get (l : List (Ty × Ty)) (i : Nat) (hi : i < (prVs l).length) : (prVs l)[i] = prV (l[i]'(by simpa [prs_length] using hi)) := by simp [prVs]

structure OkP (A : List Nam) (p : Ty × Ty) : Prop where
  ga : good A p.1
  fa : fine p.1 = true
  gb : good A p.2
  fb : fine p.2 = true

section
variable {bs : List Nat} {h : List Ob} {Q : V → List Ob → Prop}

theorem all16 {A : List Nam} (hA : A.length ≤ 1000) (l : List (Ty × Ty)) (hl : l.length < 100000) (hg : ∀ p ∈ l, OkP A p)
    (hq : ∀ (tl : List Ob) (o : Option Nat) (f : En), RepS (h ++ tl) o f → FoL A [] l f → Q (.tup [.agg [.map o], .nili]) (h ++ tl))
    (hno : ∀ (tl : List Ob) (g : Nat), FailL [] l g → Q (.tup [.agg [.map none], .sent g]) (h ++ tl)) : CallA ap 16 0 bs [.sl .frozen (prVs l)] h Q := by
  refine CallA.code (af := ac16) rfl (Nat.le_of_ble_eq_true rfl) ?_
  simp [ac16, splice, prs_length]
  obtain ⟨I, hI⟩ : ∃ I : Nat → St → Prop, ∀ n s, I n s ↔ (∃ (i : Nat) (tl : List Ob) (o : Option Nat) (f : En), i + n = l.length ∧ RepS (h ++ tl) o f ∧ FoL A [] (l.take i) f ∧ s.r 8 = .sl .frozen (prVs l) ∧ s.r 9 = .int .i64 l.length ∧ s.r 10 = .int .i64 i ∧
    s.r 2 = .loc 2 0 ∧ s.r 4 = .loc 4 0 ∧ s.l 2 = some [.map none] ∧ s.l 4 = some [.map o] ∧ s.h = h ++ tl) := ⟨_, fun _ _ => Iff.rfl⟩
  refine loop_ind (CallA.hle ap) I ?_ (n := l.length) ((hI _ _).2 ⟨0, [], none, [], by simp, .inl ⟨rfl, rfl⟩, by simpa using foL_nil (fit_nil hA), by simp⟩)
  rintro n ⟨r, lo, h'⟩ hs
  obtain ⟨i, tl, o, f, hin, hr, hfo, r8, r9, r10, r2, r4, l2, l4, rfl⟩ := (hI _ _).1 hs
  simp only at r8 r9 r10 r2 r4 l2 l4
  simp [forget, noLoc, locOf, r8, r9, r10, r2, r4]
  refine condA_dec (fun h1 => ?_) fun h1 => ?_
  · have hi : i < l.length := by omega
    have g1 : (prVs l)[i]? = some (prV l[i]) := by simp [prVs, hi]
    have hw : IntKind.wrap .i64 ((i : Int) + 1) = ((i + 1 : Nat) : Int) := by rw [wrap64 (by omega) (by omega)]; omega
    have htake : l.take (i + 1) = l.take i ++ [l[i]] := by rw [List.take_add_one]; simp [hi]
    have hdrop : l = l.take i ++ l[i] :: l.drop (i + 1) := by rw [← List.drop_eq_getElem_cons hi, List.take_append_drop]
    obtain ⟨ga, fa, gb, fb⟩ := hg _ (List.getElem_mem hi)
    generalize hp : l[i] = p at *
    simp [r8, r9, r10, r2, r4, l2, l4, g1, pr_sel, pr_cells, pr_take, pr_agg, pr_loc, pr_fst, pr_fst', pr_snd, ty_agg, demote_ty, splice]
    refine oneOk hfo.fit ga fa gb fb _ _ _ o hr (fun tl2 o2 f2 hr2 hf2 => ?_) (fun tl2 g hn => ?_)
    · simp [r8, r9, r10, r2, r4, l2, l4, hw, splice]
      refine ⟨n - 1, by omega, (hI _ _).2 ⟨i + 1, tl ++ tl2, o2, f2, by omega, by simpa using hr2, ?_, ?_⟩⟩
      · rw [htake]; exact hfo.snoc hf2
      · simp [r8, r9, r2, r4, l2, l4]
    · simp [r8, r9, r10, r2, r4, l2, l4, splice]
      have := hno (tl ++ tl2) g (by rw [hdrop]; exact hfo.fail hn)
      simpa using this
  · have hi : i = l.length := by omega
    subst hi
    simp [r8, r9, r10, r2, r4, l2, l4, splice]
    rw [List.take_length] at hfo
    exact hq tl o f hr hfo

end
end Go.Ht
