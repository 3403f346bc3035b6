/- What is made, and whether it is the same, on the abstract machine. -/
import Derived.Test.YtpknncihhgfpnaaAtN
import Derived.Test.YtpknncihhgfpnaaAtP3
namespace Go.At
open Go.Am Go.Proofs
set_option maxRecDepth 100000

section
variable {bs : List Nat} {h : List Ob} {Q : V → List Ob → Prop}

theorem texts44 (hq : Q (.bool true) h) : CallA ap 15 0 bs [.sl .frozen [], .sl .frozen []] h Q := by
  refine CallA.code (af := ac15) rfl (Nat.le_of_ble_eq_true rfl) ?_
  simp [ac15]
  refine wpA_loop (CallA.hle ap) ?_
  simp [forget, noLoc]
  exact hq

/-- Predicates. -/
def pV (p : List UInt8 × Ty) : V := prV p.1 p.2
def pVs (l : List (List UInt8 × Ty)) : List V := l.map pV

theorem pred59 (a b : List UInt8 × Ty) (ha : okT a.2 = true) (hb : okT b.2 = true) (hq : Q (.bool (a.1 == b.1 && beqT a.2 b.2)) h) : CallA ap 78 0 bs [pV a, pV b] h Q := by
  obtain ⟨c, k, s, l⟩ := a
  obtain ⟨c', k', s', l'⟩ := b
  refine CallA.code (af := ac78) rfl (Nat.le_of_ble_eq_true rfl) ?_
  have hty : tyV (.mk k s l) = .agg [.int .i64 k, .str s, .sl .frozen (tyVs l)] := by simp [tyV]
  have hty' : tyV (.mk k' s' l') = .agg [.int .i64 k', .str s', .sl .frozen (tyVs l')] := by simp [tyV]
  have hsame := sameOk ha hb
  simp only at hsame hq
  by_cases hc : c = c'
  · subst hc
    simp [ac78, pV, prV, tyV, demote_tys]
    rw [← hty, ← hty']
    refine hsame _ _ _ ?_
    simp
    simpa using hq
  · have : (c == c') = false := by simpa using hc
    simp [ac78, pV, prV, tyV, this]
    simpa [this] using hq

theorem pV_sel (p : List UInt8 × Ty) : sel (pV p).cells 0 (some 4) = some (pV p) := pr_sel _ _
theorem pV_cells (p : List UInt8 × Ty) : (pV p).cells.length = 4 := pr_cells _ _
theorem pV_take (p : List UInt8 × Ty) : (pV p).cells.take 4 = (pV p).cells := pr_take _ _
theorem pV_agg (p : List UInt8 × Ty) : V.agg (pV p).cells = pV p := pr_agg _ _
theorem pV_loc (p : List UInt8 × Ty) : (pV p).isLoc = false := rfl
theorem pV_demote (p : List UInt8 × Ty) : (pV p).demote = pV p := pr_demote _ _
theorem pVs_demote (l : List (List UInt8 × Ty)) : demoteL (pVs l) = pVs l := by
  rw [demoteL_eq]; simp [pVs, pV_demote]
theorem pV_under (m : Nat) (p : List UInt8 × Ty) : (pV p).under m = true := by
  obtain ⟨c, k, s, l⟩ := p
  simp [pV, prV, tyV, under_tys]
theorem pVs_under (m : Nat) (l : List (List UInt8 × Ty)) : underL m (pVs l) = true := by
  rw [underL_eq]; simp [pVs, pV_under]
theorem pVs_length (l : List (List UInt8 × Ty)) : (pVs l).length = l.length := by simp [pVs]

theorem preds45 (l m : List (List UInt8 × Ty)) (hl : l.length < 1000000) (ha : ∀ a ∈ l, okT a.2 = true) (hb : ∀ b ∈ m, okT b.2 = true) (hq : Q (.bool (beqPs l m)) h) :
    CallA ap 58 0 bs [.sl .frozen (pVs l), .sl .frozen (pVs m)] h Q := by
  refine CallA.code (af := ac58) rfl (Nat.le_of_ble_eq_true rfl) ?_
  by_cases hlen : l.length = m.length
  · simp [ac58, hlen, pVs_length]
    obtain ⟨I, hI⟩ : ∃ I : Nat → St → Prop, ∀ n s, I n s ↔ (∃ i : Nat, i + n = l.length ∧ beqPs (l.drop i) (m.drop i) = beqPs l m ∧ s.r 0 = .sl .frozen (pVs l) ∧ s.r 1 = .sl .frozen (pVs m) ∧ s.r 5 = .int .i64 i ∧ s.h = h) := ⟨_, fun _ _ => Iff.rfl⟩
    refine loop_ind (CallA.hle ap) I ?_ (n := l.length) ((hI _ _).2 ⟨0, by simp⟩)
    rintro n ⟨r, lo, h'⟩ hs
    obtain ⟨i, hi, hb', e0, e1, e5, rfl⟩ := (hI _ _).1 hs
    simp only at e0 e1 e5
    simp [forget, noLoc, e0, e5, pVs_length]
    refine condA_dec (fun h1 => ?_) fun h1 => ?_
    · have hi1 : i < l.length := by omega
      have hi2 : i < m.length := by omega
      have g1 : (pVs l)[i]? = some (pV l[i]) := by simp [pVs, hi1]
      have g2 : (pVs m)[i]? = some (pV m[i]) := by simp [pVs, hi2]
      have hw : IntKind.wrap .i64 ((i : Int) + 1) = (i : Int) + 1 := wrap64 (by omega) (by omega)
      simp [e0, e1, e5, g1, g2, pV_take, pV_agg, pV_cells, pV_loc, pV_demote]
      refine pred59 _ _ (ha _ (List.getElem_mem hi1)) (hb _ (List.getElem_mem hi2)) ?_
      rw [List.drop_eq_getElem_cons hi1, List.drop_eq_getElem_cons hi2] at hb'
      simp only [beqPs] at hb'
      cases hbe : (l[i].1 == m[i].1 && beqT l[i].2 m[i].2) with
      | true =>
        simp [e5, hw]
        exact ⟨n - 1, by omega, (hI _ _).2 ⟨i + 1, by omega, by rw [hbe] at hb'; simpa using hb', by simp [e0, e1]⟩⟩
      | false =>
        simp
        rw [hbe] at hb'
        simp at hb'
        rw [hb'] at hq
        exact hq
    · have hi1 : i = l.length := by omega
      simp
      subst hi1
      rw [List.drop_length, hlen, List.drop_length] at hb'
      simp [beqPs] at hb'
      rw [hb'] at hq
      exact hq
  · have : ((l.length : Int) != (m.length : Int)) = true := by simpa using fun e => hlen (by omega)
    simp [ac58, this, pVs_length]
    have hbf : beqPs l m = false := by
      cases hbe : beqPs l m with
      | false => rfl
      | true => exact absurd (congrArg List.length ((beqPs_iff l m).1 hbe)) hlen
    rw [hbf] at hq
    exact hq

theorem sames18 (l m : List (List UInt8 × Ty)) (t u : Ty) (hl : l.length < 1000000) (ha : ∀ a ∈ l, okT a.2 = true) (hb : ∀ b ∈ m, okT b.2 = true) (ht : okT t = true) (hu : okT u = true) (hq : Q (.bool (beqPs l m && beqT t u)) h) :
    CallA ap 26 0 bs [schV .frozen [] .frozen (pVs l) t, schV .frozen [] .frozen (pVs m) u] h Q := by
  obtain ⟨k, s, a⟩ := t
  obtain ⟨k', s', a'⟩ := u
  have hty : tyV (.mk k s a) = .agg [.int .i64 k, .str s, .sl .frozen (tyVs a)] := by simp [tyV]
  have hty' : tyV (.mk k' s' a') = .agg [.int .i64 k', .str s', .sl .frozen (tyVs a')] := by simp [tyV]
  have hsame := sameOk ht hu
  refine CallA.code (af := ac26) rfl (Nat.le_of_ble_eq_true rfl) ?_
  simp [ac26, schV, tyV]
  refine texts44 ?_
  simp [pVs_demote]
  refine preds45 l m hl ha hb ?_
  cases hbe : beqPs l m with
  | true =>
    rw [hbe] at hq
    simp [demote_tys]
    rw [← hty, ← hty']
    refine hsame _ _ _ ?_
    simp
    simpa using hq
  | false =>
    rw [hbe] at hq
    simp
    simpa using hq

/-- A predicate is made. -/
theorem pred56 (tg : Tag) (l : List Int) (p : Nat) (i : Int) (hi1 : 0 ≤ i) (hi2 : i < 900000) (hp : h[p]? = some (seqB tg l i))
    (hq : ∀ (x : List UInt8 × Ty) (j : Int), i ≤ j → j ≤ i + 2 → PrOk x → Q (pV x) (h.set p (seqB tg l j))) : CallA ap 75 0 bs [.ptr p 0, .int .i64 0] h Q := by
  refine CallA.code (af := ac75) rfl (Nat.le_of_ble_eq_true rfl) ?_
  have hpl : p < h.length := (List.getElem?_eq_some_iff.1 hp).1
  simp [ac75]
  refine next30 tg l i 4 p hp hi1 (by omega) (by omega) (by omega) fun n hn1 hn2 => ?_
  have hn : n = 0 ∨ n = 1 ∨ n = 2 ∨ n = 3 := by omega
  have all : ∀ (c : List UInt8) (t : Ty), (c = [69, 113] ∨ c = [79, 114, 100] ∨ c = [83, 104, 111, 119] ∨ c = [78, 117, 109]) → (∀ m, Made m t) → Q (prV c t) (h.set p (seqB tg l (i + 1 + 1))) :=
    fun c t hc ht => hq (c, t) _ (by omega) (by omega) ⟨hc, ht 0⟩
  rcases hn with rfl | rfl | rfl | rfl
  all_goals
    simp
    refine made_leaf tg l p 0 (i + 1) (by omega) (by omega) (by omega) (by simp [hpl]) fun t ht => ?_
    obtain ⟨k, s, a⟩ := t
    have := all _ _ (by first | exact .inl rfl | exact .inr (.inl rfl) | exact .inr (.inr (.inl rfl)) | exact .inr (.inr (.inr rfl))) ht
    simp [splice, demote_tys, under_tys, tyV]
    first
      | (simpa [List.take_of_length_le, prV, tyV] using all [69, 113] _ (by simp) ht; done)
      | (simpa [List.take_of_length_le, prV, tyV] using all [79, 114, 100] _ (by simp) ht; done)
      | (simpa [List.take_of_length_le, prV, tyV] using all [83, 104, 111, 119] _ (by simp) ht; done)
      | (simpa [List.take_of_length_le, prV, tyV] using all [78, 117, 109] _ (by simp) ht; done)

end
end Go.At
