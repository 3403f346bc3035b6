/- The reference's word: on the abstract machine. -/
import Derived.Test.YtjfflpknmhflfaaDoorMtLm
namespace Go.Mt
open Go.Am Go.Proofs
set_option maxRecDepth 100000
set_option maxHeartbeats 2000000

def rwV : Wd → V
  | none => .tup [tokV 0 0 [] 0, .int .i64 0]
  | some (k, s, n) => .tup [tokV k 0 s n, .int .i64 s.length]

theorem words_short : ∀ s ∈ WORDS, s.length ≤ 40 := by decide
theorem words_low : ∀ s ∈ WORDS, s.head?.any isGr = false := by decide

theorem gr_not_sm {c : UInt8} (h : isGr c = true) : isSm c = false := by
  simp only [isGr, Bool.and_eq_true, decide_eq_true_eq] at h
  simp only [isSm, Bool.or_eq_false_iff, Bool.and_eq_false_iff, decide_eq_false_iff_not, beq_eq_false_iff_ne]
  exact ⟨.inl (by omega), by omega⟩

/-- The name ahead, as the reference has it. -/
theorem name_is (c : UInt8) (r : Bs) (hc : (isSm c || isGr c) = true) (s : Bs) (hs : s = (c :: r).take (whl goesB (c :: r))) :
    nameT (c :: r) = if 40 < s.length then none else some (if isGr c = true then 2 else if s = [95] ∨ resB s = true then 6 else 1, s, 0) := by
  have hg : goesB c = true := by
    simp only [Bool.or_eq_true] at hc
    rcases hc with hc | hc <;> simp [goesB, hc]
  have hall : s.all goesB = true := by
    rw [List.all_eq_true, hs]
    exact whl_all goesB (c :: r)
  obtain ⟨s', hs'⟩ : ∃ s', s = c :: s' := ⟨r.take (whl goesB r), by rw [hs]; simp [whl, hg]⟩
  have e : nameT (c :: r) = if s = [95] ∨ resB s = true then some (6, s, 0) else if lowB s = true then some (1, s, 0) else if highB s = true then some (2, s, 0) else none := by rw [hs]; rfl
  rw [e]
  by_cases h40 : 40 < s.length
  · rw [if_pos h40]
    have n1 : nameB s = false := by
      have : decide (s.length ≤ 40) = false := decide_eq_false (by omega)
      simp [nameB, this]
    have n2 : s ≠ [95] := by rintro rfl; simp at h40
    have n3 : ¬ resB s = true := fun h => by
      have := words_short s ((res_words s).1 h)
      omega
    rw [if_neg (fun h => h.elim n2 n3), if_neg (by simp [lowB, n1]), if_neg (by simp [highB, n1])]
  · rw [if_neg h40]
    have n1 : nameB s = true := by
      have h1 : decide (s.length ≤ 40) = true := decide_eq_true (by omega)
      have h2 : decide (0 < s.length) = true := decide_eq_true (by rw [hs']; simp)
      simp only [nameB, hall, h1, h2, Bool.and_self]
    by_cases hgr : isGr c = true
    · have n2 : s ≠ [95] := by
        rw [hs']
        intro h
        simp only [List.cons.injEq] at h
        rw [h.1] at hgr
        cases hgr
      have n3 : ¬ resB s = true := fun h => by
        have := words_low s ((res_words s).1 h)
        rw [hs'] at this
        simp [hgr] at this
      have n4 : ¬ lowB s = true := by
        have := gr_not_sm hgr
        rw [hs']
        simp [lowB, this]
      have n5 : highB s = true := by
        rw [highB, n1, hs']
        simpa using hgr
      rw [if_neg (fun h => h.elim n2 n3), if_neg n4, if_pos n5, if_pos hgr]
    · rw [if_neg hgr]
      by_cases h6 : s = [95] ∨ resB s = true
      · rw [if_pos h6, if_pos h6]
      · have hsm : isSm c = true := by simpa [hgr] using hc
        have n4 : lowB s = true := by
          have h2 : (s != [95]) = true := by simpa using fun h => h6 (.inl h)
          have h3 : resB s = false := by simpa using fun h => h6 (.inr h)
          simp only [lowB, n1, h2, h3, Bool.true_and, Bool.not_false, Bool.and_true]
          rw [hs']
          simpa using hsm
        rw [if_neg h6, if_neg h6, if_pos n4]

theorem digN_snoc : ∀ (l : Bs) (acc : Nat) (c : UInt8), digN acc (l ++ [c]) = digN acc l * 10 + (c.toNat - 48)
  | [], _, _ => rfl
  | d :: l, acc, c => digN_snoc l (acc * 10 + (d.toNat - 48)) c
theorem d00 : digN 0 [] = 0 := rfl
theorem wrap8 {n : Int} (h1 : 0 ≤ n) (h2 : n < 256) : IntKind.wrap .u8 n = n := by
  show (if (false && decide (n % 256 ≥ 128)) = true then n % 256 - 256 else n % 256) = n
  simp
  omega

section
variable {bs : List Nat} {h : List Ob} {Q : V → List Ob → Prop}

theorem rwordN (c : UInt8) (r : Bs) (e1 : (isSm c || isGr c) = true) (hb : (c :: r).length < 1000000) (hq : Q (rwV (wordT (c :: r))) h) : CallA ap 32 0 bs [.sl .frozen (bV (c :: r))] h Q := by
  refine CallA.code (af := ac32) rfl (Nat.le_of_ble_eq_true rfl) ?_
  have e0 : bV (c :: r) = .int .u8 c.toNat :: bV r := rfl
  simp [ac32, e0]
  refine rsmall c ?_
  have hword : wordT (c :: r) = nameT (c :: r) := by simp only [wordT, e1, if_true]
  rw [hword] at hq
  have hnm := name_is c r e1 _ rfl
  rw [← e0]
  generalize hB : c :: r = b at *
  have hne : 0 < b.length := by rw [← hB]; simp
  have hgo : goesB (b[0]'hne) = true := by
    simp only [← hB, List.getElem_cons_zero]
    simp only [Bool.or_eq_true] at e1
    rcases e1 with h | h <;> simp [goesB, h]
  cases e2 : isSm c
  · have e3 : isGr c = true := by simpa [e2] using e1
    simp
    refine rgreat c ?_
    rw [e3]
    simp
    obtain ⟨I, hI⟩ : ∃ I : Nat → St → Prop, ∀ n σ, I n σ ↔ (∃ i : Nat, i + n = b.length ∧ 1 ≤ i ∧ (∀ j (hj : j < b.length), j < i → goesB b[j] = true) ∧ σ.r 0 = .sl .frozen (bV b) ∧ σ.r 2 = .loc 2 0 ∧ σ.r 4 = .int .u8 c.toNat ∧ σ.r 5 = .int .i64 i ∧
      σ.l 2 = some [.int .i64 0, .int .i64 0, .str [], .int .i64 0] ∧ σ.h = h) := ⟨_, fun _ _ => Iff.rfl⟩
    refine loop_ind (CallA.hle ap) I ?_ (n := b.length - 1) ((hI _ _).2 ⟨1, by omega, by omega, fun j hj hji => by
      have : j = 0 := by omega
      subst this
      exact hgo, by simp, by simp, by simp, by simp, by simp, rfl⟩)
    rintro n ⟨r', lo, h'⟩ hst
    obtain ⟨i, hin, hi1, hp, r0, r2, r4, r5, l2, rfl⟩ := (hI _ _).1 hst
    simp only at r0 r2 r4 r5 l2
    have hile : i ≤ b.length := by omega
    by_cases hi : i < b.length ∧ (∀ h : i < b.length, goesB b[i] = true)
    · obtain ⟨hi, e⟩ := hi
      replace e := e hi
      have hw : IntKind.wrap .i64 ((i : Int) + 1) = ((i + 1 : Nat) : Int) := by rw [wrapn (by omega) (by omega)]; omega
      simp [forget, noLoc, locOf, r0, r5, bV_len, bV_at, hi]
      refine rinner _ ?_
      rw [e]
      simp [r5, hw]
      refine ⟨n - 1, by omega, (hI _ _).2 ⟨i + 1, by omega, by omega, fun j hj hji => ?_, by simp [r0], by simp [r2], by simp [r4], by simp, by simp [l2], rfl⟩⟩
      by_cases hji' : j = i
      · subst hji'; exact e
      · exact hp j hj (by omega)
    · have hwl : whl goesB b = i := whl_is b i hp hile fun h => by
        cases e : goesB b[i]
        · rfl
        · exact absurd ⟨h, fun _ => e⟩ hi
      rw [hnm, hwl] at hq
      have hsl : (b.take i).length = i := by simp; omega
      generalize hs : b.take i = s at hq hsl
      by_cases hi' : i < b.length
      · have e : goesB b[i] = false := by
          cases e : goesB b[i]
          · rfl
          · exact absurd ⟨hi', fun _ => e⟩ hi
        simp [forget, noLoc, locOf, r0, r5, bV_len, bV_at, hi']
        refine rinner _ ?_
        rw [e]
        simp [r0, r4, r5, sliceV, bnd, bV_len, hile, bV_take, bV_text, convV, hs]
        refine rgreat c ?_
        rw [e3] at hq ⊢
        by_cases h40 : 40 < s.length
        · have g40 : (40 : Int) < i := by omega
          rw [if_pos h40] at hq
          simp [r2, r5, l2, g40, splice]
          simpa [rwV, tokV] using hq
        · have g40 : ¬ (40 : Int) < i := by omega
          rw [if_neg h40] at hq
          simp [r2, r5, l2, g40, splice]
          simpa [rwV, tokV, hsl] using hq
      · simp [forget, noLoc, locOf, r0, r5, bV_len, hi']
        simp [r4, sliceV, bnd, bV_len, hile, bV_take, bV_text, convV, hs]
        refine rgreat c ?_
        rw [e3] at hq ⊢
        by_cases h40 : 40 < s.length
        · have g40 : (40 : Int) < i := by omega
          rw [if_pos h40] at hq
          simp [r2, r5, l2, g40, splice]
          simpa [rwV, tokV] using hq
        · have g40 : ¬ (40 : Int) < i := by omega
          rw [if_neg h40] at hq
          simp [r2, r5, l2, g40, splice]
          simpa [rwV, tokV, hsl] using hq
  · simp
    obtain ⟨I, hI⟩ : ∃ I : Nat → St → Prop, ∀ n σ, I n σ ↔ (∃ i : Nat, i + n = b.length ∧ 1 ≤ i ∧ (∀ j (hj : j < b.length), j < i → goesB b[j] = true) ∧ σ.r 0 = .sl .frozen (bV b) ∧ σ.r 2 = .loc 2 0 ∧ σ.r 4 = .int .u8 c.toNat ∧ σ.r 5 = .int .i64 i ∧
      σ.l 2 = some [.int .i64 0, .int .i64 0, .str [], .int .i64 0] ∧ σ.h = h) := ⟨_, fun _ _ => Iff.rfl⟩
    refine loop_ind (CallA.hle ap) I ?_ (n := b.length - 1) ((hI _ _).2 ⟨1, by omega, by omega, fun j hj hji => by
      have : j = 0 := by omega
      subst this
      exact hgo, by simp, by simp, by simp, by simp, by simp, rfl⟩)
    rintro n ⟨r', lo, h'⟩ hst
    obtain ⟨i, hin, hi1, hp, r0, r2, r4, r5, l2, rfl⟩ := (hI _ _).1 hst
    simp only at r0 r2 r4 r5 l2
    have hile : i ≤ b.length := by omega
    by_cases hi : i < b.length ∧ (∀ h : i < b.length, goesB b[i] = true)
    · obtain ⟨hi, e⟩ := hi
      replace e := e hi
      have hw : IntKind.wrap .i64 ((i : Int) + 1) = ((i + 1 : Nat) : Int) := by rw [wrapn (by omega) (by omega)]; omega
      simp [forget, noLoc, locOf, r0, r5, bV_len, bV_at, hi]
      refine rinner _ ?_
      rw [e]
      simp [r5, hw]
      refine ⟨n - 1, by omega, (hI _ _).2 ⟨i + 1, by omega, by omega, fun j hj hji => ?_, by simp [r0], by simp [r2], by simp [r4], by simp, by simp [l2], rfl⟩⟩
      by_cases hji' : j = i
      · subst hji'; exact e
      · exact hp j hj (by omega)
    · have hwl : whl goesB b = i := whl_is b i hp hile fun h => by
        cases e : goesB b[i]
        · rfl
        · exact absurd ⟨h, fun _ => e⟩ hi
      rw [hnm, hwl] at hq
      have hsl : (b.take i).length = i := by simp; omega
      generalize hs : b.take i = s at hq hsl
      by_cases hi' : i < b.length
      · have e : goesB b[i] = false := by
          cases e : goesB b[i]
          · rfl
          · exact absurd ⟨hi', fun _ => e⟩ hi
        simp [forget, noLoc, locOf, r0, r5, bV_len, bV_at, hi']
        refine rinner _ ?_
        rw [e]
        simp [r0, r4, r5, sliceV, bnd, bV_len, hile, bV_take, bV_text, convV, hs]
        refine rgreat c ?_
        have e3 : isGr c = false := by
          cases h : isGr c
          · rfl
          · rw [gr_not_sm h] at e2; cases e2
        rw [e3] at hq ⊢
        by_cases h95 : s = [95]
        · have h95' : (s == [95]) = true := by simpa using h95
          have g40 : ¬ (40 : Int) < i := by rw [← hsl, h95]; decide
          have g41 : ¬ 40 < s.length := by rw [h95]; decide
          rw [if_neg g41] at hq
          simp [r2, r5, l2, g40, splice, h95]
          simpa [rwV, tokV, h95, ← hsl] using hq
        · have h95' : (s == [95]) = false := by simpa using h95
          simp [h95']
          refine rres s ?_
          by_cases h40 : 40 < s.length
          · have g40 : (40 : Int) < i := by omega
            rw [if_pos h40] at hq
            cases e6 : resB s <;> simp [r2, r5, l2, g40, splice] <;> simpa [rwV, tokV] using hq
          · have g40 : ¬ (40 : Int) < i := by omega
            rw [if_neg h40] at hq
            cases e6 : resB s <;> simp [r2, r5, l2, g40, splice] <;> simpa [rwV, tokV, h95, e6, hsl] using hq
      · simp [forget, noLoc, locOf, r0, r5, bV_len, hi']
        simp [r4, sliceV, bnd, bV_len, hile, bV_take, bV_text, convV, hs]
        refine rgreat c ?_
        have e3 : isGr c = false := by
          cases h : isGr c
          · rfl
          · rw [gr_not_sm h] at e2; cases e2
        rw [e3] at hq ⊢
        by_cases h95 : s = [95]
        · have h95' : (s == [95]) = true := by simpa using h95
          have g40 : ¬ (40 : Int) < i := by rw [← hsl, h95]; decide
          have g41 : ¬ 40 < s.length := by rw [h95]; decide
          rw [if_neg g41] at hq
          simp [r2, r5, l2, g40, splice, h95]
          simpa [rwV, tokV, h95, ← hsl] using hq
        · have h95' : (s == [95]) = false := by simpa using h95
          simp [h95']
          refine rres s ?_
          by_cases h40 : 40 < s.length
          · have g40 : (40 : Int) < i := by omega
            rw [if_pos h40] at hq
            cases e6 : resB s <;> simp [r2, r5, l2, g40, splice] <;> simpa [rwV, tokV] using hq
          · have g40 : ¬ (40 : Int) < i := by omega
            rw [if_neg h40] at hq
            cases e6 : resB s <;> simp [r2, r5, l2, g40, splice] <;> simpa [rwV, tokV, h95, e6, hsl] using hq

theorem rwordD (c : UInt8) (r : Bs) (e1 : (isSm c || isGr c) = false) (ed : isDg c = true) (hb : (c :: r).length < 1000000) (hq : Q (rwV (wordT (c :: r))) h) : CallA ap 32 0 bs [.sl .frozen (bV (c :: r))] h Q := by
  refine CallA.code (af := ac32) rfl (Nat.le_of_ble_eq_true rfl) ?_
  have e0 : bV (c :: r) = .int .u8 c.toNat :: bV r := rfl
  simp [ac32, e0]
  refine rsmall c ?_
  obtain ⟨e2, e3⟩ := Bool.or_eq_false_iff.1 e1
  rw [e2]
  simp
  refine rgreat c ?_
  rw [e3]
  simp
  refine rdigit c ?_
  rw [ed]
  have hword : wordT (c :: r) = numT (c :: r) := by simp only [wordT, e1, ed, if_true, if_false, Bool.false_eq_true]
  rw [hword] at hq
  have hnm : numT (c :: r) = if 15 < ((c :: r).take (whl isDg (c :: r))).length then (none : Wd) else some ((3 : Int), (c :: r).take (whl isDg (c :: r)), ((digN 0 ((c :: r).take (whl isDg (c :: r))) : Nat) : Int)) := by unfold numT; rfl
  have hda := digB_of _ (whl_all isDg (c :: r))
  rw [← e0]
  generalize hB : c :: r = b at *
  have hne : 0 < b.length := by rw [← hB]; simp
  have hgo : isDg (b[0]'hne) = true := by
    simp only [← hB, List.getElem_cons_zero]
    exact ed
  simp
  obtain ⟨I, hI⟩ : ∃ I : Nat → St → Prop, ∀ n σ, I n σ ↔ (∃ i : Nat, i + n = b.length ∧ 1 ≤ i ∧ (∀ j (hj : j < b.length), j < i → isDg b[j] = true) ∧ σ.r 0 = .sl .frozen (bV b) ∧ σ.r 2 = .loc 2 0 ∧ σ.r 5 = .int .i64 i ∧
    σ.l 2 = some [.int .i64 0, .int .i64 0, .str [], .int .i64 0] ∧ σ.h = h) := ⟨_, fun _ _ => Iff.rfl⟩
  refine loop_ind (CallA.hle ap) I ?_ (n := b.length - 1) ((hI _ _).2 ⟨1, by omega, by omega, fun j hj hji => by
    have : j = 0 := by omega
    subst this
    exact hgo, by simp, by simp, by simp, by simp, rfl⟩)
  rintro n ⟨r', lo, h'⟩ hst
  obtain ⟨i, hin, hi1, hp, r0, r2, r5, l2, rfl⟩ := (hI _ _).1 hst
  simp only at r0 r2 r5 l2
  have hile : i ≤ b.length := by omega
  by_cases hi : i < b.length ∧ (∀ h : i < b.length, isDg b[i] = true)
  · obtain ⟨hi, e⟩ := hi
    replace e := e hi
    have hw : IntKind.wrap .i64 ((i : Int) + 1) = ((i + 1 : Nat) : Int) := by rw [wrapn (by omega) (by omega)]; omega
    simp [forget, noLoc, locOf, r0, r5, bV_len, bV_at, hi]
    refine rdigit _ ?_
    rw [e]
    simp [r5, hw]
    refine ⟨n - 1, by omega, (hI _ _).2 ⟨i + 1, by omega, by omega, fun j hj hji => ?_, by simp [r0], by simp [r2], by simp, by simp [l2], rfl⟩⟩
    by_cases hji' : j = i
    · subst hji'; exact e
    · exact hp j hj (by omega)
  · have hwl : whl isDg b = i := whl_is b i hp hile fun h => by
      cases e : isDg b[i]
      · rfl
      · exact absurd ⟨h, fun _ => e⟩ hi
    rw [hnm, hwl] at hq
    rw [hwl] at hda
    have hsl : (b.take i).length = i := by simp; omega
    have hsi : ∀ k, k < i → ∀ (hk : k < b.length), (b.take i).take (k + 1) = (b.take i).take k ++ [b[k]] := fun k hk hkb => by
      rw [List.take_take, List.take_take, Nat.min_eq_left (by omega), Nat.min_eq_left (by omega), List.take_succ_eq_append_getElem hkb]
    have hdt : ∀ k, k ≤ i → digB ((b.take i).take k) = true := fun k hk => by
      rw [List.take_take, Nat.min_eq_left hk]
      exact digB_of _ fun x hx => by
        obtain ⟨j, hj, rfl⟩ := List.getElem_of_mem hx
        simp at hj
        rw [List.getElem_take]
        exact hp j _ (by omega)
    generalize hs : b.take i = s at hq hsl hda hsi hdt
    by_cases hi' : i < b.length
    case' pos =>
      have e : isDg b[i] = false := by
        cases e : isDg b[i]
        · rfl
        · exact absurd ⟨hi', fun _ => e⟩ hi
      simp [forget, noLoc, locOf, r0, r5, bV_len, bV_at, hi']
      refine rdigit _ ?_
      rw [e]
    case' neg =>
      simp [forget, noLoc, locOf, r0, r5, bV_len, hi']
    all_goals
      by_cases h15 : 15 < s.length
      · have g15 : (15 : Int) < i := by omega
        rw [if_pos h15] at hq
        simp [r2, r5, l2, g15, splice]
        simpa [rwV, tokV] using hq
      · have g15 : ¬ (15 : Int) < i := by omega
        rw [if_neg h15] at hq
        simp [r5, g15]
        obtain ⟨J, hJ⟩ : ∃ J : Nat → St → Prop, ∀ n σ, J n σ ↔ (∃ k : Nat, k + n = i ∧ σ.r 0 = .sl .frozen (bV b) ∧ σ.r 2 = .loc 2 0 ∧ σ.r 5 = .int .i64 i ∧ σ.r 8 = .int .i64 (digN 0 (s.take k) : Nat) ∧ σ.r 9 = .int .i64 k ∧
          σ.l 2 = some [.int .i64 0, .int .i64 0, .str [], .int .i64 0] ∧ σ.h = h') := ⟨_, fun _ _ => Iff.rfl⟩
        refine loop_ind (CallA.hle ap) J ?_ (n := i) ((hJ _ _).2 ⟨0, by simp, by simp [r0], by simp [r2], by simp [r5], by simp [d00], by simp, by simp [l2], rfl⟩)
        clear hst r0 r2 r5 l2
        rintro n ⟨r', lo, h''⟩ hst
        obtain ⟨k, hkn, r0, r2, r5, r8, r9, l2, rfl⟩ := (hJ _ _).1 hst
        simp only at r0 r2 r5 r8 r9 l2
        by_cases hk : k < i
        · have hkb : k < b.length := by omega
          have hw : IntKind.wrap .i64 ((k : Int) + 1) = ((k + 1 : Nat) : Int) := by rw [wrapn (by omega) (by omega)]; omega
          have hd := hp k hkb hk
          simp only [isDg, Bool.and_eq_true, decide_eq_true_eq] at hd
          have h8 : IntKind.wrap .u8 ((b[k].toNat : Int) - 48) = (b[k].toNat : Int) - 48 := wrap8 (by omega) (by omega)
          have h64 : IntKind.wrap .i64 ((b[k].toNat : Int) - 48) = (b[k].toNat : Int) - 48 := wrapn (by omega) (by omega)
          have hlt := digN_lt (s.take k) 0 (hdt k (by omega))
          have hpw : 10 ^ (s.take k).length ≤ 10 ^ 15 := Nat.pow_le_pow_right (by decide) (by simp; omega)
          have hb15 : digN 0 (s.take k) < 1000000000000000 := by
            have : (10 : Nat) ^ 15 = 1000000000000000 := by decide
            omega
          have hnx : digN 0 (s.take (k + 1)) = digN 0 (s.take k) * 10 + (b[k].toNat - 48) := by rw [hsi k hk hkb, digN_snoc]
          generalize digN 0 (s.take k) = v at r8 hb15 hnx
          have hm : IntKind.wrap .i64 (10 * (v : Int)) = 10 * (v : Int) := wrapn (by omega) (by omega)
          have ha : IntKind.wrap .i64 (10 * (v : Int) + ((b[k].toNat : Int) - 48)) = ((v * 10 + (b[k].toNat - 48) : Nat) : Int) := by rw [wrapn (by omega) (by omega)]; omega
          simp [forget, noLoc, locOf, r0, r5, r8, r9, bV_len, bV_at, hk, hkb, h8, h64, hm, ha, hw]
          refine ⟨n - 1, by omega, (hJ _ _).2 ⟨k + 1, by omega, by simp [r0], by simp [r2], by simp [r5], by rw [hnx]; simp, by simp, by simp [l2], rfl⟩⟩
        · have hki : k = i := by omega
          have hts : s.take k = s := List.take_of_length_le (by omega)
          rw [hts] at r8
          simp [forget, noLoc, locOf, r0, r2, r5, r8, r9, l2, hk, sliceV, bnd, bV_len, hile, bV_take, bV_text, convV, hs, splice]
          simpa [rwV, tokV, hsl] using hq

theorem let_is : ∀ (b : Bs), letT b = none ∨ ∃ k n, letT b = some (4, b.take k, n) ∧ 0 < k ∧ k ≤ b.length
  | [] => .inl rfl
  | [_] => .inl rfl
  | [_, _] => .inl rfl
  | c0 :: c1 :: c2 :: r => by
    simp only [letT]
    split
    · exact .inr ⟨3, _, rfl, by decide, by simp⟩
    · cases r with
      | nil => exact .inl rfl
      | cons c3 r =>
        simp only [let2]
        split
        · split
          · exact .inr ⟨4, _, rfl, by decide, by simp⟩
          · split
            · exact .inr ⟨4, _, rfl, by decide, by simp⟩
            · exact .inl rfl
        · exact .inl rfl

theorem rwordL (c : UInt8) (r : Bs) (e1 : (isSm c || isGr c) = false) (ed : isDg c = false) (e39 : c.toNat = 39) (hb : (c :: r).length < 1000000) (hq : Q (rwV (wordT (c :: r))) h) : CallA ap 32 0 bs [.sl .frozen (bV (c :: r))] h Q := by
  refine CallA.code (af := ac32) rfl (Nat.le_of_ble_eq_true rfl) ?_
  have e0 : bV (c :: r) = .int .u8 c.toNat :: bV r := rfl
  have hd0 := bV_dem (c :: r)
  have hword : wordT (c :: r) = letT (c :: r) := by simp only [wordT, e1, ed, e39, if_true, if_false, Bool.false_eq_true]
  rw [hword] at hq
  have g39 : ((c.toNat : Int) == 39) = true := by rw [e39]; rfl
  simp [ac32, e0]
  refine rsmall c ?_
  obtain ⟨e2, e3⟩ := Bool.or_eq_false_iff.1 e1
  rw [e2]
  simp
  refine rgreat c ?_
  rw [e3]
  simp
  refine rdigit c ?_
  rw [ed]
  rw [← e0]
  generalize hB : c :: r = b at *
  simp [g39, hd0]
  refine rletter b hb ?_
  rcases let_is b with hl | ⟨k, n, hl, hk0, hkb⟩
  · rw [hl] at hq ⊢
    simp [ltV, splice]
    simpa [rwV, tokV] using hq
  · rw [hl] at hq ⊢
    have hlen : (b.take k).length = k := by simp; omega
    have hk1 : ((k : Int) == 0) = false := beq_false_of_ne (by omega)
    have hmin : min k b.length = k := by omega
    simp [ltV, hmin, hk1, sliceV, bnd, bV_len, hkb, bV_take, bV_text, convV, splice]
    simpa [rwV, tokV, hmin] using hq

end
end Go.Mt
