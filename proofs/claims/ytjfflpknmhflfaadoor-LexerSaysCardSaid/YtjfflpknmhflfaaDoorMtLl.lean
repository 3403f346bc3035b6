/- The reference's small functions of the lexer: on the abstract machine. -/
import Derived.Test.YtjfflpknmhflfaaDoorMtLg
namespace Go.Mt
open Go.Am Go.Proofs
set_option maxRecDepth 100000

def WORDS : List Bs := [[100, 97, 116, 97], [99, 108, 97, 115, 115], [105, 110, 115, 116, 97, 110, 99, 101], [119, 104, 101, 114, 101], [108, 101, 116], [105, 110], [99, 97, 115, 101], [111, 102], [105, 102], [116, 104, 101, 110], [101, 108, 115, 101], [100, 101, 114, 105, 118, 105, 110, 103]]

theorem contains_at {s u : Bs} : Lib.contains s u = true ↔ ∃ i, i ≤ s.length ∧ u <+: s.drop i := by
  simp only [Lib.contains, decide_eq_true_eq]
  rcases Lib.index_spec s u with ⟨h1, h2⟩ | ⟨i, h1, h2, h3, _⟩
  · rw [h1]
    refine ⟨fun h => absurd h (by decide), fun ⟨i, hi, hp⟩ => ?_⟩
    have := h2 i hi
    simp only [Lib.occAt] at this
    rw [List.isPrefixOf_iff_prefix.2 hp] at this
    cases this
  · rw [h1]
    exact ⟨fun _ => ⟨i, h2, List.isPrefixOf_iff_prefix.1 h3⟩, fun _ => by omega⟩

theorem res_all : ∀ i, i < 70 → (RES.drop i).head? = some 32 → (RES.drop (i + 1)).takeWhile (· != 32) = [] ∨ (RES.drop (i + 1)).takeWhile (· != 32) ∈ WORDS := by decide +kernel
theorem res_each : ∀ s ∈ WORDS, resB s = true := by decide +kernel

theorem res_words (s : Bs) : resB s = true ↔ s ∈ WORDS := by
  refine ⟨fun h => ?_, res_each s⟩
  simp only [resB, Bool.and_eq_true, bne_iff_ne, ne_eq, Bool.not_eq_true'] at h
  obtain ⟨⟨h0, h1⟩, h2⟩ := h
  obtain ⟨i, hi, t, ht⟩ := contains_at.1 h2
  have hn : ∀ x ∈ s, (x != 32) = true := fun x hx => by
    cases hb : (x != 32)
    · have : x = 32 := by simpa using hb
      subst this
      obtain ⟨a, c, rfl⟩ := List.append_of_mem hx
      have : Lib.contains (a ++ 32 :: c) [32] = true := contains_at.2 ⟨a.length, by simp, c, by simp⟩
      rw [this] at h1
      cases h1
    · rfl
  have hd : RES.drop i = 32 :: (s ++ 32 :: t) := by rw [← ht]; simp
  have hd1 : RES.drop (i + 1) = s ++ 32 :: t := by
    have := congrArg (List.drop 1) hd
    rw [List.drop_drop] at this
    simpa using this
  have := res_all i (Nat.lt_of_le_of_lt hi (by decide)) (by rw [hd]; rfl)
  have ht : (RES.drop (i + 1)).takeWhile (· != 32) = s := by
    rw [hd1, List.takeWhile_append_of_pos hn]; simp
  rw [ht] at this
  exact this.resolve_left h0

theorem dem_strs (l : List Bs) : demoteL (l.map V.str) = l.map V.str := by
  induction l <;> simp_all [demoteL, V.demote]

section
variable {bs : List Nat} {h : List Ob} {Q : V → List Ob → Prop}

theorem rsmall (c : UInt8) (hq : Q (.bool (isSm c)) h) : CallA ap 40 0 bs [.int .u8 c.toNat] h Q := by
  refine CallA.code (af := ac40) rfl (Nat.le_of_ble_eq_true rfl) ?_
  unfold isSm at hq
  by_cases h1 : 97 ≤ c.toNat <;> by_cases h2 : c.toNat ≤ 122 <;> by_cases h3 : c.toNat = 95 <;>
    (have g1 : (97 ≤ (c.toNat : Int)) = (97 ≤ c.toNat) := propext (by omega)
     have g2 : ((c.toNat : Int) ≤ 122) = (c.toNat ≤ 122) := propext (by omega)
     have g3 : ((c.toNat : Int) == 95) = (c.toNat == 95) := eqn c 95
     simp [ac40, g1, g2, g3, h1, h2, h3] at hq ⊢
     exact hq)

theorem rgreat (c : UInt8) (hq : Q (.bool (isGr c)) h) : CallA ap 41 0 bs [.int .u8 c.toNat] h Q := by
  refine CallA.code (af := ac41) rfl (Nat.le_of_ble_eq_true rfl) ?_
  unfold isGr at hq
  by_cases h1 : 65 ≤ c.toNat <;> by_cases h2 : c.toNat ≤ 90 <;>
    (have g1 : (65 ≤ (c.toNat : Int)) = (65 ≤ c.toNat) := propext (by omega)
     have g2 : ((c.toNat : Int) ≤ 90) = (c.toNat ≤ 90) := propext (by omega)
     simp [ac41, g1, g2, h1, h2] at hq ⊢
     exact hq)

theorem rdigit (c : UInt8) (hq : Q (.bool (isDg c)) h) : CallA ap 49 0 bs [.int .u8 c.toNat] h Q := by
  refine CallA.code (af := ac49) rfl (Nat.le_of_ble_eq_true rfl) ?_
  unfold isDg at hq
  by_cases h1 : 48 ≤ c.toNat <;> by_cases h2 : c.toNat ≤ 57 <;>
    (have g1 : (48 ≤ (c.toNat : Int)) = (48 ≤ c.toNat) := propext (by omega)
     have g2 : ((c.toNat : Int) ≤ 57) = (c.toNat ≤ 57) := propext (by omega)
     simp [ac49, g1, g2, h1, h2] at hq ⊢
     exact hq)

theorem rinner (c : UInt8) (hq : Q (.bool (goesB c)) h) : CallA ap 48 0 bs [.int .u8 c.toNat] h Q := by
  refine CallA.code (af := ac48) rfl (Nat.le_of_ble_eq_true rfl) ?_
  have g3 : ((c.toNat : Int) == 39) = (c.toNat == 39) := eqn c 39
  unfold goesB at hq
  simp [ac48]
  refine rsmall c ?_
  cases e1 : isSm c
  · simp
    refine rgreat c ?_
    cases e2 : isGr c
    · simp
      refine rdigit c ?_
      cases e3 : isDg c
      · simp [g3]
        simpa [e1, e2, e3] using hq
      · simp
        simpa [e1, e2, e3] using hq
    · simp
      simpa [e1, e2] using hq
  · simp
    simpa [e1] using hq

theorem rplace (l : List Bs) (s : Bs) (hl : l.length < 1000000) (hq : ∀ n : Int, (0 ≤ n ↔ s ∈ l) → Q (.int .i64 n) h) : CallA ap 62 0 bs [.sl .frozen (l.map .str), .str s] h Q := by
  refine CallA.code (af := ac62) rfl (Nat.le_of_ble_eq_true rfl) ?_
  simp [ac62]
  obtain ⟨I, hI⟩ : ∃ I : Nat → St → Prop, ∀ n σ, I n σ ↔ (∃ i : Nat, i + n = l.length ∧ (∀ j (hj : j < l.length), j < i → l[j] ≠ s) ∧ σ.r 0 = .sl .frozen (l.map .str) ∧ σ.r 1 = .str s ∧ σ.r 5 = .int .i64 i ∧ σ.h = h) := ⟨_, fun _ _ => Iff.rfl⟩
  refine loop_ind (CallA.hle ap) I ?_ (n := l.length) ((hI _ _).2 ⟨0, by simp⟩)
  rintro n ⟨r, lo, h'⟩ hst
  obtain ⟨i, hin, hno, r0, r1, r5, rfl⟩ := (hI _ _).1 hst
  simp only at r0 r1 r5
  simp [forget, noLoc, r0, r5]
  refine condA_dec (fun c1 => ?_) fun c1 => ?_
  · have hi : i < l.length := by omega
    have hw : IntKind.wrap .i64 ((i : Int) + 1) = ((i + 1 : Nat) : Int) := by rw [wrapn (by omega) (by omega)]; omega
    by_cases he : l[i] = s
    · have hb : (l[i] == s) = true := by simpa using he
      simp [r0, r1, r5, hi, hb]
      exact hq i ⟨fun _ => he ▸ List.getElem_mem hi, fun _ => by omega⟩
    · have hb : (l[i] == s) = false := by simpa using he
      simp [r0, r1, r5, hi, hb, hw]
      refine ⟨n - 1, by omega, (hI _ _).2 ⟨i + 1, by omega, fun j hj hji => ?_, by simp [r0, r1]⟩⟩
      by_cases hji' : j = i
      · subst hji'; exact he
      · exact hno j hj (by omega)
  · simp
    refine hq (-1) ⟨fun h => by omega, fun hm => ?_⟩
    obtain ⟨j, hj, e⟩ := List.getElem_of_mem hm
    exact absurd e (hno j hj (by omega))

theorem rhas (l : List Bs) (s : Bs) (hl : l.length < 1000000) (hq : ∀ b : Bool, (b = true ↔ s ∈ l) → Q (.bool b) h) : CallA ap 43 0 bs [.sl .frozen (l.map .str), .str s] h Q := by
  refine CallA.code (af := ac43) rfl (Nat.le_of_ble_eq_true rfl) ?_
  simp [ac43, dem_strs]
  refine rplace l s hl fun n hn => ?_
  simp
  exact hq _ (by simpa using hn)

theorem rres (s : Bs) (hq : Q (.bool (resB s)) h) : CallA ap 27 0 bs [.str s] h Q := by
  refine CallA.code (af := ac27) rfl (Nat.le_of_ble_eq_true rfl) ?_
  simp [ac27]
  refine CallA.code (af := ac45) rfl (Nat.le_of_ble_eq_true rfl) ?_
  simp [ac45]
  refine rhas WORDS s (by decide) fun b hb => ?_
  have : b = resB s := by
    rw [Bool.eq_iff_iff, hb, res_words]
  simp [this]
  exact hq

/-- Operators of one or two signs. -/
def opB (s : Bs) : Bool := OPS.contains s
theorem roper (s : Bs) (hq : Q (.bool (opB s)) h) : CallA ap 26 0 bs [.str s] h Q := by
  refine CallA.code (af := ac26) rfl (Nat.le_of_ble_eq_true rfl) ?_
  simp [ac26]
  refine CallA.code (af := ac44) rfl (Nat.le_of_ble_eq_true rfl) ?_
  simp [ac44]
  refine rhas OPS s (by decide) fun b hb => ?_
  have : b = opB s := by
    rw [Bool.eq_iff_iff, hb, opB, List.contains_iff_mem]
  simp [this]
  exact hq

/-- The reference's name of a text. -/
theorem rname (s : Bs) (f : Bool) (hs : s.length < 1000000) (hq : Q (.bool (nameB s && f)) h) : CallA ap 39 0 bs [.str s, .bool f] h Q := by
  refine CallA.code (af := ac39) rfl (Nat.le_of_ble_eq_true rfl) ?_
  unfold nameB at hq
  by_cases h0 : s.length < 1
  · have g1 : ((s.length : Int) < 1) = True := eq_true (by omega)
    have g0 : decide (0 < s.length) = false := decide_eq_false (by omega)
    simp [ac39, g1]
    simpa [g0] using hq
  by_cases h4 : 40 < s.length
  · have g1 : ((s.length : Int) < 1) = False := eq_false (by omega)
    have g2 : (40 < (s.length : Int)) = True := eq_true (by omega)
    have g0 : decide (s.length ≤ 40) = false := decide_eq_false (by omega)
    simp [ac39, g1, g2]
    simpa [g0] using hq
  have g1 : ((s.length : Int) < 1) = False := eq_false (by omega)
  have g2 : (40 < (s.length : Int)) = False := eq_false (by omega)
  have g3 : decide (0 < s.length) = true := decide_eq_true (by omega)
  have g4 : decide (s.length ≤ 40) = true := decide_eq_true (by omega)
  rw [g3, g4] at hq
  cases f
  · simp [ac39, g1, g2]
    simpa using hq
  simp [ac39, g1, g2]
  obtain ⟨I, hI⟩ : ∃ I : Nat → St → Prop, ∀ n σ, I n σ ↔ (∃ i : Nat, i + n = s.length ∧ (∀ j (hj : j < s.length), j < i → goesB s[j] = true) ∧ σ.r 0 = .str s ∧ σ.r 5 = .int .i64 i ∧ σ.h = h) := ⟨_, fun _ _ => Iff.rfl⟩
  refine loop_ind (CallA.hle ap) I ?_ (n := s.length) ((hI _ _).2 ⟨0, by simp⟩)
  rintro n ⟨r, lo, h'⟩ hst
  obtain ⟨i, hin, hp, r0, r5, rfl⟩ := (hI _ _).1 hst
  simp only at r0 r5
  by_cases hi : i < s.length
  · have hw : IntKind.wrap .i64 ((i : Int) + 1) = ((i + 1 : Nat) : Int) := by rw [wrapn (by omega) (by omega)]; omega
    simp [forget, noLoc, r0, r5, hi]
    refine rinner _ ?_
    cases e : goesB s[i]
    · simp
      have : s.all goesB = false := by
        rw [List.all_eq_false]
        exact ⟨s[i], List.getElem_mem hi, by simp [e]⟩
      rw [this] at hq
      exact hq
    · simp [r5, hw]
      refine ⟨n - 1, by omega, (hI _ _).2 ⟨i + 1, by omega, fun j hj hji => ?_, by simp [r0]⟩⟩
      by_cases hji' : j = i
      · subst hji'; exact e
      · exact hp j hj (by omega)
  · have hall : s.all goesB = true := by
      rw [List.all_eq_true]
      intro x hx
      obtain ⟨j, hj, rfl⟩ := List.getElem_of_mem hx
      exact hp j hj (by omega)
    rw [hall] at hq
    simp [forget, noLoc, r0, r5, hi]
    simpa using hq

theorem rlow (s : Bs) (hs : s.length < 1000000) (hq : Q (.bool (lowB s)) h) : CallA ap 23 0 bs [.str s] h Q := by
  refine CallA.code (af := ac23) rfl (Nat.le_of_ble_eq_true rfl) ?_
  unfold lowB at hq
  cases s with
  | nil =>
    simp [ac23]
    simpa [nameB] using hq
  | cons c r =>
    have g0 : (0 : Int) < (r.length : Int) + 1 := by omega
    simp [ac23, g0]
    refine rsmall c ?_
    simp
    refine rname (c :: r) _ hs ?_
    cases e : (nameB (c :: r) && isSm c)
    · simp
      have : (nameB (c :: r) && (c :: r).head?.any isSm) = false := by simpa using e
      rw [this] at hq
      simpa using hq
    · have : (nameB (c :: r) && (c :: r).head?.any isSm) = true := by simpa using e
      rw [this] at hq
      by_cases e3 : c :: r = [95]
      · have g3 : (c :: r == [95]) = true := by simpa using e3
        simp [g3]
        simpa [bne, g3] using hq
      · have g3 : (c :: r == [95]) = false := by simpa using e3
        simp [g3]
        refine rres (c :: r) ?_
        simp
        simpa [bne, g3] using hq

theorem rhigh (s : Bs) (hs : s.length < 1000000) (hq : Q (.bool (highB s)) h) : CallA ap 24 0 bs [.str s] h Q := by
  refine CallA.code (af := ac24) rfl (Nat.le_of_ble_eq_true rfl) ?_
  unfold highB at hq
  cases s with
  | nil =>
    simp [ac24]
    simpa [nameB] using hq
  | cons c r =>
    have g0 : (0 : Int) < (r.length : Int) + 1 := by omega
    simp [ac24, g0]
    refine rgreat c ?_
    simp
    refine rname (c :: r) _ hs ?_
    simp
    simpa using hq

end
end Go.Mt
