/- Types are made; whether two are the same: on the abstract machine. -/
import Derived.Test.YthebkhieedogdaaVtMd
import Derived.Test.YthebkhieedogdaaAmL
namespace Go.Vt
open Go.Am Go.Proofs
set_option maxRecDepth 100000

/- Are they the same? -/
mutual
def beqT : Ty → Ty → Bool
  | .mk k n l, .mk k' n' l' => (k == k') && ((n == n') && beqTs l l')
def beqTs : List Ty → List Ty → Bool
  | [], [] => true
  | a :: l, b :: m => beqT a b && beqTs l m
  | [], _ :: _ => false
  | _ :: _, [] => false
end

mutual
theorem beqT_iff : ∀ a b : Ty, beqT a b = true ↔ a = b
  | .mk k n l, .mk k' n' l' => by simp [beqT, beqTs_iff l l']
theorem beqTs_iff : ∀ a b : List Ty, beqTs a b = true ↔ a = b
  | [], [] => by simp [beqTs]
  | a :: l, b :: m => by simp [beqTs, beqT_iff a b, beqTs_iff l m]
  | [], _ :: _ => by simp [beqTs]
  | _ :: _, [] => by simp [beqTs]
end

section
variable {bs : List Nat} {h : List Ob} {Q : V → List Ob → Prop}

theorem made_leaf (tg : Tag) (l : List Int) (p : Nat) (deep i : Int) (hd : deep < 1) (hi1 : 0 ≤ i) (hi2 : i < 1000000) (hp : h[p]? = some (seqB tg l i))
    (hq : ∀ (t : Ty), (∀ m, Made m t) → Q (tyV t) (h.set p (seqB tg l (i + 1)))) : CallA ap 6 0 bs [.ptr p 0, .int .i64 deep] h Q := by
  refine CallA.code (af := ac6) rfl (Nat.le_of_ble_eq_true rfl) ?_
  have hpl : p < h.length := (List.getElem?_eq_some_iff.1 hp).1
  simp [ac6]
  refine next30 tg l i 9 p hp hi1 (by omega) (by omega) (by omega) fun n hn1 hn2 => ?_
  have va := hq _ Made.va
  have vb := hq _ Made.vb
  have vc := hq _ Made.vc
  have ci := hq _ Made.int
  have cb := hq _ Made.bool
  simp only [tyV, tyVs] at va vb vc ci cb
  have hn : n = 0 ∨ n = 1 ∨ n = 2 ∨ n = 3 ∨ n = 4 ∨ n = 5 ∨ n = 6 ∨ n = 7 ∨ n = 8 := by omega
  rcases hn with rfl | rfl | rfl | rfl | rfl | rfl | rfl | rfl | rfl <;> simp [hd] <;> first
    | (refine var31 _ ?_
       simp [splice]
       first
        | simpa [List.take_of_length_le] using va
        | simpa [List.take_of_length_le] using vb
        | simpa [List.take_of_length_le] using vc)
    | (refine con32 _ [] .clip ?_
       simp [splice, demote_ty, under_ty, ty_take, ty_agg, tyV, tyVs]
       first
        | simpa [List.take_of_length_le] using ci
        | simpa [List.take_of_length_le] using cb)

theorem made10 (tg : Tag) (l : List Int) (p : Nat) : ∀ (m : Nat) (deep i : Int) (bs : List Nat) (h : List Ob) (Q : V → List Ob → Prop), -1 ≤ deep → deep ≤ m → m ≤ 10 → 0 ≤ i → i + 2 ^ (m + 1) < 1000000 → h[p]? = some (seqB tg l i) →
    (∀ (t : Ty) (j : Int), i ≤ j → j + 1 ≤ i + 2 ^ (m + 1) → Made m t → Q (tyV t) (h.set p (seqB tg l j))) → CallA ap 6 0 bs [.ptr p 0, .int .i64 deep] h Q := by
  intro m
  induction m with
  | zero =>
    intro deep i bs h Q hd1 hd2 hm hi1 hi2 hp hq
    exact made_leaf tg l p deep i (by omega) hi1 (by omega) hp fun t ht => hq t _ (by omega) (by omega) (ht _)
  | succ m ih =>
    intro deep i bs h Q hd1 hd2 hm hi1 hi2 hp hq
    have hpow : (2 : Int) ^ (m + 1 + 1) = 2 * 2 ^ (m + 1) := by rw [Int.pow_succ]; omega
    have hpos : (1 : Int) ≤ 2 ^ (m + 1) := by
      have : (0 : Int) < 2 ^ (m + 1) := Int.pow_pos (by omega)
      omega
    by_cases hd : deep < 1
    · exact made_leaf tg l p deep i hd hi1 (by omega) hp fun t ht => hq t _ (by omega) (by omega) (ht _)
    refine CallA.code (af := ac6) rfl (Nat.le_of_ble_eq_true rfl) ?_
    have hpl : p < h.length := (List.getElem?_eq_some_iff.1 hp).1
    simp [ac6]
    refine next30 tg l i 9 p hp hi1 (by omega) (by omega) (by omega) fun n hn1 hn2 => ?_
    have va := hq _ (i + 1) (by omega) (by omega) (Made.va _)
    have vb := hq _ (i + 1) (by omega) (by omega) (Made.vb _)
    have vc := hq _ (i + 1) (by omega) (by omega) (Made.vc _)
    have ci := hq _ (i + 1) (by omega) (by omega) (Made.int _)
    have cb := hq _ (i + 1) (by omega) (by omega) (Made.bool _)
    simp only [tyV, tyVs] at va vb vc ci cb
    have hw : IntKind.wrap .i64 (deep - 1) = deep - 1 := wrap64 (by omega) (by omega)
    have hn : n = 0 ∨ n = 1 ∨ n = 2 ∨ n = 3 ∨ n = 4 ∨ n = 5 ∨ n = 6 ∨ n = 7 ∨ n = 8 := by omega
    rcases hn with rfl | rfl | rfl | rfl | rfl | rfl | rfl | rfl | rfl <;> simp [hd, hw] <;> first
      | (refine var31 _ ?_
         simp [splice]
         first
          | simpa [List.take_of_length_le] using va
          | simpa [List.take_of_length_le] using vb
          | simpa [List.take_of_length_le] using vc)
      | (refine con32 _ [] .clip ?_
         simp [splice, demote_ty, under_ty, ty_take, ty_agg, tyV, tyVs]
         first
          | simpa [List.take_of_length_le] using ci
          | simpa [List.take_of_length_le] using cb)
      | skip
    · refine ih (deep - 1) (i + 1) _ _ _ (by omega) (by omega) (by omega) (by omega) (by omega) (by simp [hpl]) fun t j hj1 hj2 ht => ?_
      simp [demote_ty, under_ty, ty_take, ty_agg]
      refine con32 _ [t] .clip ?_
      simp [splice, demote_ty, under_ty, ty_take, ty_agg]
      simpa [List.take_of_length_le] using hq (.mk 2 _ [t]) j (by omega) (by omega) (.list _ _ ht)
    · refine ih (deep - 1) (i + 1) _ _ _ (by omega) (by omega) (by omega) (by omega) (by omega) (by simp [hpl]) fun t j hj1 hj2 ht => ?_
      simp [splice, demote_ty, under_ty, ty_take, ty_agg, hw]
      refine ih (deep - 1) j _ _ _ (by omega) (by omega) (by omega) (by omega) (by omega) (by simp [hpl]) fun u k hk1 hk2 hu => ?_
      simp [splice, demote_ty, under_ty, ty_take, ty_agg, hw]
      refine con32 _ [t, u] .clip ?_
      simp [splice, demote_ty, under_ty, ty_take, ty_agg]
      simpa [List.take_of_length_le] using hq (.mk 2 _ [t, u]) k (by omega) (by omega) (.pair _ _ _ ht hu)
    all_goals
      refine ih (deep - 1) (i + 1) _ _ _ (by omega) (by omega) (by omega) (by omega) (by omega) (by simp [hpl]) fun t j hj1 hj2 ht => ?_
      simp [splice, demote_ty, under_ty, ty_take, ty_agg, hw]
      refine ih (deep - 1) j _ _ _ (by omega) (by omega) (by omega) (by omega) (by omega) (by simp [hpl]) fun u k hk1 hk2 hu => ?_
      simp [splice, demote_ty, under_ty, ty_take, ty_agg, hw]
      refine fun33 t u ?_
      simp [splice, demote_ty, under_ty, ty_take, ty_agg]
      simpa [List.take_of_length_le] using hq (.mk 3 _ [t, u]) k (by omega) (by omega) (.fn _ _ _ ht hu)

/-- What tells whether two types are the same. -/
def SameC (a b : Ty) : Prop := ∀ (bs : List Nat) (h : List Ob) (Q : V → List Ob → Prop), Q (.bool (beqT a b)) h → CallA ap 20 0 bs [tyV a, tyV b] h Q

theorem sames42 (l m : List Ty) (hl : l.length < 1000000) (hc : ∀ a ∈ l, ∀ b ∈ m, SameC a b) (hq : Q (.bool (beqTs l m)) h) :
    CallA ap 15 0 bs [.sl .frozen (tyVs l), .sl .frozen (tyVs m)] h Q := by
  refine CallA.code (af := ac15) rfl (Nat.le_of_ble_eq_true rfl) ?_
  by_cases hlen : l.length = m.length
  · simp [ac15, hlen]
    obtain ⟨I, hI⟩ : ∃ I : Nat → St → Prop, ∀ n s, I n s ↔ (∃ i : Nat, i + n = l.length ∧ beqTs (l.drop i) (m.drop i) = beqTs l m ∧ s.r 0 = .sl .frozen (tyVs l) ∧ s.r 1 = .sl .frozen (tyVs m) ∧ s.r 5 = .int .i64 i ∧ s.h = h) := ⟨_, fun _ _ => Iff.rfl⟩
    refine loop_ind (CallA.hle ap) I ?_ (n := l.length) ((hI _ _).2 ⟨0, by simp⟩)
    rintro n ⟨r, lo, h'⟩ hs
    obtain ⟨i, hi, hb, e0, e1, e5, rfl⟩ := (hI _ _).1 hs
    simp only at e0 e1 e5
    simp [forget, noLoc, e0, e1, e5]
    refine condA_dec (fun h1 => ?_) fun h1 => ?_
    · have hi1 : i < l.length := by omega
      have hi2 : i < m.length := by omega
      have g1 : (tyVs l)[i]? = some (tyV l[i]) := by rw [tys_get]; simp [hi1]
      have g2 : (tyVs m)[i]? = some (tyV m[i]) := by rw [tys_get]; simp [hi2]
      have hw : IntKind.wrap .i64 ((i : Int) + 1) = (i : Int) + 1 := wrap64 (by omega) (by omega)
      simp [e0, e1, e5, g1, g2, ty_sel, ty_take, ty_agg, demote_ty]
      refine hc _ (List.getElem_mem hi1) _ (List.getElem_mem hi2) _ _ _ ?_
      rw [List.drop_eq_getElem_cons hi1, List.drop_eq_getElem_cons hi2] at hb
      simp only [beqTs] at hb
      cases hbe : beqT l[i] m[i] with
      | true =>
        simp [e0, e1, e5, hw]
        exact ⟨n - 1, by omega, (hI _ _).2 ⟨i + 1, by omega, by simpa [hbe] using hb, by simp [e0, e1, e5]⟩⟩
      | false =>
        simp [e0, e1, e5]
        rw [hbe] at hb
        simp at hb
        rw [hb] at hq
        exact hq
    · have hi1 : i = l.length := by omega
      simp [e0, e1, e5]
      subst hi1
      rw [hlen] at hb
      rw [← hlen, List.drop_length, hlen, List.drop_length] at hb
      simp [beqTs] at hb
      rw [hb] at hq
      exact hq
  · have : ((l.length : Int) != (m.length : Int)) = true := by simpa using fun e => hlen (by omega)
    simp [ac15, this]
    have hb : beqTs l m = false := by
      cases hbe : beqTs l m with
      | false => rfl
      | true => exact absurd (congrArg List.length ((beqTs_iff l m).1 hbe)) hlen
    rw [hb] at hq
    exact hq

theorem same16 : ∀ (n : Nat) (a b : Ty), SizeOf.sizeOf a ≤ n → okT a = true → okT b = true → SameC a b := by
  intro n
  induction n with
  | zero => intro a b h; cases a; simp at h
  | succ n ih =>
    intro a b hn ha hb bs h Q hq
    obtain ⟨k, s, l⟩ := a
    obtain ⟨k', s', l'⟩ := b
    obtain ⟨l1, l2⟩ := okT_len ha
    obtain ⟨m1, m2⟩ := okT_len hb
    have each : ∀ a ∈ l, ∀ b ∈ l', SameC a b := fun a ha' b hb' => ih a b (by have := List.sizeOf_lt_of_mem ha'; simp at hn; omega) (l2 a ha') (m2 b hb')
    refine CallA.code (af := ac20) rfl (Nat.le_of_ble_eq_true rfl) ?_
    by_cases hk : k = k'
    · subst hk
      by_cases hs : s = s'
      · subst hs
        simp [ac20, tyV, demote_tys]
        refine sames42 l l' (by omega) each ?_
        simp
        simpa [beqT] using hq
      · have : (s == s') = false := by simpa using hs
        simp [ac20, tyV, this]
        simpa [beqT, this] using hq
    · have : (k == k') = false := by simpa using hk
      simp [ac20, tyV, this]
      simpa [beqT, this] using hq

theorem sameOk {a b : Ty} (ha : okT a = true) (hb : okT b = true) : SameC a b := same16 _ a b (Nat.le_refl _) ha hb

end
end Go.Vt
