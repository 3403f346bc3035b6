/- A type is another's case: plain law. -/
import Derived.Test.YthebkhieedogdaaVtK
namespace Go.Vt
open Go.Am Go.Proofs
set_option maxRecDepth 100000

abbrev En := List (List UInt8 × Ty)

def look : En → List UInt8 → Option Ty
  | [], _ => none
  | p :: e, x => if p.1 = x then some p.2 else look e x

mutual
def fitT : Ty → Ty → En → Bool × En
  | .mk k n l, .mk k' n' l', e =>
    if k = 1 then (match look e n with
      | none => (true, e ++ [(n, .mk k' n' l')])
      | some t => (beqT t (.mk k' n' l'), e))
    else if k = k' ∧ n = n' ∧ l.length = l'.length then fitL l l' e else (false, e)
def fitL : List Ty → List Ty → En → Bool × En
  | [], _, e => (true, e)
  | _ :: _, [], e => (true, e)
  | a :: l, b :: m, e => if (fitT a b e).1 = true then fitL l m (fitT a b e).2 else fitT a b e
end

mutual
def apT (s : List UInt8 → Option Ty) : Ty → Ty
  | .mk k n l => if k = 1 then (s n).getD (.mk k n l) else .mk k n (apL s l)
def apL (s : List UInt8 → Option Ty) : List Ty → List Ty
  | [] => []
  | t :: l => apT s t :: apL s l
end

/- Two arguments at most; a variable has none. -/
mutual
def fine : Ty → Bool
  | .mk k _ l => decide (l.length ≤ 2) && (k != 1 || l.isEmpty) && fineL l
def fineL : List Ty → Bool
  | [] => true
  | t :: l => fine t && fineL l
end

mutual
theorem fine_ok : ∀ t : Ty, fine t = true → okT t = true
  | .mk k n l, h => by
    simp only [fine, Bool.and_eq_true] at h
    simp only [okT, Bool.and_eq_true]
    exact ⟨h.1.1, fineL_ok l h.2⟩
theorem fineL_ok : ∀ l : List Ty, fineL l = true → okTs l = true
  | [], _ => rfl
  | t :: l, h => by
    simp only [fineL, Bool.and_eq_true] at h
    simp only [okTs, Bool.and_eq_true]
    exact ⟨fine_ok t h.1, fineL_ok l h.2⟩
end

theorem fineL_mem {l : List Ty} (h : fineL l = true) {t : Ty} (ht : t ∈ l) : fine t = true := by
  induction l with
  | nil => simp at ht
  | cons a l ih =>
    simp only [fineL, Bool.and_eq_true] at h
    rcases List.mem_cons.1 ht with rfl | ht
    · exact h.1
    · exact ih h.2 ht

theorem Made.fine {m : Nat} {t : Ty} (h : Made m t) : fine t = true := by
  induction h <;> simp_all [Go.Vt.fine, fineL]

theorem apL_length (s : List UInt8 → Option Ty) : ∀ l : List Ty, (apL s l).length = l.length
  | [] => rfl
  | t :: l => by simp [apL, apL_length s l]

mutual
theorem ap_fine (s : List UInt8 → Option Ty) (hs : ∀ x u, s x = some u → fine u = true) : ∀ t : Ty, fine t = true → fine (apT s t) = true
  | .mk k n l, h => by
    unfold apT
    split
    · cases hx : s n with
      | none => simpa using h
      | some u => simpa using hs n u hx
    · rename_i hk
      simp only [fine, Bool.and_eq_true, apL_length] at h ⊢
      refine ⟨⟨h.1.1, by simp [hk]⟩, apL_fine s hs l h.2⟩
theorem apL_fine (s : List UInt8 → Option Ty) (hs : ∀ x u, s x = some u → fine u = true) : ∀ l : List Ty, fineL l = true → fineL (apL s l) = true
  | [], _ => rfl
  | t :: l, h => by
    simp only [fineL, Bool.and_eq_true] at h
    simp only [apL, fineL, Bool.and_eq_true]
    exact ⟨ap_fine s hs t h.1, apL_fine s hs l h.2⟩
end

mutual
def szN : Ty → Nat
  | .mk _ _ l => 1 + szL l
def szL : List Ty → Nat
  | [] => 0
  | t :: l => szN t + szL l
end

theorem Made.sz {m : Nat} {t : Ty} (h : Made m t) : szN t + 1 ≤ 2 ^ (m + 1) := by
  have pw : ∀ m : Nat, 1 ≤ 2 ^ m := fun m => Nat.one_le_two_pow
  induction h with
  | va m => have := pw m; simp [szN, szL, Nat.pow_succ]; omega
  | vb m => have := pw m; simp [szN, szL, Nat.pow_succ]; omega
  | vc m => have := pw m; simp [szN, szL, Nat.pow_succ]; omega
  | int m => have := pw m; simp [szN, szL, Nat.pow_succ]; omega
  | bool m => have := pw m; simp [szN, szL, Nat.pow_succ]; omega
  | list m t _ i => have := pw m; simp [szN, szL, Nat.pow_succ] at i ⊢; omega
  | pair m t u _ _ i j => have := pw m; simp [szN, szL, Nat.pow_succ] at i j ⊢; omega
  | fn m t u _ _ i j => have := pw m; simp [szN, szL, Nat.pow_succ] at i j ⊢; omega

mutual
theorem ap_sz (s : List UInt8 → Option Ty) (B : Nat) (hB : 1 ≤ B) (hs : ∀ x u, s x = some u → szN u ≤ B) : ∀ t : Ty, fine t = true → szN (apT s t) ≤ B * szN t
  | .mk k n l, h => by
    unfold apT
    split
    · rename_i hk
      simp only [fine, hk, bne_self_eq_false, Bool.false_or, Bool.and_eq_true, List.isEmpty_iff] at h
      have hl : l = [] := h.1.2
      subst hl
      cases hx : s n with
      | none => simp [szN, szL]; omega
      | some u => have := hs n u hx; simp [szN, szL]; omega
    · simp only [fine, Bool.and_eq_true] at h
      have := apL_sz s B hB hs l h.2
      simp only [szN, Nat.mul_add]
      omega
theorem apL_sz (s : List UInt8 → Option Ty) (B : Nat) (hB : 1 ≤ B) (hs : ∀ x u, s x = some u → szN u ≤ B) : ∀ l : List Ty, fineL l = true → szL (apL s l) ≤ B * szL l
  | [], _ => by simp [apL, szL]
  | t :: l, h => by
    simp only [fineL, Bool.and_eq_true] at h
    have h1 := ap_sz s B hB hs t h.1
    have h2 := apL_sz s B hB hs l h.2
    simp only [apL, szL, Nat.mul_add]
    omega
end

theorem look_append (e f : En) (x : List UInt8) : look (e ++ f) x = match look e x with | some u => some u | none => look f x := by
  induction e with
  | nil => simp [look]
  | cons p e ih =>
    simp only [List.cons_append, look]
    split
    · rfl
    · exact ih

/-- What a name stands for. -/
def sg (s : List UInt8 → Option Ty) (x : List UInt8) : Ty := (s x).getD (.mk 1 x [])

mutual
theorem fit_ap (s : List UInt8 → Option Ty) : ∀ (t : Ty) (e : En), fine t = true → (∀ x u, look e x = some u → u = sg s x) → (fitT t (apT s t) e).1 = true ∧ ∀ x u, look (fitT t (apT s t) e).2 x = some u → u = sg s x
  | .mk k n l, e, h, he => by
    by_cases hk : k = 1
    · subst hk
      simp only [fine, bne_self_eq_false, Bool.false_or, Bool.and_eq_true, List.isEmpty_iff] at h
      have hl : l = [] := h.1.2
      subst hl
      have e1 : apT s (.mk 1 n []) = sg s n := by simp [apT, sg]
      rw [e1]
      generalize hu : sg s n = u
      obtain ⟨k', n', l'⟩ := u
      simp only [fitT, if_true]
      cases hx : look e n with
      | none =>
        refine ⟨rfl, fun x u hxu => ?_⟩
        simp only [look_append, look] at hxu
        cases hy : look e x with
        | some v => rw [hy] at hxu; exact (Option.some.inj hxu) ▸ he x v hy
        | none =>
          rw [hy] at hxu
          simp only at hxu
          split at hxu
          · rename_i hnx
            subst hnx
            rw [hu]
            exact (Option.some.inj hxu).symm
          · cases hxu
      | some v =>
        refine ⟨?_, he⟩
        have := he n v hx
        rw [this, hu]
        exact (beqT_iff _ _).2 rfl
    · have e1 : apT s (.mk k n l) = .mk k n (apL s l) := by simp [apT, hk]
      rw [e1]
      simp only [fitT, if_neg hk, apL_length, and_self, if_true]
      simp only [fine, Bool.and_eq_true] at h
      exact fitL_ap s l e h.2 he
theorem fitL_ap (s : List UInt8 → Option Ty) : ∀ (l : List Ty) (e : En), fineL l = true → (∀ x u, look e x = some u → u = sg s x) → (fitL l (apL s l) e).1 = true ∧ ∀ x u, look (fitL l (apL s l) e).2 x = some u → u = sg s x
  | [], e, _, he => ⟨rfl, he⟩
  | t :: l, e, h, he => by
    simp only [fineL, Bool.and_eq_true] at h
    obtain ⟨h1, h2⟩ := fit_ap s t e h.1 he
    simp only [apL, fitL, h1, if_true]
    exact fitL_ap s l _ h.2 h2
end

/-- What is known stays known. -/
def Sub (e f : En) : Prop := ∀ x u, look e x = some u → look f x = some u

mutual
theorem ap_fit : ∀ (a b : Ty) (e : En), (fitT a b e).1 = true → Sub e (fitT a b e).2 ∧ ∀ f, Sub (fitT a b e).2 f → apT (look f) a = b
  | .mk k n l, .mk k' n' l', e, h => by
    by_cases hk : k = 1
    · subst hk
      simp only [fitT, if_true] at h ⊢
      cases hx : look e n with
      | none =>
        simp only [hx] at h ⊢
        refine ⟨fun x u hu => by rw [look_append, hu], fun f hf => ?_⟩
        have : look f n = some (.mk k' n' l') := hf n _ (by rw [look_append, hx]; simp [look])
        simp [apT, this]
      | some v =>
        simp only [hx] at h ⊢
        refine ⟨fun x u hu => hu, fun f hf => ?_⟩
        have := hf n v hx
        simp [apT, this, (beqT_iff _ _).1 h]
    · simp only [fitT, if_neg hk] at h ⊢
      by_cases hc : k = k' ∧ n = n' ∧ l.length = l'.length
      · simp only [if_pos hc] at h ⊢
        obtain ⟨h1, h2⟩ := apL_fit l l' e hc.2.2 h
        refine ⟨h1, fun f hf => ?_⟩
        obtain ⟨rfl, rfl, -⟩ := hc
        simp only [apT, if_neg hk, h2 f hf]
      · simp only [if_neg hc] at h
        cases h
theorem apL_fit : ∀ (l m : List Ty) (e : En), l.length = m.length → (fitL l m e).1 = true → Sub e (fitL l m e).2 ∧ ∀ f, Sub (fitL l m e).2 f → apL (look f) l = m
  | [], [], e, _, _ => by
    simp only [fitL]
    exact ⟨fun x u hu => hu, fun f _ => rfl⟩
  | [], _ :: _, _, hl, _ => by simp at hl
  | _ :: _, [], _, hl, _ => by simp at hl
  | a :: l, b :: m, e, hl, h => by
    simp only [fitL] at h ⊢
    by_cases hc : (fitT a b e).1 = true
    · simp only [if_pos hc] at h ⊢
      obtain ⟨h1, h2⟩ := ap_fit a b e hc
      obtain ⟨h3, h4⟩ := apL_fit l m _ (by simpa using hl) h
      refine ⟨fun x u hu => h3 x u (h1 x u hu), fun f hf => ?_⟩
      simp only [apL, h4 f hf, h2 f (fun x u hu => hf x u (h3 x u hu))]
    · simp only [if_neg hc] at h
      exact absurd h hc
end

def Uniq (e : En) : Prop := (e.map (·.1)).Nodup

theorem look_none {e : En} {x : List UInt8} (h : look e x = none) : x ∉ e.map (·.1) := by
  induction e with
  | nil => simp
  | cons p e ih =>
    simp only [look] at h
    split at h
    · cases h
    · rename_i hp
      simp only [List.map_cons, List.mem_cons, not_or]
      exact ⟨fun hh => hp hh.symm, ih h⟩

theorem look_mem {e : En} {x : List UInt8} {u : Ty} (h : look e x = some u) : (x, u) ∈ e := by
  induction e with
  | nil => simp [look] at h
  | cons p e ih =>
    simp only [look] at h
    split at h
    · rename_i hp
      obtain ⟨a, b⟩ := p
      simp at hp h
      simp [hp, h]
    · simp [ih h]

theorem mem_look {e : En} (hu : Uniq e) {x : List UInt8} {u : Ty} (h : (x, u) ∈ e) : look e x = some u := by
  induction e with
  | nil => simp at h
  | cons p e ih =>
    simp only [Uniq, List.map_cons, List.nodup_cons] at hu
    simp only [look]
    rcases List.mem_cons.1 h with rfl | h
    · simp
    · have : p.1 ≠ x := fun e1 => hu.1 (e1 ▸ List.mem_map.2 ⟨_, h, rfl⟩)
      rw [if_neg this]
      exact ih hu.2 h

/-- A row of pairs as it may be. -/
structure EnOk (e : En) : Prop where
  uniq : Uniq e
  fine : ∀ x u, (x, u) ∈ e → fine u = true

mutual
theorem fit_ok : ∀ (a b : Ty) (e : En), fine b = true → EnOk e → EnOk (fitT a b e).2 ∧ (fitT a b e).2.length ≤ e.length + szN a
  | .mk k n l, .mk k' n' l', e, hb, he => by
    by_cases hk : k = 1
    · subst hk
      simp only [fitT, if_true]
      cases hx : look e n with
      | none =>
        refine ⟨⟨?_, fun x u hu => ?_⟩, by simp [szN]⟩
        · simp only [Uniq, List.map_append, List.map_cons, List.map_nil]
          refine List.nodup_append.2 ⟨he.uniq, by simp, fun a ha b hb' => ?_⟩
          simp at hb'
          subst hb'
          intro e1
          subst e1
          exact look_none hx ha
        · rcases List.mem_append.1 hu with hu | hu
          · exact he.fine x u hu
          · simp at hu
            rw [hu.2]
            exact hb
      | some v => exact ⟨he, Nat.le_add_right _ _⟩
    · simp only [fitT, if_neg hk]
      split
      · simp only [Go.Vt.fine, Bool.and_eq_true] at hb
        have := fitL_ok l l' e hb.2 he
        refine ⟨this.1, ?_⟩
        have h2 := this.2
        simp only [szN]
        omega
      · exact ⟨he, by simp⟩
theorem fitL_ok : ∀ (l m : List Ty) (e : En), fineL m = true → EnOk e → EnOk (fitL l m e).2 ∧ (fitL l m e).2.length ≤ e.length + szL l
  | [], _, e, _, he => by simp only [fitL]; exact ⟨he, by simp⟩
  | _ :: _, [], e, _, he => by simp only [fitL]; exact ⟨he, by omega⟩
  | a :: l, b :: m, e, hm, he => by
    simp only [fineL, Bool.and_eq_true] at hm
    obtain ⟨h1, h2⟩ := fit_ok a b e hm.1 he
    simp only [fitL]
    split
    · obtain ⟨h3, h4⟩ := fitL_ok l m _ hm.2 h1
      refine ⟨h3, ?_⟩
      simp only [szL]
      omega
    · refine ⟨h1, ?_⟩
      simp only [szL]
      omega
end

theorem enOk_nil : EnOk [] := ⟨by simp [Uniq], fun x u h => by simp at h⟩

end Go.Vt
