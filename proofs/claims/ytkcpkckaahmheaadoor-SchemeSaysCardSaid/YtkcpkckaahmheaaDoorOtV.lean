/- A type is another's case: plain law. -/
import Derived.Test.YtkcpkckaahmheaaDoorOtK

namespace Go.Ot
open Go.Am Go.Proofs
set_option maxRecDepth 100000

abbrev En := List (List UInt8 × Ty)

def look : En → List UInt8 → Option Ty
  | [], _ => none
  | p :: e, x => if p.1 = x then some p.2 else look e x

mutual
def fitT : Ty → Ty → En → Bool × En
  | .mk k n l, .mk k' n' l', e =>
    if k = 1 then (match look e n with
      | none => (true, e ++ [(n, .mk k' n' l')])
      | some t => (beqT t (.mk k' n' l'), e))
    else if k = k' ∧ n = n' ∧ l.length = l'.length then fitL l l' e else (false, e)
def fitL : List Ty → List Ty → En → Bool × En
  | [], _, e => (true, e)
  | _ :: _, [], e => (true, e)
  | a :: l, b :: m, e => if (fitT a b e).1 = true then fitL l m (fitT a b e).2 else fitT a b e
end

mutual
def apT (s : List UInt8 → Option Ty) : Ty → Ty
  | .mk k n l => if k = 1 then (s n).getD (.mk k n l) else .mk k n (apL s l)
def apL (s : List UInt8 → Option Ty) : List Ty → List Ty
  | [] => []
  | t :: l => apT s t :: apL s l
end

/- Two arguments at most; a variable has none. -/
mutual
def fine : Ty → Bool
  | .mk k _ l => decide (l.length ≤ 2) && (k != 1 || l.isEmpty) && fineL l
def fineL : List Ty → Bool
  | [] => true
  | t :: l => fine t && fineL l
end

mutual
theorem fine_ok : ∀ t : Ty, fine t = true → okT t = true
  | .mk k n l, h => by
    simp only [fine, Bool.and_eq_true] at h
    simp only [okT, Bool.and_eq_true]
    exact ⟨h.1.1, fineL_ok l h.2⟩
theorem fineL_ok : ∀ l : List Ty, fineL l = true → okTs l = true
  | [], _ => rfl
  | t :: l, h => by
    simp only [fineL, Bool.and_eq_true] at h
    simp only [okTs, Bool.and_eq_true]
    exact ⟨fine_ok t h.1, fineL_ok l h.2⟩
end

theorem fineL_mem {l : List Ty} (h : fineL l = true) {t : Ty} (ht : t ∈ l) : fine t = true := by
  induction l with
  | nil => simp at ht
  | cons a l ih =>
    simp only [fineL, Bool.and_eq_true] at h
    rcases List.mem_cons.1 ht with rfl | ht
    · exact h.1
    · exact ih h.2 ht

theorem Made.fine {m : Nat} {t : Ty} (h : Made m t) : fine t = true := by
  induction h <;> simp_all [Go.Ot.fine, fineL]

theorem apL_length (s : List UInt8 → Option Ty) : ∀ l : List Ty, (apL s l).length = l.length
  | [] => rfl
  | t :: l => by simp [apL, apL_length s l]

mutual
theorem ap_fine (s : List UInt8 → Option Ty) (hs : ∀ x u, s x = some u → fine u = true) : ∀ t : Ty, fine t = true → fine (apT s t) = true
  | .mk k n l, h => by
    unfold apT
    split
    · cases hx : s n with
      | none => simpa using h
      | some u => simpa using hs n u hx
    · rename_i hk
      simp only [fine, Bool.and_eq_true, apL_length] at h ⊢
      refine ⟨⟨h.1.1, by simp [hk]⟩, apL_fine s hs l h.2⟩
theorem apL_fine (s : List UInt8 → Option Ty) (hs : ∀ x u, s x = some u → fine u = true) : ∀ l : List Ty, fineL l = true → fineL (apL s l) = true
  | [], _ => rfl
  | t :: l, h => by
    simp only [fineL, Bool.and_eq_true] at h
    simp only [apL, fineL, Bool.and_eq_true]
    exact ⟨ap_fine s hs t h.1, apL_fine s hs l h.2⟩
end

mutual
def szN : Ty → Nat
  | .mk _ _ l => 1 + szL l
def szL : List Ty → Nat
  | [] => 0
  | t :: l => szN t + szL l
end

theorem Made.sz {m : Nat} {t : Ty} (h : Made m t) : szN t + 1 ≤ 2 ^ (m + 1) := by
  have pw : ∀ m : Nat, 1 ≤ 2 ^ m := fun m => Nat.one_le_two_pow
  induction h with
  | va m => have := pw m; simp [szN, szL, Nat.pow_succ]; omega
  | vb m => have := pw m; simp [szN, szL, Nat.pow_succ]; omega
  | vc m => have := pw m; simp [szN, szL, Nat.pow_succ]; omega
  | int m => have := pw m; simp [szN, szL, Nat.pow_succ]; omega
  | bool m => have := pw m; simp [szN, szL, Nat.pow_succ]; omega
  | list m t _ i => have := pw m; simp [szN, szL, Nat.pow_succ] at i ⊢; omega
  | pair m t u _ _ i j => have := pw m; simp [szN, szL, Nat.pow_succ] at i j ⊢; omega
  | fn m t u _ _ i j => have := pw m; simp [szN, szL, Nat.pow_succ] at i j ⊢; omega

mutual
theorem ap_sz (s : List UInt8 → Option Ty) (B : Nat) (hB : 1 ≤ B) (hs : ∀ x u, s x = some u → szN u ≤ B) : ∀ t : Ty, fine t = true → szN (apT s t) ≤ B * szN t
  | .mk k n l, h => by
    unfold apT
    split
    · rename_i hk
      simp only [fine, hk, bne_self_eq_false, Bool.false_or, Bool.and_eq_true, List.isEmpty_iff] at h
      have hl : l = [] := h.1.2
      subst hl
      cases hx : s n with
      | none => simp [szN, szL]; omega
      | some u => have := hs n u hx; simp [szN, szL]; omega
    · simp only [fine, Bool.and_eq_true] at h
      have := apL_sz s B hB hs l h.2
      simp only [szN, Nat.mul_add]
      omega
theorem apL_sz (s : List UInt8 → Option Ty) (B : Nat) (hB : 1 ≤ B) (hs : ∀ x u, s x = some u → szN u ≤ B) : ∀ l : List Ty, fineL l = true → szL (apL s l) ≤ B * szL l
  | [], _ => by simp [apL, szL]
  | t :: l, h => by
    simp only [fineL, Bool.and_eq_true] at h
    have h1 := ap_sz s B hB hs t h.1
    have h2 := apL_sz s B hB hs l h.2
    simp only [apL, szL, Nat.mul_add]
    omega
end

theorem look_append (e f : En) (x : List UInt8) : look (e ++ f) x = match look e x with | some u => some u | none => look f x := by
  induction e with
  | nil => simp [look]
  | cons p e ih =>
    simp only [List.cons_append, look]
    split
    · rfl
    · exact ih

/-- What a name stands for. -/
def sg (s : List UInt8 → Option Ty) (x : List UInt8) : Ty := (s x).getD (.mk 1 x [])

mutual
theorem fit_ap (s : List UInt8 → Option Ty) : ∀ (t : Ty) (e : En), fine t = true → (∀ x u, look e x = some u → u = sg s x) → (fitT t (apT s t) e).1 = true ∧ ∀ x u, look (fitT t (apT s t) e).2 x = some u → u = sg s x
  | .mk k n l, e, h, he => by
    by_cases hk : k = 1
    · subst hk
      simp only [fine, bne_self_eq_false, Bool.false_or, Bool.and_eq_true, List.isEmpty_iff] at h
      have hl : l = [] := h.1.2
      subst hl
      have e1 : apT s (.mk 1 n []) = sg s n := by simp [apT, sg]
      rw [e1]
      generalize hu : sg s n = u
      obtain ⟨k', n', l'⟩ := u
      simp only [fitT, if_true]
      cases hx : look e n with
      | none =>
        refine ⟨rfl, fun x u hxu => ?_⟩
        simp only [look_append, look] at hxu
        cases hy : look e x with
        | some v => rw [hy] at hxu; exact (Option.some.inj hxu) ▸ he x v hy
        | none =>
          rw [hy] at hxu
          simp only at hxu
          split at hxu
          · rename_i hnx
            subst hnx
            rw [hu]
            exact (Option.some.inj hxu).symm
          · cases hxu
      | some v =>
        refine ⟨?_, he⟩
        have := he n v hx
        rw [this, hu]
        exact (beqT_iff _ _).2 rfl
    · have e1 : apT s (.mk k n l) = .mk k n (apL s l) := by simp [apT, hk]
      rw [e1]
      simp only [fitT, if_neg hk, apL_length, and_self, if_true]
      simp only [fine, Bool.and_eq_true] at h
      exact fitL_ap s l e h.2 he
theorem fitL_ap (s : List UInt8 → Option Ty) : ∀ (l : List Ty) (e : En), fineL l = true → (∀ x u, look e x = some u → u = sg s x) → (fitL l (apL s l) e).1 = true ∧ ∀ x u, look (fitL l (apL s l) e).2 x = some u → u = sg s x
  | [], e, _, he => ⟨rfl, he⟩
  | t :: l, e, h, he => by
    simp only [fineL, Bool.and_eq_true] at h
    obtain ⟨h1, h2⟩ := fit_ap s t e h.1 he
    simp only [apL, fitL, h1, if_true]
    exact fitL_ap s l _ h.2 h2
end

/-- What is known stays known. -/
def Sub (e f : En) : Prop := ∀ x u, look e x = some u → look f x = some u

mutual
theorem ap_fit : ∀ (a b : Ty) (e : En), (fitT a b e).1 = true → Sub e (fitT a b e).2 ∧ ∀ f, Sub (fitT a b e).2 f → apT (look f) a = b
  | .mk k n l, .mk k' n' l', e, h => by
    by_cases hk : k = 1
    · subst hk
      simp only [fitT, if_true] at h ⊢
      cases hx : look e n with
      | none =>
        simp only [hx] at h ⊢
        refine ⟨fun x u hu => by rw [look_append, hu], fun f hf => ?_⟩
        have : look f n = some (.mk k' n' l') := hf n _ (by rw [look_append, hx]; simp [look])
        simp [apT, this]
      | some v =>
        simp only [hx] at h ⊢
        refine ⟨fun x u hu => hu, fun f hf => ?_⟩
        have := hf n v hx
        simp [apT, this, (beqT_iff _ _).1 h]
    · simp only [fitT, if_neg hk] at h ⊢
      by_cases hc : k = k' ∧ n = n' ∧ l.length = l'.length
      · simp only [if_pos hc] at h ⊢
        obtain ⟨h1, h2⟩ := apL_fit l l' e hc.2.2 h
        refine ⟨h1, fun f hf => ?_⟩
        obtain ⟨rfl, rfl, -⟩ := hc
        simp only [apT, if_neg hk, h2 f hf]
      · simp only [if_neg hc] at h
        cases h
theorem apL_fit : ∀ (l m : List Ty) (e : En), l.length = m.length → (fitL l m e).1 = true → Sub e (fitL l m e).2 ∧ ∀ f, Sub (fitL l m e).2 f → apL (look f) l = m
  | [], [], e, _, _ => by
    simp only [fitL]
    exact ⟨fun x u hu => hu, fun f _ => rfl⟩
  | [], _ :: _, _, hl, _ => by simp at hl
  | _ :: _, [], _, hl, _ => by simp at hl
  | a :: l, b :: m, e, hl, h => by
    simp only [fitL] at h ⊢
    by_cases hc : (fitT a b e).1 = true
    · simp only [if_pos hc] at h ⊢
      obtain ⟨h1, h2⟩ := ap_fit a b e hc
      obtain ⟨h3, h4⟩ := apL_fit l m _ (by simpa using hl) h
      refine ⟨fun x u hu => h3 x u (h1 x u hu), fun f hf => ?_⟩
      simp only [apL, h4 f hf, h2 f (fun x u hu => hf x u (h3 x u hu))]
    · simp only [if_neg hc] at h
      exact absurd h hc
end

def Uniq (e : En) : Prop := (e.map (·.1)).Nodup

theorem look_none {e : En} {x : List UInt8} (h : look e x = none) : x ∉ e.map (·.1) := by
  induction e with
  | nil => simp
  | cons p e ih =>
    simp only [look] at h
    split at h
    · cases h
    · rename_i hp
      simp only [List.map_cons, List.mem_cons, not_or]
      exact ⟨fun hh => hp hh.symm, ih h⟩

theorem look_mem {e : En} {x : List UInt8} {u : Ty} (h : look e x = some u) : (x, u) ∈ e := by
  induction e with
  | nil => simp [look] at h
  | cons p e ih =>
    simp only [look] at h
    split at h
    · rename_i hp
      obtain ⟨a, b⟩ := p
      simp at hp h
      simp [hp, h]
    · simp [ih h]

theorem mem_look {e : En} (hu : Uniq e) {x : List UInt8} {u : Ty} (h : (x, u) ∈ e) : look e x = some u := by
  induction e with
  | nil => simp at h
  | cons p e ih =>
    simp only [Uniq, List.map_cons, List.nodup_cons] at hu
    simp only [look]
    rcases List.mem_cons.1 h with rfl | h
    · simp
    · have : p.1 ≠ x := fun e1 => hu.1 (e1 ▸ List.mem_map.2 ⟨_, h, rfl⟩)
      rw [if_neg this]
      exact ih hu.2 h

/-- A row of pairs as it may be. -/
structure EnOk (e : En) : Prop where
  uniq : Uniq e
  fine : ∀ x u, (x, u) ∈ e → fine u = true

mutual
theorem fit_ok : ∀ (a b : Ty) (e : En), fine b = true → EnOk e → EnOk (fitT a b e).2 ∧ (fitT a b e).2.length ≤ e.length + szN a
  | .mk k n l, .mk k' n' l', e, hb, he => by
    by_cases hk : k = 1
    · subst hk
      simp only [fitT, if_true]
      cases hx : look e n with
      | none =>
        refine ⟨⟨?_, fun x u hu => ?_⟩, by simp [szN]⟩
        · simp only [Uniq, List.map_append, List.map_cons, List.map_nil]
          refine List.nodup_append.2 ⟨he.uniq, by simp, fun a ha b hb' => ?_⟩
          simp at hb'
          subst hb'
          intro e1
          subst e1
          exact look_none hx ha
        · rcases List.mem_append.1 hu with hu | hu
          · exact he.fine x u hu
          · simp at hu
            rw [hu.2]
            exact hb
      | some v => exact ⟨he, Nat.le_add_right _ _⟩
    · simp only [fitT, if_neg hk]
      split
      · simp only [Go.Ot.fine, Bool.and_eq_true] at hb
        have := fitL_ok l l' e hb.2 he
        refine ⟨this.1, ?_⟩
        have h2 := this.2
        simp only [szN]
        omega
      · exact ⟨he, by simp⟩
theorem fitL_ok : ∀ (l m : List Ty) (e : En), fineL m = true → EnOk e → EnOk (fitL l m e).2 ∧ (fitL l m e).2.length ≤ e.length + szL l
  | [], _, e, _, he => by simp only [fitL]; exact ⟨he, by simp⟩
  | _ :: _, [], e, _, he => by simp only [fitL]; exact ⟨he, by omega⟩
  | a :: l, b :: m, e, hm, he => by
    simp only [fineL, Bool.and_eq_true] at hm
    obtain ⟨h1, h2⟩ := fit_ok a b e hm.1 he
    simp only [fitL]
    split
    · obtain ⟨h3, h4⟩ := fitL_ok l m _ hm.2 h1
      refine ⟨h3, ?_⟩
      simp only [szL]
      omega
    · refine ⟨h1, ?_⟩
      simp only [szL]
      omega
end

theorem enOk_nil : EnOk [] := ⟨by simp [Uniq], fun x u h => by simp at h⟩

end Go.Ot

namespace Go.Ot
open Go.Am Go.Proofs
set_option maxRecDepth 100000

abbrev Nam := List UInt8

theorem fine_var' {n : Nam} {l : List Ty} (h : fine (.mk 1 n l) = true) : l = [] := by
  simp only [fine, bne_self_eq_false, Bool.false_or, Bool.and_eq_true, List.isEmpty_iff] at h
  exact h.1.2

mutual
def occ (x : Nam) : Ty → Bool
  | .mk k n l => if k = 1 then n == x else occL x l
def occL (x : Nam) : List Ty → Bool
  | [] => false
  | t :: l => occ x t || occL x l
end

/-- By a row of all names. -/
def hat (θ : Nam → Ty) (t : Ty) : Ty := apT (fun x => some (θ x)) t
def hatL (θ : Nam → Ty) (l : List Ty) : List Ty := apL (fun x => some (θ x)) l

theorem hat_var (θ : Nam → Ty) (n : Nam) (l : List Ty) : hat θ (.mk 1 n l) = θ n := by simp [hat, apT]
theorem hat_mk (θ : Nam → Ty) {k : Int} (hk : k ≠ 1) (n : Nam) (l : List Ty) : hat θ (.mk k n l) = .mk k n (hatL θ l) := by simp [hat, hatL, apT, hk]

mutual
theorem ap_hat (s : Nam → Option Ty) : ∀ t : Ty, fine t = true → apT s t = hat (sg s) t
  | .mk k n l, h => by
    by_cases hk : k = 1
    · subst hk
      have := fine_var' h
      subst this
      rw [hat_var]
      simp [apT, sg]
    · rw [hat_mk _ hk]
      simp only [fine, Bool.and_eq_true] at h
      simp only [apT, if_neg hk, apL_hat s l h.2]
theorem apL_hat (s : Nam → Option Ty) : ∀ l : List Ty, fineL l = true → apL s l = hatL (sg s) l
  | [], _ => rfl
  | t :: l, h => by
    simp only [fineL, Bool.and_eq_true] at h
    simp only [apL, hatL, ap_hat s t h.1] 
    rw [apL_hat s l h.2]
    rfl
end

mutual
theorem hat_hat (θ η : Nam → Ty) : ∀ t : Ty, hat θ (hat η t) = hat (fun x => hat θ (η x)) t
  | .mk k n l => by
    by_cases hk : k = 1
    · subst hk
      rw [hat_var, hat_var]
    · rw [hat_mk _ hk, hat_mk _ hk, hat_mk _ hk, hatL_hat θ η l]
theorem hatL_hat (θ η : Nam → Ty) : ∀ l : List Ty, hatL θ (hatL η l) = hatL (fun x => hat θ (η x)) l
  | [] => rfl
  | t :: l => by
    have h1 := hat_hat θ η t
    have h2 := hatL_hat θ η l
    simp only [hat, hatL, apL] at h1 h2 ⊢
    rw [h1, h2]
end

mutual
theorem hat_congr {θ η : Nam → Ty} : ∀ (t : Ty), (∀ y, occ y t = true → θ y = η y) → hat θ t = hat η t
  | .mk k n l, h => by
    by_cases hk : k = 1
    · subst hk
      rw [hat_var, hat_var]
      exact h n (by simp [occ])
    · rw [hat_mk _ hk, hat_mk _ hk, hatL_congr l fun y hy => h y (by simp [occ, hk, hy])]
theorem hatL_congr {θ η : Nam → Ty} : ∀ (l : List Ty), (∀ y, occL y l = true → θ y = η y) → hatL θ l = hatL η l
  | [], _ => rfl
  | t :: l, h => by
    have h1 := hat_congr t fun y hy => h y (by simp [occL, hy])
    have h2 := hatL_congr l fun y hy => h y (by simp [occL, hy])
    simp only [hat, hatL, apL] at h1 h2 ⊢
    rw [h1, h2]
end

def var (x : Nam) : Ty := .mk 1 x []

mutual
theorem hat_id : ∀ t : Ty, fine t = true → hat var t = t
  | .mk k n l, h => by
    by_cases hk : k = 1
    · subst hk
      rw [hat_var, fine_var' h]; rfl
    · rw [hat_mk _ hk]
      simp only [fine, Bool.and_eq_true] at h
      rw [hatL_id l h.2]
theorem hatL_id : ∀ l : List Ty, fineL l = true → hatL var l = l
  | [], _ => rfl
  | t :: l, h => by
    simp only [fineL, Bool.and_eq_true] at h
    have h1 := hat_id t h.1
    have h2 := hatL_id l h.2
    simp only [hat, hatL, apL] at h1 h2 ⊢
    rw [h1, h2]
end

mutual
theorem occ_hat {θ : Nam → Ty} {y : Nam} : ∀ (t : Ty), occ y (hat θ t) = true → ∃ x, occ x t = true ∧ occ y (θ x) = true
  | .mk k n l, h => by
    by_cases hk : k = 1
    · subst hk
      rw [hat_var] at h
      exact ⟨n, by simp [occ], h⟩
    · rw [hat_mk _ hk] at h
      simp only [occ, if_neg hk] at h ⊢
      exact occL_hat l h
theorem occL_hat {θ : Nam → Ty} {y : Nam} : ∀ (l : List Ty), occL y (hatL θ l) = true → ∃ x, occL x l = true ∧ occ y (θ x) = true
  | [], h => by simp [hatL, apL, occL] at h
  | t :: l, h => by
    have e : hatL θ (t :: l) = hat θ t :: hatL θ l := rfl
    rw [e] at h
    simp only [occL, Bool.or_eq_true] at h ⊢
    rcases h with h | h
    · obtain ⟨x, h1, h2⟩ := occ_hat t h; exact ⟨x, .inl h1, h2⟩
    · obtain ⟨x, h1, h2⟩ := occL_hat l h; exact ⟨x, .inr h1, h2⟩
end

theorem szN_pos (t : Ty) : 0 < szN t := by cases t; simp only [szN]; omega

mutual
theorem occ_sz (θ : Nam → Ty) {x : Nam} : ∀ t : Ty, occ x t = true → szN (θ x) ≤ szN (hat θ t)
  | .mk k n l, h => by
    by_cases hk : k = 1
    · subst hk
      simp [occ] at h
      subst h
      rw [hat_var]
      exact Nat.le_refl _
    · rw [hat_mk _ hk]
      simp only [occ, if_neg hk] at h
      have := occL_sz θ l h
      simp only [szN]; omega
theorem occL_sz (θ : Nam → Ty) {x : Nam} : ∀ l : List Ty, occL x l = true → szN (θ x) ≤ szL (hatL θ l)
  | [], h => by simp [occL] at h
  | t :: l, h => by
    have e : hatL θ (t :: l) = hat θ t :: hatL θ l := rfl
    rw [e]
    simp only [occL, Bool.or_eq_true] at h
    simp only [szL]
    rcases h with h | h
    · have := occ_sz θ t h; omega
    · have := occL_sz θ l h; omega
end

theorem occurs {θ : Nam → Ty} {x : Nam} {k : Int} {n : Nam} {l : List Ty} (hk : k ≠ 1) (h : occ x (.mk k n l) = true) : θ x ≠ hat θ (.mk k n l) := by
  intro e
  rw [hat_mk _ hk] at e
  simp only [occ, if_neg hk] at h
  have := occL_sz θ l h
  rw [e] at this
  simp only [szN] at this
  omega

/-- Goes by what is found. -/
def Absorb (θ : Nam → Ty) (s : Nam → Ty) : Prop := ∀ x, hat θ (s x) = θ x

theorem Absorb.hat {θ s : Nam → Ty} (h : Absorb θ s) (t : Ty) : Go.Ot.hat θ (Go.Ot.hat s t) = Go.Ot.hat θ t := by
  rw [hat_hat]
  exact hat_congr t fun y _ => h y

theorem Absorb.trans {θ s u : Nam → Ty} (h1 : Absorb θ s) (h2 : Absorb s u) : Absorb θ u := by
  intro x
  have e1 := h1.hat (u x)
  rw [h2 x, h1 x] at e1
  exact e1.symm

/-- A row of pairs that is solved: no variable of it stands in what it gives. -/
structure Solved (e : En) : Prop where
  ok : EnOk e
  out : ∀ x u, look e x = some u → ∀ y, occ y u = true → look e y = none

def sge (e : En) : Nam → Ty := sg (look e)

theorem sge_some {e : En} {x : Nam} {u : Ty} (h : look e x = some u) : sge e x = u := by simp [sge, sg, h]
theorem sge_none {e : En} {x : Nam} (h : look e x = none) : sge e x = var x := by simp [sge, sg, h, var]

theorem sge_fine {e : En} (he : EnOk e) (x : Nam) : fine (sge e x) = true := by
  cases hx : look e x with
  | none => rw [sge_none hx]; rfl
  | some u => rw [sge_some hx]; exact he.fine x u (look_mem hx)

/-- Nothing of it is bound. -/
def Norm (e : En) (t : Ty) : Prop := ∀ y, occ y t = true → look e y = none

theorem Norm.hat {e : En} {t : Ty} (h : Norm e t) (hf : fine t = true) : Go.Ot.hat (sge e) t = t := by
  rw [hat_congr (η := var) t fun y hy => sge_none (h y hy), hat_id t hf]

theorem Solved.norm {e : En} (h : Solved e) (t : Ty) : Norm e (hat (sge e) t) := by
  intro y hy
  obtain ⟨x, _, h2⟩ := occ_hat t hy
  cases hx : look e x with
  | none =>
    rw [sge_none hx] at h2
    simp [var, occ] at h2
    subst h2
    exact hx
  | some u => rw [sge_some hx] at h2; exact h.out x u hx y h2

theorem Solved.self {e : En} (h : Solved e) : Absorb (sge e) (sge e) := by
  intro x
  have h1 : Norm e (sge e x) := by
    have := h.norm (var x)
    rwa [var, hat_var] at this
  exact h1.hat (sge_fine h.ok x)

/-- One variable by a type. -/
def one1 (x : Nam) (t : Ty) : Nam → Ty := fun y => if y = x then t else var y

theorem one1_self (x : Nam) (t : Ty) : one1 x t x = t := by simp [one1]

theorem one1_norm {x : Nam} {t u : Ty} (hu : fine u = true) (hx : occ x u = false) : hat (one1 x t) u = u := by
  rw [hat_congr (η := var) u fun y hy => by
    have : y ≠ x := fun e => by subst e; rw [hx] at hy; cases hy
    simp [one1, this], hat_id u hu]

/-- What binding comes to. -/
structure Bound (e : En) (x : Nam) (t : Ty) (f : En) : Prop where
  ok : EnOk f
  at_ : ∀ y, look f y = if y = x then some t else (look e y).map (hat (one1 x t))

theorem Bound.sge {e f : En} {x : Nam} {t : Ty} (h : Bound e x t f) (hx : look e x = none) (y : Nam) : sge f y = hat (one1 x t) (sge e y) := by
  have := h.at_ y
  by_cases hy : y = x
  · subst hy
    rw [if_pos rfl] at this
    rw [sge_some this, sge_none hx, var, hat_var, one1_self]
  · rw [if_neg hy] at this
    cases he : look e y with
    | none =>
      rw [he] at this
      rw [sge_none this, sge_none he, var, hat_var]
      simp [one1, hy, var]
    | some u =>
      rw [he] at this
      rw [sge_some this, sge_some he]

/-- The facts on a bound variable. -/
theorem bound_facts {e f : En} {x : Nam} {t : Ty} (he : Solved e) (hx : look e x = none) (ht : fine t = true) (hn : Norm e t) (ho : occ x t = false) (h : Bound e x t f) :
    Solved f ∧ Absorb (sge f) (sge e) ∧ hat (sge f) (var x) = hat (sge f) t ∧ (∀ θ, Absorb θ (sge e) → θ x = hat θ t → Absorb θ (sge f)) := by
  have hs : Solved f := by
    refine ⟨h.ok, fun y u hy z hz => ?_⟩
    have key : ∀ z, (z ≠ x ∧ look e z = none) → look f z = none := fun z hz => by
      rw [h.at_ z, if_neg hz.1, hz.2]; rfl
    have tt : ∀ z, occ z t = true → look f z = none := fun z hz => key z ⟨fun e1 => absurd hz (by rw [e1, ho]; simp), hn z hz⟩
    rw [h.at_ y] at hy
    split at hy
    · cases hy
      exact tt z hz
    · simp only [Option.map_eq_some_iff] at hy
      obtain ⟨v, hv, rfl⟩ := hy
      obtain ⟨w, hw1, hw2⟩ := occ_hat v hz
      have hwn := he.out y v hv w hw1
      by_cases hwx : w = x
      · subst hwx
        rw [one1_self] at hw2
        exact tt z hw2
      · simp only [one1, if_neg hwx, var, occ, if_true, beq_iff_eq] at hw2
        subst hw2
        exact key w ⟨hwx, hwn⟩
  have h1 : ∀ y, sge f y = hat (one1 x t) (sge e y) := h.sge hx
  have htf : Norm f t := fun z hz => by
    rw [h.at_ z, if_neg (fun e1 => by subst e1; rw [ho] at hz; cases hz), hn z hz]; rfl
  have abs : ∀ θ, Absorb θ (sge e) → θ x = hat θ t → Absorb θ (sge f) := fun θ ha hxt y => by
    rw [h1 y, hat_hat, ← ha y]
    refine hat_congr _ fun z _ => ?_
    by_cases hz : z = x
    · subst hz; rw [one1_self]; exact hxt.symm
    · simp only [one1, if_neg hz, var]; exact hat_var _ _ _
  refine ⟨hs, ?_, ?_, abs⟩
  · intro y
    rw [h1 y]
    refine hat_congr _ fun z hz => ?_
    have hzn : look e z = none := by
      cases hy : look e y with
      | none => rw [sge_none hy] at hz; simp [var, occ] at hz; subst hz; exact hy
      | some u => rw [sge_some hy] at hz; exact he.out y u hy z hz
    rw [h1 z, sge_none hzn, var, hat_var]
  · rw [var, hat_var, h1 x, sge_none hx, var, hat_var, one1_self, htf.hat ht]

/-- What finding comes to: what makes the two one and whatever else makes them one goes by; or nothing does. -/
structure Found (V : List Nam) (e : En) (a b : Ty) (f : En) : Prop where
  solved : Solved f
  abs : Absorb (sge f) (sge e)
  same : hat (sge f) a = hat (sge f) b
  most : ∀ θ, Absorb θ (sge e) → hat θ a = hat θ b → Absorb θ (sge f)
  less : (∀ x, look f x = look e x) ∨ (V.filter fun x => (look f x).isNone).length < (V.filter fun x => (look e x).isNone).length
  inV : ∀ x u, look f x = some u → ∀ y, occ y u = true → y ∈ V

def NoneF (e : En) (a b : Ty) : Prop := ∀ θ, Absorb θ (sge e) → hat θ a ≠ hat θ b

end Go.Ot
