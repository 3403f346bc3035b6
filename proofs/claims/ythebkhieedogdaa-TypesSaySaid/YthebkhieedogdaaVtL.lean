/- The order of types is one of all. -/
import Derived.Test.YthebkhieedogdaaVtS2
namespace Go.Vt
open Go.Am Go.Proofs
set_option maxRecDepth 100000

/-- Of three: first to second, second to third, first to third. -/
def TR (x y z : Int) : Prop :=
  (-1 ≤ x ∧ x ≤ 1) ∧ (-1 ≤ y ∧ y ≤ 1) ∧ (-1 ≤ z ∧ z ≤ 1) ∧ (x ≤ 0 → y ≤ 0 → z ≤ 0) ∧ (0 ≤ x → 0 ≤ y → 0 ≤ z) ∧ (x < 0 → y ≤ 0 → z < 0) ∧ (x ≤ 0 → y < 0 → z < 0) ∧ (0 < x → 0 ≤ y → 0 < z) ∧ (0 ≤ x → 0 < y → 0 < z)

def or2 (x y : Int) : Int := if x = 0 then y else x

theorem TR.or {x y z x' y' z' : Int} (h : TR x y z) (h' : TR x' y' z') : TR (or2 x x') (or2 y y') (or2 z z') := by
  unfold TR or2 at *
  split <;> split <;> split <;> omega

theorem cmpI_cases (a b : Int) : cmpI a b = -1 ∧ a < b ∨ cmpI a b = 0 ∧ a = b ∨ cmpI a b = 1 ∧ b < a := by
  unfold cmpI
  split
  · exact .inl ⟨rfl, ‹_›⟩
  · split
    · exact .inr (.inr ⟨rfl, ‹_›⟩)
    · exact .inr (.inl ⟨rfl, by omega⟩)

theorem cmpI_tr (a b c : Int) : TR (cmpI a b) (cmpI b c) (cmpI a c) := by
  have h1 := cmpI_cases a b
  have h2 := cmpI_cases b c
  have h3 := cmpI_cases a c
  generalize cmpI a b = x at *
  generalize cmpI b c = y at *
  generalize cmpI a c = z at *
  unfold TR
  refine ⟨by omega, by omega, by omega, by omega, by omega, by omega, by omega, by omega, by omega⟩

theorem cmpI_anti (a b : Int) : cmpI b a = - cmpI a b := by
  have h1 := cmpI_cases a b
  have h2 := cmpI_cases b a
  omega

theorem or2_anti {x y x' y' : Int} (h : x' = -x) (h' : y' = -y) : or2 x' y' = - or2 x y := by
  unfold or2
  split <;> split <;> omega

theorem or2_range {x y : Int} (h : -1 ≤ x ∧ x ≤ 1) (h' : -1 ≤ y ∧ y ≤ 1) : -1 ≤ or2 x y ∧ or2 x y ≤ 1 := by
  unfold or2
  split <;> omega

theorem cmpI_range (a b : Int) : -1 ≤ cmpI a b ∧ cmpI a b ≤ 1 := by
  have := cmpI_cases a b
  omega

theorem bytes_cons (x y : UInt8) (a b : List UInt8) : Lib.compareBytes (x :: a) (y :: b) = or2 (cmpI x.toNat y.toNat) (Lib.compareBytes a b) := by
  have h := cmpI_cases x.toNat y.toNat
  simp only [Lib.compareBytes, or2, UInt8.lt_iff_toNat_lt]
  rcases h with ⟨h1, h2⟩ | ⟨h1, h2⟩ | ⟨h1, h2⟩
  · rw [if_pos (by omega), h1]; rfl
  · rw [if_neg (by omega), if_neg (by omega), h1]; rfl
  · rw [if_neg (by omega), if_pos (by omega), h1]; rfl

theorem bytes_range : ∀ a b : List UInt8, -1 ≤ Lib.compareBytes a b ∧ Lib.compareBytes a b ≤ 1
  | [], [] => by simp [Lib.compareBytes]
  | [], _ :: _ => by simp [Lib.compareBytes]
  | _ :: _, [] => by simp [Lib.compareBytes]
  | x :: a, y :: b => by rw [bytes_cons]; exact or2_range (cmpI_range _ _) (bytes_range a b)

theorem bytes_anti : ∀ a b : List UInt8, Lib.compareBytes b a = - Lib.compareBytes a b
  | [], [] => by simp [Lib.compareBytes]
  | [], _ :: _ => by simp [Lib.compareBytes]
  | _ :: _, [] => by simp [Lib.compareBytes]
  | x :: a, y :: b => by rw [bytes_cons, bytes_cons]; exact or2_anti (cmpI_anti _ _) (bytes_anti a b)

theorem tr_lo {y : Int} (h : -1 ≤ y ∧ y ≤ 1) : TR (-1) y (-1) := by unfold TR; omega
theorem tr_hi {x : Int} (h : -1 ≤ x ∧ x ≤ 1) : TR x 1 1 := by unfold TR; omega
theorem tr_mid {z : Int} (h : -1 ≤ z ∧ z ≤ 1) : TR 1 (-1) z := by unfold TR; omega
theorem tr_0 : TR 0 0 0 := by unfold TR; omega
theorem tr_l : TR 0 (-1) (-1) := by unfold TR; omega
theorem tr_r : TR 1 0 1 := by unfold TR; omega
theorem tr_u : TR (-1) 1 0 := by unfold TR; omega

theorem bytes_tr : ∀ a b c : List UInt8, TR (Lib.compareBytes a b) (Lib.compareBytes b c) (Lib.compareBytes a c)
  | [], [], [] => tr_0
  | [], [], _ :: _ => tr_l
  | [], _ :: _, [] => tr_u
  | [], y :: b, z :: c => tr_lo (bytes_range (y :: b) (z :: c))
  | _ :: _, [], [] => tr_r
  | x :: a, [], z :: c => tr_mid (bytes_range (x :: a) (z :: c))
  | x :: a, y :: b, [] => tr_hi (bytes_range (x :: a) (y :: b))
  | x :: a, y :: b, z :: c => by
    rw [bytes_cons, bytes_cons, bytes_cons]
    exact (cmpI_tr _ _ _).or (bytes_tr a b c)

theorem cmpT_or (k k' : Int) (n n' : List UInt8) (l l' : List Ty) : cmpT (.mk k n l) (.mk k' n' l') = or2 (cmpI k k') (or2 (Lib.compareBytes n n') (or2 (cmpI l.length l'.length) (cmpTs l l'))) := by
  simp only [cmpT, orL, or2]
  have e : ∀ d : Int, (if d = 0 then 0 else d) = d := fun d => by split <;> omega
  rw [e]

theorem cmpTs_cons (a b : Ty) (l m : List Ty) : cmpTs (a :: l) (b :: m) = or2 (cmpT a b) (cmpTs l m) := by
  simp only [cmpTs, or2]

mutual
theorem ty_range : ∀ a b : Ty, -1 ≤ cmpT a b ∧ cmpT a b ≤ 1
  | .mk k n l, .mk k' n' l' => by
    rw [cmpT_or]
    exact or2_range (cmpI_range _ _) (or2_range (bytes_range _ _) (or2_range (cmpI_range _ _) (tys_range l l')))
theorem tys_range : ∀ a b : List Ty, -1 ≤ cmpTs a b ∧ cmpTs a b ≤ 1
  | [], [] => by simp [cmpTs]
  | [], _ :: _ => by simp [cmpTs]
  | _ :: _, [] => by simp [cmpTs]
  | x :: a, y :: b => by rw [cmpTs_cons]; exact or2_range (ty_range x y) (tys_range a b)
end

mutual
theorem ty_anti : ∀ a b : Ty, cmpT b a = - cmpT a b
  | .mk k n l, .mk k' n' l' => by
    rw [cmpT_or, cmpT_or]
    exact or2_anti (cmpI_anti _ _) (or2_anti (bytes_anti _ _) (or2_anti (cmpI_anti _ _) (tys_anti l l')))
theorem tys_anti : ∀ a b : List Ty, cmpTs b a = - cmpTs a b
  | [], [] => by simp [cmpTs]
  | [], _ :: _ => by simp [cmpTs]
  | _ :: _, [] => by simp [cmpTs]
  | x :: a, y :: b => by rw [cmpTs_cons, cmpTs_cons]; exact or2_anti (ty_anti x y) (tys_anti a b)
end

theorem nil_cons (y : Ty) (b : List Ty) : cmpTs [] (y :: b) = -1 := by simp [cmpTs]
theorem cons_nil (y : Ty) (b : List Ty) : cmpTs (y :: b) [] = 1 := by simp [cmpTs]
theorem nil_nil : cmpTs [] [] = 0 := by simp [cmpTs]

mutual
theorem ty_tr : ∀ a b c : Ty, TR (cmpT a b) (cmpT b c) (cmpT a c)
  | .mk k n l, .mk k' n' l', .mk k'' n'' l'' => by
    rw [cmpT_or, cmpT_or, cmpT_or]
    exact (cmpI_tr _ _ _).or ((bytes_tr _ _ _).or ((cmpI_tr _ _ _).or (tys_tr l l' l'')))
theorem tys_tr : ∀ a b c : List Ty, TR (cmpTs a b) (cmpTs b c) (cmpTs a c)
  | [], [], [] => by rw [nil_nil]; exact tr_0
  | [], [], _ :: _ => by rw [nil_nil, nil_cons]; exact tr_l
  | [], _ :: _, [] => by rw [nil_nil, nil_cons, cons_nil]; exact tr_u
  | [], y :: b, z :: c => by rw [nil_cons, nil_cons]; exact tr_lo (tys_range (y :: b) (z :: c))
  | _ :: _, [], [] => by rw [nil_nil, cons_nil]; exact tr_r
  | x :: a, [], z :: c => by rw [cons_nil, nil_cons]; exact tr_mid (tys_range (x :: a) (z :: c))
  | x :: a, y :: b, [] => by rw [cons_nil, cons_nil]; exact tr_hi (tys_range (x :: a) (y :: b))
  | x :: a, y :: b, z :: c => by
    rw [cmpTs_cons, cmpTs_cons, cmpTs_cons]
    exact (ty_tr x y z).or (tys_tr a b c)
end

theorem ty_refl (a : Ty) : cmpT a a = 0 := by
  have := ty_anti a a
  omega

end Go.Vt
