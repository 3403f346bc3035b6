/- Types that compare as the same are the same. -/
import Derived.Test.YthebkhieedogdaaVtL
import Derived.Test.YthebkhieedogdaaVtK
namespace Go.Vt
open Go.Am Go.Proofs
set_option maxRecDepth 100000

theorem or2_zero {x y : Int} (h : or2 x y = 0) : x = 0 ∧ y = 0 := by
  unfold or2 at h
  split at h <;> omega

theorem bytes_zero : ∀ a b : List UInt8, Lib.compareBytes a b = 0 → a = b
  | [], [], _ => rfl
  | [], _ :: _, h => by simp [Lib.compareBytes] at h
  | _ :: _, [], h => by simp [Lib.compareBytes] at h
  | x :: a, y :: b, h => by
    rw [bytes_cons] at h
    obtain ⟨h1, h2⟩ := or2_zero h
    have := cmpI_cases x.toNat y.toNat
    have hxy : x.toNat = y.toNat := by omega
    rw [UInt8.toNat_inj.1 hxy, bytes_zero a b h2]

mutual
theorem cmpT_zero : ∀ a b : Ty, cmpT a b = 0 → a = b
  | .mk k n l, .mk k' n' l', h => by
    rw [cmpT_or] at h
    obtain ⟨h1, h2⟩ := or2_zero h
    obtain ⟨h2, h3⟩ := or2_zero h2
    obtain ⟨_, h4⟩ := or2_zero h3
    have := cmpI_cases k k'
    rw [bytes_zero n n' h2, cmpTs_zero l l' h4, show k = k' by omega]
theorem cmpTs_zero : ∀ a b : List Ty, cmpTs a b = 0 → a = b
  | [], [], _ => rfl
  | [], _ :: _, h => by simp [cmpTs] at h
  | _ :: _, [], h => by simp [cmpTs] at h
  | x :: a, y :: b, h => by
    rw [cmpTs_cons] at h
    obtain ⟨h1, h2⟩ := or2_zero h
    rw [cmpT_zero x y h1, cmpTs_zero a b h2]
end

end Go.Vt
