/- Functions known whole for the runs: a row of texts is cloned. -/
import Derived.Test.YthebkhieedogdaaDoorKtTab
import Derived.Test.YthebkhieedogdaaDoorAmU
namespace Go.Kt
open Go.Am Go.Proofs
set_option maxRecDepth 100000

def strOnly : List V → Bool
  | [] => true
  | .str _ :: l => strOnly l
  | _ => false

theorem strOnly_all : ∀ {l : List V}, strOnly l = true → (∀ n, underL n l = true) ∧ demoteL l = l ∧ (∀ v ∈ l, v.cells.length = 1)
  | [], _ => ⟨fun n => rfl, rfl, by simp⟩
  | v :: l, h => by
    cases v <;> simp only [strOnly] at h <;> first
      | (cases h; done)
      | skip
    obtain ⟨h1, h2, h3⟩ := strOnly_all h
    exact ⟨fun n => by simp [h1], by simp [h2], by simpa using h3⟩

def cloneS : List V → List Ob → Option (V × List Ob)
  | [.sl _ xs], h => if strOnly xs = true ∧ xs.length ≤ lim then some (.sl .frozen xs, h) else none
  | _, _ => none

theorem clone_str {bs : List Nat} {h : List Ob} {Q : V → List Ob → Prop} (t : Tag) (xs : List V) (h1 : strOnly xs = true) (h2 : xs.length ≤ lim) (hq : Q (.sl .frozen xs) h) : CallA ap 46 0 bs [.sl t xs] h Q := by
  refine CallA.code (af := ac46) rfl (Nat.le_of_ble_eq_true rfl) ?_
  cases xs with
  | nil =>
    simp [ac46]
    exact hq
  | cons a l =>
    obtain ⟨u, e, c⟩ := strOnly_all h1
    simp [ac46]
    have u' := u
    have e' := e
    simp at u' e'
    refine ⟨⟨c _ (by simp), fun v hv => c _ (by simp [hv])⟩, by simpa using h2, ?_⟩
    simpa [u' h.length, e'] using hq

def ov : Ov
  | 46, 0, args, h => cloneS args h
  | _, _, _, _ => none

theorem ov_ok : OvOk ap ov := by
  intro f vr args h v h' e bs Q hq
  unfold ov at e
  split at e
  · unfold cloneS at e
    split at e
    · split at e
      · rename_i hc
        simp only [Option.some.injEq, Prod.mk.injEq] at e
        obtain ⟨rfl, rfl⟩ := e
        exact clone_str _ _ hc.1 hc.2 hq
      · cases e
    · cases e
  · cases e

end Go.Kt
