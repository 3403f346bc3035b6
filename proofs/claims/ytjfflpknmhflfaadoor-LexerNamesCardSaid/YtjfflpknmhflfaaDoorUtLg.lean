/- Words with a blank behind them; the chapter's first example: on the abstract machine. -/
import Derived.Test.YtjfflpknmhflfaaDoorUtLf
namespace Go.Ut
open Go.Am Go.Proofs
set_option maxRecDepth 100000

theorem whl_app {p : UInt8 → Bool} {d : UInt8} (hd : p d = false) : ∀ (s r : Bs), (∀ x ∈ s, p x = true) → whl p (s ++ d :: r) = s.length
  | [], r, _ => by simp [whl, hd]
  | c :: s, r, h => by
    have := whl_app hd s r fun x hx => h x (by simp [hx])
    simp [whl, h c (by simp), this]
theorem whl_end {p : UInt8 → Bool} : ∀ (s : Bs), (∀ x ∈ s, p x = true) → whl p s = s.length
  | [], _ => rfl
  | c :: s, h => by
    have := whl_end s fun x hx => h x (by simp [hx])
    simp [whl, h c (by simp), this]

theorem lex_nil (f at_ : Nat) : lexF f at_ [] = ([], none) := by cases f <;> simp [lexF]
theorem lex_blank {f at_ : Nat} {b : Bs} (h : 0 < blankN b) : lexF (f + 1) at_ b = lexF f (at_ + blankN b) (b.drop (blankN b)) := by
  have : b ≠ [] := by rintro rfl; simp [blankN] at h
  simp only [lexF, if_neg this, h, if_true]
theorem lex_word {f at_ : Nat} {b s : Bs} {k n : Int} (h0 : blankN b = 0) (h : wordT b = some (k, s, n)) : lexF (f + 1) at_ b = (⟨k, at_, s, n⟩ :: (lexF f (at_ + s.length) (b.drop s.length)).1, (lexF f (at_ + s.length) (b.drop s.length)).2) := by
  have : b ≠ [] := by rintro rfl; simp [wordT] at h
  simp only [lexF, if_neg this, h0, Nat.lt_irrefl, if_false, h]

/-- A name as a word. -/
def nameW (s : Bs) : Wd := if s = [95] ∨ resB s = true then some (6, s, 0) else if lowB s = true then some (1, s, 0) else if highB s = true then some (2, s, 0) else none

theorem word_name {s r : Bs} {d : UInt8} (hd : goesB d = false) (hs : ∀ x ∈ s, goesB x = true) (h0 : s.head?.any (fun c => isSm c || isGr c) = true) : wordT (s ++ d :: r) = nameW s := by
  cases s with
  | nil => simp at h0
  | cons c s =>
    have hc : (isSm c || isGr c) = true := by simpa using h0
    have hw := whl_app hd (c :: s) r hs
    simp only [List.cons_append] at hw ⊢
    simp only [wordT, hc, if_true, nameT, hw]
    have : (c :: (s ++ d :: r)).take (c :: s).length = c :: s := by
      rw [← List.cons_append]; simp
    rw [this]
    rfl

theorem word_end {s : Bs} (hs : ∀ x ∈ s, goesB x = true) (h0 : s.head?.any (fun c => isSm c || isGr c) = true) : wordT s = nameW s := by
  cases s with
  | nil => simp at h0
  | cons c s =>
    have hc : (isSm c || isGr c) = true := by simpa using h0
    have hw := whl_end (c :: s) hs
    simp only [wordT, hc, if_true, nameT, hw]
    rw [List.take_of_length_le (Nat.le_refl _)]
    rfl

section
variable {bs : List Nat} {h : List Ob} {Q : V → List Ob → Prop}

theorem lex_first : lexF 7 0 [97, 32, 45, 62, 32, 66] = ([⟨1, 0, [97], 0⟩, ⟨6, 2, [45, 62], 0⟩, ⟨2, 5, [66], 0⟩], none) := by kernel_rfl

theorem first9 (hbs : ∀ x ∈ bs, x ≤ h.length) (hq : Q (.bool true) h) : CallA ap 9 0 bs [] h Q := by
  refine CallA.code (af := ac9) rfl (Nat.le_of_ble_eq_true rfl) ?_
  have e0 : [V.int .u8 97, .int .u8 32, .int .u8 45, .int .u8 62, .int .u8 32, .int .u8 66] = bV [97, 32, 45, 62, 32, 66] := rfl
  simp [ac9]
  rw [e0]
  refine split10 (b := [97, 32, 45, 62, 32, 66]) (by decide) (by intro x hx; rcases List.mem_cons.1 hx with rfl | hx; exact Nat.le_refl _; exact hbs x hx) (fun ts tl e => ?_) fun ts at_ tl q e _ _ => ?_
  · rw [show ([97, 32, 45, 62, 32, 66] : Bs).length + 1 = 7 from rfl, lex_first] at e
    simp only [Prod.mk.injEq, and_true] at e
    subst e
    simp [tkV, tokV]
    exact hq
  · rw [show ([97, 32, 45, 62, 32, 66] : Bs).length + 1 = 7 from rfl, lex_first] at e
    simp at e

end
end Go.Ut
