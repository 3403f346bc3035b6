/- The abstract machine: loops by an invariant and a measure. -/
import Derived.Test.YtkcpkckaahmheaaDoorAmE
namespace Go.Am

/-- Once more, with less left. -/
def Again (I : Nat → St → Prop) (n : Nat) (s : St) : Prop := ∃ m, m < n ∧ I m s

theorem loop_ind {X : CallH} {bs : List Nat} (hX : HLe X X) {keep locs : List Nat} {b : AC} {Q : AX → St → Prop} (I : Nat → St → Prop)
    (step : ∀ n s, I n s → wpA X bs b (thenA (Again I n) Q) (forget keep locs s)) {n : Nat} {s : St} (h : I n s) : wpA X bs (.loop keep locs b) Q s := by
  induction n using Nat.strongRecOn generalizing s with
  | _ n ih =>
    refine wpA_loop hX (wpA_mono hX ?_ (step n s h))
    intro e s' h'
    cases e <;> simp only [thenA] at *
    · obtain ⟨m, hm, hi⟩ := h'
      exact ih m hm hi
    · exact h'
    · exact h'

end Go.Am
