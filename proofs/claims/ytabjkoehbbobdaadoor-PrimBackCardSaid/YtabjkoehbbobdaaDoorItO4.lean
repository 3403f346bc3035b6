/- A letter that is written is read as that letter; a number's digits as that number: letters, on the abstract machine. -/
import Derived.Test.YtabjkoehbbobdaaDoorItO3
import Derived.Test.YtabjkoehbbobdaaDoorItO2
namespace Go.It
open Go.Am Go.Proofs
set_option maxRecDepth 1000000

def want (m : Nat) : Int := if 32 ≤ m ∧ m ≤ 126 ∨ m = 10 then m else 63
/-- What reading a written letter comes to: one word, of that number. -/
def lkOk (w : Int) : Option (V × List Ob) → Bool
  | some (.tup [.sl .frozen [.agg [_, _, _, .int .i64 n]], .agg [.int .i64 0, _, _]], []) => decide (n = w)
  | _ => false
def lk (m : Nat) : Bool := lkOk (want m) (xBody ap (xFuel ap 100) 24 0 [0] [.sl .frozen (byV (letterT m))] [])
theorem lk_all : ((List.range 256).all lk) = true := by decide +kernel

section
variable {Q : V → List Ob → Prop}
theorem splitL (m : Nat) (hm : m < 256) (hq : ∀ k s p x y, Q (.tup [.sl .frozen [.agg [k, p, s, .int .i64 (want m)]], .agg [.int .i64 0, x, y]]) []) : CallA ap 24 0 [0] [.sl .frozen (byV (letterT m))] [] Q := by
  have h := List.all_eq_true.1 lk_all m (List.mem_range.2 hm)
  unfold lk at h
  cases e : xBody ap (xFuel ap 100) 24 0 [0] [.sl .frozen (byV (letterT m))] [] with
  | none => rw [e] at h; cases h
  | some x =>
    obtain ⟨v, h'⟩ := x
    rw [e] at h
    refine xBody_ok (xFuel_ok ap 100) e ?_
    unfold lkOk at h
    split at h
    · rename_i e2
      cases e2
      have := of_decide_eq_true h
      subst this
      exact hq _ _ _ _ _
    · cases h
end

end Go.It
