/- The law ForceLimits on the abstract machine: a number's text, as long as it may be. -/
import Derived.Test.YtjdkaoiokdfmgaaDoorRtOvN
import Derived.Test.YtjdkaoiokdfmgaaDoorAmI
import Derived.Test.YtjdkaoiokdfmgaaDoorAmL
import Derived.Lib.ItoaNum
namespace Go.Rt
open Go.Am Go.Proofs
set_option maxRecDepth 100000
set_option maxHeartbeats 8000000

section
variable {bs : List Nat} {h : List Ob} {Q : V → List Ob → Prop}

theorem first26 (hb : bs = [0]) (hq : Q (.bool true) []) : CallA ap 5 0 bs [] [] Q := by
  subst hb
  exact runsO ov_ok 3000 (v := .bool true) (h' := []) (by as_aux_lemma => kernel_rfl) hq

theorem formatI (a : Int) (h1 : -9223372036854775808 ≤ a) (h2 : a < 9223372036854775808) (hq : Q (.str (Lib.itoa a)) h) : CallA ap 12 0 bs [.int .i64 a, .int .i64 10] h Q := by
  refine CallA.code (af := ac12) rfl (Nat.le_of_ble_eq_true rfl) ?_
  simp [ac12]
  refine CallA.prim (p := itoaP) rfl (v := .str (Lib.itoa a)) ?_ ?_
  · simp only [itoaP]
    rw [if_pos ⟨h1, by omega⟩]
  · simpa using hq

theorem formatU (u : Nat) (h1 : u < 18446744073709551616) (hq : Q (.str (Lib.decDigits u)) h) : CallA ap 28 0 bs [.int .u64 u, .int .i64 10] h Q := by
  refine CallA.code (af := ac28) rfl (Nat.le_of_ble_eq_true rfl) ?_
  simp [ac28]
  refine CallA.prim (p := utoaP) rfl (v := .str (Lib.decDigits u)) ?_ ?_
  · simp only [utoaP]
    rw [if_pos ⟨by omega, by omega⟩]
    simp
  · simpa using hq

theorem textI (a : Int) (h1 : -9223372036854775808 ≤ a) (h2 : a < 9223372036854775808) (hq : Q (.tup [.str (Lib.itoa a), .bool true]) h) : CallA ap 7 0 bs [.str [112, 114, 105, 109, 73, 110, 116, 83, 104, 111, 119], .int .i64 a] h Q := by
  refine CallA.code (af := ac7) rfl (Nat.le_of_ble_eq_true rfl) ?_
  simp [ac7]
  refine formatI a h1 h2 ?_
  simpa using hq

/-- A number as a term; a machine for it; that machine behind its run, with a writer. -/
def tI (n : Int) : V := .agg [.int .i64 3, .str [], .int .i64 n, .int .i64 0, .str [], .sl .frozen [], .sl .frozen [], .sl .frozen [], .sl .frozen []]
def hI (n : Int) : List Ob := [.map [] [] 0, .box [(.map (some 0)), (.int .i64 0)], .map [] [] 0, .box [(.map (some 2)), (.int .i64 0)], .box [(.sl .clip []), (.int .i64 0), (.int .i64 (-1)), (.ptr 5 0)],
  .box [(.int .i64 3), (.int .i64 n), (.str []), (.int .i64 (-1)), .nilp, .nilp, (.sl .clip []), (.sl .clip []), .nilp, (.sl .clip [])], .box [.nilp, (.bool false), (.ptr 4 0), (.sl .clip [])],
  .box [(.int .i64 100), (.int .i64 0), (.int .i64 0), .nili, (.ptr 6 0), (.sl .clip []), (.sl .clip []), .nilp, (.sl .clip []), .nilp, (.bool false)]]
def wI (n most : Int) : List Ob := [.map [] [] 0, .box [(.map (some 0)), (.int .i64 0)], .map [] [] 0, .box [(.map (some 2)), (.int .i64 0)], .box [(.sl .clip []), (.int .i64 0), (.int .i64 (-1)), (.ptr 5 0)],
  .box [(.int .i64 3), (.int .i64 n), (.str []), (.int .i64 (-1)), .nilp, .nilp, (.sl .clip []), (.sl .clip []), .nilp, (.sl .clip [])], .box [.nilp, (.bool false), (.ptr 4 0), (.sl .clip [])],
  .box [(.int .i64 100), (.int .i64 0), (.int .i64 0), .nili, (.ptr 6 0), (.sl .clip []), (.sl .clip []), .nilp, (.sl .clip []), .nilp, (.bool false)], .box [(.ptr 7 0), (.int .i64 1000), (.int .i64 most), (.sl .clip [])]]
def gI (n : Int) (w : List V) : List Ob := [.map [] [] 0, .box [(.map (some 0)), (.int .i64 0)], .map [] [] 0, .box [(.map (some 2)), (.int .i64 0)], .box [(.sl .clip []), (.int .i64 0), (.int .i64 (-1)), (.ptr 5 0)],
  .box [(.int .i64 3), (.int .i64 n), (.str []), (.int .i64 (-1)), .nilp, .nilp, (.sl .clip []), (.sl .clip []), .nilp, (.sl .clip [])], .box [(.ptr 11 0), (.bool false), .nilp, (.sl .clip [])],
  .box [(.int .i64 100), (.int .i64 0), (.int .i64 3), .nili, (.ptr 6 0), (.sl .clip []), (.vec 9 0 0 0 7), .nilp, (.sl .clip []), (.ptr 11 0), (.bool false)], .box w,
  .vec 0 7 [(.int .i64 1), (.ptr 6 0), .nilp, (.sl .clip []), (.str []), (.sl .clip []), (.sl .clip [])], .box [], .box [(.int .i64 3), (.int .i64 n), (.str []), (.sl .clip []), .nilp, (.sl .clip [])]]

theorem newI (n : Int) (hb : bs = [0] ∨ bs = [0, 0]) (hq : Q (.ptr 7 0) (hI n)) : CallA ap 8 0 bs [tI n, .int .i64 100] [] Q := by
  rcases hb with rfl | rfl
  · exact runsO ov_ok 3000 (v := .ptr 7 0) (h' := hI n) (by clear hq; as_aux_lemma => kernel_rfl) hq
  · exact runsO ov_ok 3000 (v := .ptr 7 0) (h' := hI n) (by clear hq; as_aux_lemma => kernel_rfl) hq

theorem runI (n most : Int) (hb : bs = [0] ∨ bs = [0, 0]) (hq : Q .nili (gI n [.ptr 7 0, .int .i64 997, .int .i64 most, .sl .clip []])) : CallA ap 25 0 bs [.ptr 8 0] (wI n most) Q := by
  rcases hb with rfl | rfl
  · exact runsO ov_ok 3000 (v := .nili) (h' := gI n [.ptr 7 0, .int .i64 997, .int .i64 most, .sl .clip []]) (by clear hq; as_aux_lemma => kernel_rfl) hq
  · exact runsO ov_ok 3000 (v := .nili) (h' := gI n [.ptr 7 0, .int .i64 997, .int .i64 most, .sl .clip []]) (by clear hq; as_aux_lemma => kernel_rfl) hq

theorem topI (n : Int) (w : List V) (hb : bs = [0] ∨ bs = [0, 0]) (hq : Q (.tup [.str [], .int .i64 n, .int .i64 (-1)]) (gI n w)) : CallA ap 26 0 bs [.ptr 7 0] (gI n w) Q := by
  rcases hb with rfl | rfl
  · exact runsO ov_ok 3000 (v := .tup [.str [], .int .i64 n, .int .i64 (-1)]) (h' := gI n w) (by clear hq; as_aux_lemma => kernel_rfl) hq
  · exact runsO ov_ok 3000 (v := .tup [.str [], .int .i64 n, .int .i64 (-1)]) (h' := gI n w) (by clear hq; as_aux_lemma => kernel_rfl) hq

def bytesI (s : List UInt8) : List V := s.map fun b => .int .u8 b.toNat
theorem flat_bytes (s : List UInt8) : (bytesI s).flatMap V.cells = bytesI s := by
  induction s with
  | nil => rfl
  | cons c s ih => simpa [bytesI, V.cells] using ih

def pI (n most : Int) (s : List UInt8) : List Ob := gI n [.ptr 7 0, .int .i64 997, .int .i64 most, .vec 12 0 0 s.length 1] ++ [.vec 0 1 (bytesI s)]

theorem putsI (n most : Int) (s : List UInt8) (h0 : s ≠ []) (hl : s.length ≤ 100) (hb : bs = [0] ∨ bs = [0, 0]) (hq : ∀ v, v = (if (s.length : Int) > most then V.sent 0 else V.nili) → Q v (pI n most s)) :
    CallA ap 27 0 bs [.ptr 8 0, .str s] (gI n [.ptr 7 0, .int .i64 997, .int .i64 most, .sl .clip []]) Q := by
  refine CallA.code (af := ac27) rfl (Nat.le_of_ble_eq_true rfl) ?_
  have hok : ∀ xs, okStore bs 8 xs := fun xs b hb' hlt => by rcases hb with rfl | rfl <;> simp at hb' <;> omega
  cases s with
  | nil => exact absurd rfl h0
  | cons c s =>
    have hq1 : (s.length + 1 : Int) > most → Q (.sent 0) (pI n most (c :: s)) := fun hc => hq _ (by rw [if_pos (by simpa using hc)])
    have hq2 : ¬ (s.length + 1 : Int) > most → Q .nili (pI n most (c :: s)) := fun hc => hq _ (by rw [if_neg (by simpa using hc)])
    have hll : s.length + 1 ≤ 100 := by simpa using hl
    have hfl : List.flatMap V.cells (List.map (fun b : UInt8 => V.int .u8 b.toNat) s) = bytesI s := flat_bytes s
    simp only [pI, gI, bytesI, List.map_cons, List.length_cons, List.cons_append, List.nil_append] at hq1 hq2
    simp [ac27, gI, splice, hok, V.cells, hfl]
    refine ⟨by simp only [lim]; omega, fun d => ?_, fun d => ?_⟩
    · have d := of_decide_eq_true d
      simpa [bytesI] using hq1 (by omega)
    · have d := of_decide_eq_false d
      simpa [bytesI] using hq2 (by omega)

end

def wantI (n : Int) : List UInt8 := if n < 0 then [40, 48, 32, 45, 32] ++ Lib.decDigits n.natAbs ++ [41] else Lib.itoa n

theorem dig_len (u : Nat) (hu : u < 18446744073709551616) : 1 ≤ (Lib.decDigits u).length ∧ (Lib.decDigits u).length ≤ 20 := by
  have h1 : Lib.decDigits u ≠ [] := by rw [Lib.decDigits]; split <;> simp
  have h2 : 0 < (Lib.decDigits u).length := List.length_pos_iff.2 h1
  refine ⟨h2, ?_⟩
  by_cases h0 : u = 0
  · subst h0; rw [Lib.decDigits]; simp
  · rw [Lib.decDigits_length]
    have := Lib.numDigits_eq u (by omega) hu
    split at this <;> omega

theorem want_len (n : Int) (h1 : -9223372036854775808 ≤ n) (h2 : n < 9223372036854775808) : 1 ≤ (wantI n).length ∧ (wantI n).length ≤ 30 := by
  unfold wantI
  split
  · have := dig_len n.natAbs (by omega)
    simp; omega
  · have := dig_len n.toNat (by omega)
    have e : Lib.itoa n = Lib.decDigits n.toNat := by rw [Lib.itoa, if_neg (by omega)]
    rw [e]; omega

end Go.Rt
