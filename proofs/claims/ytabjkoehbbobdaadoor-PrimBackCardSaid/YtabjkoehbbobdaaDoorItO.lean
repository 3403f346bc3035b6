/- Any primitive: what it comes to, how a letter is written: on the abstract machine. -/
import Derived.Test.YtabjkoehbbobdaaDoorItTab
namespace Go.It
open Go.Am Go.Proofs
set_option maxRecDepth 100000

theorem wr64 {n : Int} (h1 : -9223372036854775808 ≤ n) (h2 : n < 9223372036854775808) : IntKind.wrap .i64 n = n := by
  show (if (true && decide (n % 18446744073709551616 ≥ 9223372036854775808)) = true then n % 18446744073709551616 - 18446744073709551616 else n % 18446744073709551616) = n
  simp only [Bool.true_and, decide_eq_true_eq]
  split <;> omega
theorem wr32 {n : Int} (h1 : -2147483648 ≤ n) (h2 : n < 2147483648) : IntKind.wrap .i32 n = n := by
  show (if (true && decide (n % 4294967296 ≥ 2147483648)) = true then n % 4294967296 - 4294967296 else n % 4294967296) = n
  simp only [Bool.true_and, decide_eq_true_eq]
  split <;> omega
theorem wr8 (n : Int) : IntKind.wrap .u8 n = n % 256 := by
  show (if (false && decide (n % 256 ≥ 128)) = true then n % 256 - 256 else n % 256) = n % 256
  simp

theorem enc_small {n : Int} (h1 : 0 ≤ n) (h2 : n < 128) : (Utf8.encode n).data.toList = [UInt8.ofNat n.toNat] := by
  have hv : Utf8.valid n = true := by
    simp only [Utf8.valid, Bool.and_eq_true, Bool.or_eq_true, decide_eq_true_eq]
    omega
  have hc : n.toNat < 128 := by omega
  unfold Utf8.encode
  simp only [hv, if_true, hc]

def ch (c : Int) : UInt8 := UInt8.ofNat c.toNat
theorem ch_toNat {c : Int} (h1 : 0 ≤ c) (h2 : c < 256) : ((ch c).toNat : Int) = c := by
  simp only [ch, UInt8.toNat_ofNat']
  omega

def letterT (c : Int) : List UInt8 :=
  if c = 10 then [39, 92, 110, 39] else if c = 39 ∨ c = 92 then [39, 92, ch c, 39] else if 32 ≤ c ∧ c ≤ 126 then [39, ch c, 39] else [39, 63, 39]

section
variable {bs : List Nat} {h : List Ob} {Q : V → List Ob → Prop}

theorem letter45 (c : Int) (h1 : 0 ≤ c) (h2 : c < 256) (hq : Q (.str (letterT c)) h) : CallA ap 50 0 bs [.int .i64 c] h Q := by
  refine CallA.code (af := ac50) rfl (Nat.le_of_ble_eq_true rfl) ?_
  have w32 : IntKind.wrap .i32 c = c := wr32 (by omega) (by omega)
  have w8 : IntKind.wrap .u8 c = c := by rw [wr8]; omega
  unfold letterT at hq
  by_cases c1 : c = 10
  · subst c1
    simp [ac50]
    simpa using hq
  rw [if_neg c1] at hq
  have b1 : (c == 10) = false := by simpa using c1
  by_cases c2 : c = 39
  · subst c2
    have he := enc_small (n := 39) (by omega) (by omega)
    rw [if_pos (.inl rfl)] at hq
    simp [ac50, w32, he]
    exact hq
  have b2 : (c == 39) = false := by simpa using c2
  by_cases c3 : c = 92
  · subst c3
    have he := enc_small (n := 92) (by omega) (by omega)
    rw [if_pos (.inr rfl)] at hq
    simp [ac50, w32, he]
    exact hq
  have b3 : (c == 92) = false := by simpa using c3
  rw [if_neg (by omega)] at hq
  have d1 : (0 : Int) ≤ c := h1
  by_cases c4 : c ≤ 126
  · by_cases c5 : 32 ≤ c
    · have he := enc_small (n := c) (by omega) (by omega)
      rw [if_pos ⟨c5, c4⟩] at hq
      have n2 : (c != 39) = true := by simpa using c2
      have n3 : (c != 92) = true := by simpa using c3
      simp [ac50, w32, w8, he, b1, b2, b3, d1, c4]
      refine CallA.code (af := ac63) rfl (Nat.le_of_ble_eq_true rfl) ?_
      simp [ac63, c4, c5, n2, n3, w32, he]
      exact hq
    · rw [if_neg (by omega)] at hq
      simp [ac50, w32, w8, b1, b2, b3, d1, c4]
      refine CallA.code (af := ac63) rfl (Nat.le_of_ble_eq_true rfl) ?_
      simp [ac63, c5]
      exact hq
  · rw [if_neg (by omega)] at hq
    simp [ac50, b1, b2, b3, d1, c4]
    exact hq

theorem quote24 (c : Int) (h1 : 0 ≤ c) (h2 : c < 256) (hq : Q (.str (letterT c)) h) : CallA ap 25 0 bs [.int .u8 c] h Q := by
  refine CallA.code (af := ac25) rfl (Nat.le_of_ble_eq_true rfl) ?_
  simp [ac25, wr64 (n := c) (by omega) (by omega)]
  refine letter45 c h1 h2 ?_
  simp
  exact hq

theorem quoteR (c : Int) (h1 : 0 ≤ c) (h2 : c < 256) (hq : Q (.str (letterT c)) h) : CallA ap 33 0 bs [.int .u8 c] h Q := by
  refine CallA.code (af := ac33) rfl (Nat.le_of_ble_eq_true rfl) ?_
  unfold letterT at hq
  by_cases c1 : c = 10
  · subst c1
    simp [ac33]
    simpa using hq
  rw [if_neg c1] at hq
  have b1 : (c == 10) = false := by simpa using c1
  by_cases c2 : c = 39
  · subst c2
    have he := enc_small (n := 39) (by omega) (by omega)
    rw [if_pos (.inl rfl)] at hq
    simp [ac33, he]
    exact hq
  have b2 : (c == 39) = false := by simpa using c2
  by_cases c3 : c = 92
  · subst c3
    have he := enc_small (n := 92) (by omega) (by omega)
    rw [if_pos (.inr rfl)] at hq
    simp [ac33, he]
    exact hq
  have b3 : (c == 92) = false := by simpa using c3
  rw [if_neg (by omega)] at hq
  by_cases c5 : 32 ≤ c
  · by_cases c4 : c ≤ 126
    · have he := enc_small (n := c) (by omega) (by omega)
      rw [if_pos ⟨c5, c4⟩] at hq
      simp [ac33, he, b1, b2, b3, c4, c5]
      exact hq
    · rw [if_neg (by omega)] at hq
      simp [ac33, b1, b2, b3, c4, c5]
      exact hq
  · rw [if_neg (by omega)] at hq
    simp [ac33, b1, b2, b3, c5]
    exact hq

def sAdd : List UInt8 := [112, 114, 105, 109, 73, 110, 116, 65, 100, 100]
def sSub : List UInt8 := [112, 114, 105, 109, 73, 110, 116, 83, 117, 98]
def sMul : List UInt8 := [112, 114, 105, 109, 73, 110, 116, 77, 117, 108]
def sEq : List UInt8 := [112, 114, 105, 109, 73, 110, 116, 69, 113]
def sCEq : List UInt8 := [112, 114, 105, 109, 67, 104, 97, 114, 69, 113]
def sLess : List UInt8 := [112, 114, 105, 109, 73, 110, 116, 76, 101, 115, 115]
def sCLess : List UInt8 := [112, 114, 105, 109, 67, 104, 97, 114, 76, 101, 115, 115]
def sShow : List UInt8 := [112, 114, 105, 109, 73, 110, 116, 83, 104, 111, 119]
def sCShow : List UInt8 := [112, 114, 105, 109, 67, 104, 97, 114, 83, 104, 111, 119]

def numN (s : List UInt8) (a b : Int) : Int := if s = sAdd then IntKind.wrap .i64 (a + b) else if s = sSub then IntKind.wrap .i64 (a - b) else if s = sMul then IntKind.wrap .i64 (a * b) else 0
def numB (s : List UInt8) : Bool := decide (s = sAdd ∨ s = sSub ∨ s = sMul)
def askV (s : List UInt8) (a b : Int) : Bool := if s = sEq ∨ s = sCEq then a == b else if s = sLess ∨ s = sCLess then decide (a < b) else false
def askB (s : List UInt8) : Bool := decide (s = sEq ∨ s = sCEq ∨ s = sLess ∨ s = sCLess)
def txtS (s : List UInt8) (a : Int) : List UInt8 := if s = sShow then Lib.itoa a else if s = sCShow then letterT (a % 256) else []
def txtB (s : List UInt8) : Bool := decide (s = sShow ∨ s = sCShow)

theorem number (s : List UInt8) (a b : Int) (hq : Q (.tup [.int .i64 (numN s a b), .bool (numB s)]) h) : CallA ap 28 0 bs [.str s, .int .i64 a, .int .i64 b] h Q := by
  refine CallA.code (af := ac28) rfl (Nat.le_of_ble_eq_true rfl) ?_
  by_cases eAdd : s = sAdd
  · subst eAdd
    simp [ac28, sAdd]
    simpa [numN, numB, sAdd, sSub, sMul] using hq
  have bAdd : (s == [112, 114, 105, 109, 73, 110, 116, 65, 100, 100]) = false := beq_false_of_ne eAdd
  by_cases eSub : s = sSub
  · subst eSub
    simp [ac28, sSub]
    simpa [numN, numB, sAdd, sSub, sMul] using hq
  have bSub : (s == [112, 114, 105, 109, 73, 110, 116, 83, 117, 98]) = false := beq_false_of_ne eSub
  by_cases eMul : s = sMul
  · subst eMul
    simp [ac28, sMul]
    simpa [numN, numB, sAdd, sSub, sMul] using hq
  have bMul : (s == [112, 114, 105, 109, 73, 110, 116, 77, 117, 108]) = false := beq_false_of_ne eMul
  simp [ac28, bAdd, bSub, bMul]
  simpa [numN, numB, eAdd, eSub, eMul] using hq

theorem numberR (s : List UInt8) (a b : Int) (hq : Q (.tup [.int .i64 (numN s a b), .bool (numB s)]) h) : CallA ap 29 0 bs [.str s, .int .i64 a, .int .i64 b] h Q := by
  refine CallA.code (af := ac29) rfl (Nat.le_of_ble_eq_true rfl) ?_
  by_cases eAdd : s = sAdd
  · subst eAdd
    simp [ac29, sAdd]
    simpa [numN, numB, sAdd, sSub, sMul] using hq
  have bAdd : (s == [112, 114, 105, 109, 73, 110, 116, 65, 100, 100]) = false := beq_false_of_ne eAdd
  by_cases eSub : s = sSub
  · subst eSub
    simp [ac29, sSub]
    simpa [numN, numB, sAdd, sSub, sMul] using hq
  have bSub : (s == [112, 114, 105, 109, 73, 110, 116, 83, 117, 98]) = false := beq_false_of_ne eSub
  by_cases eMul : s = sMul
  · subst eMul
    simp [ac29, sMul]
    simpa [numN, numB, sAdd, sSub, sMul] using hq
  have bMul : (s == [112, 114, 105, 109, 73, 110, 116, 77, 117, 108]) = false := beq_false_of_ne eMul
  simp [ac29, bAdd, bSub, bMul]
  simpa [numN, numB, eAdd, eSub, eMul] using hq

theorem asks (s : List UInt8) (a b : Int) (hq : Q (.tup [.bool (askV s a b), .bool (askB s)]) h) : CallA ap 30 0 bs [.str s, .int .i64 a, .int .i64 b] h Q := by
  refine CallA.code (af := ac30) rfl (Nat.le_of_ble_eq_true rfl) ?_
  by_cases eEq : s = sEq
  · subst eEq
    simp [ac30, sEq]
    simpa [askV, askB, sEq, sCEq, sLess, sCLess] using hq
  have bEq : (s == [112, 114, 105, 109, 73, 110, 116, 69, 113]) = false := beq_false_of_ne eEq
  by_cases eCEq : s = sCEq
  · subst eCEq
    simp [ac30, sCEq]
    simpa [askV, askB, sEq, sCEq, sLess, sCLess] using hq
  have bCEq : (s == [112, 114, 105, 109, 67, 104, 97, 114, 69, 113]) = false := beq_false_of_ne eCEq
  by_cases eLess : s = sLess
  · subst eLess
    simp [ac30, sLess]
    simpa [askV, askB, sEq, sCEq, sLess, sCLess] using hq
  have bLess : (s == [112, 114, 105, 109, 73, 110, 116, 76, 101, 115, 115]) = false := beq_false_of_ne eLess
  by_cases eCLess : s = sCLess
  · subst eCLess
    simp [ac30, sCLess]
    simpa [askV, askB, sEq, sCEq, sLess, sCLess] using hq
  have bCLess : (s == [112, 114, 105, 109, 67, 104, 97, 114, 76, 101, 115, 115]) = false := beq_false_of_ne eCLess
  simp [ac30, bEq, bCEq, bLess, bCLess]
  simpa [askV, askB, eEq, eCEq, eLess, eCLess] using hq

theorem asksR (s : List UInt8) (a b : Int) (hq : Q (.tup [.bool (askV s a b), .bool (askB s)]) h) : CallA ap 31 0 bs [.str s, .int .i64 a, .int .i64 b] h Q := by
  refine CallA.code (af := ac31) rfl (Nat.le_of_ble_eq_true rfl) ?_
  by_cases eEq : s = sEq
  · subst eEq
    simp [ac31, sEq]
    simpa [askV, askB, sEq, sCEq, sLess, sCLess] using hq
  have bEq : (s == [112, 114, 105, 109, 73, 110, 116, 69, 113]) = false := beq_false_of_ne eEq
  by_cases eCEq : s = sCEq
  · subst eCEq
    simp [ac31, sCEq]
    simpa [askV, askB, sEq, sCEq, sLess, sCLess] using hq
  have bCEq : (s == [112, 114, 105, 109, 67, 104, 97, 114, 69, 113]) = false := beq_false_of_ne eCEq
  by_cases eLess : s = sLess
  · subst eLess
    simp [ac31, sLess]
    simpa [askV, askB, sEq, sCEq, sLess, sCLess] using hq
  have bLess : (s == [112, 114, 105, 109, 73, 110, 116, 76, 101, 115, 115]) = false := beq_false_of_ne eLess
  by_cases eCLess : s = sCLess
  · subst eCLess
    simp [ac31, sCLess]
    simpa [askV, askB, sEq, sCEq, sLess, sCLess] using hq
  have bCLess : (s == [112, 114, 105, 109, 67, 104, 97, 114, 76, 101, 115, 115]) = false := beq_false_of_ne eCLess
  simp [ac31, bEq, bCEq, bLess, bCLess]
  simpa [askV, askB, eEq, eCEq, eLess, eCLess] using hq

theorem format (a : Int) (h1 : -9223372036854775808 ≤ a) (h2 : a < 9223372036854775808) (hq : Q (.str (Lib.itoa a)) h) : CallA ap 51 0 bs [.int .i64 a, .int .i64 10] h Q := by
  refine CallA.code (af := ac51) rfl (Nat.le_of_ble_eq_true rfl) ?_
  simp [ac51]
  refine CallA.prim (p := itoaP) rfl (v := .str (Lib.itoa a)) ?_ ?_
  · simp only [itoaP]
    rw [if_pos ⟨h1, by omega⟩]
  · simp
    exact hq

theorem text (s : List UInt8) (a : Int) (h1 : -9223372036854775808 ≤ a) (h2 : a < 9223372036854775808) (hq : Q (.tup [.str (txtS s a), .bool (txtB s)]) h) : CallA ap 26 0 bs [.str s, .int .i64 a] h Q := by
  refine CallA.code (af := ac26) rfl (Nat.le_of_ble_eq_true rfl) ?_
  by_cases eShow : s = sShow
  · subst eShow
    simp [ac26, sShow]
    refine format a h1 h2 ?_
    simp
    simpa [txtS, txtB, sShow, sCShow] using hq
  have bShow : (s == [112, 114, 105, 109, 73, 110, 116, 83, 104, 111, 119]) = false := beq_false_of_ne eShow
  by_cases eCShow : s = sCShow
  · subst eCShow
    simp [ac26, sCShow, wr8]
    refine quote24 (a % 256) (by omega) (by omega) ?_
    simp
    simpa [txtS, txtB, sShow, sCShow] using hq
  have bCShow : (s == [112, 114, 105, 109, 67, 104, 97, 114, 83, 104, 111, 119]) = false := beq_false_of_ne eCShow
  simp [ac26, bShow, bCShow]
  simpa [txtS, txtB, eShow, eCShow] using hq

theorem textR (s : List UInt8) (a : Int) (h1 : -9223372036854775808 ≤ a) (h2 : a < 9223372036854775808) (hq : Q (.tup [.str (txtS s a), .bool (txtB s)]) h) : CallA ap 32 0 bs [.str s, .int .i64 a] h Q := by
  refine CallA.code (af := ac32) rfl (Nat.le_of_ble_eq_true rfl) ?_
  by_cases eShow : s = sShow
  · subst eShow
    simp [ac32, sShow]
    refine format a h1 h2 ?_
    simp
    simpa [txtS, txtB, sShow, sCShow] using hq
  have bShow : (s == [112, 114, 105, 109, 73, 110, 116, 83, 104, 111, 119]) = false := beq_false_of_ne eShow
  by_cases eCShow : s = sCShow
  · subst eCShow
    simp [ac32, sCShow, wr8]
    refine quoteR (a % 256) (by omega) (by omega) ?_
    simp
    simpa [txtS, txtB, sShow, sCShow] using hq
  have bCShow : (s == [112, 114, 105, 109, 67, 104, 97, 114, 83, 104, 111, 119]) = false := beq_false_of_ne eCShow
  simp [ac32, bShow, bCShow]
  simpa [txtS, txtB, eShow, eCShow] using hq


end
end Go.It
