/- The lexer's small functions on the abstract machine. -/
import Derived.Test.YtjfflpknmhflfaaDoorUtTab
import Derived.Test.YtjfflpknmhflfaaDoorAmK
import Derived.Test.YtjfflpknmhflfaaDoorAmL
namespace Go.Ut
open Go.Am Go.Proofs
set_option maxRecDepth 100000

abbrev Bs := List UInt8
def isSm (c : UInt8) : Bool := (decide (97 ≤ c.toNat) && decide (c.toNat ≤ 122)) || c.toNat == 95
def isGr (c : UInt8) : Bool := decide (65 ≤ c.toNat) && decide (c.toNat ≤ 90)
def isDg (c : UInt8) : Bool := decide (48 ≤ c.toNat) && decide (c.toNat ≤ 57)
def goesB (c : UInt8) : Bool := isSm c || isGr c || isDg c || c.toNat == 39
def plainB (c : UInt8) : Bool := decide (32 ≤ c.toNat) && decide (c.toNat ≤ 126) && c.toNat != 39 && c.toNat != 92
def bV (b : Bs) : List V := b.map fun c => .int .u8 c.toNat
def chV (c : UInt8) : V := .int .u8 c.toNat

/-- How many from the first on are so. -/
def whl (p : UInt8 → Bool) : Bs → Nat
  | [] => 0
  | c :: b => if p c then whl p b + 1 else 0

theorem whl_le (p : UInt8 → Bool) : ∀ b : Bs, whl p b ≤ b.length
  | [] => Nat.le_refl _
  | c :: b => by
    simp only [whl, List.length_cons]
    split
    · have := whl_le p b; omega
    · omega

theorem whl_is {p : UInt8 → Bool} : ∀ (b : Bs) (i : Nat), (∀ j (hj : j < b.length), j < i → p b[j] = true) → i ≤ b.length → (∀ h : i < b.length, p b[i] = false) → whl p b = i
  | [], i, _, hi, _ => by
    have : i = 0 := by simpa using hi
    simp [whl, this]
  | c :: b, 0, _, _, hn => by
    have := hn (by simp)
    simp only [List.getElem_cons_zero] at this
    simp [whl, this]
  | c :: b, i + 1, h, hi, hn => by
    have h0 := h 0 (by simp) (by omega)
    simp only [List.getElem_cons_zero] at h0
    have ih := whl_is b i (fun j hj hji => h (j + 1) (by simpa using hj) (by omega)) (by simpa using hi) (fun hl => hn (by simpa using hl))
    simp [whl, h0, ih]

def RES : Bs := [32, 100, 97, 116, 97, 32, 99, 108, 97, 115, 115, 32, 105, 110, 115, 116, 97, 110, 99, 101, 32, 119, 104, 101, 114, 101, 32, 108, 101, 116, 32, 105, 110, 32, 99, 97, 115, 101, 32, 111, 102, 32, 105, 102, 32, 116, 104, 101, 110, 32, 101, 108, 115, 101, 32, 100, 101, 114, 105, 118, 105, 110, 103, 32]
def resB (s : Bs) : Bool := s != [] && !Lib.contains s [32] && Lib.contains RES (32 :: (s ++ [32]))
def nameB (s : Bs) : Bool := s.all goesB && decide (0 < s.length) && decide (s.length ≤ 40)
def lowB (s : Bs) : Bool := nameB s && s.head?.any isSm && s != [95] && !resB s
def highB (s : Bs) : Bool := nameB s && s.head?.any isGr

theorem wrapn {n : Int} (h1 : -9223372036854775808 ≤ n) (h2 : n < 9223372036854775808) : IntKind.wrap .i64 n = n := by
  show (if (true && decide (n % 18446744073709551616 ≥ 9223372036854775808)) = true then n % 18446744073709551616 - 18446744073709551616 else n % 18446744073709551616) = n
  simp only [Bool.true_and, decide_eq_true_eq]
  split <;> omega

theorem bV_len (b : Bs) : (bV b).length = b.length := by simp [bV]
theorem bV_get (b : Bs) (i : Nat) : (bV b)[i]? = (b[i]?).map chV := by simp only [bV, List.getElem?_map]; rfl
theorem bV_at (b : Bs) (i : Nat) (h : i < (bV b).length) : (bV b)[i] = .int .u8 (b[i]'(by simpa [bV] using h)).toNat := by simp [bV]
theorem bV_drop (b : Bs) (i : Nat) : (bV b).drop i = bV (b.drop i) := by simp [bV, List.map_drop]
theorem bV_take (b : Bs) (i : Nat) : (bV b).take i = bV (b.take i) := by simp [bV, List.map_take]
theorem bV_cells (b : Bs) : ∀ x ∈ bV b, x.cells.length = 1 := by
  intro x hx
  simp only [bV, List.mem_map] at hx
  obtain ⟨c, _, rfl⟩ := hx
  rfl
theorem bV_dem (b : Bs) : demoteL (bV b) = bV b := by
  induction b with
  | nil => rfl
  | cons c b ih => simp only [bV, List.map_cons, demoteL, V.demote] at ih ⊢; rw [ih]
theorem bV_under (m : Nat) (b : Bs) : underL m (bV b) = true := by
  induction b with
  | nil => rfl
  | cons c b ih => simp only [bV, List.map_cons, underL, V.under, Bool.true_and] at ih ⊢; exact ih
theorem bV_text (t : Tag) : ∀ b : Bs, bytesV (.sl t (bV b)) = some b
  | [] => by simp [bV, bytesV]
  | c :: b => by
    have := bV_text t b
    simp only [bV] at this
    simp [bV, bytesV, this]

theorem eqn (c : UInt8) (k : Nat) : ((c.toNat : Int) == (k : Int)) = (c.toNat == k) := by
  rw [Bool.eq_iff_iff]
  simp only [beq_iff_eq]
  omega

section
variable {bs : List Nat} {h : List Ob} {Q : V → List Ob → Prop}

theorem small29 (c : UInt8) (hq : Q (.bool (isSm c)) h) : CallA ap 29 0 bs [.int .u8 c.toNat] h Q := by
  refine CallA.code (af := ac29) rfl (Nat.le_of_ble_eq_true rfl) ?_
  unfold isSm at hq
  by_cases h1 : 97 ≤ c.toNat <;> by_cases h2 : c.toNat ≤ 122 <;> by_cases h3 : c.toNat = 95 <;>
    (have g1 : (97 ≤ (c.toNat : Int)) = (97 ≤ c.toNat) := propext (by omega)
     have g2 : ((c.toNat : Int) ≤ 122) = (c.toNat ≤ 122) := propext (by omega)
     have g3 : ((c.toNat : Int) == 95) = (c.toNat == 95) := eqn c 95
     simp [ac29, g1, g2, g3, h1, h2, h3] at hq ⊢
     exact hq)

theorem great30 (c : UInt8) (hq : Q (.bool (isGr c)) h) : CallA ap 30 0 bs [.int .u8 c.toNat] h Q := by
  refine CallA.code (af := ac30) rfl (Nat.le_of_ble_eq_true rfl) ?_
  unfold isGr at hq
  by_cases h1 : 65 ≤ c.toNat <;> by_cases h2 : c.toNat ≤ 90 <;>
    (have g1 : (65 ≤ (c.toNat : Int)) = (65 ≤ c.toNat) := propext (by omega)
     have g2 : ((c.toNat : Int) ≤ 90) = (c.toNat ≤ 90) := propext (by omega)
     simp [ac30, g1, g2, h1, h2] at hq ⊢
     exact hq)

theorem digit54 (c : UInt8) (hq : Q (.bool (isDg c)) h) : CallA ap 54 0 bs [.int .u8 c.toNat] h Q := by
  refine CallA.code (af := ac54) rfl (Nat.le_of_ble_eq_true rfl) ?_
  unfold isDg at hq
  by_cases h1 : 48 ≤ c.toNat <;> by_cases h2 : c.toNat ≤ 57 <;>
    (have g1 : (48 ≤ (c.toNat : Int)) = (48 ≤ c.toNat) := propext (by omega)
     have g2 : ((c.toNat : Int) ≤ 57) = (c.toNat ≤ 57) := propext (by omega)
     simp [ac54, g1, g2, h1, h2] at hq ⊢
     exact hq)

theorem plain65 (c : UInt8) (hq : Q (.bool (plainB c)) h) : CallA ap 65 0 bs [.int .u8 c.toNat] h Q := by
  refine CallA.code (af := ac65) rfl (Nat.le_of_ble_eq_true rfl) ?_
  unfold plainB at hq
  by_cases h1 : 32 ≤ c.toNat <;> by_cases h2 : c.toNat ≤ 126 <;> cases h3 : (c.toNat != 39) <;>
    (have g1 : (32 ≤ (c.toNat : Int)) = (32 ≤ c.toNat) := propext (by omega)
     have g2 : ((c.toNat : Int) ≤ 126) = (c.toNat ≤ 126) := propext (by omega)
     have g3 : ((c.toNat : Int) != 39) = (c.toNat != 39) := congrArg (! ·) (eqn c 39)
     have g4 : ((c.toNat : Int) != 92) = (c.toNat != 92) := congrArg (! ·) (eqn c 92)
     simp [ac65, g1, g2, g3, g4, h1, h2, h3] at hq ⊢
     exact hq)

theorem goes46 (c : UInt8) (hq : Q (.bool (goesB c)) h) : CallA ap 46 0 bs [.int .u8 c.toNat] h Q := by
  refine CallA.code (af := ac46) rfl (Nat.le_of_ble_eq_true rfl) ?_
  have g3 : ((c.toNat : Int) == 39) = (c.toNat == 39) := eqn c 39
  unfold goesB at hq
  simp [ac46]
  refine small29 c ?_
  cases e1 : isSm c
  · simp
    refine great30 c ?_
    cases e2 : isGr c
    · simp
      refine digit54 c ?_
      cases e3 : isDg c
      · simp [g3]
        simpa [e1, e2, e3] using hq
      · simp
        simpa [e1, e2, e3] using hq
    · simp
      simpa [e1, e2] using hq
  · simp
    simpa [e1] using hq

theorem blank52 (c : UInt8) (hq : Q (.bool (c.toNat != 10)) h) : CallA ap 52 0 bs [.int .u8 c.toNat] h Q := by
  refine CallA.code (af := ac52) rfl (Nat.le_of_ble_eq_true rfl) ?_
  have g3 : ((c.toNat : Int) != 10) = (c.toNat != 10) := congrArg (! ·) (eqn c 10)
  simp [ac52, g3]
  exact hq

theorem while51 {p : UInt8 → Bool} {f : Nat} (hf : ∀ (c : UInt8) (bs : List Nat) (h : List Ob) (Q : V → List Ob → Prop), Q (.bool (p c)) h → CallA ap f 0 bs [.int .u8 c.toNat] h Q) (b : Bs) (hb : b.length < 1000000) (hq : Q (.int .i64 (whl p b)) h) :
    CallA ap 51 0 bs [.sl .frozen (bV b), .fn f []] h Q := by
  refine CallA.code (af := ac51) rfl (Nat.le_of_ble_eq_true rfl) ?_
  simp [ac51]
  obtain ⟨I, hI⟩ : ∃ I : Nat → St → Prop, ∀ n σ, I n σ ↔ (∃ i : Nat, i + n = b.length ∧ (∀ j (hj : j < b.length), j < i → p b[j] = true) ∧ σ.r 0 = .sl .frozen (bV b) ∧ σ.r 1 = .fn f [] ∧ σ.r 5 = .int .i64 i ∧ σ.h = h) := ⟨_, fun _ _ => Iff.rfl⟩
  refine loop_ind (CallA.hle ap) I ?_ (n := b.length) ((hI _ _).2 ⟨0, by simp⟩)
  rintro n ⟨r, lo, h'⟩ hst
  obtain ⟨i, hin, hp, r0, r1, r5, rfl⟩ := (hI _ _).1 hst
  simp only at r0 r1 r5
  by_cases hi : i < b.length
  · have hw : IntKind.wrap .i64 ((i : Int) + 1) = ((i + 1 : Nat) : Int) := by rw [wrapn (by omega) (by omega)]; omega
    simp [forget, noLoc, locOf, r0, r1, r5, bV_len, bV_at, hi]
    refine hf _ _ _ _ ?_
    cases e : p b[i]
    · simp [r5]
      have := whl_is b i hp (by omega) (fun _ => e)
      rw [this] at hq
      exact hq
    · simp [r5, hw]
      refine ⟨n - 1, by omega, (hI _ _).2 ⟨i + 1, by omega, fun j hj hji => ?_, by simp [r0, r1]⟩⟩
      by_cases hji' : j = i
      · subst hji'; exact e
      · exact hp j hj (by omega)
  · simp [forget, noLoc, locOf, r0, r1, r5, bV_len, hi]
    have := whl_is b i hp (by omega) (fun h => absurd h hi)
    rw [this] at hq
    exact hq

theorem name28 (s : Bs) (hs : s.length < 1000000) (hq : Q (.bool (nameB s)) h) : CallA ap 28 0 bs [.str s] h Q := by
  refine CallA.code (af := ac28) rfl (Nat.le_of_ble_eq_true rfl) ?_
  simp [ac28]
  obtain ⟨I, hI⟩ : ∃ I : Nat → St → Prop, ∀ n σ, I n σ ↔ (∃ i : Nat, i + n = s.length ∧ (∀ j (hj : j < s.length), j < i → goesB s[j] = true) ∧ σ.r 0 = .str s ∧ σ.r 5 = .int .i64 s.length ∧ σ.r 6 = .int .i64 i ∧ σ.h = h) := ⟨_, fun _ _ => Iff.rfl⟩
  refine loop_ind (CallA.hle ap) I ?_ (n := s.length) ((hI _ _).2 ⟨0, by simp⟩)
  rintro n ⟨r, lo, h'⟩ hst
  obtain ⟨i, hin, hp, r0, r5, r6, rfl⟩ := (hI _ _).1 hst
  simp only at r0 r5 r6
  unfold nameB at hq
  by_cases hi : i < s.length
  · have hw : IntKind.wrap .i64 ((i : Int) + 1) = ((i + 1 : Nat) : Int) := by rw [wrapn (by omega) (by omega)]; omega
    simp [forget, noLoc, locOf, r0, r5, r6, hi]
    refine goes46 _ ?_
    cases e : goesB s[i]
    · simp
      have : s.all goesB = false := by
        rw [List.all_eq_false]
        exact ⟨s[i], List.getElem_mem hi, by simp [e]⟩
      rw [this] at hq
      exact hq
    · simp [r6, hw]
      refine ⟨n - 1, by omega, (hI _ _).2 ⟨i + 1, by omega, fun j hj hji => ?_, by simp [r0, r5]⟩⟩
      by_cases hji' : j = i
      · subst hji'; exact e
      · exact hp j hj (by omega)
  · have hall : s.all goesB = true := by
      rw [List.all_eq_true]
      intro x hx
      obtain ⟨j, hj, rfl⟩ := List.getElem_of_mem hx
      exact hp j hj (by omega)
    rw [hall] at hq
    by_cases h0 : 0 < s.length <;> by_cases h4 : s.length ≤ 40 <;>
      (have g1 : (0 < (s.length : Int)) = (0 < s.length) := propext (by omega)
       have g2 : ((s.length : Int) ≤ 40) = (s.length ≤ 40) := propext (by omega)
       simp [forget, noLoc, locOf, r0, r5, r6, hi, g1, g2, h0, h4] at hq ⊢
       exact hq)

theorem res16 (s : Bs) (hs : s.length < 1000000) (hq : Q (.bool (resB s)) h) : CallA ap 16 0 bs [.str s] h Q := by
  refine CallA.code (af := ac16) rfl (Nat.le_of_ble_eq_true rfl) ?_
  unfold resB at hq
  have l1 : s.length < 4294967281 := by omega
  by_cases h1 : s = []
  · subst h1
    simp [ac16] at hq ⊢
    exact hq
  · have g1 : (s == []) = false := by simpa using h1
    have g2 : (s != []) = true := by simpa using h1
    simp [ac16, g1]
    refine CallA.prim (p := contP) rfl (v := .bool (Lib.contains s [32])) (by simp [contP, l1]) ?_
    cases e : Lib.contains s [32]
    · have l2 : 1 + s.length ≤ 4611686018427387904 := by omega
      have l3 : s.length + 1 + 1 ≤ 4611686018427387904 := by omega
      simp [l2, l3]
      refine CallA.prim (p := contP) rfl (v := .bool (Lib.contains RES (32 :: (s ++ [32])))) (by simp [contP, RES]) ?_
      simp
      simpa [e, g2] using hq
    · simp
      simpa [e, g2] using hq

theorem low14 (s : Bs) (hs : s.length < 1000000) (hq : Q (.bool (lowB s)) h) : CallA ap 14 0 bs [.str s] h Q := by
  refine CallA.code (af := ac14) rfl (Nat.le_of_ble_eq_true rfl) ?_
  unfold lowB at hq
  simp [ac14]
  refine name28 s hs ?_
  cases e : nameB s
  · simp
    simpa [e] using hq
  · cases s with
    | nil => simp [nameB] at e
    | cons c r =>
      simp
      refine small29 c ?_
      cases e2 : isSm c
      · simp
        simpa [e, e2] using hq
      · by_cases e3 : c :: r = [95]
        · have g3 : (c :: r == [95]) = true := by simpa using e3
          simp [g3]
          simpa [e, e2, bne, g3] using hq
        · have g3 : (c :: r == [95]) = false := by simpa using e3
          simp [g3]
          refine res16 (c :: r) hs ?_
          simp
          simpa [e, e2, bne, g3] using hq

theorem high15 (s : Bs) (hs : s.length < 1000000) (hq : Q (.bool (highB s)) h) : CallA ap 15 0 bs [.str s] h Q := by
  refine CallA.code (af := ac15) rfl (Nat.le_of_ble_eq_true rfl) ?_
  unfold highB at hq
  simp [ac15]
  refine name28 s hs ?_
  cases e : nameB s
  · simp
    simpa [e] using hq
  · cases s with
    | nil => simp [nameB] at e
    | cons c r =>
      simp
      refine great30 c ?_
      simp
      simpa [e] using hq

end
end Go.Ut
