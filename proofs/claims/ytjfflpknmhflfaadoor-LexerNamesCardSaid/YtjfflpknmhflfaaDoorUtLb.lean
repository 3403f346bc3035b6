/- The lexer's words on the abstract machine: blanks, names, numbers, letters, operators and marks. -/
import Derived.Test.YtjfflpknmhflfaaDoorUtLa
namespace Go.Ut
open Go.Am Go.Proofs
set_option maxRecDepth 100000

def blankN : Bs → Nat
  | [] => 0
  | c :: r => if c.toNat == 32 || c.toNat == 9 || c.toNat == 10 || c.toNat == 13 then 1 else if c.toNat == 45 && r.head?.any (fun d => d.toNat == 45) then whl (fun d => d.toNat != 10) (c :: r) else 0

def tokV (k p : Int) (s : Bs) (n : Int) : V := .agg [.int .i64 k, .int .i64 p, .str s, .int .i64 n]

/-- A word: its kind, its text, its number; or none. -/
abbrev Wd := Option (Int × Bs × Int)
def wdV : Wd → V
  | none => .tup [tokV 0 0 [] 0, .bool false]
  | some (k, s, n) => .tup [tokV k 0 s n, .bool true]

def nameT (b : Bs) : Wd :=
  let s := b.take (whl goesB b)
  if s = [95] ∨ resB s = true then some (6, s, 0) else if lowB s = true then some (1, s, 0) else if highB s = true then some (2, s, 0) else none

def numT (b : Bs) : Wd :=
  let s := b.take (whl isDg b)
  if 15 < s.length then none else some (3, s, (digN 0 s : Nat))

def let2 (c0 c1 c2 : UInt8) : Bs → Wd
  | c3 :: _ => if c1.toNat = 92 ∧ c3.toNat = 39 then (if c2.toNat = 110 then some (4, [c0, c1, c2, c3], 10) else if c2.toNat = 39 ∨ c2.toNat = 92 then some (4, [c0, c1, c2, c3], c2.toNat) else none) else none
  | [] => none
def letT : Bs → Wd
  | c0 :: c1 :: c2 :: r => if plainB c1 = true ∧ c2.toNat = 39 then some (4, [c0, c1, c2], c1.toNat) else let2 c0 c1 c2 r
  | _ => none

section
variable {bs : List Nat} {h : List Ob} {Q : V → List Ob → Prop}

theorem blank35 (c : UInt8) (r : Bs) (hb : (c :: r).length < 1000000) (hq : Q (.int .i64 (blankN (c :: r))) h) : CallA ap 35 0 bs [.sl .frozen (bV (c :: r))] h Q := by
  refine CallA.code (af := ac35) rfl (Nat.le_of_ble_eq_true rfl) ?_
  have e0 : bV (c :: r) = .int .u8 c.toNat :: bV r := rfl
  have g1 : ((c.toNat : Int) == 32) = (c.toNat == 32) := eqn c 32
  have g2 : ((c.toNat : Int) == 9) = (c.toNat == 9) := eqn c 9
  have g3 : ((c.toNat : Int) == 10) = (c.toNat == 10) := eqn c 10
  have g4 : ((c.toNat : Int) == 13) = (c.toNat == 13) := eqn c 13
  have g5 : ((c.toNat : Int) == 45) = (c.toNat == 45) := eqn c 45
  have fin : (c.toNat == 32 || c.toNat == 9 || c.toNat == 10 || c.toNat == 13) = true → Q (.int .i64 1) h := fun e => by
    simp only [blankN, e, if_true] at hq
    exact hq
  have rest : (c.toNat == 32 || c.toNat == 9 || c.toNat == 10 || c.toNat == 13) = false → blankN (c :: r) = if c.toNat == 45 && r.head?.any (fun d => d.toNat == 45) then whl (fun d => d.toNat != 10) (c :: r) else 0 := fun e => by
    simp only [blankN, e, Bool.false_eq_true, if_false]
  cases k1 : (c.toNat == 32)
  · cases k2 : (c.toNat == 9)
    · cases k3 : (c.toNat == 10)
      · cases k4 : (c.toNat == 13)
        · rw [rest (by simp [k1, k2, k3, k4])] at hq
          cases k5 : (c.toNat == 45)
          · rw [k5] at hq
            cases r with
            | nil =>
              simp [ac35, e0, g1, g2, g3, g4, g5, k1, k2, k3, k4, k5, bV]
              simpa using hq
            | cons d r =>
              have e1 : bV (d :: r) = .int .u8 d.toNat :: bV r := rfl
              have l1 : (1 : Int) < (r.length : Int) + 1 + 1 := by omega
              simp [ac35, e0, e1, g1, g2, g3, g4, g5, k1, k2, k3, k4, k5, bV_len, l1]
              simpa using hq
          · rw [k5] at hq
            cases r with
            | nil =>
              simp [ac35, e0, g1, g2, g3, g4, g5, k1, k2, k3, k4, k5, bV]
              simpa using hq
            | cons d r =>
              have e1 : bV (d :: r) = .int .u8 d.toNat :: bV r := rfl
              have l1 : (1 : Int) < (r.length : Int) + 1 + 1 := by omega
              have g6 : ((d.toNat : Int) == 45) = (d.toNat == 45) := eqn d 45
              cases k6 : (d.toNat == 45)
              · simp [ac35, e0, e1, g1, g2, g3, g4, g5, g6, k1, k2, k3, k4, k5, k6, bV_len, l1]
                simpa [k6] using hq
              · simp [ac35, e0, e1, g1, g2, g3, g4, g5, g6, k1, k2, k3, k4, k5, k6, bV_len, l1, bV_dem]
                refine while51 (fun c bs h Q hq => blank52 c hq) (c :: d :: r) hb ?_
                simp
                simpa [k6] using hq
        · have := fin (by simp [k4])
          simp [ac35, e0, g1, g2, g3, g4, k1, k2, k3, k4]
          exact this
      · have := fin (by simp [k3])
        simp [ac35, e0, g1, g2, g3, g4, k1, k2, k3]
        exact this
    · have := fin (by simp [k2])
      simp [ac35, e0, g1, g2, g3, g4, k1, k2]
      exact this
  · have := fin (by simp [k1])
    simp [ac35, e0, g1, g2, g3, g4, k1]
    exact this

theorem name53 (b : Bs) (hb : b.length < 1000000) (hq : Q (wdV (nameT b)) h) : CallA ap 53 0 bs [.sl .frozen (bV b)] h Q := by
  refine CallA.code (af := ac53) rfl (Nat.le_of_ble_eq_true rfl) ?_
  simp [ac53, bV_dem]
  refine while51 (p := goesB) (fun c bs h Q hq => goes46 c hq) b hb ?_
  have hw := whl_le goesB b
  simp [sliceV, bnd, bV_len, hw, bV_take, bV_text, convV]
  have hl : (b.take (whl goesB b)).length < 1000000 := by simp; omega
  unfold nameT at hq
  generalize b.take (whl goesB b) = s at hq hl ⊢
  dsimp only at hq
  by_cases h1 : s = [95]
  · have g1 : (s == [95]) = true := by simpa using h1
    rw [if_pos (.inl h1)] at hq
    simp [g1, splice]
    simpa [wdV, tokV] using hq
  · have g1 : (s == [95]) = false := by simpa using h1
    simp [g1]
    refine res16 s hl ?_
    cases e2 : resB s
    · rw [if_neg (by simp [h1, e2])] at hq
      simp
      refine low14 s hl ?_
      cases e3 : lowB s
      · rw [if_neg (by simp [e3])] at hq
        simp
        refine high15 s hl ?_
        cases e4 : highB s
        · rw [if_neg (by simp [e4])] at hq
          simp [splice]
          simpa [wdV, tokV] using hq
        · rw [if_pos e4] at hq
          simp [splice]
          simpa [wdV, tokV] using hq
      · rw [if_pos e3] at hq
        simp [splice]
        simpa [wdV, tokV] using hq
    · rw [if_pos (.inr e2)] at hq
      simp [splice]
      simpa [wdV, tokV] using hq

theorem whl_all (p : UInt8 → Bool) : ∀ b : Bs, ∀ x ∈ b.take (whl p b), p x = true
  | [], x, hx => by simp at hx
  | c :: b, x, hx => by
    simp only [whl] at hx
    split at hx
    · rename_i hc
      rw [List.take_succ_cons] at hx
      rcases List.mem_cons.1 hx with rfl | hx
      · exact hc
      · exact whl_all p b x hx
    · simp at hx

theorem digB_of : ∀ l : Bs, (∀ x ∈ l, isDg x = true) → digB l = true
  | [], _ => rfl
  | c :: l, h => by
    have h1 := h c (by simp)
    simp only [isDg] at h1
    simp only [digB, h1, Bool.true_and]
    exact digB_of l fun x hx => h x (by simp [hx])

theorem number55 (b : Bs) (hb : b.length < 1000000) (hd : b.head?.any isDg = true) (hq : Q (wdV (numT b)) h) : CallA ap 55 0 bs [.sl .frozen (bV b)] h Q := by
  refine CallA.code (af := ac55) rfl (Nat.le_of_ble_eq_true rfl) ?_
  simp [ac55, bV_dem]
  refine while51 (p := isDg) (fun c bs h Q hq => digit54 c hq) b hb ?_
  have hw := whl_le isDg b
  have hne : b.take (whl isDg b) ≠ [] := by
    cases b with
    | nil => simp at hd
    | cons c r =>
      have : isDg c = true := by simpa using hd
      simp [whl, this]
  simp [sliceV, bnd, bV_len, hw, bV_take, bV_text, convV, -List.length_take]
  have hall := digB_of _ (whl_all isDg b)
  unfold numT at hq
  dsimp only at hq
  generalize b.take (whl isDg b) = s at hq hne hall ⊢
  by_cases h15 : 15 < s.length
  · rw [if_pos h15] at hq
    have g : (15 : Int) < (s.length : Nat) := by omega
    simp [g, splice]
    simpa [wdV, tokV] using hq
  · rw [if_neg h15] at hq
    have g : ¬ (15 : Int) < (s.length : Nat) := by omega
    have g15 : s.length ≤ 15 := by omega
    simp [g]
    refine CallA.prim (p := parseP) rfl (v := .tup [.int .i64 (digN 0 s : Nat), .nili]) (by simp [parseP, hall, hne, g15]) ?_
    simp [splice]
    simpa [wdV, tokV] using hq

theorem letter56 (b : Bs) (hb : b.length < 1000000) (hq : Q (wdV (letT b)) h) : CallA ap 56 0 bs [.sl .frozen (bV b)] h Q := by
  refine CallA.code (af := ac56) rfl (Nat.le_of_ble_eq_true rfl) ?_
  have cons : ∀ (c : UInt8) (r : Bs), bV (c :: r) = .int .u8 c.toNat :: bV r := fun c r => rfl
  match b, hb, hq with
  | [], _, hq =>
    simp [ac56, bV, splice]
    simpa [letT, wdV, tokV] using hq
  | [c0], _, hq =>
    simp [ac56, bV, splice]
    simpa [letT, wdV, tokV] using hq
  | [c0, c1], _, hq =>
    simp [ac56, bV, splice]
    simpa [letT, wdV, tokV] using hq
  | c0 :: c1 :: c2 :: r, hb, hq =>
    have l3 : (3 : Int) ≤ (r.length : Int) + 1 + 1 + 1 := by omega
    have g2 : ((c2.toNat : Int) == 39) = (c2.toNat == 39) := eqn c2 39
    simp [ac56, cons, bV_len, l3]
    refine plain65 c1 ?_
    have w1 : IntKind.wrap .i64 (c1.toNat : Int) = c1.toNat := wrapn (by omega) (by have := c1.toNat_lt; omega)
    have w2 : IntKind.wrap .i64 (c2.toNat : Int) = c2.toNat := wrapn (by omega) (by have := c2.toNat_lt; omega)
    have w10 : IntKind.wrap .i64 10 = 10 := wrapn (by omega) (by omega)
    have g5 : ((c2.toNat : Int) == 110) = (c2.toNat == 110) := eqn c2 110
    have g6 : ((c2.toNat : Int) == 92) = (c2.toNat == 92) := eqn c2 92
    have g7 : ((c1.toNat : Int) != 92) = (c1.toNat != 92) := congrArg (! ·) (eqn c1 92)
    have e2 : (c2.toNat = 39) = ((c2.toNat == 39) = true) := by simp
    simp only [letT, e2] at hq
    cases e1 : plainB c1 <;> cases k2 : (c2.toNat == 39) <;> rw [e1, k2] at hq
    case true.true =>
      simp [cons, k2, g2, sliceV, bnd, bV_len, convV, bytesV, w1, splice]
      simpa [wdV, tokV] using hq
    all_goals
      simp only [Bool.false_eq_true, false_and, and_false, if_false] at hq
      cases r with
      | nil =>
        simp [splice, bV, cons, g2, k2]
        simpa [wdV, tokV, let2] using hq
      | cons c3 r =>
        have l4 : ¬ (r.length : Int) + 1 + 1 + 1 + 1 < 4 := by omega
        have g8 : ((c3.toNat : Int) != 39) = (c3.toNat != 39) := congrArg (! ·) (eqn c3 39)
        simp only [let2] at hq
        by_cases k3 : c1.toNat = 92
        · have k3' : (c1.toNat != 92) = false := by simpa using k3
          by_cases k4 : c3.toNat = 39
          · have k4' : (c3.toNat != 39) = false := by simpa using k4
            rw [if_pos ⟨k3, k4⟩] at hq
            by_cases k5 : c2.toNat = 110
            · have k5' : (c2.toNat == 110) = true := by simpa using k5
              rw [if_pos k5] at hq
              simp [splice, cons, g2, k2, l4, bV_len, g7, g8, k3', k4', g5, k5', sliceV, bnd, convV, bytesV, w10]
              simpa [wdV, tokV] using hq
            · have k5' : (c2.toNat == 110) = false := by simpa using k5
              rw [if_neg k5] at hq
              cases k6 : (c2.toNat == 92)
              · simp [splice, cons, g2, k2, l4, bV_len, g7, g8, k3', k4', g5, k5', g6, k6, sliceV, bnd, convV, bytesV, w2]
                simp at k2 k6
                simpa [wdV, tokV, k2, k6] using hq
              · simp [splice, cons, g2, k2, l4, bV_len, g7, g8, k3', k4', g5, k5', g6, k6, sliceV, bnd, convV, bytesV, w2]
                simp at k2 k6
                simpa [wdV, tokV, k2, k6] using hq
          · have k4' : (c3.toNat != 39) = true := by simpa using k4
            rw [if_neg (fun h => k4 h.2)] at hq
            simp [splice, cons, g2, k2, l4, bV_len, g7, g8, k3', k4']
            simpa [wdV, tokV] using hq
        · have k3' : (c1.toNat != 92) = true := by simpa using k3
          rw [if_neg (fun h => k3 h.1)] at hq
          simp [splice, cons, g2, k2, l4, bV_len, g7, k3']
          simpa [wdV, tokV] using hq

end
end Go.Ut
