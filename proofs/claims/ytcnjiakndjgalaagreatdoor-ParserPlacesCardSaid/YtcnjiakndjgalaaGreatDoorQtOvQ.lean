/- Functions known whole for the parser's runs: the lexer's signs, whether a text is in a text. -/
import Derived.Test.YtcnjiakndjgalaaGreatDoorQtLc
import Derived.Test.YtcnjiakndjgalaaGreatDoorAmU
namespace Go.Qt
open Go.Am Go.Proofs
set_option maxRecDepth 100000

/-- Bytes out of values. -/
def unB : List V → Option Bs
  | [] => some []
  | .int .u8 n :: xs => if (((UInt8.ofNat n.toNat).toNat : Nat) : Int) = n then (unB xs).map (UInt8.ofNat n.toNat :: ·) else none
  | _ => none
theorem unB_ok : ∀ {xs : List V} {b : Bs}, unB xs = some b → xs = bV b
  | [], b, h => by simp only [unB, Option.some.injEq] at h; subst h; rfl
  | v :: xs, b, h => by
    unfold unB at h
    split at h
    · rename_i heq; cases heq
    · rename_i n ys heq
      cases heq
      split at h
      · rename_i hn
        simp only [Option.map_eq_some_iff] at h
        obtain ⟨b', hb', rfl⟩ := h
        rw [unB_ok hb']
        simp only [bV, List.map_cons, hn]
      · cases h
    · cases h

def signO : List V → List Ob → Option (V × List Ob)
  | [.sl .frozen xs], h => match unB xs with
    | some b => if b.length < 1000000 then some (.tup [tokV (signT (b.take 2)).1 0 (signT (b.take 2)).2 0, .bool ((signT (b.take 2)).2 != [])], h) else none
    | none => none
  | _, _ => none

def preB : Bs → Bs → Bool
  | [], _ => true
  | _ :: _, [] => false
  | a :: s, b :: t => Nat.beq a.toNat b.toNat && preB s t
theorem preB_eq : ∀ s t : Bs, preB s t = s.isPrefixOf t
  | [], t => by simp [preB]
  | _ :: _, [] => by simp [preB]
  | a :: s, b :: t => by
    simp only [preB, List.isPrefixOf, preB_eq s t]
    congr 1
    by_cases h : a = b
    · subst h; simp
    · have h2 : a.toNat ≠ b.toNat := fun e => h (UInt8.toNat_inj.1 e)
      have h3 : Nat.beq a.toNat b.toNat = false := by rw [← Bool.not_eq_true]; exact fun e => h2 (Nat.eq_of_beq_eq_true e)
      rw [h3]; simp [h]
def hasIn : Bs → Bs → Bool
  | [], t => t.isEmpty
  | b :: l, t => preB t (b :: l) || hasIn l t
theorem hasIn_iff : ∀ s t : Bs, hasIn s t = true ↔ 0 ≤ Lib.index s t
  | [], t => by cases t <;> simp [hasIn, Lib.index]
  | b :: l, t => by
    have ih := hasIn_iff l t
    have hg := Lib.index_ge l t
    have e : Lib.index (b :: l) t = if t.isPrefixOf (b :: l) = true then 0 else if (Lib.index l t == -1) = true then -1 else Lib.index l t + 1 := rfl
    rw [e]
    simp only [hasIn, preB_eq, Bool.or_eq_true]
    by_cases h1 : t.isPrefixOf (b :: l) = true
    · rw [if_pos h1]
      exact ⟨fun _ => Int.le_refl _, fun _ => .inl h1⟩
    · rw [if_neg h1, ih]
      by_cases h2 : Lib.index l t = -1
      · rw [if_pos (by simpa using h2), h2]
        exact ⟨fun h => h.elim (fun h => absurd h h1) (fun h => by omega), fun h => by omega⟩
      · rw [if_neg (by simpa using h2)]
        exact ⟨fun _ => by omega, fun _ => .inr (by omega)⟩
theorem hasIn_eq (s t : Bs) : hasIn s t = Lib.contains s t := by
  rw [Bool.eq_iff_iff, hasIn_iff]
  simp only [Lib.contains, decide_eq_true_eq]

def contO : List V → List Ob → Option (V × List Ob)
  | [.str s, .str t], h => if Nat.ble s.length 1000000 = true then some (.bool (hasIn s t), h) else none
  | _, _ => none

def cloneO : List V → List Ob → Option (V × List Ob)
  | [.sl _ []], h => some (.sl .frozen [], h)
  | _, _ => none

def ovP : Ov
  | 218, 0, args, h => signO args h
  | 241, 0, args, h => contO args h
  | 139, 0, args, h => cloneO args h
  | _, _, _, _ => none

theorem ovP_ok : OvOk ap ovP := by
  intro f vr args h v h' e bs Q hq
  unfold ovP at e
  split at e
  · unfold signO at e
    split at e
    · split at e
      · rename_i b hb
        split at e
        · rename_i hl
          simp only [Option.some.injEq, Prod.mk.injEq] at e
          obtain ⟨rfl, rfl⟩ := e
          rw [unB_ok hb]
          exact sign57 b hl hq
        · cases e
      · cases e
    · cases e
  · unfold contO at e
    split at e
    · split at e
      · rename_i hl
        simp only [Option.some.injEq, Prod.mk.injEq] at e
        obtain ⟨rfl, rfl⟩ := e
        rw [hasIn_eq] at hq
        refine CallA.prim (p := contP) rfl ?_ hq
        have hl := Nat.le_of_ble_eq_true hl
        simp only [contP]
        rw [if_pos (by omega)]
      · cases e
    · cases e
  · unfold cloneO at e
    split at e
    · simp only [Option.some.injEq, Prod.mk.injEq] at e
      obtain ⟨rfl, rfl⟩ := e
      refine CallA.code (af := ac139) rfl (Nat.le_of_ble_eq_true rfl) ?_
      simp [ac139]
      exact hq
    · cases e
  · cases e

end Go.Qt
