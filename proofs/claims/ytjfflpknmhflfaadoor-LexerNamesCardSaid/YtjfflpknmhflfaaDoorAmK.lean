/- strings.Contains, strconv.ParseInt of digits: taken whole by the abstract machine, by their contracts. -/
import Derived.Test.YtjfflpknmhflfaaDoorAmI
import Derived.Lib.Index
import Derived.Lib.IndexMore
import Derived.Lib.ParseIntBCases
import Derived.Lib.ConvBytes
namespace Go.Am
open Go.RowKit

theorem below_bytes (w : World) (e : TypeId) (s : ByteArray) : Below w.heap.size w (Lib.bytesWorld w e s) := by
  refine ⟨rfl, rfl, rfl, ?_, fun j hj => Lib.bytesWorld_at_old w e s j hj⟩
  rw [Lib.bytesWorld_size]
  omega

/-- What strings.Contains comes to. -/
def contP : List V → Option V
  | [.str s, .str t] => if s.length < 4294967281 then some (.bool (Lib.contains s t)) else none
  | _ => none

theorem contP_ok {P : Program} {KG : List Nat} {f g : Nat} {fn : Func} (hfn : P.funcs[f]? = some fn) (hbody : fn.body.isNone = false) (hname : (fn.name == "runtime.NumGoroutine") = false) (hk : 4000000 + g ∈ KG)
    (h1 : ∀ (s sub : ByteArray) (m : Int) (w : World) (_ : s.size < 4294967281) (_ : w.cell? ⟨g, 0, none⟩ = some (.int .i64 m)),
      Calls P f #[.string s, .string sub] w fun e w' => e = .returned (.bool (Lib.contains s.data.toList sub.data.toList)) ∧ w' = w) (hgl : g < 1000000 := by decide) : PrimOkG P KG f contP := by
  intro args v hp γ w h cargs hgo hh hargs
  obtain ⟨k1, k2, k3⟩ := hargs
  unfold contP at hp
  split at hp
  · rename_i s t
    split at hp
    · rename_i hs
      cases hp
      obtain ⟨cl⟩ := cargs
      match cl, k1 with
      | [x, y], _ =>
        have hx := k3 0 _ x rfl rfl
        have hy := k3 1 _ y rfl rfl
        cases hx with
        | str _ b hb =>
        cases hy with
        | str _ c hc =>
          subst hb; subst hc
          obtain ⟨_, m, hm⟩ := hgo.num g hgl hk
          have hsz : b.size < 4294967281 := by rwa [← Lib.size_eq] at hs
          refine came_of hfn hbody hname hh (fun w' => .bool _) ((h1 b c m w hsz hm).mono ?_)
          rintro e w' ⟨rfl, rfl⟩
          exact ⟨rfl, Below.refl _ _⟩
    · cases hp
  · cases hp

/-- A number of digits alone. -/
def digB : List UInt8 → Bool
  | [] => true
  | c :: l => decide (48 ≤ c.toNat) && decide (c.toNat ≤ 57) && digB l
def digN (acc : Nat) : List UInt8 → Nat
  | [] => acc
  | c :: l => digN (acc * 10 + (c.toNat - 48)) l

theorem digN_lt : ∀ (l : List UInt8) (acc : Nat), digB l = true → digN acc l < (acc + 1) * 10 ^ l.length
  | [], acc, _ => by
    show acc < (acc + 1) * 1
    omega
  | c :: l, acc, h => by
    simp only [digB, Bool.and_eq_true, decide_eq_true_eq] at h
    have hd : c.toNat - 48 ≤ 9 := by omega
    have ih := digN_lt l (acc * 10 + (c.toNat - 48)) h.2
    show digN (acc * 10 + (c.toNat - 48)) l < (acc + 1) * 10 ^ (l.length + 1)
    generalize c.toNat - 48 = d at ih hd ⊢
    rw [Nat.pow_succ, Nat.mul_comm (10 ^ l.length) 10, ← Nat.mul_assoc]
    exact Nat.lt_of_lt_of_le ih (Nat.mul_le_mul_right _ (by omega))

theorem digN_mono : ∀ (l : List UInt8) (acc : Nat), acc ≤ digN acc l
  | [], acc => Nat.le_refl _
  | c :: l, acc => Nat.le_trans (by omega) (digN_mono l (acc * 10 + (c.toNat - 48)))

theorem parseM_step (M acc : Nat) (c : UInt8) (r : List UInt8) (h : 48 ≤ c.toNat ∧ c.toNat ≤ 57) (h2 : ¬ 1844674407370955162 ≤ acc) (h3 : ¬ M < acc * 10 + (c.toNat - 48)) : Lib.parseUintM M acc (c :: r) = Lib.parseUintM M (acc * 10 + (c.toNat - 48)) r := by
  rw [Lib.parseUintM]
  simp only [h, h2, h3, and_self, if_true, if_false]

theorem parseM_dig (M : Nat) : ∀ (l : List UInt8) (acc : Nat), digB l = true → digN acc l ≤ M → digN acc l < 1000000000000000000 → Lib.parseUintM M acc l = .ok (digN acc l) := by
  intro l
  induction l with
  | nil => intro acc _ _ _; rfl
  | cons c l ih =>
    intro acc h h2 h3
    simp only [digB, Bool.and_eq_true, decide_eq_true_eq] at h
    have hm := digN_mono l (acc * 10 + (c.toNat - 48))
    have e : digN acc (c :: l) = digN (acc * 10 + (c.toNat - 48)) l := rfl
    rw [e] at h2 h3 ⊢
    have g1 : ¬ 1844674407370955162 ≤ acc := fun g => by
      have : acc ≤ acc * 10 + (c.toNat - 48) := by omega
      have := Nat.lt_of_le_of_lt (Nat.le_trans this hm) h3
      omega
    have g2 : ¬ M < acc * 10 + (c.toNat - 48) := Nat.not_lt.2 (Nat.le_trans hm h2)
    rw [parseM_step M acc c l h.1 g1 g2]
    exact ih _ h.2 h2 h3

theorem parse_dig (l : List UInt8) (h : digB l = true) (hn : l ≠ []) (hl : l.length ≤ 15) : Lib.parseIntB 64 l = .ok (digN 0 l : Nat) := by
  have hlt : digN 0 l < 10 ^ 15 := by
    have := digN_lt l 0 h
    refine Nat.lt_of_lt_of_le this ?_
    rw [Nat.zero_add, Nat.one_mul]
    exact Nat.pow_le_pow_right (by decide) hl
  cases l with
  | nil => exact absurd rfl hn
  | cons c r =>
    have hc : 48 ≤ c.toNat ∧ c.toNat ≤ 57 := by
      simp only [digB, Bool.and_eq_true, decide_eq_true_eq] at h
      exact h.1
    have h43 : c.toNat ≠ 43 := by omega
    have h45 : c.toNat ≠ 45 := by omega
    have hu : Lib.parseUintB 64 (c :: r) = .ok (digN 0 (c :: r)) := by
      simp only [Lib.parseUintB]
      rw [if_neg (by simp)]
      exact parseM_dig _ _ _ h (by omega) (by omega)
    simp only [Lib.parseIntB]
    rw [if_neg (by omega), hu]
    simp only
    rw [if_neg (by simp only [h45, not_false_eq_true, true_and]; omega), if_neg (by simp [h45]), if_neg h45]

def parseP : List V → Option V
  | [.str s, .int .i64 10, .int .i64 64] => if digB s = true ∧ s ≠ [] ∧ s.length ≤ 15 then some (.tup [.int .i64 (digN 0 s : Nat), .nili]) else none
  | _ => none

theorem parseP_ok {P : Program} {KG : List Nat} {f t : Nat} {fn : Func} (hfn : P.funcs[f]? = some fn) (hbody : fn.body.isNone = false) (hname : (fn.name == "runtime.NumGoroutine") = false)
    (h1 : ∀ (s : ByteArray) (_ : s.size ≤ 9223372036854775806) (v : Int) (_ : Lib.parseIntB 64 s.data.toList = .ok v) (w : World),
      Calls P f #[.string s, .int .i64 10, .int .i64 64] w fun e w' => e = .returned (.tuple #[.int .i64 v, .nilIface]) ∧ (w' = w ∨ ∃ b, w' = Lib.bytesWorld w t b)) : PrimOkG P KG f parseP := by
  intro args v hp γ w h cargs hgo hh hargs
  obtain ⟨k1, k2, k3⟩ := hargs
  unfold parseP at hp
  split at hp
  · rename_i s
    split at hp
    · rename_i hs
      cases hp
      obtain ⟨cl⟩ := cargs
      match cl, k1 with
      | [x, y, z], _ =>
        have hx := k3 0 _ x rfl rfl
        have hy := k3 1 _ y rfl rfl
        have hz := k3 2 _ z rfl rfl
        cases hy
        cases hz
        cases hx with
        | str _ b hb =>
          subst hb
          have hsz : b.size ≤ 9223372036854775806 := by have := hs.2.2; rw [← Lib.size_eq] at this; omega
          refine came_of hfn hbody hname hh (c := .tuple #[.int .i64 (digN 0 b.data.toList : Nat), .nilIface]) (fun w' => .tup _ _ rfl fun i x u hx hu => ?_) ((h1 b hsz _ (parse_dig _ hs.1 hs.2.1 hs.2.2) w).mono ?_)
          · match i with
            | 0 => cases hx; cases hu; exact .int _ _
            | 1 => cases hx; cases hu; exact .nili
            | i + 2 => simp at hx
          · rintro e w' ⟨rfl, rfl | ⟨b', rfl⟩⟩
            · exact ⟨rfl, Below.refl _ _⟩
            · exact ⟨rfl, below_bytes _ _ _⟩
    · cases hp
  · cases hp

end Go.Am
