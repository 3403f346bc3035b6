/- Digits and the number they are. -/
import Derived.Test.YtjfflpknmhflfaaDoorAmK
namespace Go.Am

theorem digN_nil (a : Nat) : digN a [] = a := id rfl
theorem digN_cons (a : Nat) (c : UInt8) (l : List UInt8) : digN a (c :: l) = digN (a * 10 + (c.toNat - 48)) l := id rfl
theorem digN_acc : ∀ (l : List UInt8) (a : Nat), digN a l = a * 10 ^ l.length + digN 0 l
  | [], a => by rw [digN_nil, digN_nil, List.length_nil, Nat.pow_zero, Nat.mul_one, Nat.add_zero]
  | c :: l, a => by
    have h : a * (10 ^ l.length * 10) = a * 10 * 10 ^ l.length := by rw [Nat.mul_comm (10 ^ l.length) 10, Nat.mul_assoc]
    rw [digN_cons, digN_cons, digN_acc l (a * 10 + (c.toNat - 48)), digN_acc l (0 * 10 + (c.toNat - 48)), Nat.add_mul, Nat.zero_mul, Nat.zero_add, List.length_cons, Nat.pow_succ, h, Nat.add_assoc]
theorem digN_app : ∀ (l m : List UInt8) (a : Nat), digN a (l ++ m) = digN (digN a l) m
  | [], m, a => id rfl
  | c :: l, m, a => by rw [List.cons_append, digN_cons, digN_cons]; exact digN_app l m _
def zs (m : Nat) : List UInt8 := List.replicate m 48
theorem digN_zs : ∀ m : Nat, digN 0 (zs m) = 0
  | 0 => id rfl
  | m + 1 => by rw [zs, List.replicate_succ, digN_cons]; exact digN_zs m

theorem pow_bound {j n v : Nat} (h : v * 10 ^ j ≤ n) (hn : n < 1000000000) (hv : 1 ≤ v) : j ≤ 8 := by
  apply Nat.le_of_lt_succ
  have h1 : 10 ^ j ≤ v * 10 ^ j := Nat.le_mul_of_pos_left _ hv
  have h2 : 10 ^ j < 10 ^ 9 := by omega
  exact (Nat.pow_lt_pow_iff_right (by decide)).1 h2

end Go.Am
