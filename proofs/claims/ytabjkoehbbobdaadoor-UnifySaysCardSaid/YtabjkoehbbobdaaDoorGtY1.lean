/- Which of the listed errors one is: on the abstract machine. -/
import Derived.Test.YtabjkoehbbobdaaDoorGtX5
namespace Go.Gt
open Go.Am Go.Proofs
set_option maxRecDepth 100000

section
variable {bs : List Nat} {h : List Ob} {Q : V → List Ob → Prop}

theorem w5 : IntKind.wrap .i64 5 = 5 := wrap64 (by omega) (by omega)
theorem w6 : IntKind.wrap .i64 6 = 6 := wrap64 (by omega) (by omega)
theorem w106 : IntKind.wrap .i64 106 = 106 := wrap64 (by omega) (by omega)
theorem w107 : IntKind.wrap .i64 107 = 107 := wrap64 (by omega) (by omega)

theorem sentinel0 (hq : Q (.int .i64 106) h) : CallA ap 68 0 bs [.sent 0] h Q := by
  refine CallA.code (af := ac68) rfl (Nat.le_of_ble_eq_true rfl) ?_
  simp [ac68]
  refine CallA.code (af := ac79) rfl (Nat.le_of_ble_eq_true rfl) ?_
  simp [ac79]
  iterate 5
    refine wpA_loop (CallA.hle ap) ?_
    simp [forget, noLoc]
    refine CallA.code (af := ac80) rfl (Nat.le_of_ble_eq_true rfl) ?_
    simp [ac80, w1, w2, w3, w4, w5]
  refine wpA_loop (CallA.hle ap) ?_
  simp [forget, noLoc]
  refine CallA.code (af := ac80) rfl (Nat.le_of_ble_eq_true rfl) ?_
  simp [ac80, w106]
  exact hq

theorem sentinel1 (hq : Q (.int .i64 107) h) : CallA ap 68 0 bs [.sent 1] h Q := by
  refine CallA.code (af := ac68) rfl (Nat.le_of_ble_eq_true rfl) ?_
  simp [ac68]
  refine CallA.code (af := ac79) rfl (Nat.le_of_ble_eq_true rfl) ?_
  simp [ac79]
  iterate 6
    refine wpA_loop (CallA.hle ap) ?_
    simp [forget, noLoc]
    refine CallA.code (af := ac80) rfl (Nat.le_of_ble_eq_true rfl) ?_
    simp [ac80, w1, w2, w3, w4, w5, w6]
  refine wpA_loop (CallA.hle ap) ?_
  simp [forget, noLoc]
  refine CallA.code (af := ac80) rfl (Nat.le_of_ble_eq_true rfl) ?_
  simp [ac80, w107]
  exact hq

def codeOf : Nat → Int
  | 0 => 106
  | _ => 107

theorem isS (g : Nat) (hg : g = 0 ∨ g = 1) (hq : Q (.bool true) h) : CallA ap 12 0 bs [.sent g, .int .i64 (codeOf g)] h Q := by
  have sen : ∀ (bs : List Nat) (h : List Ob) (Q : V → List Ob → Prop), Q (.int .i64 (codeOf g)) h → CallA ap 68 0 bs [.sent g] h Q := fun bs h Q hq => by
    rcases hg with rfl | rfl
    · exact sentinel0 hq
    · exact sentinel1 hq
  refine CallA.code (af := ac12) rfl (Nat.le_of_ble_eq_true rfl) ?_
  simp [ac12]
  refine CallA.code (af := ac40) rfl (Nat.le_of_ble_eq_true rfl) ?_
  simp [ac40, splice]
  refine CallA.code (af := ac39) rfl (Nat.le_of_ble_eq_true rfl) ?_
  simp [ac39]
  refine CallA.code (af := ac54) rfl (Nat.le_of_ble_eq_true rfl) ?_
  have hc : (List.contains [0, 1, 3, 4, 5, 6, 7, 8, 9, 10, 11, 12, 13, 14, 15] g) = true := by rcases hg with rfl | rfl <;> rfl
  have ha := assent_s [0, 1, 3, 4, 5, 6, 7, 8, 9, 10, 11, 12, 13, 14, 15] 110 g .nilp hc
  simp [ac54, ha]
  refine sen _ _ _ ?_
  simp
  refine CallA.code (af := ac40) rfl (Nat.le_of_ble_eq_true rfl) ?_
  simp [ac40, splice]
  refine CallA.code (af := ac53) rfl (Nat.le_of_ble_eq_true rfl) ?_
  simp [ac53]
  exact hq

end
end Go.Gt
