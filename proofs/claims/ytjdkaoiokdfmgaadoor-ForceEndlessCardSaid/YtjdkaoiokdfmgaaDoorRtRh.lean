/- The law ForceEndless on the abstract machine: terms, and the law. -/
import Derived.Test.YtjdkaoiokdfmgaaDoorRtRg
namespace Go.Rt
open Go.Am Go.Proofs
set_option maxRecDepth 100000
set_option maxHeartbeats 8000000

theorem newE (cv : Int) (Q : V → List Ob → Prop) (hq : Q (.ptr 19 0) (nE cv)) : CallA ap 8 0 [0, 0] [tE, .int .i64 cv] [] Q :=
  runsO ov_ok 3000 (v := .ptr 19 0) (h' := nE cv) (by clear hq; as_aux_lemma => kernel_rfl) hq

theorem used0E (c : Nat) (F : Int) (Q : V → List Ob → Prop) (hq : Q (.tup [.int .i64 0, .int .i64 0]) (hE0 c F)) : CallA ap 46 0 [0, 0] [.ptr 19 0] (hE0 c F) Q :=
  runsO ov_ok 3000 (v := .tup [.int .i64 0, .int .i64 0]) (h' := hE0 c F) (by clear hq; as_aux_lemma => kernel_rfl) hq
theorem used10E (c : Nat) (F : Int) (Q : V → List Ob → Prop) (hq : Q (.tup [.int .i64 10, .int .i64 2]) (hE10 c F)) : CallA ap 46 0 [0, 0] [.ptr 19 0] (hE10 c F) Q :=
  runsO ov_ok 3000 (v := .tup [.int .i64 10, .int .i64 2]) (h' := hE10 c F) (by clear hq; as_aux_lemma => kernel_rfl) hq

theorem run47E (c : Nat) (F : Int) (hF : 10 ≤ F) (hF2 : F < 2147483648) (Q : V → List Ob → Prop) (hq : Q .nili (hE10 c F)) : CallA ap 47 0 [0, 0] [.ptr 19 0, .int .i64 F] (hE0 c F) Q := by
  refine CallA.code (af := ac47) rfl (Nat.le_of_ble_eq_true rfl) ?_
  simp [ac47]
  refine loopE c F F hF hF2 rfl rfl rfl _ fun σ a c => ?_
  obtain ⟨r, lo, h'⟩ := σ
  simp only at a c
  subst c
  have e19 : (hE10 c F)[19]? = some (.box [.int .i64 ((c + 2 : Nat) : Int), .int .i64 2, .int .i64 10, .nili, .ptr 18 0, .sl .clip [], .vec 21 3 0 0 7, .nilp, .sl .clip [], .ptr 31 0, .bool false]) := rfl
  simp [a, e19]
  exact hq

theorem run25E (c : Nat) (F : Int) (hF : 10 ≤ F) (hF2 : F < 2147483648) (Q : V → List Ob → Prop) (hq : Q .nili (gE0 ((c + 2 : Nat) : Int) (F - 10))) : CallA ap 25 0 [0, 0] [.ptr 20 0] (hE0 c F) Q := by
  refine CallA.code (af := ac25) rfl (Nat.le_of_ble_eq_true rfl) ?_
  have e20 : (hE0 c F)[20]? = some (.box [.ptr 19 0, .int .i64 F, .int .i64 100000, .sl .clip []]) := rfl
  have f20 : (hE10 c F)[20]? = some (.box [.ptr 19 0, .int .i64 F, .int .i64 100000, .sl .clip []]) := rfl
  have w1 : IntKind.wrap .i64 10 = 10 := wr64 (by omega) (by omega)
  have w2 : IntKind.wrap .i64 (F - 10) = F - 10 := wr64 (by omega) (by omega)
  have es : (hE10 c F).set 20 (.box [.ptr 19 0, .int .i64 (F - 10), .int .i64 100000, .sl .clip []]) = gE0 ((c + 2 : Nat) : Int) (F - 10) := rfl
  simp [ac25, e20]
  refine used0E c F _ ?_
  simp [e20]
  refine run47E c F hF hF2 _ ?_
  simp [f20]
  refine used10E c F _ ?_
  simp [f20, w1, w2, splice, okStore, es]
  exact hq

/-- Once it ran. -/
theorem valueE0 (cv f : Int) (hf : 0 ≤ f ∧ f < 2147483648) (h0 : List Ob) (hrun : ∀ Q : V → List Ob → Prop, Q .nili (gE0 cv f) → CallA ap 25 0 [0, 0] [.ptr 20 0] h0 Q) (Q : V → List Ob → Prop) (hq : ∀ h, Q (.sent 0) h) :
    CallA ap 16 0 [0, 0] [.ptr 20 0] h0 Q := by
  refine CallA.code (af := ac16) rfl (Nat.le_of_ble_eq_true rfl) ?_
  have e20 : (gE0 cv f)[20]? = some (.box [.ptr 19 0, .int .i64 f, .int .i64 100000, .sl .clip []]) := rfl
  simp [ac16]
  refine hrun _ ?_
  simp [e20]
  refine topE0 cv f _ ?_
  simp
  refine partsE0 cv f hf _ fun h => ?_
  simp
  exact hq h

theorem termE (F cv : Int) (Q : V → List Ob → Prop) (f : Int) (hf : 0 ≤ f ∧ f < 2147483648)
    (hrun : ∀ Q : V → List Ob → Prop, Q .nili (gE0 cv f) → CallA ap 25 0 [0, 0] [.ptr 20 0] (nE cv ++ [.box [.ptr 19 0, .int .i64 F, .int .i64 100000, .sl .clip []]]) Q)
    (hq : Q (.tup [.str [], .sent 0]) []) : CallA ap 6 0 [0] [tE, .int .i64 F, .int .i64 cv] [] Q := by
  refine CallA.code (af := ac6) rfl (Nat.le_of_ble_eq_true rfl) ?_
  have hd : tE.demote = tE := by simp [tE]
  have hc : tE.cells.length = 9 := rfl
  have hl : tE.isLoc = false := rfl
  have hs : sel tE.cells 0 (some 9) = some tE := rfl
  simp [ac6, hc, hl, hs, hd]
  refine newE cv _ ?_
  simp
  refine CallA.code (af := ac10) rfl (Nat.le_of_ble_eq_true rfl) ?_
  have el : (nE cv).length = 20 := rfl
  simp [ac10, splice, el]
  refine valueE0 cv f hf _ hrun _ fun h => ?_
  simp
  exact hq

end Go.Rt
