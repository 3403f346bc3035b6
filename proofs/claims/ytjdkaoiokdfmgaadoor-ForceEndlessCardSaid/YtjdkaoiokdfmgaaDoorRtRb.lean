/- The law ForceLimits on the abstract machine. -/
import Derived.Test.YtjdkaoiokdfmgaaDoorRtRa
namespace Go.Rt
open Go.Am Go.Proofs
set_option maxRecDepth 100000
set_option maxHeartbeats 8000000

section
variable {bs : List Nat} {h : List Ob} {Q : V → List Ob → Prop}

theorem wr_u (n : Int) (h1 : -9223372036854775808 ≤ n) (h2 : n < 0) : IntKind.wrap .u64 (0 - IntKind.wrap .u64 n) = (n.natAbs : Int) := by
  rw [IntKind.wrap_u64, IntKind.wrap_u64]; omega

theorem valueI (n most : Int) (h1 : -9223372036854775808 ≤ n) (h2 : n < 9223372036854775808) (hb : bs = [0] ∨ bs = [0, 0]) (hq : ∀ v, v = (if ((wantI n).length : Int) > most then V.sent 0 else V.nili) → Q v (pI n most (wantI n))) :
    CallA ap 16 0 bs [.ptr 8 0] (wI n most) Q := by
  refine CallA.code (af := ac16) rfl (Nat.le_of_ble_eq_true rfl) ?_
  simp [ac16]
  refine runI n most hb ?_
  have e8 : (gI n [.ptr 7 0, .int .i64 997, .int .i64 most, .sl .clip []])[8]? = some (.box [.ptr 7 0, .int .i64 997, .int .i64 most, .sl .clip []]) := rfl
  simp [e8]
  refine topI n _ hb ?_
  simp
  have hl := want_len n h1 h2
  refine condA_dec (fun d => ?_) fun d => ?_
  · have hw : wantI n = [40, 48, 32, 45, 32] ++ Lib.decDigits n.natAbs ++ [41] := if_pos d
    have dl := dig_len n.natAbs (by omega)
    have e1 := wr_u n h1 d
    simp only [Int.zero_sub] at e1
    simp [e1]
    refine formatU n.natAbs (by omega) ?_
    have a1 : binV .add (.str [40, 48, 32, 45, 32]) (.str (Lib.decDigits n.natAbs)) = some (.str ([40, 48, 32, 45, 32] ++ Lib.decDigits n.natAbs)) := by
      simp only [binV]; rw [if_pos (by simp; omega)]
    have a2 : binV .add (.str ([40, 48, 32, 45, 32] ++ Lib.decDigits n.natAbs)) (.str [41]) = some (.str ([40, 48, 32, 45, 32] ++ Lib.decDigits n.natAbs ++ [41])) := by
      simp only [binV]; rw [if_pos (by simp; omega)]
    simp only [List.cons_append, List.nil_append] at a1 a2
    simp [a1, a2]
    simp only [List.cons_append, List.nil_append] at hw
    rw [← hw]
    refine putsI n most (wantI n) (by intro e; rw [e] at hl; simp at hl) (by omega) hb fun v hv => ?_
    have hv2 : v.isLoc = false ∧ v.demote = v := by rw [hv]; split <;> exact ⟨rfl, rfl⟩
    simpa [hv2.1, hv2.2] using hq v hv
  · have hw : wantI n = Lib.itoa n := if_neg d
    simp
    refine formatI n h1 h2 ?_
    simp
    refine putsI n most (Lib.itoa n) (by intro e; rw [hw, e] at hl; simp at hl) (by rw [← hw]; omega) hb fun v hv => ?_
    rw [hw] at hq
    have hv2 : v.isLoc = false ∧ v.demote = v := by rw [hv]; split <;> exact ⟨rfl, rfl⟩
    simpa [hv2.1, hv2.2] using hq v hv

theorem textF (n most : Int) (h1 : -9223372036854775808 ≤ n) (h2 : n < 9223372036854775808) (hb : bs = [0] ∨ bs = [0, 0]) (hq : Q (if ((wantI n).length : Int) > most then .tup [.str [], .sent 0] else .tup [.str (wantI n), .nili]) (pI n most (wantI n))) :
    CallA ap 10 0 bs [.ptr 7 0, .int .i64 1000, .int .i64 most] (hI n) Q := by
  refine CallA.code (af := ac10) rfl (Nat.le_of_ble_eq_true rfl) ?_
  have el : (hI n).length = 8 := rfl
  have ew : hI n ++ [.box [.ptr 7 0, .int .i64 1000, .int .i64 most, .sl .clip []]] = wI n most := rfl
  simp [ac10, splice, el, ew]
  refine valueI n most h1 h2 hb fun v hv => ?_
  by_cases d : ((wantI n).length : Int) > most
  · rw [if_pos d] at hv
    subst hv
    simp
    simpa [d] using hq
  · rw [if_neg d] at hv
    subst hv
    have e8 : (pI n most (wantI n))[8]? = some (.box [.ptr 7 0, .int .i64 997, .int .i64 most, .vec 12 0 0 (wantI n).length 1]) := rfl
    have e12 : (pI n most (wantI n))[12]? = some (.vec 0 1 (bytesI (wantI n))) := rfl
    have lb : (bytesI (wantI n)).length = (wantI n).length := by simp [bytesI]
    have hrd : rdW 0 0 (wantI n).length (some (.vec 0 1 (bytesI (wantI n)))) = .sl .frozen (bytesI (wantI n)) := by
      simp [rdW, List.take_of_length_le, lb]
    have hby : ∀ s : List UInt8, bytesV (.sl .frozen (bytesI s)) = some s := fun s => by
      induction s with
      | nil => simp [bytesI, bytesV]
      | cons c s ih =>
        have : bytesV (.sl .frozen (bytesI (c :: s))) = (bytesV (.sl .frozen (bytesI s))).map (UInt8.ofNat c.toNat :: ·) := by simp [bytesI, bytesV]
        rw [this, ih]; simp
    simp [e8, e12, hrd, hby]
    simpa [d] using hq

theorem termI (n : Int) (h1 : -9223372036854775808 ≤ n) (h2 : n < 9223372036854775808) (hb : bs = [0]) (hq : Q (.tup [.str (wantI n), .nili]) []) : CallA ap 6 0 bs [tI n, .int .i64 1000, .int .i64 100] [] Q := by
  refine CallA.code (af := ac6) rfl (Nat.le_of_ble_eq_true rfl) ?_
  subst hb
  have hl := want_len n h1 h2
  have et : tI n = .agg [.int .i64 3, .str [], .int .i64 n, .int .i64 0, .str [], .sl .frozen [], .sl .frozen [], .sl .frozen [], .sl .frozen []] := rfl
  simp [ac6, et]
  rw [← et]
  refine newI n (.inr rfl) ?_
  simp
  refine textF n 100000 h1 h2 (.inr rfl) ?_
  rw [if_neg (by omega)]
  simpa using hq

end

end Go.Rt
