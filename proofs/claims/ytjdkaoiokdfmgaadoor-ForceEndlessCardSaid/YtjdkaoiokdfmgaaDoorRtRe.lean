/- The law ForceEndless: what is done behind the machine's run. (Printed by gen32.py.) -/
import Derived.Test.YtjdkaoiokdfmgaaDoorRtRd
namespace Go.Rt
open Go.Am Go.Proofs
set_option maxRecDepth 100000
set_option maxHeartbeats 8000000

def gE (M W : List V) (rest : List Ob) : List Ob := [.map [] [] 0, .box [(.map (some 0)), (.int .i64 0)], .map [(.str [118, 49], .int .i64 0)] [0] 1, .box [(.map (some 2)), (.int .i64 1)], .box [(.sl .clip []), (.int .i64 1), (.int .i64 (-1)), (.ptr 5 0)], .box [(.int .i64 9), (.int .i64 0), (.str []), (.int .i64 (-1)), (.ptr 17 0), .nilp, (.sl (.fam 6) [(.int .i64 0)]), (.sl (.fam 16) [(.ptr 9 0)]), .nilp, (.sl .clip [])], .fam 1 1, .map [(.str [118, 49], .int .i64 0)] [0] 1, .box [(.map (some 7)), (.int .i64 1)], .box [(.sl (.fam 10) [(.int .i64 0)]), (.int .i64 1), (.int .i64 (-1)), (.ptr 11 0)], .fam 1 1, .box [(.int .i64 5), (.int .i64 0), (.str []), (.int .i64 (-1)), (.ptr 12 0), (.ptr 15 0), (.sl .clip []), (.sl .clip []), .nilp, (.sl .clip [])], .box [(.int .i64 5), (.int .i64 0), (.str []), (.int .i64 (-1)), (.ptr 13 0), (.ptr 14 0), (.sl .clip []), (.sl .clip []), .nilp, (.sl .clip [])], .box [(.int .i64 2), (.int .i64 0), (.str [67, 111, 110, 115]), (.int .i64 (-1)), .nilp, .nilp, (.sl .clip []), (.sl .clip []), .nilp, (.sl .clip [])], .box [(.int .i64 3), (.int .i64 1), (.str []), (.int .i64 (-1)), .nilp, .nilp, (.sl .clip []), (.sl .clip []), .nilp, (.sl .clip [])], .box [(.int .i64 1), (.int .i64 0), (.str [118, 49]), (.int .i64 0), .nilp, .nilp, (.sl .clip []), (.sl .clip []), .nilp, (.sl .clip [])], .fam 1 1, .box [(.int .i64 1), (.int .i64 0), (.str [118, 49]), (.int .i64 0), .nilp, .nilp, (.sl .clip []), (.sl .clip []), .nilp, (.sl .clip [])], .box [(.ptr 31 0), (.bool false), .nilp, (.sl .clip [])], .box M, .box W, .vec 3 7 [(.int .i64 1), (.ptr 18 0), .nilp, (.sl .clip []), (.str []), (.sl .clip []), (.sl .clip []), (.int .i64 1), (.ptr 23 0), .nilp, (.sl .clip []), (.str []), (.sl .clip []), (.sl .clip []), (.int .i64 2), (.ptr 23 0), .nilp, (.sl .clip []), (.str []), (.sl .clip []), (.sl .clip []), (.int .i64 2), (.ptr 25 0), .nilp, (.sl .clip []), (.str []), (.sl .clip []), (.sl .clip [])], .box [(.ptr 23 0)], .box [(.ptr 31 0), (.bool false), .nilp, (.sl .clip [])], .box [(.ptr 23 0)], .box [(.ptr 26 0), (.bool false), .nilp, (.sl .clip [])], .box [(.int .i64 3), (.int .i64 1), (.str []), (.sl .clip []), .nilp, (.sl .clip [])], .box [(.int .i64 2), (.int .i64 0), (.str [67, 111, 110, 115]), (.sl .clip []), .nilp, (.sl .clip [])], .fam 1 1, .box [(.int .i64 2), (.int .i64 0), (.str [67, 111, 110, 115]), (.sl (.fam 28) [(.ptr 25 0)]), .nilp, (.sl .clip [])], .fam 2 1, .box [(.int .i64 2), (.int .i64 0), (.str [67, 111, 110, 115]), (.sl (.fam 30) [(.ptr 25 0), (.ptr 23 0)]), .nilp, (.sl .clip [])]] ++ rest

def mE (cv : Int) (now ahead todo v : V) : List V := [.int .i64 cv, .int .i64 2, .int .i64 10, .nili, now, ahead, todo, .nilp, .sl .clip [], v, .bool false]
def wE (f : Int) (out : V) : List V := [.ptr 19 0, .int .i64 f, .int .i64 100000, out]
def HE (M W : List V) (a b : Ob) : List Ob := gE M W [a, b]
theorem he19 (M W : List V) (a b : Ob) : (HE M W a b)[19]? = some (.box M) := rfl
theorem he20 (M W : List V) (a b : Ob) : (HE M W a b)[20]? = some (.box W) := rfl
theorem he32 (M W : List V) (a b : Ob) : (HE M W a b)[32]? = some a := rfl
theorem he33 (M W : List V) (a b : Ob) : (HE M W a b)[33]? = some b := rfl
theorem he18 (M W : List V) (a b : Ob) : (HE M W a b)[18]? = some (.box [.ptr 31 0, .bool false, .nilp, .sl .clip []]) := rfl
theorem he23 (M W : List V) (a b : Ob) : (HE M W a b)[23]? = some (.box [.ptr 31 0, .bool false, .nilp, .sl .clip []]) := rfl
theorem he31 (M W : List V) (a b : Ob) : (HE M W a b)[31]? = some (.box [(.int .i64 2), (.int .i64 0), (.str [67, 111, 110, 115]), (.sl (.fam 30) [(.ptr 25 0), (.ptr 23 0)]), .nilp, (.sl .clip [])]) := rfl
theorem hs19 (M W M' : List V) (a b : Ob) : (HE M W a b).set 19 (.box M') = HE M' W a b := rfl
theorem hs20 (M W W' : List V) (a b : Ob) : (HE M W a b).set 20 (.box W') = HE M W' a b := rfl
theorem hs32 (M W : List V) (a b c : Ob) : (HE M W a b).set 32 c = HE M W c b := rfl
theorem hs33 (M W : List V) (a b c : Ob) : (HE M W a b).set 33 c = HE M W a c := rfl

section
variable {Q : V → List Ob → Prop}

theorem okE (r : Nat) (xs : List V) : okStore [0, 0] r xs := fun b hb hlt => by simp at hb; omega

theorem topL (cv f : Int) (ah todo v out : V) (a b : Ob) (q : Nat) (hq2 : q = 18 ∨ q = 23) (hq : Q (.tup [.str [67, 111, 110, 115], .int .i64 0, .int .i64 2]) (HE (mE cv (.ptr q 0) ah todo v) (wE f out) a b)) :
    CallA ap 26 0 [0, 0] [.ptr 19 0] (HE (mE cv (.ptr q 0) ah todo v) (wE f out) a b) Q := by
  rcases hq2 with rfl | rfl
  · exact runsO ov_ok 3000 (v := .tup [.str [67, 111, 110, 115], .int .i64 0, .int .i64 2]) (h' := HE (mE cv (.ptr 18 0) ah todo v) (wE f out) a b) (by clear hq; as_aux_lemma => kernel_rfl) hq
  · exact runsO ov_ok 3000 (v := .tup [.str [67, 111, 110, 115], .int .i64 0, .int .i64 2]) (h' := HE (mE cv (.ptr 23 0) ah todo v) (wE f out) a b) (by clear hq; as_aux_lemma => kernel_rfl) hq

theorem topN (cv f : Int) (ah todo v out : V) (a b : Ob) (hq : Q (.tup [.str [], .int .i64 1, .int .i64 (-1)]) (HE (mE cv (.ptr 25 0) ah todo v) (wE f out) a b)) :
    CallA ap 26 0 [0, 0] [.ptr 19 0] (HE (mE cv (.ptr 25 0) ah todo v) (wE f out) a b) Q :=
  runsO ov_ok 3000 (v := .tup [.str [], .int .i64 1, .int .i64 (-1)]) (h' := HE (mE cv (.ptr 25 0) ah todo v) (wE f out) a b) (by clear hq; as_aux_lemma => kernel_rfl) hq

theorem runE (cv f : Int) (ah todo v out : V) (a b : Ob) (q : Nat) (hf : 0 ≤ f ∧ f < 2147483648) (hq2 : q = 18 ∨ q = 23 ∨ q = 25) (hq : Q .nili (HE (mE cv (.ptr q 0) ah todo v) (wE f out) a b)) :
    CallA ap 25 0 [0, 0] [.ptr 20 0] (HE (mE cv (.ptr q 0) ah todo v) (wE f out) a b) Q := by
  have e : IntKind.wrap .i64 (f - 0) = f := by rw [wr64 (by omega) (by omega)]; omega
  have hq : Q .nili (HE (mE cv (.ptr q 0) ah todo v) (wE (IntKind.wrap .i64 (f - 0)) out) a b) := by rw [e]; exact hq
  rcases hq2 with rfl | rfl | rfl
  · exact runsO ov_ok 3000 (v := .nili) (h' := HE (mE cv (.ptr 18 0) ah todo v) (wE (IntKind.wrap .i64 (f - 0)) out) a b) (by clear hq e; as_aux_lemma => kernel_rfl) hq
  · exact runsO ov_ok 3000 (v := .nili) (h' := HE (mE cv (.ptr 23 0) ah todo v) (wE (IntKind.wrap .i64 (f - 0)) out) a b) (by clear hq e; as_aux_lemma => kernel_rfl) hq
  · exact runsO ov_ok 3000 (v := .nili) (h' := HE (mE cv (.ptr 25 0) ah todo v) (wE (IntKind.wrap .i64 (f - 0)) out) a b) (by clear hq e; as_aux_lemma => kernel_rfl) hq

theorem putsE (M : List V) (f : Int) (vo L : Nat) (co : List V) (b : Ob) (s : List UInt8) (h0 : s ≠ []) (hco : co.length = L) (hL : L + s.length ≤ 200000)
    (hq : ∀ v, v = (if L + s.length > 100000 then V.sent 0 else V.nili) → Q v (HE M (wE f (.vec 32 (vo + 1) 0 (L + s.length) 1)) (.vec (vo + 1) 1 (co ++ bytesI s)) b)) :
    CallA ap 27 0 [0, 0] [.ptr 20 0, .str s] (HE M (wE f (.vec 32 vo 0 L 1)) (.vec vo 1 co) b) Q := by
  refine CallA.code (af := ac27) rfl (Nat.le_of_ble_eq_true rfl) ?_
  cases s with
  | nil => exact absurd rfl h0
  | cons c s =>
    have hll : L + (s.length + 1) ≤ 200000 := by simpa using hL
    have hfl : List.flatMap V.cells (List.map (fun b : UInt8 => V.int .u8 b.toNat) s) = bytesI s := flat_bytes s
    have htk : co.take L = co := List.take_of_length_le (by omega)
    have hq1 : L + (s.length + 1) > 100000 → Q (.sent 0) (HE M (wE f (.vec 32 (vo + 1) 0 (L + (s.length + 1)) 1)) (.vec (vo + 1) 1 (co ++ V.int .u8 c.toNat :: bytesI s)) b) := fun hc => by
      have := hq _ rfl
      rw [if_pos (by simpa using hc)] at this
      simpa [bytesI] using this
    have hq2 : ¬ L + (s.length + 1) > 100000 → Q .nili (HE M (wE f (.vec 32 (vo + 1) 0 (L + (s.length + 1)) 1)) (.vec (vo + 1) 1 (co ++ V.int .u8 c.toNat :: bytesI s)) b) := fun hc => by
      have := hq _ rfl
      rw [if_neg (by simpa using hc)] at this
      simpa [bytesI] using this
    simp [ac27, he20, he32, hs20, hs32, wE, splice, okE, V.cells, hfl, hco, htk]
    refine ⟨by simp only [lim]; omega, fun d => ?_, fun d => ?_⟩
    · have d := of_decide_eq_true d
      simpa [wE] using hq1 (by omega)
    · have d := of_decide_eq_false d
      simpa [wE] using hq2 (by omega)

theorem itoa1 : Lib.itoa 1 = [49] := by
  have : Lib.itoa 1 = Lib.decDigits 1 := by rw [Lib.itoa, if_neg (by omega)]; rfl
  rw [this, Lib.decDigits]; rfl

/-- The number's text. -/
theorem valN (cv f : Int) (ah todo v : V) (vo L : Nat) (co : List V) (b : Ob) (hf : 0 ≤ f ∧ f < 2147483648) (hco : co.length = L) (hL : L + 1 ≤ 100000)
    (hq : Q .nili (HE (mE cv (.ptr 25 0) ah todo v) (wE f (.vec 32 (vo + 1) 0 (L + 1) 1)) (.vec (vo + 1) 1 (co ++ [.int .u8 49])) b)) :
    CallA ap 16 0 [0, 0] [.ptr 20 0] (HE (mE cv (.ptr 25 0) ah todo v) (wE f (.vec 32 vo 0 L 1)) (.vec vo 1 co) b) Q := by
  refine CallA.code (af := ac16) rfl (Nat.le_of_ble_eq_true rfl) ?_
  simp [ac16]
  refine runE cv f ah todo v _ _ _ 25 hf (.inr (.inr rfl)) ?_
  simp [he20]
  simp [wE]
  rw [← wE]
  refine topN cv f ah todo v _ _ _ ?_
  simp
  refine formatI 1 (by omega) (by omega) ?_
  rw [itoa1]
  simp
  refine putsE _ f vo L co b [49] (by simp) hco (by simp; omega) fun u hu => ?_
  rw [if_neg (by simp; omega)] at hu
  subst hu
  simpa [bytesI] using hq

theorem dropsE (cv f : Int) (now ah todo v out : V) (a b : Ob) (ht : todo = .vec 21 3 0 0 7 ∨ todo = .sl .clip []) (hq : Q (.tup []) (HE (mE cv now ah (.sl .clip []) .nilp) (wE f out) a b)) :
    CallA ap 74 0 [0, 0] [.ptr 19 0] (HE (mE cv now ah todo v) (wE f out) a b) Q := by
  rcases ht with rfl | rfl
  · exact runsO ov_ok 3000 (v := .tup []) (h' := HE (mE cv now ah (.sl .clip []) .nilp) (wE f out) a b) (by clear hq; as_aux_lemma => kernel_rfl) hq
  · exact runsO ov_ok 3000 (v := .tup []) (h' := HE (mE cv now ah (.sl .clip []) .nilp) (wE f out) a b) (by clear hq; as_aux_lemma => kernel_rfl) hq

theorem backE (cv f : Int) (now todo v out p : V) (a : Ob) (va k : Nat) (ca : List V) (hk : k < 100000) (hca : ca[k]? = some p) (hp : p.isLoc = false ∧ p.cells = [p]) (ht : todo = .vec 21 3 0 0 7 ∨ todo = .sl .clip [])
    (hq : Q (.bool true) (HE (mE cv p (.vec 33 va 0 k 1) (.sl .clip []) .nilp) (wE f out) a (.vec va 1 ca))) :
    CallA ap 51 0 [0, 0] [.ptr 19 0] (HE (mE cv now (.vec 33 va 0 (k + 1) 1) todo v) (wE f out) a (.vec va 1 ca)) Q := by
  refine CallA.code (af := ac51) rfl (Nat.le_of_ble_eq_true rfl) ?_
  have hw : IntKind.wrap .i64 (k : Int) = (k : Int) := wr64 (by omega) (by omega)
  have hd : (((k : Int) + 1) == 0) = false := by simp; omega
  have hk1 : (k : Int) < (k : Int) + 1 := by omega
  have hk0 : (0 : Int) ≤ (k : Int) := by omega
  simp [ac51, he19, mE, hd]
  refine dropsE cv f now _ todo v out a _ ht ?_
  have hca1 : k < ca.length := (List.getElem?_eq_some_iff.1 hca).1
  have hca2 : ca[k] = p := (List.getElem?_eq_some_iff.1 hca).2
  simp [loadV, cellsAt, sel, mE, he33, hw, hk0, hca1, hca2, hp.1, hp.2, hs19, he19, splice, okE, sliceV, bnd]
  exact hq

theorem partE (cv f : Int) (todo v out : V) (a : Ob) (va k : Nat) (ca : List V) (i q : Nat) (hi : i = 0 ∨ i = 1) (hk : k ≤ 100000) (hca : k ≤ ca.length) (hq2 : q = 18 ∨ q = 23)
    (hq : Q (.bool true) (HE (mE cv (if i = 0 then .ptr 25 0 else .ptr 23 0) (.vec 33 (va + 1) 0 (k + 1) 1) todo v) (wE f out) a (.vec (va + 1) 1 (ca.take k ++ [.ptr q 0])))) :
    CallA ap 50 0 [0, 0] [.ptr 19 0, .int .i64 i] (HE (mE cv (.ptr q 0) (.vec 33 va 0 k 1) todo v) (wE f out) a (.vec va 1 ca)) Q := by
  refine CallA.code (af := ac50) rfl (Nat.le_of_ble_eq_true rfl) ?_
  simp [ac50]
  refine topL cv f _ todo v out a _ q hq2 ?_
  have eq : ∀ M b, (HE M (wE f out) a b)[q]? = some (.box [.ptr 31 0, .bool false, .nilp, .sl .clip []]) := fun M b => by rcases hq2 with rfl | rfl <;> rfl
  have hlim : k + 1 ≤ lim := by simp only [lim]; omega
  rcases hi with rfl | rfl
  · simp [mE, he33, hs33, hs19, he19, he31, eq, splice, okE, hca, hlim, V.cells]
    exact hq
  · simp [mE, he33, hs33, hs19, he19, he31, eq, splice, okE, hca, hlim, V.cells]
    exact hq

end

end Go.Rt
