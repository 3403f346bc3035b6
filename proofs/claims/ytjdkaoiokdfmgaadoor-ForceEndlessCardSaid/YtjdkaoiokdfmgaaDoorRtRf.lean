/- The law ForceEndless: a list that has no end is written as far as its text may go. -/
import Derived.Test.YtjdkaoiokdfmgaaDoorRtRe
namespace Go.Rt
open Go.Am Go.Proofs
set_option maxRecDepth 100000
set_option maxHeartbeats 8000000

def ptrs (ca : List V) : Prop := ∀ p ∈ ca, ∃ r : Nat, p = .ptr r 0

/-- As it stands where a part is begun; behind it. -/
def GE (cv f : Int) (j vo va : Nat) (co ca : List V) : List Ob := HE (mE cv (.ptr 23 0) (.vec 33 va 0 j 1) (.sl .clip []) .nilp) (wE f (.vec 32 vo 0 (8 * j) 1)) (.vec vo 1 co) (.vec va 1 ca)
def PostE (cv f : Int) (j : Nat) (h : List Ob) : Prop := ∃ (now out : V) (o1 : Ob) (va : Nat) (ca : List V), h = HE (mE cv now (.vec 33 va 0 j 1) (.sl .clip []) .nilp) (wE f out) o1 (.vec va 1 ca) ∧ j ≤ ca.length ∧ ptrs ca

def Lvl (cv f : Int) (j : Nat) : Prop := ∀ (vo va : Nat) (co ca : List V) (Q : V → List Ob → Prop), co.length = 8 * j → j ≤ ca.length → ptrs ca → (∀ h, PostE cv f j h → Q (.sent 0) h) → CallA ap 16 0 [0, 0] [.ptr 20 0] (GE cv f j vo va co ca) Q

theorem ptrs_get {ca : List V} (h : ptrs ca) {k : Nat} (hk : k < ca.length) : ∃ r : Nat, ca[k]? = some (.ptr r 0) := by
  obtain ⟨r, hr⟩ := h ca[k] (List.getElem_mem hk)
  exact ⟨r, by rw [List.getElem?_eq_getElem hk, hr]⟩

theorem partsE (cv f : Int) (hf : 0 ≤ f ∧ f < 2147483648) (j : Nat) (hj : j < 12500) (IH : Lvl cv f (j + 1)) {h0 h1 h2 : List Ob} {W2 : List V} (h20 : h2[20]? = some (.box (.ptr 19 0 :: W2))) {todo v : V} (ht : todo = .vec 21 3 0 0 7 ∨ todo = .sl .clip [])
    {vo va q : Nat} {co ca : List V} (hq2 : q = 18 ∨ q = 23) (hco : co.length = 8 * j + 6) (hca : ca[j]? = some (.ptr q 0)) (hpt : ptrs ca)
    (P1 : ∀ Q : V → List Ob → Prop, Q .nili h1 → CallA ap 27 0 [0, 0] [.ptr 20 0, .str [40, 67, 111, 110, 115]] h0 Q)
    (P2 : ∀ Q : V → List Ob → Prop, Q .nili h2 → CallA ap 27 0 [0, 0] [.ptr 20 0, .str [32]] h1 Q)
    (P3 : ∀ Q : V → List Ob → Prop, Q (.bool true) (HE (mE cv (.ptr 25 0) (.vec 33 va 0 (j + 1) 1) todo v) (wE f (.vec 32 vo 0 (8 * j + 6) 1)) (.vec vo 1 co) (.vec va 1 ca)) → CallA ap 50 0 [0, 0] [.ptr 19 0, .int .i64 0] h2 Q)
    (Q : V → List Ob → Prop) (hq : ∀ h, PostE cv f j h → Q (.sent 0) h) : CallA ap 30 0 [0, 0] [.ptr 20 0, .str [67, 111, 110, 115], .int .i64 2] h0 Q := by
  refine CallA.code (af := ac30) rfl (Nat.le_of_ble_eq_true rfl) ?_
  have w1 : IntKind.wrap .i64 1 = 1 := wr64 (by omega) (by omega)
  have hjc : j < ca.length := (List.getElem?_eq_some_iff.1 hca).1
  simp [ac30]
  refine P1 _ ?_
  simp
  refine wpA_loop (CallA.hle ap) ?_
  simp [forget, noLoc]
  refine P2 _ ?_
  simp [h20]
  refine P3 _ ?_
  simp
  refine valN cv f _ todo v vo (8 * j + 6) co _ hf hco (by omega) ?_
  simp [he20, wE]
  rw [← wE]
  refine backE cv f _ todo v _ (.ptr q 0) _ va j ca (by omega) hca ⟨rfl, rfl⟩ ht ?_
  simp [w1]
  refine wpA_loop (CallA.hle ap) ?_
  simp [forget, noLoc]
  refine putsE _ f (vo + 1) (8 * j + 6 + 1) _ _ [32] (by simp) (by simp [hco]) (by simp; omega) fun u hu => ?_
  rw [if_neg (by simp; omega)] at hu
  subst hu
  simp [he20, wE]
  rw [← wE]
  refine partE cv f _ _ _ _ va j ca 1 q (.inr rfl) (by omega) (by omega) hq2 ?_
  simp
  have e8 : 8 * j + 6 + 1 + 1 = 8 * (j + 1) := by omega
  rw [e8]
  refine IH _ _ _ _ _ (by simp [bytesI, hco]; omega) (by simp; omega) ?_ fun h' hp => ?_
  · intro p hp
    rcases List.mem_append.1 hp with hp | hp
    · exact hpt p (List.mem_of_mem_take hp)
    · rw [List.mem_singleton] at hp; exact ⟨_, hp⟩
  · obtain ⟨now, out, o1, va', ca', rfl, hl, hp'⟩ := hp
    obtain ⟨r, hr⟩ := ptrs_get hp' (show j < ca'.length by omega)
    simp [he20, wE]
    rw [← wE]
    refine backE cv f _ _ _ _ (.ptr r 0) _ va' j ca' (by omega) hr ⟨rfl, rfl⟩ (.inr rfl) ?_
    simp
    exact hq _ ⟨_, _, _, _, _, rfl, by omega, hp'⟩

theorem lvl (cv f : Int) (hf : 0 ≤ f ∧ f < 2147483648) : ∀ (n j : Nat), j + n = 12500 → Lvl cv f j := by
  intro n
  induction n with
  | zero =>
    intro j hj vo va co ca Q hco hca hpt hq
    refine CallA.code (af := ac16) rfl (Nat.le_of_ble_eq_true rfl) ?_
    simp [ac16, GE]
    refine runE cv f _ _ _ _ _ _ 23 hf (.inr (.inl rfl)) ?_
    simp [he20, wE]
    rw [← wE]
    refine topL cv f _ _ _ _ _ _ 23 (.inr rfl) ?_
    simp
    refine CallA.code (af := ac30) rfl (Nat.le_of_ble_eq_true rfl) ?_
    simp [ac30]
    refine putsE _ f vo (8 * j) co _ [40, 67, 111, 110, 115] (by simp) hco (by simp; omega) fun u hu => ?_
    rw [if_pos (by simp; omega)] at hu
    subst hu
    simp
    exact hq _ ⟨_, _, _, _, _, rfl, hca, hpt⟩
  | succ n ih =>
    intro j hj vo va co ca Q hco hca hpt hq
    refine CallA.code (af := ac16) rfl (Nat.le_of_ble_eq_true rfl) ?_
    simp [ac16, GE]
    refine runE cv f _ _ _ _ _ _ 23 hf (.inr (.inl rfl)) ?_
    simp [he20, wE]
    rw [← wE]
    refine topL cv f _ _ _ _ _ _ 23 (.inr rfl) ?_
    simp
    refine partsE cv f hf j (by omega) (ih (j + 1) (by omega)) (h1 := HE (mE cv (.ptr 23 0) (.vec 33 va 0 j 1) (.sl .clip []) .nilp) (wE f (.vec 32 (vo + 1) 0 (8 * j + 5) 1)) (.vec (vo + 1) 1 (co ++ bytesI [40, 67, 111, 110, 115])) (.vec va 1 ca))
      (h2 := HE (mE cv (.ptr 23 0) (.vec 33 va 0 j 1) (.sl .clip []) .nilp) (wE f (.vec 32 (vo + 2) 0 (8 * j + 6) 1)) (.vec (vo + 2) 1 (co ++ bytesI [40, 67, 111, 110, 115] ++ bytesI [32])) (.vec va 1 ca)) rfl (todo := .sl .clip []) (v := .nilp) (.inr rfl)
      (vo := vo + 2) (va := va + 1) (q := 23) (co := co ++ bytesI [40, 67, 111, 110, 115] ++ bytesI [32]) (ca := ca.take j ++ [.ptr 23 0]) (.inr rfl) (by simp [bytesI, hco]) ?_ ?_ ?_ ?_ ?_ _ ?_
    · rw [List.getElem?_append_right (List.length_take_le _ _)]
      simp [Nat.min_eq_left hca]
    · intro p hp
      rcases List.mem_append.1 hp with hp | hp
      · exact hpt p (List.mem_of_mem_take hp)
      · rw [List.mem_singleton] at hp; exact ⟨_, hp⟩
    · intro Q hq
      refine putsE _ f vo (8 * j) co _ [40, 67, 111, 110, 115] (by simp) hco (by simp; omega) fun u hu => ?_
      rw [if_neg (by simp; omega)] at hu
      subst hu
      exact hq
    · intro Q hq
      refine putsE _ f (vo + 1) (8 * j + 5) _ _ [32] (by simp) (by simp [bytesI, hco]) (by simp; omega) fun u hu => ?_
      rw [if_neg (by simp; omega)] at hu
      subst hu
      exact hq
    · intro Q hq
      exact partE cv f _ _ _ _ va j ca 0 23 (.inl rfl) (by omega) hca (.inr rfl) hq
    · intro h hp
      simp
      exact hq h hp

end Go.Rt
