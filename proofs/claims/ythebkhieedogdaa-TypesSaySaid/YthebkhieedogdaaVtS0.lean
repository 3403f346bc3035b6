/- Types are made: on the abstract machine. -/
import Derived.Test.YthebkhieedogdaaVtTab
namespace Go.Vt
open Go.Am Go.Proofs
set_option maxRecDepth 100000

theorem wrap64 {n : Int} (h1 : -9223372036854775808 ≤ n) (h2 : n < 9223372036854775808) : IntKind.wrap .i64 n = n := by
  show (if (true && decide (n % 18446744073709551616 ≥ 9223372036854775808)) = true then n % 18446744073709551616 - 18446744073709551616 else n % 18446744073709551616) = n
  simp only [Bool.true_and, decide_eq_true_eq]
  split <;> omega

section
variable {bs : List Nat} {h : List Ob} {Q : V → List Ob → Prop}

theorem var31 (s : List UInt8) (hq : Q (.agg [.int .i64 1, .str s, .sl .frozen []]) h) : CallA ap 24 0 bs [.str s] h Q := by
  refine CallA.code (af := ac24) rfl (Nat.le_of_ble_eq_true rfl) ?_
  simp [ac24, splice]
  exact hq

def num (n k : Int) : Int := if n.tmod k < 0 then n.tmod k + k else n.tmod k

theorem num_bound {n k : Int} (hk : 0 < k) : 0 ≤ num n k ∧ num n k < k := by
  have h1 : n.tmod k < k := Int.tmod_lt_of_pos n hk
  have h2 : -k < n.tmod k := Int.lt_tmod_of_pos n hk
  unfold num
  split <;> omega

theorem number53 (n k : Int) (hk : 0 < k) (hk2 : k < 1000) (hq : Q (.int .i64 (num n k)) h) : CallA ap 40 0 bs [.int .i64 n, .int .i64 k] h Q := by
  refine CallA.code (af := ac40) rfl (Nat.le_of_ble_eq_true rfl) ?_
  have h0 : k ≠ 0 := by omega
  have h1 : n.tmod k < k := Int.tmod_lt_of_pos n hk
  have h2 : -k < n.tmod k := Int.lt_tmod_of_pos n hk
  simp [ac40, h0]
  refine condA_dec (fun h3 => ?_) fun h3 => ?_
  · simp
    rw [wrap64 (by omega) (by omega)]
    simpa [num, h3] using hq
  · simp
    simpa [num, h3] using hq


/-- The seq's cells. -/
def seqB (t : Tag) (l : List Int) (i : Int) : Ob := .box [.sl t (l.map (.int .i64)), .int .i64 i]

theorem next30 (t : Tag) (l : List Int) (i k : Int) (p : Nat) (hp : h[p]? = some (seqB t l i)) (h1 : 0 ≤ i) (h2 : i < 1000000) (hk : 0 < k) (hk2 : k < 1000)
    (hq : ∀ n : Int, 0 ≤ n → n < k → Q (.int .i64 n) (h.set p (seqB t l (i + 1)))) : CallA ap 23 0 bs [.ptr p 0, .int .i64 k] h Q := by
  refine CallA.code (af := ac23) rfl (Nat.le_of_ble_eq_true rfl) ?_
  have hpl : p < h.length := (List.getElem?_eq_some_iff.1 hp).1
  simp [ac23, hp, seqB]
  have hi : IntKind.wrap .i64 (i + 1) = i + 1 := wrap64 (by omega) (by omega)
  have fin : ∀ n : Int, Q (.int .i64 (num n k)) (h.set p (.box [.sl t (l.map (.int .i64)), .int .i64 (i + 1)])) := fun n => hq _ (num_bound hk).1 (num_bound hk).2
  refine condA_dec (fun h3 => ?_) fun h3 => ?_
  · have h4 : i.toNat < l.length := by omega
    simp [hp, seqB, h1, h4, splice, okStore, hi]
    refine number53 _ _ hk hk2 ?_
    simpa [List.take_of_length_le] using fin _
  · simp [hp, seqB, splice, okStore, hi]
    refine number53 _ _ hk hk2 ?_
    simpa [List.take_of_length_le] using fin _

end

/-- Types. -/
inductive Ty where
  | mk (k : Int) (n : List UInt8) (l : List Ty)

mutual
def tyV : Ty → V
  | .mk k n l => .agg [.int .i64 k, .str n, .sl .frozen (tyVs l)]
def tyVs : List Ty → List V
  | [] => []
  | t :: l => tyV t :: tyVs l
end

mutual
def okT : Ty → Bool
  | .mk _ _ l => decide (l.length ≤ 2) && okTs l
def okTs : List Ty → Bool
  | [] => true
  | t :: l => okT t && okTs l
end

mutual
theorem demote_ty : ∀ t : Ty, (tyV t).demote = tyV t
  | .mk k n l => by simp [tyV, demote_tys l]
theorem demote_tys : ∀ l : List Ty, demoteL (tyVs l) = tyVs l
  | [] => rfl
  | t :: l => by simp [tyVs, demote_ty t, demote_tys l]
end
mutual
theorem under_ty (m : Nat) : ∀ t : Ty, (tyV t).under m = true
  | .mk k n l => by simp [tyV, under_tys m l]
theorem under_tys (m : Nat) : ∀ l : List Ty, underL m (tyVs l) = true
  | [] => rfl
  | t :: l => by simp [tyVs, under_ty m t, under_tys m l]
end
@[simp] theorem tys_length : ∀ l : List Ty, (tyVs l).length = l.length
  | [] => rfl
  | t :: l => by simp [tyVs, tys_length l]
theorem tys_get : ∀ (l : List Ty) (i : Nat), (tyVs l)[i]? = (l[i]?).map tyV
  | [], i => by simp [tyVs]
  | t :: l, 0 => by simp [tyVs]
  | t :: l, i + 1 => by simp [tyVs, tys_get l i]
@[simp] theorem ty_cells (t : Ty) : (tyV t).cells.length = 3 := by cases t; simp [tyV]
@[simp] theorem ty_loc (t : Ty) : (tyV t).isLoc = false := by cases t; simp [tyV]
theorem ty_agg (t : Ty) : V.agg (tyV t).cells = tyV t := by cases t; simp [tyV]
theorem ty_take (t : Ty) : (tyV t).cells.take 3 = (tyV t).cells := by cases t; simp [tyV]

section
variable {bs : List Nat} {h : List Ob} {Q : V → List Ob → Prop}

theorem con32 (s : List UInt8) (l : List Ty) (tg : Tag) (hq : Q (tyV (.mk 2 s l)) h) : CallA ap 25 0 bs [.str s, .sl .frozen (tyVs l)] h Q := by
  refine CallA.code (af := ac25) rfl (Nat.le_of_ble_eq_true rfl) ?_
  simp [ac25, splice, demote_tys, under_tys]
  simpa [tyV] using hq

theorem fun33 (a b : Ty) (hq : Q (tyV (.mk 3 [] [a, b])) h) : CallA ap 26 0 bs [tyV a, tyV b] h Q := by
  refine CallA.code (af := ac26) rfl (Nat.le_of_ble_eq_true rfl) ?_
  simp [ac26, splice, demote_ty, under_ty, ty_take, ty_agg]
  simpa [tyV, tyVs] using hq

theorem type_leaf (tg : Tag) (l : List Int) (p : Nat) (deep i : Int) (hd : deep < 1) (hi1 : 0 ≤ i) (hi2 : i < 1000000) (hp : h[p]? = some (seqB tg l i))
    (hq : ∀ (t : Ty), okT t = true → Q (tyV t) (h.set p (seqB tg l (i + 1)))) : CallA ap 6 0 bs [.ptr p 0, .int .i64 deep] h Q := by
  refine CallA.code (af := ac6) rfl (Nat.le_of_ble_eq_true rfl) ?_
  have hpl : p < h.length := (List.getElem?_eq_some_iff.1 hp).1
  simp [ac6]
  refine next30 tg l i 9 p hp hi1 (by omega) (by omega) (by omega) fun n hn1 hn2 => ?_
  have var : ∀ s, Q (.agg [.int .i64 1, .str s, .sl .frozen []]) (h.set p (seqB tg l (i + 1))) := fun s => by simpa [tyV, tyVs] using hq (.mk 1 s []) rfl
  have con : ∀ s, Q (tyV (.mk 2 s [])) (h.set p (seqB tg l (i + 1))) := fun s => hq (.mk 2 s []) rfl
  have hn : n = 0 ∨ n = 1 ∨ n = 2 ∨ n = 3 ∨ n = 4 ∨ n = 5 ∨ n = 6 ∨ n = 7 ∨ n = 8 := by omega
  rcases hn with rfl | rfl | rfl | rfl | rfl | rfl | rfl | rfl | rfl <;> simp [hd] <;> first
    | (refine var31 _ ?_
       simp [splice]
       simpa [List.take_of_length_le] using var _)
    | (refine con32 _ [] .clip ?_
       simp [splice, demote_ty, under_ty, ty_take, ty_agg]
       simpa [List.take_of_length_le] using con _)

theorem type10 (tg : Tag) (l : List Int) (p : Nat) : ∀ (m : Nat) (deep i : Int) (bs : List Nat) (h : List Ob) (Q : V → List Ob → Prop), -1 ≤ deep → deep ≤ m → m ≤ 10 → 0 ≤ i → i + 2 ^ (m + 1) < 1000000 → h[p]? = some (seqB tg l i) →
    (∀ (t : Ty) (j : Int), i ≤ j → j + 1 ≤ i + 2 ^ (m + 1) → okT t = true → Q (tyV t) (h.set p (seqB tg l j))) → CallA ap 6 0 bs [.ptr p 0, .int .i64 deep] h Q := by
  intro m
  induction m with
  | zero =>
    intro deep i bs h Q hd1 hd2 hm hi1 hi2 hp hq
    exact type_leaf tg l p deep i (by omega) hi1 (by omega) hp fun t ht => hq t _ (by omega) (by omega) ht
  | succ m ih =>
    intro deep i bs h Q hd1 hd2 hm hi1 hi2 hp hq
    have hpow : (2 : Int) ^ (m + 1 + 1) = 2 * 2 ^ (m + 1) := by rw [Int.pow_succ]; omega
    have hpos : (1 : Int) ≤ 2 ^ (m + 1) := by
      have : (0 : Int) < 2 ^ (m + 1) := Int.pow_pos (by omega)
      omega
    by_cases hd : deep < 1
    · exact type_leaf tg l p deep i hd hi1 (by omega) hp fun t ht => hq t _ (by omega) (by omega) ht
    refine CallA.code (af := ac6) rfl (Nat.le_of_ble_eq_true rfl) ?_
    have hpl : p < h.length := (List.getElem?_eq_some_iff.1 hp).1
    simp [ac6]
    refine next30 tg l i 9 p hp hi1 (by omega) (by omega) (by omega) fun n hn1 hn2 => ?_
    have var : ∀ s, Q (.agg [.int .i64 1, .str s, .sl .frozen []]) (h.set p (seqB tg l (i + 1))) := fun s => by simpa [tyV, tyVs] using hq (.mk 1 s []) (i + 1) (by omega) (by omega) rfl
    have con : ∀ s, Q (tyV (.mk 2 s [])) (h.set p (seqB tg l (i + 1))) := fun s => hq (.mk 2 s []) (i + 1) (by omega) (by omega) rfl
    have hw : IntKind.wrap .i64 (deep - 1) = deep - 1 := wrap64 (by omega) (by omega)
    have hn : n = 0 ∨ n = 1 ∨ n = 2 ∨ n = 3 ∨ n = 4 ∨ n = 5 ∨ n = 6 ∨ n = 7 ∨ n = 8 := by omega
    rcases hn with rfl | rfl | rfl | rfl | rfl | rfl | rfl | rfl | rfl <;> simp [hd, hw] <;> first
      | (refine var31 _ ?_
         simp [splice]
         simpa [List.take_of_length_le] using var _)
      | (refine con32 _ [] .clip ?_
         simp [splice, demote_ty, under_ty, ty_take, ty_agg]
         simpa [List.take_of_length_le] using con _)
      | skip
    · refine ih (deep - 1) (i + 1) _ _ _ (by omega) (by omega) (by omega) (by omega) (by omega) (by simp [hpl]) fun t j hj1 hj2 ht => ?_
      simp [demote_ty, under_ty, ty_take, ty_agg]
      refine con32 _ [t] .clip ?_
      simp [splice, demote_ty, under_ty, ty_take, ty_agg]
      simpa [List.take_of_length_le] using hq (.mk 2 _ [t]) j (by omega) (by omega) (by simp [okT, okTs, ht])
    · refine ih (deep - 1) (i + 1) _ _ _ (by omega) (by omega) (by omega) (by omega) (by omega) (by simp [hpl]) fun t j hj1 hj2 ht => ?_
      simp [splice, demote_ty, under_ty, ty_take, ty_agg, hw]
      refine ih (deep - 1) j _ _ _ (by omega) (by omega) (by omega) (by omega) (by omega) (by simp [hpl]) fun u k hk1 hk2 hu => ?_
      simp [splice, demote_ty, under_ty, ty_take, ty_agg, hw]
      refine con32 _ [t, u] .clip ?_
      simp [splice, demote_ty, under_ty, ty_take, ty_agg]
      simpa [List.take_of_length_le] using hq (.mk 2 _ [t, u]) k (by omega) (by omega) (by simp [okT, okTs, ht, hu])
    all_goals
      refine ih (deep - 1) (i + 1) _ _ _ (by omega) (by omega) (by omega) (by omega) (by omega) (by simp [hpl]) fun t j hj1 hj2 ht => ?_
      simp [splice, demote_ty, under_ty, ty_take, ty_agg, hw]
      refine ih (deep - 1) j _ _ _ (by omega) (by omega) (by omega) (by omega) (by omega) (by simp [hpl]) fun u k hk1 hk2 hu => ?_
      simp [splice, demote_ty, under_ty, ty_take, ty_agg, hw]
      refine fun33 t u ?_
      simp [splice, demote_ty, under_ty, ty_take, ty_agg]
      simpa [List.take_of_length_le] using hq (.mk 3 _ [t, u]) k (by omega) (by omega) (by simp [okT, okTs, ht, hu])

theorem w0 : IntKind.wrap .i64 (0 + 1) = 1 := wrap64 (by omega) (by omega)
theorem w1 : IntKind.wrap .i64 1 = 1 := wrap64 (by omega) (by omega)
theorem wz : IntKind.wrap .i64 0 = 0 := wrap64 (by omega) (by omega)
theorem wm : IntKind.wrap .i64 (-1) = -1 := wrap64 (by omega) (by omega)
theorem w2 : IntKind.wrap .i64 2 = 2 := wrap64 (by omega) (by omega)
theorem w3 : IntKind.wrap .i64 3 = 3 := wrap64 (by omega) (by omega)
theorem w4 : IntKind.wrap .i64 4 = 4 := wrap64 (by omega) (by omega)

theorem ty_sel (t : Ty) : sel (tyV t).cells 0 (some 3) = some (tyV t) := by cases t; simp [tyV]

theorem okT_len {k : Int} {n : List UInt8} {l : List Ty} (h : okT (.mk k n l) = true) : l.length ≤ 2 ∧ ∀ a ∈ l, okT a = true := by
  simp only [okT, Bool.and_eq_true, decide_eq_true_eq] at h
  refine ⟨h.1, ?_⟩
  have := h.2
  clear h
  induction l with
  | nil => simp
  | cons x l ih =>
    simp only [okTs, Bool.and_eq_true] at this
    intro a ha
    rcases List.mem_cons.1 ha with rfl | ha
    · exact this.1
    · exact ih this.2 a ha

end
end Go.Vt
