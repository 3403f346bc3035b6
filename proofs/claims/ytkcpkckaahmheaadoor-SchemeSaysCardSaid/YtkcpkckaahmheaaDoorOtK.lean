/- Types are made: on the abstract machine. -/
import Derived.Test.YtkcpkckaahmheaaDoorOtTab
import Derived.Test.YtkcpkckaahmheaaDoorAmL

namespace Go.Ot
open Go.Am Go.Proofs
set_option maxRecDepth 100000

theorem wrap64 {n : Int} (h1 : -9223372036854775808 ≤ n) (h2 : n < 9223372036854775808) : IntKind.wrap .i64 n = n := by
  show (if (true && decide (n % 18446744073709551616 ≥ 9223372036854775808)) = true then n % 18446744073709551616 - 18446744073709551616 else n % 18446744073709551616) = n
  simp only [Bool.true_and, decide_eq_true_eq]
  split <;> omega

section
variable {bs : List Nat} {h : List Ob} {Q : V → List Ob → Prop}

theorem var31 (s : List UInt8) (hq : Q (.agg [.int .i64 1, .str s, .sl .frozen []]) h) : CallA ap 22 0 bs [.str s] h Q := by
  refine CallA.code (af := ac22) rfl (Nat.le_of_ble_eq_true rfl) ?_
  simp [ac22, splice]
  exact hq

def num (n k : Int) : Int := if n.tmod k < 0 then n.tmod k + k else n.tmod k

theorem num_bound {n k : Int} (hk : 0 < k) : 0 ≤ num n k ∧ num n k < k := by
  have h1 : n.tmod k < k := Int.tmod_lt_of_pos n hk
  have h2 : -k < n.tmod k := Int.lt_tmod_of_pos n hk
  unfold num
  split <;> omega

theorem number53 (n k : Int) (hk : 0 < k) (hk2 : k < 1000) (hq : Q (.int .i64 (num n k)) h) : CallA ap 65 0 bs [.int .i64 n, .int .i64 k] h Q := by
  refine CallA.code (af := ac65) rfl (Nat.le_of_ble_eq_true rfl) ?_
  have h0 : k ≠ 0 := by omega
  have h1 : n.tmod k < k := Int.tmod_lt_of_pos n hk
  have h2 : -k < n.tmod k := Int.lt_tmod_of_pos n hk
  simp [ac65, h0]
  refine condA_dec (fun h3 => ?_) fun h3 => ?_
  · simp
    rw [wrap64 (by omega) (by omega)]
    simpa [num, h3] using hq
  · simp
    simpa [num, h3] using hq


/-- The seq's cells. -/
def seqB (t : Tag) (l : List Int) (i : Int) : Ob := .box [.sl t (l.map (.int .i64)), .int .i64 i]

theorem next30 (t : Tag) (l : List Int) (i k : Int) (p : Nat) (hp : h[p]? = some (seqB t l i)) (h1 : 0 ≤ i) (h2 : i < 1000000) (hk : 0 < k) (hk2 : k < 1000)
    (hq : ∀ n : Int, 0 ≤ n → n < k → Q (.int .i64 n) (h.set p (seqB t l (i + 1)))) : CallA ap 36 0 bs [.ptr p 0, .int .i64 k] h Q := by
  refine CallA.code (af := ac36) rfl (Nat.le_of_ble_eq_true rfl) ?_
  have hpl : p < h.length := (List.getElem?_eq_some_iff.1 hp).1
  simp [ac36, hp, seqB]
  have hi : IntKind.wrap .i64 (i + 1) = i + 1 := wrap64 (by omega) (by omega)
  have fin : ∀ n : Int, Q (.int .i64 (num n k)) (h.set p (.box [.sl t (l.map (.int .i64)), .int .i64 (i + 1)])) := fun n => hq _ (num_bound hk).1 (num_bound hk).2
  refine condA_dec (fun h3 => ?_) fun h3 => ?_
  · have h4 : i.toNat < l.length := by omega
    simp [hp, seqB, h1, h4, splice, okStore, hi]
    refine number53 _ _ hk hk2 ?_
    simpa [List.take_of_length_le] using fin _
  · simp [hp, seqB, splice, okStore, hi]
    refine number53 _ _ hk hk2 ?_
    simpa [List.take_of_length_le] using fin _

end

/-- Types. -/
inductive Ty where
  | mk (k : Int) (n : List UInt8) (l : List Ty)

mutual
def tyV : Ty → V
  | .mk k n l => .agg [.int .i64 k, .str n, .sl .frozen (tyVs l)]
def tyVs : List Ty → List V
  | [] => []
  | t :: l => tyV t :: tyVs l
end

mutual
def okT : Ty → Bool
  | .mk _ _ l => decide (l.length ≤ 2) && okTs l
def okTs : List Ty → Bool
  | [] => true
  | t :: l => okT t && okTs l
end

mutual
theorem demote_ty : ∀ t : Ty, (tyV t).demote = tyV t
  | .mk k n l => by simp [tyV, demote_tys l]
theorem demote_tys : ∀ l : List Ty, demoteL (tyVs l) = tyVs l
  | [] => rfl
  | t :: l => by simp [tyVs, demote_ty t, demote_tys l]
end
mutual
theorem under_ty (m : Nat) : ∀ t : Ty, (tyV t).under m = true
  | .mk k n l => by simp [tyV, under_tys m l]
theorem under_tys (m : Nat) : ∀ l : List Ty, underL m (tyVs l) = true
  | [] => rfl
  | t :: l => by simp [tyVs, under_ty m t, under_tys m l]
end
@[simp] theorem tys_length : ∀ l : List Ty, (tyVs l).length = l.length
  | [] => rfl
  | t :: l => by simp [tyVs, tys_length l]
theorem tys_get : ∀ (l : List Ty) (i : Nat), (tyVs l)[i]? = (l[i]?).map tyV
  | [], i => by simp [tyVs]
  | t :: l, 0 => by simp [tyVs]
  | t :: l, i + 1 => by simp [tyVs, tys_get l i]
@[simp] theorem ty_cells (t : Ty) : (tyV t).cells.length = 3 := by cases t; simp [tyV]
@[simp] theorem ty_loc (t : Ty) : (tyV t).isLoc = false := by cases t; simp [tyV]
theorem ty_agg (t : Ty) : V.agg (tyV t).cells = tyV t := by cases t; simp [tyV]
theorem ty_take (t : Ty) : (tyV t).cells.take 3 = (tyV t).cells := by cases t; simp [tyV]

section
variable {bs : List Nat} {h : List Ob} {Q : V → List Ob → Prop}

theorem con32 (s : List UInt8) (l : List Ty) (tg : Tag) (hq : Q (tyV (.mk 2 s l)) h) : CallA ap 46 0 bs [.str s, .sl .frozen (tyVs l)] h Q := by
  refine CallA.code (af := ac46) rfl (Nat.le_of_ble_eq_true rfl) ?_
  simp [ac46, splice, demote_tys, under_tys]
  simpa [tyV] using hq

theorem fun33 (a b : Ty) (hq : Q (tyV (.mk 3 [] [a, b])) h) : CallA ap 47 0 bs [tyV a, tyV b] h Q := by
  refine CallA.code (af := ac47) rfl (Nat.le_of_ble_eq_true rfl) ?_
  simp [ac47, splice, demote_ty, under_ty, ty_take, ty_agg]
  simpa [tyV, tyVs] using hq

theorem type_leaf (tg : Tag) (l : List Int) (p : Nat) (deep i : Int) (hd : deep < 1) (hi1 : 0 ≤ i) (hi2 : i < 1000000) (hp : h[p]? = some (seqB tg l i))
    (hq : ∀ (t : Ty), okT t = true → Q (tyV t) (h.set p (seqB tg l (i + 1)))) : CallA ap 14 0 bs [.ptr p 0, .int .i64 deep] h Q := by
  refine CallA.code (af := ac14) rfl (Nat.le_of_ble_eq_true rfl) ?_
  have hpl : p < h.length := (List.getElem?_eq_some_iff.1 hp).1
  simp [ac14]
  refine next30 tg l i 9 p hp hi1 (by omega) (by omega) (by omega) fun n hn1 hn2 => ?_
  have var : ∀ s, Q (.agg [.int .i64 1, .str s, .sl .frozen []]) (h.set p (seqB tg l (i + 1))) := fun s => by simpa [tyV, tyVs] using hq (.mk 1 s []) rfl
  have con : ∀ s, Q (tyV (.mk 2 s [])) (h.set p (seqB tg l (i + 1))) := fun s => hq (.mk 2 s []) rfl
  have hn : n = 0 ∨ n = 1 ∨ n = 2 ∨ n = 3 ∨ n = 4 ∨ n = 5 ∨ n = 6 ∨ n = 7 ∨ n = 8 := by omega
  rcases hn with rfl | rfl | rfl | rfl | rfl | rfl | rfl | rfl | rfl <;> simp [hd] <;> first
    | (refine var31 _ ?_
       simp [splice]
       simpa [List.take_of_length_le] using var _)
    | (refine con32 _ [] .clip ?_
       simp [splice, demote_ty, under_ty, ty_take, ty_agg]
       simpa [List.take_of_length_le] using con _)

theorem type10 (tg : Tag) (l : List Int) (p : Nat) : ∀ (m : Nat) (deep i : Int) (bs : List Nat) (h : List Ob) (Q : V → List Ob → Prop), -1 ≤ deep → deep ≤ m → m ≤ 10 → 0 ≤ i → i + 2 ^ (m + 1) < 1000000 → h[p]? = some (seqB tg l i) →
    (∀ (t : Ty) (j : Int), i ≤ j → j + 1 ≤ i + 2 ^ (m + 1) → okT t = true → Q (tyV t) (h.set p (seqB tg l j))) → CallA ap 14 0 bs [.ptr p 0, .int .i64 deep] h Q := by
  intro m
  induction m with
  | zero =>
    intro deep i bs h Q hd1 hd2 hm hi1 hi2 hp hq
    exact type_leaf tg l p deep i (by omega) hi1 (by omega) hp fun t ht => hq t _ (by omega) (by omega) ht
  | succ m ih =>
    intro deep i bs h Q hd1 hd2 hm hi1 hi2 hp hq
    have hpow : (2 : Int) ^ (m + 1 + 1) = 2 * 2 ^ (m + 1) := by rw [Int.pow_succ]; omega
    have hpos : (1 : Int) ≤ 2 ^ (m + 1) := by
      have : (0 : Int) < 2 ^ (m + 1) := Int.pow_pos (by omega)
      omega
    by_cases hd : deep < 1
    · exact type_leaf tg l p deep i hd hi1 (by omega) hp fun t ht => hq t _ (by omega) (by omega) ht
    refine CallA.code (af := ac14) rfl (Nat.le_of_ble_eq_true rfl) ?_
    have hpl : p < h.length := (List.getElem?_eq_some_iff.1 hp).1
    simp [ac14]
    refine next30 tg l i 9 p hp hi1 (by omega) (by omega) (by omega) fun n hn1 hn2 => ?_
    have var : ∀ s, Q (.agg [.int .i64 1, .str s, .sl .frozen []]) (h.set p (seqB tg l (i + 1))) := fun s => by simpa [tyV, tyVs] using hq (.mk 1 s []) (i + 1) (by omega) (by omega) rfl
    have con : ∀ s, Q (tyV (.mk 2 s [])) (h.set p (seqB tg l (i + 1))) := fun s => hq (.mk 2 s []) (i + 1) (by omega) (by omega) rfl
    have hw : IntKind.wrap .i64 (deep - 1) = deep - 1 := wrap64 (by omega) (by omega)
    have hn : n = 0 ∨ n = 1 ∨ n = 2 ∨ n = 3 ∨ n = 4 ∨ n = 5 ∨ n = 6 ∨ n = 7 ∨ n = 8 := by omega
    rcases hn with rfl | rfl | rfl | rfl | rfl | rfl | rfl | rfl | rfl <;> simp [hd, hw] <;> first
      | (refine var31 _ ?_
         simp [splice]
         simpa [List.take_of_length_le] using var _)
      | (refine con32 _ [] .clip ?_
         simp [splice, demote_ty, under_ty, ty_take, ty_agg]
         simpa [List.take_of_length_le] using con _)
      | skip
    · refine ih (deep - 1) (i + 1) _ _ _ (by omega) (by omega) (by omega) (by omega) (by omega) (by simp [hpl]) fun t j hj1 hj2 ht => ?_
      simp [demote_ty, under_ty, ty_take, ty_agg]
      refine con32 _ [t] .clip ?_
      simp [splice, demote_ty, under_ty, ty_take, ty_agg]
      simpa [List.take_of_length_le] using hq (.mk 2 _ [t]) j (by omega) (by omega) (by simp [okT, okTs, ht])
    · refine ih (deep - 1) (i + 1) _ _ _ (by omega) (by omega) (by omega) (by omega) (by omega) (by simp [hpl]) fun t j hj1 hj2 ht => ?_
      simp [splice, demote_ty, under_ty, ty_take, ty_agg, hw]
      refine ih (deep - 1) j _ _ _ (by omega) (by omega) (by omega) (by omega) (by omega) (by simp [hpl]) fun u k hk1 hk2 hu => ?_
      simp [splice, demote_ty, under_ty, ty_take, ty_agg, hw]
      refine con32 _ [t, u] .clip ?_
      simp [splice, demote_ty, under_ty, ty_take, ty_agg]
      simpa [List.take_of_length_le] using hq (.mk 2 _ [t, u]) k (by omega) (by omega) (by simp [okT, okTs, ht, hu])
    all_goals
      refine ih (deep - 1) (i + 1) _ _ _ (by omega) (by omega) (by omega) (by omega) (by omega) (by simp [hpl]) fun t j hj1 hj2 ht => ?_
      simp [splice, demote_ty, under_ty, ty_take, ty_agg, hw]
      refine ih (deep - 1) j _ _ _ (by omega) (by omega) (by omega) (by omega) (by omega) (by simp [hpl]) fun u k hk1 hk2 hu => ?_
      simp [splice, demote_ty, under_ty, ty_take, ty_agg, hw]
      refine fun33 t u ?_
      simp [splice, demote_ty, under_ty, ty_take, ty_agg]
      simpa [List.take_of_length_le] using hq (.mk 3 _ [t, u]) k (by omega) (by omega) (by simp [okT, okTs, ht, hu])

theorem w0 : IntKind.wrap .i64 (0 + 1) = 1 := wrap64 (by omega) (by omega)
theorem w1 : IntKind.wrap .i64 1 = 1 := wrap64 (by omega) (by omega)
theorem wz : IntKind.wrap .i64 0 = 0 := wrap64 (by omega) (by omega)
theorem wm : IntKind.wrap .i64 (-1) = -1 := wrap64 (by omega) (by omega)
theorem w2 : IntKind.wrap .i64 2 = 2 := wrap64 (by omega) (by omega)
theorem w3 : IntKind.wrap .i64 3 = 3 := wrap64 (by omega) (by omega)
theorem w4 : IntKind.wrap .i64 4 = 4 := wrap64 (by omega) (by omega)

theorem ty_sel (t : Ty) : sel (tyV t).cells 0 (some 3) = some (tyV t) := by cases t; simp [tyV]

theorem okT_len {k : Int} {n : List UInt8} {l : List Ty} (h : okT (.mk k n l) = true) : l.length ≤ 2 ∧ ∀ a ∈ l, okT a = true := by
  simp only [okT, Bool.and_eq_true, decide_eq_true_eq] at h
  refine ⟨h.1, ?_⟩
  have := h.2
  clear h
  induction l with
  | nil => simp
  | cons x l ih =>
    simp only [okTs, Bool.and_eq_true] at this
    intro a ha
    rcases List.mem_cons.1 ha with rfl | ha
    · exact this.1
    · exact ih this.2 a ha

end
end Go.Ot

namespace Go.Ot
open Go.Am Go.Proofs
set_option maxRecDepth 100000

/-- What the maker makes. -/
inductive Made : Nat → Ty → Prop
  | va (m : Nat) : Made m (.mk 1 [97] [])
  | vb (m : Nat) : Made m (.mk 1 [98] [])
  | vc (m : Nat) : Made m (.mk 1 [99] [])
  | int (m : Nat) : Made m (.mk 2 [73, 110, 116] [])
  | bool (m : Nat) : Made m (.mk 2 [66, 111, 111, 108] [])
  | list (m : Nat) (t : Ty) : Made m t → Made (m + 1) (.mk 2 [76, 105, 115, 116] [t])
  | pair (m : Nat) (t u : Ty) : Made m t → Made m u → Made (m + 1) (.mk 2 [80, 97, 105, 114] [t, u])
  | fn (m : Nat) (t u : Ty) : Made m t → Made m u → Made (m + 1) (.mk 3 [] [t, u])

theorem Made.ok {m : Nat} {t : Ty} (h : Made m t) : okT t = true := by
  induction h <;> simp_all [okT, okTs]

theorem Made.up {m : Nat} {t : Ty} (h : Made m t) : Made (m + 1) t := by
  induction h with
  | va m => exact .va _
  | vb m => exact .vb _
  | vc m => exact .vc _
  | int m => exact .int _
  | bool m => exact .bool _
  | list m t _ i => exact .list _ _ i
  | pair m t u _ _ i j => exact .pair _ _ _ i j
  | fn m t u _ _ i j => exact .fn _ _ _ i j

end Go.Ot

namespace Go.Ot
open Go.Am Go.Proofs
set_option maxRecDepth 100000

/- Are they the same? -/
mutual
def beqT : Ty → Ty → Bool
  | .mk k n l, .mk k' n' l' => (k == k') && ((n == n') && beqTs l l')
def beqTs : List Ty → List Ty → Bool
  | [], [] => true
  | a :: l, b :: m => beqT a b && beqTs l m
  | [], _ :: _ => false
  | _ :: _, [] => false
end

mutual
theorem beqT_iff : ∀ a b : Ty, beqT a b = true ↔ a = b
  | .mk k n l, .mk k' n' l' => by simp [beqT, beqTs_iff l l']
theorem beqTs_iff : ∀ a b : List Ty, beqTs a b = true ↔ a = b
  | [], [] => by simp [beqTs]
  | a :: l, b :: m => by simp [beqTs, beqT_iff a b, beqTs_iff l m]
  | [], _ :: _ => by simp [beqTs]
  | _ :: _, [] => by simp [beqTs]
end

section
variable {bs : List Nat} {h : List Ob} {Q : V → List Ob → Prop}

theorem made_leaf (tg : Tag) (l : List Int) (p : Nat) (deep i : Int) (hd : deep < 1) (hi1 : 0 ≤ i) (hi2 : i < 1000000) (hp : h[p]? = some (seqB tg l i))
    (hq : ∀ (t : Ty), (∀ m, Made m t) → Q (tyV t) (h.set p (seqB tg l (i + 1)))) : CallA ap 14 0 bs [.ptr p 0, .int .i64 deep] h Q := by
  refine CallA.code (af := ac14) rfl (Nat.le_of_ble_eq_true rfl) ?_
  have hpl : p < h.length := (List.getElem?_eq_some_iff.1 hp).1
  simp [ac14]
  refine next30 tg l i 9 p hp hi1 (by omega) (by omega) (by omega) fun n hn1 hn2 => ?_
  have va := hq _ Made.va
  have vb := hq _ Made.vb
  have vc := hq _ Made.vc
  have ci := hq _ Made.int
  have cb := hq _ Made.bool
  simp only [tyV, tyVs] at va vb vc ci cb
  have hn : n = 0 ∨ n = 1 ∨ n = 2 ∨ n = 3 ∨ n = 4 ∨ n = 5 ∨ n = 6 ∨ n = 7 ∨ n = 8 := by omega
  rcases hn with rfl | rfl | rfl | rfl | rfl | rfl | rfl | rfl | rfl <;> simp [hd] <;> first
    | (refine var31 _ ?_
       simp [splice]
       first
        | simpa [List.take_of_length_le] using va
        | simpa [List.take_of_length_le] using vb
        | simpa [List.take_of_length_le] using vc)
    | (refine con32 _ [] .clip ?_
       simp [splice, demote_ty, under_ty, ty_take, ty_agg, tyV, tyVs]
       first
        | simpa [List.take_of_length_le] using ci
        | simpa [List.take_of_length_le] using cb)

theorem made10 (tg : Tag) (l : List Int) (p : Nat) : ∀ (m : Nat) (deep i : Int) (bs : List Nat) (h : List Ob) (Q : V → List Ob → Prop), -1 ≤ deep → deep ≤ m → m ≤ 10 → 0 ≤ i → i + 2 ^ (m + 1) < 1000000 → h[p]? = some (seqB tg l i) →
    (∀ (t : Ty) (j : Int), i ≤ j → j + 1 ≤ i + 2 ^ (m + 1) → Made m t → Q (tyV t) (h.set p (seqB tg l j))) → CallA ap 14 0 bs [.ptr p 0, .int .i64 deep] h Q := by
  intro m
  induction m with
  | zero =>
    intro deep i bs h Q hd1 hd2 hm hi1 hi2 hp hq
    exact made_leaf tg l p deep i (by omega) hi1 (by omega) hp fun t ht => hq t _ (by omega) (by omega) (ht _)
  | succ m ih =>
    intro deep i bs h Q hd1 hd2 hm hi1 hi2 hp hq
    have hpow : (2 : Int) ^ (m + 1 + 1) = 2 * 2 ^ (m + 1) := by rw [Int.pow_succ]; omega
    have hpos : (1 : Int) ≤ 2 ^ (m + 1) := by
      have : (0 : Int) < 2 ^ (m + 1) := Int.pow_pos (by omega)
      omega
    by_cases hd : deep < 1
    · exact made_leaf tg l p deep i hd hi1 (by omega) hp fun t ht => hq t _ (by omega) (by omega) (ht _)
    refine CallA.code (af := ac14) rfl (Nat.le_of_ble_eq_true rfl) ?_
    have hpl : p < h.length := (List.getElem?_eq_some_iff.1 hp).1
    simp [ac14]
    refine next30 tg l i 9 p hp hi1 (by omega) (by omega) (by omega) fun n hn1 hn2 => ?_
    have va := hq _ (i + 1) (by omega) (by omega) (Made.va _)
    have vb := hq _ (i + 1) (by omega) (by omega) (Made.vb _)
    have vc := hq _ (i + 1) (by omega) (by omega) (Made.vc _)
    have ci := hq _ (i + 1) (by omega) (by omega) (Made.int _)
    have cb := hq _ (i + 1) (by omega) (by omega) (Made.bool _)
    simp only [tyV, tyVs] at va vb vc ci cb
    have hw : IntKind.wrap .i64 (deep - 1) = deep - 1 := wrap64 (by omega) (by omega)
    have hn : n = 0 ∨ n = 1 ∨ n = 2 ∨ n = 3 ∨ n = 4 ∨ n = 5 ∨ n = 6 ∨ n = 7 ∨ n = 8 := by omega
    rcases hn with rfl | rfl | rfl | rfl | rfl | rfl | rfl | rfl | rfl <;> simp [hd, hw] <;> first
      | (refine var31 _ ?_
         simp [splice]
         first
          | simpa [List.take_of_length_le] using va
          | simpa [List.take_of_length_le] using vb
          | simpa [List.take_of_length_le] using vc)
      | (refine con32 _ [] .clip ?_
         simp [splice, demote_ty, under_ty, ty_take, ty_agg, tyV, tyVs]
         first
          | simpa [List.take_of_length_le] using ci
          | simpa [List.take_of_length_le] using cb)
      | skip
    · refine ih (deep - 1) (i + 1) _ _ _ (by omega) (by omega) (by omega) (by omega) (by omega) (by simp [hpl]) fun t j hj1 hj2 ht => ?_
      simp [demote_ty, under_ty, ty_take, ty_agg]
      refine con32 _ [t] .clip ?_
      simp [splice, demote_ty, under_ty, ty_take, ty_agg]
      simpa [List.take_of_length_le] using hq (.mk 2 _ [t]) j (by omega) (by omega) (.list _ _ ht)
    · refine ih (deep - 1) (i + 1) _ _ _ (by omega) (by omega) (by omega) (by omega) (by omega) (by simp [hpl]) fun t j hj1 hj2 ht => ?_
      simp [splice, demote_ty, under_ty, ty_take, ty_agg, hw]
      refine ih (deep - 1) j _ _ _ (by omega) (by omega) (by omega) (by omega) (by omega) (by simp [hpl]) fun u k hk1 hk2 hu => ?_
      simp [splice, demote_ty, under_ty, ty_take, ty_agg, hw]
      refine con32 _ [t, u] .clip ?_
      simp [splice, demote_ty, under_ty, ty_take, ty_agg]
      simpa [List.take_of_length_le] using hq (.mk 2 _ [t, u]) k (by omega) (by omega) (.pair _ _ _ ht hu)
    all_goals
      refine ih (deep - 1) (i + 1) _ _ _ (by omega) (by omega) (by omega) (by omega) (by omega) (by simp [hpl]) fun t j hj1 hj2 ht => ?_
      simp [splice, demote_ty, under_ty, ty_take, ty_agg, hw]
      refine ih (deep - 1) j _ _ _ (by omega) (by omega) (by omega) (by omega) (by omega) (by simp [hpl]) fun u k hk1 hk2 hu => ?_
      simp [splice, demote_ty, under_ty, ty_take, ty_agg, hw]
      refine fun33 t u ?_
      simp [splice, demote_ty, under_ty, ty_take, ty_agg]
      simpa [List.take_of_length_le] using hq (.mk 3 _ [t, u]) k (by omega) (by omega) (.fn _ _ _ ht hu)

/-- What tells whether two types are the same. -/
def SameC (a b : Ty) : Prop := ∀ (bs : List Nat) (h : List Ob) (Q : V → List Ob → Prop), Q (.bool (beqT a b)) h → CallA ap 44 0 bs [tyV a, tyV b] h Q

theorem sames42 (l m : List Ty) (hl : l.length < 1000000) (hc : ∀ a ∈ l, ∀ b ∈ m, SameC a b) (hq : Q (.bool (beqTs l m)) h) :
    CallA ap 71 0 bs [.sl .frozen (tyVs l), .sl .frozen (tyVs m)] h Q := by
  refine CallA.code (af := ac71) rfl (Nat.le_of_ble_eq_true rfl) ?_
  by_cases hlen : l.length = m.length
  · simp [ac71, hlen]
    obtain ⟨I, hI⟩ : ∃ I : Nat → St → Prop, ∀ n s, I n s ↔ (∃ i : Nat, i + n = l.length ∧ beqTs (l.drop i) (m.drop i) = beqTs l m ∧ s.r 0 = .sl .frozen (tyVs l) ∧ s.r 1 = .sl .frozen (tyVs m) ∧ s.r 5 = .int .i64 i ∧ s.h = h) := ⟨_, fun _ _ => Iff.rfl⟩
    refine loop_ind (CallA.hle ap) I ?_ (n := l.length) ((hI _ _).2 ⟨0, by simp⟩)
    rintro n ⟨r, lo, h'⟩ hs
    obtain ⟨i, hi, hb, e0, e1, e5, rfl⟩ := (hI _ _).1 hs
    simp only at e0 e1 e5
    simp [forget, noLoc, e0, e1, e5]
    refine condA_dec (fun h1 => ?_) fun h1 => ?_
    · have hi1 : i < l.length := by omega
      have hi2 : i < m.length := by omega
      have g1 : (tyVs l)[i]? = some (tyV l[i]) := by rw [tys_get]; simp [hi1]
      have g2 : (tyVs m)[i]? = some (tyV m[i]) := by rw [tys_get]; simp [hi2]
      have hw : IntKind.wrap .i64 ((i : Int) + 1) = (i : Int) + 1 := wrap64 (by omega) (by omega)
      simp [e0, e1, e5, g1, g2, ty_sel, ty_take, ty_agg, demote_ty]
      refine hc _ (List.getElem_mem hi1) _ (List.getElem_mem hi2) _ _ _ ?_
      rw [List.drop_eq_getElem_cons hi1, List.drop_eq_getElem_cons hi2] at hb
      simp only [beqTs] at hb
      cases hbe : beqT l[i] m[i] with
      | true =>
        simp [e0, e1, e5, hw]
        exact ⟨n - 1, by omega, (hI _ _).2 ⟨i + 1, by omega, by simpa [hbe] using hb, by simp [e0, e1, e5]⟩⟩
      | false =>
        simp [e0, e1, e5]
        rw [hbe] at hb
        simp at hb
        rw [hb] at hq
        exact hq
    · have hi1 : i = l.length := by omega
      simp [e0, e1, e5]
      subst hi1
      rw [hlen] at hb
      rw [← hlen, List.drop_length, hlen, List.drop_length] at hb
      simp [beqTs] at hb
      rw [hb] at hq
      exact hq
  · have : ((l.length : Int) != (m.length : Int)) = true := by simpa using fun e => hlen (by omega)
    simp [ac71, this]
    have hb : beqTs l m = false := by
      cases hbe : beqTs l m with
      | false => rfl
      | true => exact absurd (congrArg List.length ((beqTs_iff l m).1 hbe)) hlen
    rw [hb] at hq
    exact hq

theorem same16 : ∀ (n : Nat) (a b : Ty), SizeOf.sizeOf a ≤ n → okT a = true → okT b = true → SameC a b := by
  intro n
  induction n with
  | zero => intro a b h; cases a; simp at h
  | succ n ih =>
    intro a b hn ha hb bs h Q hq
    obtain ⟨k, s, l⟩ := a
    obtain ⟨k', s', l'⟩ := b
    obtain ⟨l1, l2⟩ := okT_len ha
    obtain ⟨m1, m2⟩ := okT_len hb
    have each : ∀ a ∈ l, ∀ b ∈ l', SameC a b := fun a ha' b hb' => ih a b (by have := List.sizeOf_lt_of_mem ha'; simp at hn; omega) (l2 a ha') (m2 b hb')
    refine CallA.code (af := ac44) rfl (Nat.le_of_ble_eq_true rfl) ?_
    by_cases hk : k = k'
    · subst hk
      by_cases hs : s = s'
      · subst hs
        simp [ac44, tyV, demote_tys]
        refine sames42 l l' (by omega) each ?_
        simp
        simpa [beqT] using hq
      · have : (s == s') = false := by simpa using hs
        simp [ac44, tyV, this]
        simpa [beqT, this] using hq
    · have : (k == k') = false := by simpa using hk
      simp [ac44, tyV, this]
      simpa [beqT, this] using hq

theorem sameOk {a b : Ty} (ha : okT a = true) (hb : okT b = true) : SameC a b := same16 _ a b (Nat.le_refl _) ha hb

end
end Go.Ot
