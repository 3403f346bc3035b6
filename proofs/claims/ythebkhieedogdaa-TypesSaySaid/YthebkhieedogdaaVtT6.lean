/- The reference's order of types; rows of types that lie in memory; rounds whose heap is not told to the last: on the abstract machine. -/
import Derived.Test.YthebkhieedogdaaVtT5
namespace Go.Vt
open Go.Am Go.Proofs
set_option maxRecDepth 100000

theorem less_cmp : ∀ a b : List UInt8, a ≠ b → Lib.compareBytes a b = if Op.bytesLess a b = true then -1 else 1
  | [], [], h => absurd rfl h
  | [], _ :: _, _ => by simp [Lib.compareBytes, Op.bytesLess]
  | _ :: _, [], _ => by simp [Lib.compareBytes, Op.bytesLess]
  | x :: a, y :: b, h => by
    have g1 : (x < y) = (x.toNat < y.toNat) := propext UInt8.lt_iff_toNat_lt
    have g2 : (y < x) = (y.toNat < x.toNat) := propext UInt8.lt_iff_toNat_lt
    have g3 : x = y ↔ x.toNat = y.toNat := UInt8.toNat_inj.symm
    by_cases h1 : x < y
    · simp [Lib.compareBytes, Op.bytesLess, h1]
    · by_cases h2 : y < x
      · have : ¬ x = y := by rw [g3]; rw [g2] at h2; omega
        simp [Lib.compareBytes, Op.bytesLess, h1, h2, this]
      · have hxy : x = y := by rw [g3]; rw [g1] at h1; rw [g2] at h2; omega
        subst hxy
        have := less_cmp a b fun e => h (by rw [e])
        simp [Lib.compareBytes, Op.bytesLess, this]

theorem cmp_same (a : List UInt8) : Lib.compareBytes a a = 0 := by
  induction a with
  | nil => rfl
  | cons x a ih => simp [Lib.compareBytes, ih]

section
variable {bs : List Nat} {h : List Ob} {Q : V → List Ob → Prop}

theorem sign38 (a b : Int) (hq : Q (.int .i64 (cmpI a b)) h) : CallA ap 38 0 bs [.int .i64 a, .int .i64 b] h Q := by
  refine CallA.code (af := ac38) rfl (Nat.le_of_ble_eq_true rfl) ?_
  simp [ac38]
  refine condA_dec (fun h1 => ?_) fun h1 => ?_
  · simp
    simpa [cmpI, h1] using hq
  · simp
    refine condA_dec (fun h2 => ?_) fun h2 => ?_
    · simp
      simpa [cmpI, h1, h2] using hq
    · simp
      simpa [cmpI, h1, h2] using hq

def CmpR (a b : Ty) : Prop := ∀ (bs : List Nat) (h : List Ob) (Q : V → List Ob → Prop), Q (.int .i64 (cmpT a b)) h → CallA ap 18 0 bs [tyV a, tyV b] h Q

/-- The loop over the arguments, when the heads are alike so far. -/
def cmpLoop : AC := .loop [5, 6] [2, 3] .skip

theorem cmpI_same (a : Int) : cmpI a a = 0 := by simp [cmpI]
theorem orL2 (x y : Int) : orL [0, 0, x, y] = if x = 0 then y else x := by
  have e : (if y = 0 then 0 else y) = y := by split <;> omega
  simp only [orL, if_true, e]
theorem cmpTs1 (a b : Ty) : cmpTs [a] [b] = cmpT a b := by
  simp only [cmpTs]; split <;> omega
theorem cmpTs2 (a b c d : Ty) : cmpTs [a, c] [b, d] = if cmpT a b = 0 then cmpT c d else cmpT a b := by
  rw [← cmpTs1 c d, cmpTs]

theorem cmp18 : ∀ (m : Nat) (a b : Ty), SizeOf.sizeOf a ≤ m → okT a = true → okT b = true → CmpR a b := by
  intro m
  induction m with
  | zero => intro a b h; cases a; simp at h
  | succ m ih =>
    intro a b hm ha hb bs h Q hq
    obtain ⟨k, n, l⟩ := a
    obtain ⟨k', n', l'⟩ := b
    obtain ⟨a1, a2⟩ := okT_len ha
    obtain ⟨b1, b2⟩ := okT_len hb
    have each : ∀ a ∈ l, ∀ b ∈ l', CmpR a b := fun a h1 b h2 => ih a b (by have := List.sizeOf_lt_of_mem h1; simp at hm; omega) (a2 a h1) (b2 b h2)
    refine CallA.code (af := ac18) rfl (Nat.le_of_ble_eq_true rfl) ?_
    simp [ac18, tyV]
    refine sign38 k k' ?_
    simp only [cmpT] at hq
    have hkk := cmpI_cases k k'
    by_cases hk : cmpI k k' = 0
    case neg =>
      have hz : (cmpI k k' == 0) = false := by simpa using hk
      simp only [orL, hk, if_false] at hq
      simp [hz]
      refine wpA_loop (CallA.hle ap) ?_
      match l with
      | [] => simp [forget, noLoc, locOf, tyVs]; exact hq
      | [_] => simp [forget, noLoc, locOf, tyVs, hz]; exact hq
      | [_, _] => simp [forget, noLoc, locOf, tyVs, hz]; exact hq
    rw [hk] at hq ⊢
    by_cases hn : n = n'
    case neg =>
      have hne : (n == n') = false := by simpa using hn
      have hc := less_cmp n n' hn
      by_cases hl : Op.bytesLess n n' = true
      · rw [if_pos hl] at hc
        simp only [orL, hc] at hq
        simp at hq
        simp [hne, hl]
        refine wpA_loop (CallA.hle ap) ?_
        match l with
        | [] => simp [forget, noLoc, locOf, tyVs]; exact hq
        | [_] => simp [forget, noLoc, locOf, tyVs]; exact hq
        | [_, _] => simp [forget, noLoc, locOf, tyVs]; exact hq
      · rw [if_neg hl] at hc
        simp only [orL, hc] at hq
        simp at hq hl
        simp [hne, hl]
        refine wpA_loop (CallA.hle ap) ?_
        match l with
        | [] => simp [forget, noLoc, locOf, tyVs]; exact hq
        | [_] => simp [forget, noLoc, locOf, tyVs]; exact hq
        | [_, _] => simp [forget, noLoc, locOf, tyVs]; exact hq
    subst hn
    rw [cmp_same] at hq
    simp
    refine sign38 l.length l'.length ?_
    rw [orL2] at hq
    match l, l', a1, b1, each, hq with
    | _ :: _ :: _ :: _, _, a1, _, _, _ => simp at a1
    | _, _ :: _ :: _ :: _, _, b1, _, _ => simp at b1
    | [], [], _, _, _, hq =>
      simp
      refine wpA_loop (CallA.hle ap) ?_
      simp [forget, noLoc, locOf, tyVs]
      exact hq
    | [], _ :: l', _, _, _, hq =>
      have hc : cmpI 0 ((l'.length : Int) + 1) = -1 := by unfold cmpI; rw [if_pos (by omega)]
      simp [hc] at hq ⊢
      refine wpA_loop (CallA.hle ap) ?_
      simp [forget, noLoc, locOf, tyVs]
      exact hq
    | [a], [], _, _, _, hq =>
      have hc : cmpI 1 0 = 1 := by decide
      simp [hc] at hq ⊢
      refine wpA_loop (CallA.hle ap) ?_
      simp [forget, noLoc, locOf, tyVs]
      exact hq
    | [a, a'], [], _, _, _, hq =>
      have hc : cmpI 2 0 = 1 := by decide
      simp [hc] at hq ⊢
      refine wpA_loop (CallA.hle ap) ?_
      simp [forget, noLoc, locOf, tyVs]
      exact hq
    | [a], [b, b'], _, _, _, hq =>
      have hc : cmpI 1 2 = -1 := by decide
      simp [hc] at hq ⊢
      refine wpA_loop (CallA.hle ap) ?_
      simp [forget, noLoc, locOf, tyVs]
      exact hq
    | [a, a'], [b], _, _, _, hq =>
      have hc : cmpI 2 1 = 1 := by decide
      simp [hc] at hq ⊢
      refine wpA_loop (CallA.hle ap) ?_
      simp [forget, noLoc, locOf, tyVs]
      exact hq
    | [a], [b], _, _, each, hq =>
      have hc : cmpI 1 1 = 0 := by decide
      simp [hc] at hq ⊢
      refine wpA_loop (CallA.hle ap) ?_
      simp [forget, noLoc, locOf, tyVs, ty_take, ty_agg, demote_ty]
      refine each a (by simp) b (by simp) _ _ _ ?_
      simp [w1]
      refine wpA_loop (CallA.hle ap) ?_
      simp [forget, noLoc, locOf]
      rw [cmpTs1] at hq
      exact hq
    | [a, a'], [b, b'], _, _, each, hq =>
      have hc : cmpI 2 2 = 0 := by decide
      simp [hc] at hq ⊢
      refine wpA_loop (CallA.hle ap) ?_
      simp [forget, noLoc, locOf, tyVs, ty_take, ty_agg, demote_ty]
      refine each a (by simp) b (by simp) _ _ _ ?_
      simp [w1]
      rw [cmpTs2] at hq
      refine wpA_loop (CallA.hle ap) ?_
      by_cases hz : cmpT a b = 0
      · rw [hz] at hq ⊢
        simp [forget, noLoc, locOf, ty_take, ty_agg, demote_ty]
        refine each a' (by simp) b' (by simp) _ _ _ ?_
        simp [w2]
        refine wpA_loop (CallA.hle ap) ?_
        simp [forget, noLoc, locOf]
        simpa using hq
      · have hzf : (cmpT a b == 0) = false := by simpa using hz
        simp [forget, noLoc, locOf, hzf]
        simpa [hz] using hq

/-- A row of types lies in cells. -/
def RowC (cs : List V) (l : List Ty) : Prop := cs.take (l.length * 3) = (tyVs l).flatMap V.cells

theorem tys_flat_len (l : List Ty) : ((tyVs l).flatMap V.cells).length = l.length * 3 := by
  induction l with
  | nil => rfl
  | cons t l ih => simp only [tyVs, List.flatMap_cons, List.length_append, ih, ty_cells, List.length_cons]; omega
theorem RowC.len {cs : List V} {l : List Ty} (hr : RowC cs l) : l.length * 3 ≤ cs.length := by
  have := congrArg List.length hr
  rw [tys_flat_len, List.length_take] at this
  omega
theorem tys_flat_get (l : List Ty) (i : Nat) (hi : i < l.length) : (((tyVs l).flatMap V.cells).drop (i * 3)).take 3 = (tyV l[i]).cells := by
  induction l generalizing i with
  | nil => simp at hi
  | cons t l ih =>
    cases i with
    | zero => simp [tyVs, ty_cells]
    | succ i =>
      have e : (i + 1) * 3 = 3 + i * 3 := by omega
      have h1 : (tyV t).cells.drop (3 + i * 3) = [] := List.drop_of_length_le (by rw [ty_cells]; omega)
      have h2 : 3 + i * 3 - 3 = i * 3 := by omega
      simp only [tyVs, List.flatMap_cons, List.getElem_cons_succ]
      rw [e, List.drop_append, h1, List.nil_append, ty_cells, h2]
      exact ih i (by simpa using hi)
theorem RowC.sel {cs : List V} {l : List Ty} (hr : RowC cs l) {i : Nat} (hi : i < l.length) : sel cs (i * 3) (some 3) = some (tyV l[i]) := by
  have hl := hr.len
  have h1 := tys_flat_get l i hi
  rw [← hr, List.drop_take, List.take_take] at h1
  rw [show min 3 (l.length * 3 - i * 3) = 3 by omega] at h1
  simp only [Am.sel]
  rw [if_pos (by omega), h1, ty_agg]
theorem splice_take {cs xs : List V} {k : Nat} (hk : k ≤ cs.length) : (splice cs k xs).take (k + xs.length) = cs.take k ++ xs := by
  simp only [splice]
  rw [List.take_append_of_le_length (by simp; omega)]
  rw [List.take_of_length_le (by simp; omega)]
theorem splice_len {cs xs : List V} {k : Nat} (hk : k + xs.length ≤ cs.length) : (splice cs k xs).length = cs.length := by
  simp only [splice, List.length_append, List.length_take, List.length_drop]; omega
theorem splice_take' {cs xs : List V} {k : Nat} (hk : k ≤ cs.length) : (splice cs k xs).take k = cs.take k := by
  simp only [splice]
  rw [List.append_assoc, List.take_append_of_le_length (by simp; omega), List.take_take]
  simp
theorem RowC.put {cs : List V} {l : List Ty} (hr : RowC cs l) (t : Ty) : RowC (splice cs (l.length * 3) (tyV t).cells) (l ++ [t]) := by
  unfold RowC
  have e : (l ++ [t]).length * 3 = l.length * 3 + (tyV t).cells.length := by rw [ty_cells]; simp; omega
  rw [e, splice_take hr.len, hr, tys_append]
  simp [tyVs]

theorem tys_getE (l : List Ty) (i : Nat) (hi : i < (tyVs l).length) : (tyVs l)[i] = tyV (l[i]'(by simpa using hi)) := by
  have h := tys_get l i
  rw [List.getElem?_eq_getElem hi, List.getElem?_eq_getElem (by simpa using hi)] at h
  simpa using h

theorem samesM {r n c : Nat} {cs : List V} (l : List Ty) (hn : l.length = n) (hl : n < 1000000) (hr : h[r]? = some (.box cs)) (hcs : RowC cs l) (hok : ∀ t ∈ l, okT t = true) (hq : Q (.bool true) h) :
    CallA ap 15 0 bs [.msl r 0 n c 3, .sl .frozen (tyVs l)] h Q := by
  subst hn
  refine CallA.code (af := ac15) rfl (Nat.le_of_ble_eq_true rfl) ?_
  simp [ac15]
  obtain ⟨I, hI⟩ : ∃ I : Nat → St → Prop, ∀ n s, I n s ↔ (∃ i : Nat, i + n = l.length ∧ s.r 0 = .msl r 0 l.length c 3 ∧ s.r 1 = .sl .frozen (tyVs l) ∧ s.r 5 = .int .i64 i ∧ s.h = h) := ⟨_, fun _ _ => Iff.rfl⟩
  refine loop_ind (CallA.hle ap) I ?_ (n := l.length) ((hI _ _).2 ⟨0, by simp⟩)
  rintro n ⟨r', lo, h'⟩ hs
  obtain ⟨i, hi, e0, e1, e5, rfl⟩ := (hI _ _).1 hs
  simp only at e0 e1 e5
  simp [forget, noLoc, e0, e5]
  refine condA_dec (fun h1 => ?_) fun h1 => ?_
  · have hi1 : i < l.length := by omega
    have hw : IntKind.wrap .i64 ((i : Int) + 1) = (i : Int) + 1 := wrap64 (by omega) (by omega)
    simp [e0, e1, e5, tys_getE, ty_take, ty_agg, demote_ty, hi1, hr, hcs.sel hi1]
    refine sameOk (hok _ (List.getElem_mem hi1)) (hok _ (List.getElem_mem hi1)) _ _ _ ?_
    rw [(beqT_iff _ _).2 rfl]
    simp [e5, hw]
    exact ⟨n - 1, by omega, (hI _ _).2 ⟨i + 1, by omega, by simp [e0, e1]⟩⟩
  · simp
    exact hq

def RoundsR (bs : List Nat) (r : Nat) (root : Ty) (S : List Ty → List Ob → Prop) : Prop :=
  ∀ (pre : List Ty) (t : Ty) (suf : List Ty) (h : List Ob) (Q : V → List Ob → Prop), S pre h → pre ++ t :: suf = allT root → (∀ h', S (pre ++ [t]) h' → Q (.bool true) h') → CallA ap r 1000001 bs [tyV t] h Q

theorem walkR {r : Nat} {root : Ty} {S : List Ty → List Ob → Prop} (hY : RoundsR bs r root S) : ∀ (m : Nat) (t : Ty), SizeOf.sizeOf t ≤ m → okT t = true → ∀ (pre suf : List Ty) (h : List Ob) (Q : V → List Ob → Prop), S pre h → pre ++ (allT t ++ suf) = allT root →
    (∀ h', S (pre ++ allT t) h' → Q (.bool true) h') → CallA ap 28 0 bs [tyV t, .yld r] h Q := by
  intro m
  induction m with
  | zero => intro t h; cases t; simp at h
  | succ m ih =>
    intro t hm ht pre suf h Q hS hp hq
    obtain ⟨k, n, l⟩ := t
    obtain ⟨l1, l2⟩ := okT_len ht
    have each := fun a (ha : a ∈ l) => ih a (by have := List.sizeOf_lt_of_mem ha; simp at hm; omega) (l2 a ha)
    have hcl := cloneOk ht
    have e0 : tyV (.mk k n l) = .agg [.int .i64 k, .str n, .sl .frozen (tyVs l)] := rfl
    refine CallA.code (af := ac28) rfl (Nat.le_of_ble_eq_true rfl) ?_
    simp [ac28, tyV, demote_tys]
    rw [← e0]
    refine hcl _ _ _ ?_
    simp [demote_ty]
    refine hY pre _ (allTL l ++ suf) _ _ hS (by simpa [allT] using hp) fun h1 hS1 => ?_
    simp
    simp only [allT] at hp hq
    match l, l1, each, hp, hq with
    | [], _, _, hp, hq =>
      refine wpA_loop (CallA.hle ap) ?_
      simp [forget, noLoc, tyVs]
      exact hq _ (by simpa [allTL] using hS1)
    | [a], _, each, hp, hq =>
      refine wpA_loop (CallA.hle ap) ?_
      simp [forget, noLoc, tyVs, splice, ty_take, ty_agg, demote_ty]
      refine each a (by simp) (pre ++ [.mk k n [a]]) suf _ _ hS1 (by simpa [allTL] using hp) fun h2 hS2 => ?_
      simp [w1]
      refine wpA_loop (CallA.hle ap) ?_
      simp [forget, noLoc]
      exact hq _ (by simpa [allTL] using hS2)
    | [a, b], _, each, hp, hq =>
      refine wpA_loop (CallA.hle ap) ?_
      simp [forget, noLoc, tyVs, splice, ty_take, ty_agg, demote_ty]
      refine each a (by simp) (pre ++ [.mk k n [a, b]]) (allT b ++ suf) _ _ hS1 (by simpa [allTL] using hp) fun h2 hS2 => ?_
      simp [w1]
      refine wpA_loop (CallA.hle ap) ?_
      simp [forget, noLoc, splice, ty_take, ty_agg, demote_ty]
      refine each b (by simp) (pre ++ .mk k n [a, b] :: allT a) suf _ _ (by simpa using hS2) (by simpa [allTL] using hp) fun h3 hS3 => ?_
      simp [w2]
      refine wpA_loop (CallA.hle ap) ?_
      simp [forget, noLoc]
      exact hq _ (by simpa [allTL] using hS3)

end
end Go.Vt
