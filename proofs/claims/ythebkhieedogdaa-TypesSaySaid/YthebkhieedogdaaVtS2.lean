/- The order of types on the abstract machine. -/
import Derived.Test.YthebkhieedogdaaVtS
namespace Go.Vt
open Go.Am Go.Proofs
set_option maxRecDepth 100000

def orL : List Int → Int
  | [] => 0
  | x :: l => if x = 0 then orL l else x

mutual
def cmpT : Ty → Ty → Int
  | .mk k n l, .mk k' n' l' => orL [cmpI k k', Lib.compareBytes n n', cmpI l.length l'.length, cmpTs l l']
def cmpTs : List Ty → List Ty → Int
  | [], [] => 0
  | [], _ :: _ => -1
  | _ :: _, [] => 1
  | a :: l, b :: m => if cmpT a b = 0 then cmpTs l m else cmpT a b
end

section
variable {bs : List Nat} {h : List Ob} {Q : V → List Ob → Prop}

theorem or34 (a b c d : Int) (hq : Q (.int .i64 (orL [a, b, c, d])) h) : CallA ap 34 0 bs [.sl .frozen [.int .i64 a, .int .i64 b, .int .i64 c, .int .i64 d]] h Q := by
  refine CallA.code (af := ac34) rfl (Nat.le_of_ble_eq_true rfl) ?_
  simp [ac34]
  refine wpA_loop (CallA.hle ap) ?_
  simp [forget, noLoc]
  refine condA_split (fun h1 => ?_) fun h1 => ?_
  · simp at h1
    simp
    simpa [orL, h1] using hq
  simp at h1
  simp [w1]
  refine wpA_loop (CallA.hle ap) ?_
  simp [forget, noLoc]
  refine condA_split (fun h2 => ?_) fun h2 => ?_
  · simp at h2
    simp
    simpa [orL, h1, h2] using hq
  simp at h2
  simp [w2]
  refine wpA_loop (CallA.hle ap) ?_
  simp [forget, noLoc]
  refine condA_split (fun h3 => ?_) fun h3 => ?_
  · simp at h3
    simp
    simpa [orL, h1, h2, h3] using hq
  simp at h3
  simp [w3]
  refine wpA_loop (CallA.hle ap) ?_
  simp [forget, noLoc]
  refine condA_split (fun h4 => ?_) fun h4 => ?_
  · simp at h4
    simp
    simpa [orL, h1, h2, h3, h4] using hq
  simp at h4
  simp [w4]
  refine wpA_loop (CallA.hle ap) ?_
  simp [forget, noLoc]
  simpa [orL, h1, h2, h3, h4] using hq


/-- What compares two types. -/
def Cmp (a b : Ty) : Prop := ∀ (bs : List Nat) (h : List Ob) (Q : V → List Ob → Prop), Q (.int .i64 (cmpT a b)) h → CallA ap 17 0 bs [tyV a, tyV b] h Q

theorem cmpf37 (l m : List Ty) (hl : l.length ≤ 2) (hm : m.length ≤ 2) (hc : ∀ a ∈ l, ∀ b ∈ m, Cmp a b) (hq : Q (.int .i64 (cmpTs l m)) h) :
    CallA ap 37 0 bs [.sl .frozen (tyVs l), .sl .frozen (tyVs m), .fn 17 []] h Q := by
  refine CallA.code (af := ac37) rfl (Nat.le_of_ble_eq_true rfl) ?_
  match l, m with
  | [], [] =>
    simp [ac37, tyVs]
    refine wpA_loop (CallA.hle ap) ?_
    simp [forget, noLoc, locOf]
    simpa [cmpTs] using hq
  | [], b :: m =>
    simp [ac37, tyVs]
    refine wpA_loop (CallA.hle ap) ?_
    simp [forget, noLoc, locOf]
    simpa [cmpTs] using hq
  | a :: l, [] =>
    simp [ac37, tyVs]
    refine wpA_loop (CallA.hle ap) ?_
    have : (0 : Int) < (l.length : Int) + 1 := by omega
    simp [forget, noLoc, locOf, this, ty_sel, splice, ty_take, ty_agg]
    simpa [cmpTs] using hq
  | a :: l, b :: m =>
    simp [ac37, tyVs]
    refine wpA_loop (CallA.hle ap) ?_
    have e1 : (0 : Int) < (l.length : Int) + 1 := by omega
    have e2 : ¬ (m.length : Int) + 1 ≤ 0 := by omega
    simp [forget, noLoc, locOf, e1, e2, ty_sel, splice, ty_take, ty_agg, demote_ty]
    refine hc a (by simp) b (by simp) _ _ _ ?_
    simp
    refine condA_split (fun h1 => ?_) fun h1 => ?_
    · simp at h1
      simp
      simpa [cmpTs, h1] using hq
    simp at h1
    simp [w1]
    refine wpA_loop (CallA.hle ap) ?_
    match l, m with
    | [], [] =>
      simp [forget, noLoc, locOf]
      simpa [cmpTs, h1] using hq
    | [], [b2] =>
      simp [forget, noLoc, locOf, tyVs]
      simpa [cmpTs, h1] using hq
    | [a2], [] =>
      simp [forget, noLoc, locOf, tyVs, ty_sel, splice, ty_take, ty_agg]
      simpa [cmpTs, h1] using hq
    | [a2], [b2] =>
      simp [forget, noLoc, locOf, tyVs, ty_sel, splice, ty_take, ty_agg, demote_ty]
      refine hc a2 (by simp) b2 (by simp) _ _ _ ?_
      simp
      refine condA_split (fun h2 => ?_) fun h2 => ?_
      · simp at h2
        simp
        simpa [cmpTs, h1, h2] using hq
      simp at h2
      simp [w2]
      refine wpA_loop (CallA.hle ap) ?_
      simp [forget, noLoc, locOf, tyVs]
      simpa [cmpTs, h1, h2] using hq
    | a2 :: a3 :: l, m => simp at hl
    | l, b2 :: b3 :: m => simp at hm

theorem cmp11 : ∀ (m : Nat) (a b : Ty), SizeOf.sizeOf a ≤ m → okT a = true → okT b = true → Cmp a b := by
  intro m
  induction m with
  | zero => intro a b h; cases a; simp at h
  | succ m ih =>
    intro a b hm ha hb bs h Q hq
    obtain ⟨k, n, l⟩ := a
    obtain ⟨k', n', l'⟩ := b
    refine CallA.code (af := ac17) rfl (Nat.le_of_ble_eq_true rfl) ?_
    simp [ac17, tyV]
    refine cmp35 k k' ?_
    simp
    refine cmp36 n n' ?_
    simp
    refine cmp35 l.length l'.length ?_
    simp [demote_tys]
    obtain ⟨a1, a2⟩ := okT_len ha
    obtain ⟨b1, b2⟩ := okT_len hb
    refine cmpf37 l l' a1 b1 (fun a h1 b h2 => ih a b ?_ (a2 a h1) (b2 b h2)) ?_
    · have := List.sizeOf_lt_of_mem h1
      simp at hm
      omega
    simp
    refine or34 _ _ _ _ ?_
    simp
    simpa [cmpT] using hq

theorem same12 (a b : Ty) (ha : okT a = true) (hb : okT b = true) (hq : Q (.bool (cmpT a b == 0)) h) : CallA ap 19 0 bs [tyV a, tyV b] h Q := by
  refine CallA.code (af := ac19) rfl (Nat.le_of_ble_eq_true rfl) ?_
  simp [ac19, ty_sel, splice, demote_ty, ty_take, ty_agg]
  refine cmp11 _ a b (Nat.le_refl _) ha hb _ _ _ ?_
  simp
  exact hq

end
end Go.Vt
