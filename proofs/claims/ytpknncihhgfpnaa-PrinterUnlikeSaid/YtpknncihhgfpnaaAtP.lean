/- Types as texts on the abstract machine. -/
import Derived.Test.YtpknncihhgfpnaaAtS2
namespace Go.At
open Go.Am Go.Proofs
set_option maxRecDepth 100000

def leftW : Ty → List UInt8 → List UInt8
  | .mk k _ _, s => if k = 3 ∨ k = 4 then 40 :: (s ++ [41]) else s
def argW : Ty → List UInt8 → List UInt8
  | .mk k _ l, s => if k = 3 ∨ k = 4 ∨ (k = 2 ∧ 0 < l.length) then 40 :: (s ++ [41]) else s
def zeroT : Ty := .mk 0 [] []

mutual
def showT : Ty → List UInt8
  | .mk k n l => if k = 3 then leftP l ++ [32, 45, 62, 32] ++ sndP l else if k = 4 then [102, 111, 114, 97, 108, 108, 32] ++ n ++ [46, 32] ++ fstP l else n ++ argsP l
def leftP : List Ty → List UInt8
  | [] => []
  | t :: _ => leftW t (showT t)
def fstP : List Ty → List UInt8
  | [] => []
  | t :: _ => showT t
def sndP : List Ty → List UInt8
  | [] => []
  | _ :: l => fstP l
def argsP : List Ty → List UInt8
  | [] => []
  | t :: l => 32 :: (argW t (showT t) ++ argsP l)
end

theorem show_zero : showT zeroT = [] := by simp [showT, zeroT, argsP]
theorem leftP_eq (l : List Ty) : leftP l = leftW (l.getD 0 zeroT) (showT (l.getD 0 zeroT)) := by
  cases l with
  | nil => simp [leftP, show_zero]; simp [leftW, zeroT]
  | cons t l => simp [leftP]
theorem fstP_eq (l : List Ty) : fstP l = showT (l.getD 0 zeroT) := by
  cases l with
  | nil => simp [fstP, show_zero]
  | cons t l => simp [fstP]
theorem sndP_eq (l : List Ty) : sndP l = showT (l.getD 1 zeroT) := by
  match l with
  | [] => simp [sndP, show_zero]
  | [a] => simp [sndP, fstP, show_zero]
  | a :: b :: l => simp [sndP, fstP]

theorem leftW_len (t : Ty) (s : List UInt8) : s.length ≤ (leftW t s).length ∧ (leftW t s).length ≤ s.length + 2 := by
  obtain ⟨k, n, l⟩ := t
  simp only [leftW]
  split <;> simp <;> omega
theorem argW_len (t : Ty) (s : List UInt8) : s.length ≤ (argW t s).length ∧ (argW t s).length ≤ s.length + 2 := by
  obtain ⟨k, n, l⟩ := t
  simp only [argW]
  split <;> simp <;> omega

/-- What shows a type. -/
def Show (t : Ty) : Prop := (showT t).length ≤ 1000000 → ∀ (bs : List Nat) (h : List Ob) (Q : V → List Ob → Prop), Q (.str (showT t)) h → CallA ap 23 0 bs [tyV t] h Q

section
variable {bs : List Nat} {h : List Ob} {Q : V → List Ob → Prop}

theorem part40 (k : Int) (n : List UInt8) (l : List Ty) (i : Nat) (hi : i < 1000) {u : Ty} (hu : l.getD i zeroT = u) (hq : Q (tyV u) h) : CallA ap 54 0 bs [tyV (.mk k n l), .int .i64 i] h Q := by
  subst hu
  refine CallA.code (af := ac54) rfl (Nat.le_of_ble_eq_true rfl) ?_
  simp [ac54, tyV]
  refine condA_dec (fun h1 => ?_) fun h1 => ?_
  · have hil : i < l.length := by omega
    have hg : (tyVs l)[i]? = some (tyV l[i]) := by rw [tys_get]; simp [hil]
    simp [hg, splice, ty_take, ty_agg, demote_ty, under_ty]
    simpa [hil] using hq
  · have hil : l.length ≤ i := by omega
    simp [splice]
    have : l.getD i zeroT = zeroT := by simp [List.getD_eq_getElem?_getD, List.getElem?_eq_none hil]
    rw [this] at hq
    simpa [zeroT, tyV, tyVs] using hq

theorem left39 (t : Ty) (hl : (showT t).length ≤ 1000000) (hs : Show t) (hq : Q (.str (leftW t (showT t))) h) : CallA ap 53 0 bs [tyV t] h Q := by
  have hsv : showT t = showT t := rfl
  refine CallA.code (af := ac53) rfl (Nat.le_of_ble_eq_true rfl) ?_
  have hs' := hs hl
  have e1 : 1 + (showT t).length ≤ 4611686018427387904 := by omega
  have e2 : 1 + (showT t).length + 1 ≤ 4611686018427387904 := by omega
  have e3 : (showT t).length + 1 ≤ 4611686018427387904 := by omega
  have e4 : (showT t).length + 1 + 1 ≤ 4611686018427387904 := by omega
  obtain ⟨k, n, l⟩ := t
  generalize hS : showT (.mk k n l) = S at *
  by_cases h3 : k = 3
  · subst h3
    simp [ac53, tyV, demote_tys]
    refine hs' _ _ _ ?_
    simp [e1, e4]
    simpa [leftW] using hq
  · by_cases h4 : k = 4
    · subst h4
      simp [ac53, tyV, demote_tys]
      refine hs' _ _ _ ?_
      simp [e1, e4]
      simpa [leftW] using hq
    · have b3 : (k == 3) = false := by simpa using h3
      have b4 : (k == 4) = false := by simpa using h4
      simp [ac53, tyV, demote_tys, b3, b4]
      refine hs' _ _ _ ?_
      simp
      simpa [leftW, h3, h4] using hq

theorem arg41 (t : Ty) (hl : (showT t).length ≤ 1000000) (hs : Show t) (hq : Q (.str (argW t (showT t))) h) : CallA ap 55 0 bs [tyV t] h Q := by
  refine CallA.code (af := ac55) rfl (Nat.le_of_ble_eq_true rfl) ?_
  have hs' := hs hl
  have e1 : 1 + (showT t).length ≤ 4611686018427387904 := by omega
  have e2 : 1 + (showT t).length + 1 ≤ 4611686018427387904 := by omega
  have e3 : (showT t).length + 1 ≤ 4611686018427387904 := by omega
  have e4 : (showT t).length + 1 + 1 ≤ 4611686018427387904 := by omega
  obtain ⟨k, n, l⟩ := t
  generalize hS : showT (.mk k n l) = S at *
  by_cases h3 : k = 3
  · subst h3
    simp [ac55, tyV, demote_tys]
    refine hs' _ _ _ ?_
    simp [e1, e4]
    simpa [argW] using hq
  · by_cases h4 : k = 4
    · subst h4
      simp [ac55, tyV, demote_tys]
      refine hs' _ _ _ ?_
      simp [e1, e4]
      simpa [argW] using hq
    · have b3 : (k == 3) = false := by simpa using h3
      have b4 : (k == 4) = false := by simpa using h4
      by_cases h2 : k = 2
      · subst h2
        by_cases hl0 : 0 < l.length
        · simp [ac55, tyV, demote_tys, hl0]
          refine hs' _ _ _ ?_
          simp [e1, e4]
          simpa [argW, hl0] using hq
        · simp [ac55, tyV, demote_tys, hl0]
          refine hs' _ _ _ ?_
          simp
          simpa [argW, hl0] using hq
      · have b2 : (k == 2) = false := by simpa using h2
        simp [ac55, tyV, demote_tys, b3, b4, b2]
        refine hs' _ _ _ ?_
        simp
        simpa [argW, h3, h4, h2] using hq


theorem show_z : Show zeroT := by
  intro hl bs h Q hq
  refine CallA.code (af := ac23) rfl (Nat.le_of_ble_eq_true rfl) ?_
  simp [ac23, tyV, zeroT, tyVs]
  refine wpA_loop (CallA.hle ap) ?_
  simp [forget, noLoc]
  simpa [show_zero] using hq

theorem show15 : ∀ (m : Nat) (t : Ty), SizeOf.sizeOf t ≤ m → okT t = true → Show t := by
  intro m
  induction m with
  | zero => intro t h; cases t; simp at h
  | succ m ih =>
    intro t hm ht hl bs h Q hq
    obtain ⟨k, n, l⟩ := t
    obtain ⟨l1, l2⟩ := okT_len ht
    have each : ∀ a ∈ l, Show a := fun a ha => ih a (by have := List.sizeOf_lt_of_mem ha; simp at hm; omega) (l2 a ha)
    have nth : ∀ i, Show (l.getD i zeroT) := fun i => by
      rw [List.getD_eq_getElem?_getD]
      cases hi : l[i]? with
      | none => exact show_z
      | some a => exact each a (List.mem_of_getElem? hi)
    have s0 := nth 0
    have s1 := nth 1
    refine CallA.code (af := ac23) rfl (Nat.le_of_ble_eq_true rfl) ?_
    by_cases h3 : k = 3
    · subst h3
      have hS : showT (.mk 3 n l) = leftW (l.getD 0 zeroT) (showT (l.getD 0 zeroT)) ++ [32, 45, 62, 32] ++ showT (l.getD 1 zeroT) := by
        simp only [showT, if_pos, leftP_eq, sndP_eq]
      rw [hS] at hl hq
      generalize hu0 : l.getD 0 zeroT = u0 at *
      generalize hu1 : l.getD 1 zeroT = u1 at *
      have hw := leftW_len u0 (showT u0)
      simp only [List.length_append, List.length_cons, List.length_nil] at hl
      simp [ac23, tyV, demote_tys]
      refine part40 3 n l 0 (by omega) hu0 ?_
      simp [demote_ty]
      refine left39 _ (by omega) s0 ?_
      generalize leftW u0 (showT u0) = A at *
      have e1 : A.length + 4 ≤ 4611686018427387904 := by omega
      have e1' : A.length + 1 + 1 + 1 + 1 ≤ 4611686018427387904 := by omega
      simp [e1, demote_tys]
      refine part40 3 n l 1 (by omega) hu1 ?_
      simp [demote_ty]
      refine s1 (by omega) _ _ _ ?_
      generalize showT u1 = B at *
      have e2 : A.length + 4 + B.length ≤ 4611686018427387904 := by omega
      have e3 : A.length + (B.length + 1 + 1 + 1 + 1) ≤ 4611686018427387904 := by omega
      simp [e2]
      simpa using hq
    · have b3 : (k == 3) = false := by simpa using h3
      by_cases h4 : k = 4
      · subst h4
        have hS : showT (.mk 4 n l) = [102, 111, 114, 97, 108, 108, 32] ++ n ++ [46, 32] ++ showT (l.getD 0 zeroT) := by
          simp [showT, fstP_eq]
        rw [hS] at hl hq
        generalize hu0 : l.getD 0 zeroT = u0 at *
        simp only [List.length_append, List.length_cons, List.length_nil] at hl
        have e1 : 7 + n.length ≤ 4611686018427387904 := by omega
        have e1' : n.length + 1 + 1 + 1 + 1 + 1 + 1 + 1 + 2 ≤ 4611686018427387904 := by omega
        have e2 : n.length + 7 + 2 ≤ 4611686018427387904 := by omega
        have e3 : 7 + n.length + 2 ≤ 4611686018427387904 := by omega
        simp [ac23, tyV, demote_tys, e1, e1']
        refine part40 4 n l 0 (by omega) hu0 ?_
        simp [demote_ty]
        refine s0 (by omega) _ _ _ ?_
        generalize showT u0 = B at *
        have f1 : n.length + 1 + 1 + 1 + 1 + 1 + 1 + 1 + 1 + 1 + B.length ≤ 4611686018427387904 := by omega
        have f2 : n.length + (2 + 1 + 1 + 1 + 1 + 1 + 1 + 1) + B.length ≤ 4611686018427387904 := by omega
        have f3 : n.length + 2 + 1 + 1 + 1 + 1 + 1 + 1 + 1 + B.length ≤ 4611686018427387904 := by omega
        simp [f1]
        simpa using hq
      · have b4 : (k == 4) = false := by simpa using h4
        have hS : showT (.mk k n l) = n ++ argsP l := by simp [showT, h3, h4]
        rw [hS] at hl hq
        simp only [List.length_append] at hl
        simp [ac23, tyV, b3, b4]
        match l, l1, each with
        | [], _, _ =>
          refine wpA_loop (CallA.hle ap) ?_
          simp [forget, noLoc, tyVs]
          simpa [argsP] using hq
        | [a], _, each =>
          have ha := argW_len a (showT a)
          simp [argsP] at hl
          refine wpA_loop (CallA.hle ap) ?_
          simp [forget, noLoc, tyVs, splice, ty_take, ty_agg, demote_ty]
          refine arg41 a (by omega) (each a (by simp)) ?_
          have e1 : 1 + (argW a (showT a)).length ≤ 4611686018427387904 := by omega
          have e2 : n.length + ((argW a (showT a)).length + 1) ≤ 4611686018427387904 := by omega
          simp [e1, e2, w1]
          refine wpA_loop (CallA.hle ap) ?_
          simp [forget, noLoc]
          simpa [argsP] using hq
        | [a, b], _, each =>
          have ha := argW_len a (showT a)
          have hb := argW_len b (showT b)
          simp [argsP] at hl
          refine wpA_loop (CallA.hle ap) ?_
          simp [forget, noLoc, tyVs, splice, ty_take, ty_agg, demote_ty]
          refine arg41 a (by omega) (each a (by simp)) ?_
          have e1 : 1 + (argW a (showT a)).length ≤ 4611686018427387904 := by omega
          have e2 : n.length + ((argW a (showT a)).length + 1) ≤ 4611686018427387904 := by omega
          simp [e1, e2, w1]
          refine wpA_loop (CallA.hle ap) ?_
          simp [forget, noLoc, splice, ty_take, ty_agg, demote_ty]
          refine arg41 b (by omega) (each b (by simp)) ?_
          have e3 : 1 + (argW b (showT b)).length ≤ 4611686018427387904 := by omega
          have e4 : n.length + ((argW a (showT a)).length + 1) + ((argW b (showT b)).length + 1) ≤ 4611686018427387904 := by omega
          simp [e3, e4, w2]
          refine wpA_loop (CallA.hle ap) ?_
          simp [forget, noLoc]
          simpa [argsP] using hq

end
end Go.At
