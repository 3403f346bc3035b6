/- The law PrinterTypes on the abstract machine. -/
import Derived.Test.YtkahhcceddfbpabAtP2
namespace Go.At
open Go.Am Go.Proofs
set_option maxRecDepth 100000

section
variable {bs : List Nat} {h : List Ob} {Q : V → List Ob → Prop}

def schV (tg : Tag) (vs : List V) (tg2 : Tag) (ps : List V) (t : Ty) : V := .agg (.sl tg vs :: .sl tg2 ps :: (tyV t).cells)

theorem ctx_0 (hq : Q (.str []) h) : CallA ap 43 0 bs [.sl .frozen []] h Q := by
  refine CallA.code (af := ac43) rfl (Nat.le_of_ble_eq_true rfl) ?_
  simp [ac43]
  refine joined_0 _ ?_
  simp
  exact hq

theorem ctx_1 (c : List UInt8) (t : Ty) (ht : okT t = true) (hl : (showPr c t).length ≤ 1000000) (hq : Q (.str (showPr c t ++ [32, 61, 62, 32])) h) : CallA ap 43 0 bs [.sl .frozen [prV c t]] h Q := by
  refine CallA.code (af := ac43) rfl (Nat.le_of_ble_eq_true rfl) ?_
  simp [ac43, pr_demote]
  refine joined_1 c t ht hl _ ?_
  have e : (showPr c t).length + 1 + 1 + 1 + 1 ≤ 4611686018427387904 := by omega
  have e' : (showPr c t).length + 4 ≤ 4611686018427387904 := by omega
  simp [e, e']
  exact hq

theorem ctx_2 (c d : List UInt8) (t u : Ty) (ht : okT t = true) (hu : okT u = true) (hl : (showPr c t).length ≤ 1000000) (hm : (showPr d u).length ≤ 1000000)
    (hq : Q (.str (40 :: (showPr c t ++ [44, 32] ++ showPr d u ++ [41, 32, 61, 62, 32]))) h) : CallA ap 43 0 bs [.sl .frozen [prV c t, prV d u]] h Q := by
  refine CallA.code (af := ac43) rfl (Nat.le_of_ble_eq_true rfl) ?_
  simp [ac43, pr_demote]
  refine joined_2 c d t u ht hu hl hm _ (by simp) ?_
  generalize hS : showPr c t ++ [44, 32] ++ showPr d u = S at *
  have hSl : S.length ≤ 2000002 := by rw [← hS]; simp; omega
  have e1 : 1 + S.length ≤ 4611686018427387904 := by omega
  have e2 : S.length + 1 + 5 ≤ 4611686018427387904 := by omega
  have e3 : S.length + 1 + 1 + 1 + 1 + 1 + 1 ≤ 4611686018427387904 := by omega
  simp [e1, e2, e3]
  exact hq

theorem first13 (hq : Q (.bool true) h) : CallA ap 13 0 bs [] h Q := by
  refine CallA.code (af := ac13) rfl (Nat.le_of_ble_eq_true rfl) ?_
  simp [ac13, splice]
  refine showOk (.mk 3 [] [.mk 1 [97] [], .mk 1 [97] []]) (by simp [okT, okTs]) (by simp [showT, leftP, sndP, fstP, argsP, leftW]) _ _ _ ?_
  simp [showT, leftP, sndP, fstP, argsP, leftW]
  exact hq

theorem scheme17 (vs ps : List V) (s : List UInt8) (t : Ty) (ht : okT t = true) (hl : (showT t).length ≤ 1000000) (hs : s.length ≤ 10000000) (hd : demoteL ps = ps)
    (hc : ∀ (bs : List Nat) (h : List Ob) (Q : V → List Ob → Prop), Q (.str s) h → CallA ap 43 0 bs [.sl .frozen ps] h Q) (hq : Q (.str (s ++ showT t)) h) :
    CallA ap 17 0 bs [schV .frozen vs .frozen ps t] h Q := by
  refine CallA.code (af := ac17) rfl (Nat.le_of_ble_eq_true rfl) ?_
  have ht2 := showOk t ht
  obtain ⟨k, n, l⟩ := t
  have hty : tyV (.mk k n l) = .agg [.int .i64 k, .str n, .sl .frozen (tyVs l)] := by simp [tyV]
  simp [ac17, schV, tyV, hd]
  refine hc _ _ _ ?_
  simp [demote_tys]
  rw [← hty]
  refine ht2 hl _ _ _ ?_
  have e : s.length + (showT (.mk k n l)).length ≤ 4611686018427387904 := by omega
  simp [e]
  exact hq

end

def sliceTo (t : Tag) (xs : List V) : V → Option V
  | .int _ n => if 0 ≤ n ∧ n.toNat ≤ xs.length then some (.sl (if n.toNat = xs.length then t else .frozen) (xs.take n.toNat)) else none
  | _ => none

theorem slice4 (r : Nat → V) (t : Tag) (xs : List V) (i : Nat) : sliceV 4 r (.sl t xs) none (some (.t i)) none = sliceTo t xs (r i) := by
  show sliceV (3 + 1) r (.sl t xs) none (some (.t i)) none = _
  simp only [sliceV, bnd, ev]
  cases r i <;> simp [sliceTo]
  rename_i k n
  by_cases h : 0 ≤ n <;> simp [h]

def tA : Ty := .mk 1 [97] []
def tF : Ty := .mk 3 [] [tA, tA]
def tL : Ty := .mk 2 [76, 105, 115, 116] [tA]
def tI : Ty := .mk 2 [73, 110, 116] []
def tQ : Ty := .mk 4 [98] [tF]

attribute [simp] tF tA tL tI tQ showT leftP sndP fstP argsP leftW argW showPr okT okTs

theorem law5 (n : Int) : CallA ap 5 0 [] [.int .i64 n] [] fun v _ => v = .bool true := by
  refine CallA.code (af := ac5) rfl (Nat.le_of_ble_eq_true rfl) ?_
  have h1 : n.tmod 9 < 9 := Int.tmod_lt_of_pos n (by omega)
  have h2 : -9 < n.tmod 9 := Int.lt_tmod_of_pos n (by omega)
  have hw : IntKind.wrap .i64 (n.tmod 9 + 9) = n.tmod 9 + 9 := wrap64 (by omega) (by omega)
  simp [ac5]
  refine first13 ?_
  simp [splice, hw, -Int.tmod_tmod_of_dvd]
  have hK : (n.tmod 9 + 9).tmod 9 = 0 ∨ (n.tmod 9 + 9).tmod 9 = 1 ∨ (n.tmod 9 + 9).tmod 9 = 2 ∨ (n.tmod 9 + 9).tmod 9 = 3 ∨ (n.tmod 9 + 9).tmod 9 = 4 ∨ (n.tmod 9 + 9).tmod 9 = 5 ∨ (n.tmod 9 + 9).tmod 9 = 6 ∨ (n.tmod 9 + 9).tmod 9 = 7 ∨ (n.tmod 9 + 9).tmod 9 = 8 := by
    have g1 : (n.tmod 9 + 9).tmod 9 < 9 := Int.tmod_lt_of_pos _ (by omega)
    have g2 : 0 ≤ (n.tmod 9 + 9).tmod 9 := Int.tmod_nonneg _ (by omega)
    omega
  generalize (n.tmod 9 + 9).tmod 9 = K at *
  rcases hK with rfl | rfl | rfl | rfl | rfl | rfl | rfl | rfl | rfl
  · simp [slice4, sliceTo, splice]
    refine showOk (tF) (by simp) (by simp) _ _ _ ?_
    simp
    refine scheme17 [] [] [] (tF) (by simp) (by simp) (by simp) rfl (fun bs h Q hq => ctx_0 hq) ?_
    simp
  · simp [slice4, sliceTo, splice]
    refine showOk (.mk 3 [] [tF, tA]) (by simp) (by simp) _ _ _ ?_
    simp
    refine scheme17 [] [prV [67] tL] _ (.mk 3 [] [tF, tA]) (by simp) (by simp) ?_ (by simp only [demoteL, pr_demote]) (fun bs h Q hq => ctx_1 [67] tL (by simp) (by simp) hq) ?_
    · simp
    simp
  · simp [slice4, sliceTo, splice]
    refine showOk (.mk 3 [] [tA, tF]) (by simp) (by simp) _ _ _ ?_
    simp
    refine scheme17 [] [prV [67] tL, prV [68] tA] _ (.mk 3 [] [tA, tF]) (by simp) (by simp) ?_ (by simp only [demoteL, pr_demote]) (fun bs h Q hq => ctx_2 [67] [68] tL tA (by simp) (by simp) (by simp) (by simp) hq) ?_
    · simp
    simp
  · simp [slice4, sliceTo, splice]
    refine showOk (.mk 2 [80] [tL, tI]) (by simp) (by simp) _ _ _ ?_
    simp
    refine scheme17 [] [] [] (.mk 2 [80] [tL, tI]) (by simp) (by simp) (by simp) rfl (fun bs h Q hq => ctx_0 hq) ?_
    simp
  · simp [slice4, sliceTo, splice]
    refine showOk (.mk 2 [80] [tF, tA]) (by simp) (by simp) _ _ _ ?_
    simp
    refine scheme17 [] [prV [67] tL] _ (.mk 2 [80] [tF, tA]) (by simp) (by simp) ?_ (by simp only [demoteL, pr_demote]) (fun bs h Q hq => ctx_1 [67] tL (by simp) (by simp) hq) ?_
    · simp
    simp
  · simp [slice4, sliceTo, splice]
    refine showOk (.mk 3 [] [tL, tI]) (by simp) (by simp) _ _ _ ?_
    simp
    refine scheme17 [] [prV [67] tL, prV [68] tA] _ (.mk 3 [] [tL, tI]) (by simp) (by simp) ?_ (by simp only [demoteL, pr_demote]) (fun bs h Q hq => ctx_2 [67] [68] tL tA (by simp) (by simp) (by simp) (by simp) hq) ?_
    · simp
    simp
  · simp [slice4, sliceTo, splice]
    refine showOk (tQ) (by simp) (by simp) _ _ _ ?_
    simp
    refine scheme17 [] [] [] (tQ) (by simp) (by simp) (by simp) rfl (fun bs h Q hq => ctx_0 hq) ?_
    simp
  · simp [slice4, sliceTo, splice]
    refine showOk (.mk 3 [] [tQ, tQ]) (by simp) (by simp) _ _ _ ?_
    simp
    refine scheme17 [] [prV [67] tL] _ (.mk 3 [] [tQ, tQ]) (by simp) (by simp) ?_ (by simp only [demoteL, pr_demote]) (fun bs h Q hq => ctx_1 [67] tL (by simp) (by simp) hq) ?_
    · simp
    simp
  · simp [slice4, sliceTo, splice]
    refine showOk (.mk 2 [80] [tQ]) (by simp) (by simp) _ _ _ ?_
    simp
    refine scheme17 [] [prV [67] tL, prV [68] tA] _ (.mk 2 [80] [tQ]) (by simp) (by simp) ?_ (by simp only [demoteL, pr_demote]) (fun bs h Q hq => ctx_2 [67] [68] tL tA (by simp) (by simp) (by simp) (by simp) hq) ?_
    · simp
    simp

end Go.At
