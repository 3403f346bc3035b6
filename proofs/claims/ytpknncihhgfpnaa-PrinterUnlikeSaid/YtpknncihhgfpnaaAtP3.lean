/- The law PrinterTypes on the abstract machine. -/
import Derived.Test.YtpknncihhgfpnaaAtP2
namespace Go.At
open Go.Am Go.Proofs
set_option maxRecDepth 100000

section
variable {bs : List Nat} {h : List Ob} {Q : V → List Ob → Prop}

def schV (tg : Tag) (vs : List V) (tg2 : Tag) (ps : List V) (t : Ty) : V := .agg (.sl tg vs :: .sl tg2 ps :: (tyV t).cells)

theorem ctx_0 (hq : Q (.str []) h) : CallA ap 57 0 bs [.sl .frozen []] h Q := by
  refine CallA.code (af := ac57) rfl (Nat.le_of_ble_eq_true rfl) ?_
  simp [ac57]
  refine joined_0 _ ?_
  simp
  exact hq

theorem ctx_1 (c : List UInt8) (t : Ty) (ht : okT t = true) (hl : (showPr c t).length ≤ 1000000) (hq : Q (.str (showPr c t ++ [32, 61, 62, 32])) h) : CallA ap 57 0 bs [.sl .frozen [prV c t]] h Q := by
  refine CallA.code (af := ac57) rfl (Nat.le_of_ble_eq_true rfl) ?_
  simp [ac57, pr_demote]
  refine joined_1 c t ht hl _ ?_
  have e : (showPr c t).length + 1 + 1 + 1 + 1 ≤ 4611686018427387904 := by omega
  have e' : (showPr c t).length + 4 ≤ 4611686018427387904 := by omega
  simp [e, e']
  exact hq

theorem ctx_2 (c d : List UInt8) (t u : Ty) (ht : okT t = true) (hu : okT u = true) (hl : (showPr c t).length ≤ 1000000) (hm : (showPr d u).length ≤ 1000000)
    (hq : Q (.str (40 :: (showPr c t ++ [44, 32] ++ showPr d u ++ [41, 32, 61, 62, 32]))) h) : CallA ap 57 0 bs [.sl .frozen [prV c t, prV d u]] h Q := by
  refine CallA.code (af := ac57) rfl (Nat.le_of_ble_eq_true rfl) ?_
  simp [ac57, pr_demote]
  refine joined_2 c d t u ht hu hl hm _ (by simp) ?_
  generalize hS : showPr c t ++ [44, 32] ++ showPr d u = S at *
  have hSl : S.length ≤ 2000002 := by rw [← hS]; simp; omega
  have e1 : 1 + S.length ≤ 4611686018427387904 := by omega
  have e2 : S.length + 1 + 5 ≤ 4611686018427387904 := by omega
  have e3 : S.length + 1 + 1 + 1 + 1 + 1 + 1 ≤ 4611686018427387904 := by omega
  simp [e1, e2, e3]
  exact hq

theorem first13 (hq : Q (.bool true) h) : CallA ap 21 0 bs [] h Q := by
  refine CallA.code (af := ac21) rfl (Nat.le_of_ble_eq_true rfl) ?_
  simp [ac21, splice]
  refine showOk (.mk 3 [] [.mk 1 [97] [], .mk 1 [97] []]) (by simp [okT, okTs]) (by simp [showT, leftP, sndP, fstP, argsP, leftW]) _ _ _ ?_
  simp [showT, leftP, sndP, fstP, argsP, leftW]
  exact hq

theorem scheme17 (vs ps : List V) (s : List UInt8) (t : Ty) (ht : okT t = true) (hl : (showT t).length ≤ 1000000) (hs : s.length ≤ 10000000) (hd : demoteL ps = ps)
    (hc : ∀ (bs : List Nat) (h : List Ob) (Q : V → List Ob → Prop), Q (.str s) h → CallA ap 57 0 bs [.sl .frozen ps] h Q) (hq : Q (.str (s ++ showT t)) h) :
    CallA ap 25 0 bs [schV .frozen vs .frozen ps t] h Q := by
  refine CallA.code (af := ac25) rfl (Nat.le_of_ble_eq_true rfl) ?_
  have ht2 := showOk t ht
  obtain ⟨k, n, l⟩ := t
  have hty : tyV (.mk k n l) = .agg [.int .i64 k, .str n, .sl .frozen (tyVs l)] := by simp [tyV]
  simp [ac25, schV, tyV, hd]
  refine hc _ _ _ ?_
  simp [demote_tys]
  rw [← hty]
  refine ht2 hl _ _ _ ?_
  have e : s.length + (showT (.mk k n l)).length ≤ 4611686018427387904 := by omega
  simp [e]
  exact hq

end

end Go.At
