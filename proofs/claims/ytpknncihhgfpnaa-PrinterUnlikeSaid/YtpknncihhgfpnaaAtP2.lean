/- Contexts and schemes as texts on the abstract machine. -/
import Derived.Test.YtpknncihhgfpnaaAtP
namespace Go.At
open Go.Am Go.Proofs
set_option maxRecDepth 100000

theorem showOk (t : Ty) (h : okT t = true) : Show t := show15 _ t (Nat.le_refl _) h

/-- A predicate. -/
def prV (c : List UInt8) (t : Ty) : V := .agg (.str c :: (tyV t).cells)
def showPr (c : List UInt8) (t : Ty) : List UInt8 := c ++ 32 :: argW t (showT t)

section
variable {bs : List Nat} {h : List Ob} {Q : V → List Ob → Prop}

theorem pred58 (c : List UInt8) (t : Ty) (ht : okT t = true) (hl : (showPr c t).length ≤ 1000000) (hq : Q (.str (showPr c t)) h) : CallA ap 77 0 bs [prV c t] h Q := by
  refine CallA.code (af := ac77) rfl (Nat.le_of_ble_eq_true rfl) ?_
  have ha := argW_len t (showT t)
  have ht2 := showOk t ht
  obtain ⟨k, n, l⟩ := t
  have hty : tyV (.mk k n l) = .agg [.int .i64 k, .str n, .sl .frozen (tyVs l)] := by simp [tyV]
  simp only [showPr, List.length_append, List.length_cons] at hl
  have e0 : c.length + 1 ≤ 4611686018427387904 := by omega
  simp [ac77, prV, tyV, demote_tys, e0]
  rw [← hty]
  refine arg41 _ (by omega) ht2 ?_
  have e1 : c.length + 1 + (argW (.mk k n l) (showT (.mk k n l))).length ≤ 4611686018427387904 := by omega
  simp [e1]
  simpa [showPr] using hq

theorem joined_0 (sep : List UInt8) (hq : Q (.str []) h) : CallA ap 76 0 bs [.sl .frozen [], .str sep, .fn 77 []] h Q := by
  refine CallA.code (af := ac76) rfl (Nat.le_of_ble_eq_true rfl) ?_
  simp [ac76]
  refine wpA_loop (CallA.hle ap) ?_
  simp [forget, noLoc, locOf]
  refine CallA.prim (p := joinP) (v := .str []) rfl (by simp [joinP, strsV, joinR, Lib.join, List.intercalate]) ?_
  simp
  exact hq

theorem pr_sel (c : List UInt8) (t : Ty) : sel (prV c t).cells 0 (some 4) = some (prV c t) := by cases t; simp [prV, tyV]
theorem pr_cells (c : List UInt8) (t : Ty) : (prV c t).cells.length = 4 := by cases t; simp [prV, tyV]
theorem pr_take (c : List UInt8) (t : Ty) : (prV c t).cells.take 4 = (prV c t).cells := by cases t; simp [prV, tyV]
theorem pr_agg (c : List UInt8) (t : Ty) : V.agg (prV c t).cells = prV c t := by cases t; simp [prV, tyV]
theorem pr_loc (c : List UInt8) (t : Ty) : (prV c t).isLoc = false := rfl
theorem pr_demote (c : List UInt8) (t : Ty) : (prV c t).demote = prV c t := by cases t; simp [prV, tyV, demote_tys]

theorem joined_1 (c : List UInt8) (t : Ty) (ht : okT t = true) (hl : (showPr c t).length ≤ 1000000) (sep : List UInt8) (hq : Q (.str (showPr c t)) h) : CallA ap 76 0 bs [.sl .frozen [prV c t], .str sep, .fn 77 []] h Q := by
  refine CallA.code (af := ac76) rfl (Nat.le_of_ble_eq_true rfl) ?_
  simp [ac76]
  refine wpA_loop (CallA.hle ap) ?_
  simp [forget, noLoc, locOf, pr_sel, pr_cells, pr_take, pr_agg, pr_loc, pr_demote, splice]
  refine pred58 c t ht hl ?_
  simp [lim, w1]
  refine wpA_loop (CallA.hle ap) ?_
  simp [forget, noLoc, locOf]
  have e : (showPr c t).length ≤ 140737488355328 := by omega
  refine CallA.prim (p := joinP) (v := .str (showPr c t)) rfl (by simp [joinP, strsV, joinR, Lib.join_one, e]) ?_
  simp
  exact hq

theorem joined_2 (c d : List UInt8) (t u : Ty) (ht : okT t = true) (hu : okT u = true) (hl : (showPr c t).length ≤ 1000000) (hm : (showPr d u).length ≤ 1000000) (sep : List UInt8) (hs : sep.length ≤ 100)
    (hq : Q (.str (showPr c t ++ sep ++ showPr d u)) h) : CallA ap 76 0 bs [.sl .frozen [prV c t, prV d u], .str sep, .fn 77 []] h Q := by
  refine CallA.code (af := ac76) rfl (Nat.le_of_ble_eq_true rfl) ?_
  simp [ac76]
  refine wpA_loop (CallA.hle ap) ?_
  simp [forget, noLoc, locOf, pr_sel, pr_cells, pr_take, pr_agg, pr_loc, pr_demote, splice]
  refine pred58 c t ht hl ?_
  simp [lim, w1]
  refine wpA_loop (CallA.hle ap) ?_
  simp [forget, noLoc, locOf, pr_sel, pr_cells, pr_take, pr_agg, pr_loc, pr_demote, splice]
  refine pred58 d u hu hm ?_
  simp [lim, w2]
  refine wpA_loop (CallA.hle ap) ?_
  simp [forget, noLoc, locOf]
  have ej : Lib.join [showPr c t, showPr d u] sep = showPr c t ++ sep ++ showPr d u := by simp [Lib.join_cons, Lib.joinTail]
  have e : (showPr c t ++ sep ++ showPr d u).length ≤ 140737488355328 := by simp; omega
  refine CallA.prim (p := joinP) (v := .str (showPr c t ++ sep ++ showPr d u)) rfl (by simp only [joinP, strsV, joinR, Option.map_some]; rw [ej, if_pos ⟨by simp, e⟩]) ?_
  simp
  simpa using hq

end
end Go.At
