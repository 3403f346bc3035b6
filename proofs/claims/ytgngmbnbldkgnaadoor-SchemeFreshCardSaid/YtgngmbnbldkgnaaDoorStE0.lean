/- Maps of types on the abstract machine. -/
import Derived.Test.YtgngmbnbldkgnaaDoorStQ
namespace Go.St
open Go.Am Go.Proofs
set_option maxRecDepth 100000

@[simp] theorem lk_s (s : St) (z : V) (n : List UInt8) (ok : Bool) (r : Nat) : lookV s .str z (.str n) ok (.map (some r)) = lookO z (.str n) ok s.h[r]? := rfl
@[simp] theorem lk_n (s : St) (z : V) (n : List UInt8) (ok : Bool) : lookV s .str z (.str n) ok (.map none) = some (okV ok z none) := rfl

def entE (e : En) : List (V × V) := e.map fun p => (.str p.1, tyV p.2)
/-- A map that only grew. -/
def mapOb (e : En) : Ob := .map (entE e) (List.range e.length) e.length

theorem ent_find (e : En) (x : List UInt8) : findE (.str x) (entE e) = some ((look e x).map tyV) := by
  induction e with
  | nil => rfl
  | cons p e ih =>
    simp only [entE, List.map_cons, findE, keyEq, look] at ih ⊢
    by_cases h : p.1 = x
    · have : (x == p.1) = true := by simp [h]
      simp [this, h]
    · have : (x == p.1) = false := by simp; exact fun e => h e.symm
      simp [this, h, ih]

theorem ent_set (e : En) (x : List UInt8) (t : Ty) (h : look e x = none) : setE (.str x) (tyV t) (entE e) = some (entE (e ++ [(x, t)])) := by
  induction e with
  | nil => rfl
  | cons p e ih =>
    simp only [look] at h
    split at h
    · cases h
    · rename_i hp
      have : (x == p.1) = false := by simp; exact fun e => hp e.symm
      simp only [entE, List.map_cons, List.cons_append, setE, keyEq, this] at ih ⊢
      simp [ih h]

theorem ob_set (e : En) (x : List UInt8) (t : Ty) : setOb (entE e).length (List.range e.length) e.length (entE (e ++ [(x, t)])) = mapOb (e ++ [(x, t)]) := by
  simp [setOb, mapOb, entE, List.range_succ]

theorem ty_ul (m : Nat) (t : Ty) : underL m [tyV t] = true := by simp [under_ty]

end Go.St
