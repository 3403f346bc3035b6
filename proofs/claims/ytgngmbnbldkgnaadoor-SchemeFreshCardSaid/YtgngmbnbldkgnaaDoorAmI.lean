/- internal/strconv.FormatInt at base ten, taken whole by the abstract machine, by its contract, which leans on the table of powers. -/
import Derived.Test.YtgngmbnbldkgnaaDoorAmJ
import Derived.Test.YtgngmbnbldkgnaaDoorAmZ
import Derived.Sort.Grow
import Derived.Deep.Draws
namespace Go.Am
open Go.RowKit Go.Sort

/-- What a number's digits come to. -/
def itoaP : List V → Option V
  | [.int .i64 n, .int .i64 10] => if -9223372036854775808 ≤ n ∧ n ≤ 9223372036854775807 then some (.str (Lib.itoa n)) else none
  | _ => none

theorem itoaP_ok {P : Program} {KG : List Nat} {f g : Nat} {fn : Func} (hfn : P.funcs[f]? = some fn) (hbody : fn.body.isNone = false) (hname : (fn.name == "runtime.NumGoroutine") = false)
    (hg : P.globalNamed "internal/strconv.uint64pow10" = some g) (hk : 2000000 + g ∈ KG)
    (h1 : ∀ (n : Int) (_ : -9223372036854775808 ≤ n) (_ : n ≤ 9223372036854775807) (w : World), Lib.TabIs P w "internal/strconv.uint64pow10" .u64 Lib.pow10Tab →
      Calls P f #[.int .i64 n, .int .i64 10] w fun e w' => e = .returned (.string ⟨(Lib.itoa n).toArray⟩) ∧ ∃ k os, w' = grow (w.drewN k) os) : PrimOkG P KG f itoaP := by
  intro args v hp γ w h cargs hgo hh hargs
  obtain ⟨k1, k2, k3⟩ := hargs
  unfold itoaP at hp
  split at hp
  · rename_i n
    split at hp
    · rename_i hn
      cases hp
      obtain ⟨cl⟩ := cargs
      match cl, k1 with
      | [x, y], _ =>
        have hx := k3 0 _ x rfl rfl
        have hy := k3 1 _ y rfl rfl
        cases hx
        cases hy
        obtain ⟨t1, t2, t, fl, t3⟩ := hgo.tab g hk
        have htab : Lib.TabIs P w "internal/strconv.uint64pow10" .u64 Lib.pow10Tab := by
          unfold Lib.TabIs World.var?
          rw [hg]
          simp only [Option.bind_some, t3]
        refine came_of hfn hbody hname hh (c := .string ⟨(Lib.itoa n).toArray⟩) (fun w' => .str _ _ (by simp)) ((h1 n hn.1 hn.2 w htab).mono ?_)
        rintro e w' ⟨rfl, k, os, rfl⟩
        refine ⟨rfl, rfl, rfl, rfl, ?_, fun b hb => ?_⟩
        · simp [grow, World.drewN]
        · simp [grow, World.drewN, Array.getElem?_append_left hb]
    · cases hp
  · cases hp

/-- The digits of a number below a hundred. -/
def digs (n : Nat) : List UInt8 := if n < 10 then [UInt8.ofNat (48 + n)] else [UInt8.ofNat (48 + n / 10), UInt8.ofNat (48 + n % 10)]
theorem digs_eq {n : Nat} (h : n < 100) : Lib.decDigits n = digs n := by
  rw [Lib.decDigits]
  split
  · rename_i h1; rw [digs, if_pos h1]
  · rename_i h1
    rw [Lib.decDigits, dif_pos (by omega), digs, if_neg h1]
    rfl

def itoaSP : List V → Option V
  | [.int .i64 n, .int .i64 10] => if 0 ≤ n ∧ n < 100 then some (.str (digs n.toNat)) else none
  | _ => none

theorem itoaS_ok {P : Program} {KG : List Nat} {f : Nat} {fn : Func} (hfn : P.funcs[f]? = some fn) (hbody : fn.body.isNone = false) (hname : (fn.name == "runtime.NumGoroutine") = false)
    (h1 : ∀ (i : Nat) (_ : i < 100) (w : World), Calls P f #[.int .i64 i, .int .i64 10] w fun e w' => e = .returned (.string ⟨(Lib.decDigits i).toArray⟩) ∧ w' = w) : PrimOkG P KG f itoaSP := by
  intro args v hp γ w h cargs hgo hh hargs
  obtain ⟨k1, k2, k3⟩ := hargs
  unfold itoaSP at hp
  split at hp
  · rename_i n
    split at hp
    · rename_i hn
      cases hp
      obtain ⟨cl⟩ := cargs
      match cl, k1 with
      | [x, y], _ =>
        have hx := k3 0 _ x rfl rfl
        have hy := k3 1 _ y rfl rfl
        cases hx
        cases hy
        obtain ⟨m, rfl⟩ : ∃ m : Nat, n = m := ⟨n.toNat, by omega⟩
        refine came_of hfn hbody hname hh (c := .string ⟨(Lib.decDigits m).toArray⟩) (fun w' => .str _ _ (by rw [digs_eq (by omega)]; simp)) ((h1 m (by omega) w).mono ?_)
        rintro e w' ⟨rfl, rfl⟩
        exact ⟨rfl, Below.refl _ _⟩
    · cases hp
  · cases hp

/-- The table is as the row lists it. -/
theorem gok_tab {P : Program} {W : World} {g : Nat} (hg : P.globalNamed "internal/strconv.uint64pow10" = some g) (h : Lib.TabIs P W "internal/strconv.uint64pow10" .u64 Lib.pow10Tab) : GOk [2000000 + g] (gh0 W) W where
  var x hx hl := by simp at hx; omega
  sen te ht x hx hl := by simp at hx; omega
  tab x hx := by
    have : x = g := by simp at hx; omega
    subst this
    unfold Lib.TabIs World.var? at h
    rw [hg] at h
    simp only [Option.bind_some] at h
    cases hh : W.heap[x]? with
    | none => rw [hh] at h; cases h
    | some o =>
      rw [hh] at h
      cases o <;> simp only [Option.some.injEq] at h <;> first | (cases h; done) | skip
      refine ⟨(Array.getElem?_eq_some_iff.1 hh).1, fun r hr => absurd hr (by simp [gh0]), _, _, by rw [hh, h]⟩

end Go.Am
