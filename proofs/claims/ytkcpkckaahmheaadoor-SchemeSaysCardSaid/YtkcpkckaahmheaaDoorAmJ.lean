/- strings.Join, taken whole by the abstract machine, by its contract. -/
import Derived.Test.YtkcpkckaahmheaaDoorAmX
import Derived.Below
import Derived.Lib.Join
namespace Go.Am
open Go.RowKit

def strsV : List V → Option (List (List UInt8))
  | [] => some []
  | .str s :: l => (strsV l).map (s :: ·)
  | _ => none

def joinR (n : Nat) (sep : List UInt8) : Option (List (List UInt8)) → Option V
  | some l => if n ≤ 140737488355328 ∧ (Lib.join l sep).length ≤ 140737488355328 then some (.str (Lib.join l sep)) else none
  | none => none

/-- What strings.Join comes to. -/
def joinP : List V → Option V
  | [.sl _ xs, .str sep] => joinR xs.length sep (strsV xs)
  | _ => none

theorem strsV_get : ∀ {xs : List V} {l : List (List UInt8)}, strsV xs = some l → l.length = xs.length ∧ ∀ (i : Nat) (s : List UInt8), l[i]? = some s → xs[i]? = some (.str s) := by
  intro xs
  induction xs with
  | nil => intro l h; simp [strsV] at h; subst h; simp
  | cons x xs ih =>
    intro l h
    cases x <;> simp only [strsV, Option.map_eq_some_iff] at h <;> first
      | (cases h; done)
      | skip
    obtain ⟨l', h1, rfl⟩ := h
    obtain ⟨g1, g2⟩ := ih h1
    refine ⟨by simp [g1], fun i s hs => ?_⟩
    cases i with
    | zero => simp at hs ⊢; exact hs
    | succ i => simp at hs ⊢; exact g2 i s hs

/-- A contract that tells the memory below. -/
theorem came_of {P : Program} {f : Nat} {fn : Func} (hfn : P.funcs[f]? = some fn) (hbody : fn.body.isNone = false) (hname : (fn.name == "runtime.NumGoroutine") = false)
    {γ : Gh} {w : World} {h : List Ob} (hh : HRel γ w h) {cargs : Array Value} {v : V} {c : Value} (hv : ∀ w', RelV γ w' v c)
    (hc : Calls P f cargs w fun e w' => e = .returned c ∧ Below w.heap.size w w') : Came P f cargs w fun c w' => ∃ γ', RelV γ' w' v c ∧ HRel γ' w' h ∧ Ev γ w γ' w' := by
  refine .inl ⟨?_, hc.mono ?_⟩
  · simp only [callFunc, Sem.run_bind, run_program, Result.andThen_ok, hfn, hname, hbody, Bool.false_eq_true, if_false, Sem.run_pure]
  · rintro e w' ⟨rfl, hb⟩
    obtain ⟨e1, e2⟩ := Ev.quiet hh hb.size hb.block hb.os hb.tape hb.output
    exact ⟨c, rfl, γ, hv w', e2, e1⟩

theorem cell_lt {w : World} {b o : Nat} {u : Value} (h : w.cell? ⟨b, o, none⟩ = some u) : b < w.heap.size := by
  unfold World.cell? at h
  rcases Nat.lt_or_ge b w.heap.size with hb | hb
  · exact hb
  · rw [show w.heap[(⟨b, o, none⟩ : Addr).block]? = none from Array.getElem?_eq_none hb] at h
    cases h

theorem joinP_ok {P : Program} {f : Nat} {fn : Func} (hfn : P.funcs[f]? = some fn) (hbody : fn.body.isNone = false) (hname : (fn.name == "runtime.NumGoroutine") = false)
    (h0 : ∀ (a : Option Addr) (c : Nat) (sep : ByteArray) (w : World), Calls P f #[.slice a 0 c, .string sep] w fun e w' => e = .returned (.string ⟨#[]⟩) ∧ w' = w)
    (h1 : ∀ (bk o c : Nat) (xs : List ByteArray) (sep : ByteArray) (w : World), (∀ (j : Nat) x, xs[j]? = some x → w.cell? ⟨bk, o + j, none⟩ = some (.string x)) → bk < w.heap.size → xs.length ≤ 140737488355328 → xs.length ≤ c →
      (Lib.join (xs.map (·.data.toList)) sep.data.toList).length ≤ 140737488355328 →
      Calls P f #[.slice (some ⟨bk, o, none⟩) xs.length c, .string sep] w fun e w' => e = .returned (.string ⟨(Lib.join (xs.map (·.data.toList)) sep.data.toList).toArray⟩) ∧ Below w.heap.size w w') : PrimOk P f joinP := by
  intro args v hp γ w h cargs hh hargs
  obtain ⟨k1, k2, k3⟩ := hargs
  unfold joinP at hp
  split at hp
  · rename_i t xs sep
    cases hs : strsV xs with
    | none => rw [hs] at hp; cases hp
    | some l =>
      rw [hs] at hp
      simp only [joinR] at hp
      split at hp
      · rename_i hlen
        cases hp
        obtain ⟨g1, g2⟩ := strsV_get hs
        obtain ⟨cl⟩ := cargs
        match cl, k1 with
        | [x, y], _ =>
          have hx := k3 0 _ x rfl rfl
          have hy := k3 1 _ y rfl rfl
          cases hy with
          | str _ sb hsb =>
            subst hsb
            cases hx with
            | sl _ _ a cap c z hcap htag hnil hspot hv hz hat =>
              by_cases hxe : xs = []
              · subst hxe
                simp [strsV] at hs
                subst hs
                refine came_of hfn hbody hname hh (c := .string ⟨#[]⟩) (fun w' => .str _ _ rfl) ((h0 a cap sb w).mono ?_)
                rintro e w' ⟨rfl, rfl⟩
                exact ⟨rfl, Below.refl _ _⟩
              · have hpos : 0 < xs.length := List.length_pos_iff.2 hxe
                cases a with
                | none => have := hnil rfl; omega
                | some a =>
                  obtain ⟨b, o, sp⟩ := a
                  have := hspot _ rfl
                  simp only at this
                  subst this
                  let ys : List ByteArray := l.map fun s => ⟨s.toArray⟩
                  have hys : ys.map (·.data.toList) = l := by simp [ys, Function.comp_def]
                  have hyl : ys.length = xs.length := by simp [ys, g1]
                  have hcell : ∀ (j : Nat) x, ys[j]? = some x → w.cell? ⟨b, o + j, none⟩ = some (.string x) := by
                    intro j x hj
                    simp only [ys, List.getElem?_map, Option.map_eq_some_iff] at hj
                    obtain ⟨s, hs1, rfl⟩ := hj
                    have hxj := g2 j s hs1
                    have hr := hv j _ hxj
                    have hjl : j < xs.length := (List.getElem?_eq_some_iff.1 hxj).1
                    have hz1 := (hz j _ hxj).1
                    have hat1 := hat j _ hjl rfl
                    generalize c j = cj at hr hz1 hat1
                    cases hr with
                    | str _ bb hbb =>
                      have hz' : z = 1 := by rw [← hz1]; rfl
                      subst hz'
                      have := (hat1 0 (.string bb) rfl).2
                      simp only [Nat.mul_one, Nat.add_zero] at this
                      rw [this, ← hbb]
                  have hb : b < w.heap.size := by
                    have h0y : 0 < ys.length := by omega
                    exact cell_lt (hcell 0 ys[0] (List.getElem?_eq_getElem h0y))
                  have hcall := h1 b o cap ys sb w hcell hb (by omega) (by omega) (by rw [hys]; exact hlen.2)
                  rw [hys, hyl] at hcall
                  exact came_of hfn hbody hname hh (fun w' => .str _ _ rfl) hcall
      · cases hp
  · cases hp

end Go.Am
