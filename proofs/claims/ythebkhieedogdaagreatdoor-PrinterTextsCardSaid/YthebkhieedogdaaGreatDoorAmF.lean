/- strings.Fields on letters below 128, taken whole by the abstract machine, by its contract, which leans on the table of blanks. -/
import Derived.Test.YthebkhieedogdaaGreatDoorAmI
import Derived.Shelf.Strings.Fields
namespace Go.Am
open Go.RowKit

def asciiB : List UInt8 → Bool
  | [] => true
  | b :: l => decide (b.toNat < 128) && asciiB l
theorem asciiB_ok : ∀ {l : List UInt8}, asciiB l = true → ∀ (j : Nat) b, l[j]? = some b → b.toNat < 128
  | [], _, j, b, h => by simp at h
  | c :: l, h, j, b, hj => by
    simp only [asciiB, Bool.and_eq_true, decide_eq_true_eq] at h
    cases j with
    | zero => simp at hj; subst hj; exact h.1
    | succ j => exact asciiB_ok h.2 j b (by simpa using hj)

/-- What strings.Fields comes to. -/
def fieldsP : List V → Option V
  | [.str s] => if asciiB s = true ∧ s.length < 4294967281 then some (.sl .frozen ((Lib.fields s).map .str)) else none
  | _ => none

theorem fieldsP_ok {P : Program} {KG : List Nat} {f g t : Nat} {fn : Func} (hfn : P.funcs[f]? = some fn) (hbody : fn.body.isNone = false) (hname : (fn.name == "runtime.NumGoroutine") = false)
    (hg : P.globalNamed "strings.asciiSpace" = some g) (hk : 3000000 + g ∈ KG)
    (h1 : ∀ (s : ByteArray) (w : World), s.size < 4294967281 → (∀ (j : Nat) b, s.data.toList[j]? = some b → b.toNat < 128) → Lib.TabIs P w "strings.asciiSpace" .u8 Lib.asciiSpaceTab →
      Calls P f #[.string s] w fun e w' => e = .returned (.slice (some ⟨w.heap.size, 0, none⟩) (Lib.fields s.data.toList).length (Lib.fields s.data.toList).length) ∧ w' = w.alloc (.cells ((Lib.fields s.data.toList).map fun l => Value.string ⟨l.toArray⟩).toArray t)) (hgl : g < 1000000 := by decide) : PrimOkG P KG f fieldsP := by
  intro args v hp γ w h cargs hgo hh hargs
  obtain ⟨k1, k2, k3⟩ := hargs
  unfold fieldsP at hp
  split at hp
  · rename_i s
    split at hp
    · rename_i hs
      cases hp
      obtain ⟨cl⟩ := cargs
      match cl, k1 with
      | [x], _ =>
        have hx := k3 0 _ x rfl rfl
        cases hx with
        | str _ b hb =>
          subst hb
          obtain ⟨t1, t2, tt, fl, t3⟩ := hgo.spc g hgl hk
          have htab : Lib.TabIs P w "strings.asciiSpace" .u8 Lib.asciiSpaceTab := by
            unfold Lib.TabIs World.var?
            rw [hg]
            simp only [Option.bind_some, t3]
            rfl
          have hsz : b.size < 4294967281 := by have := hs.2; rwa [← Lib.size_eq] at this
          refine .inl ⟨?_, (h1 b w hsz (asciiB_ok hs.1) htab).mono ?_⟩
          · simp only [callFunc, Sem.run_bind, run_program, Result.andThen_ok, hfn, hname, hbody, Bool.false_eq_true, if_false, Sem.run_pure]
          rintro e w' ⟨rfl, rfl⟩
          generalize Lib.fields b.data.toList = L
          obtain ⟨hev, hh'⟩ := Ev.shutNew hh (.cells (L.map fun l => Value.string ⟨l.toArray⟩).toArray t) L.length
          refine ⟨_, rfl, _, ?_, hh', hev⟩
          have hl : (L.map V.str).length = L.length := by simp
          have key := RelV.sl (γ := γ.shut w.heap.size L.length) (w := w.alloc (.cells (L.map fun l => Value.string ⟨l.toArray⟩).toArray t)) .frozen (L.map V.str) (some ⟨w.heap.size, 0, none⟩) L.length (fun i => .string ⟨(L.getD i []).toArray⟩) 1
            (by simp) trivial (fun e => by cases e) (fun a' e => by cases e; rfl)
            (fun i x hx => by
              simp only [List.getElem?_map, Option.map_eq_some_iff] at hx
              obtain ⟨y, hy, rfl⟩ := hx
              rw [List.getD_eq_getElem?_getD, hy]
              exact .str _ _ (by simp))
            (fun i x hx => by
              simp only [List.getElem?_map, Option.map_eq_some_iff] at hx
              obtain ⟨y, hy, rfl⟩ := hx
              exact ⟨rfl, rfl⟩)
            (fun i a' hi ha j u hj => by
              cases ha
              rw [hl] at hi
              cases j with
              | succ j => simp [Value.cells] at hj
              | zero =>
                simp [Value.cells] at hj
                subst hj
                refine ⟨by simp [Gh.shut]; omega, ?_⟩
                have := World.cell?_alloc_new w (L.map fun l => Value.string ⟨l.toArray⟩).toArray t i
                simp only [Nat.zero_add, Nat.mul_one, Nat.add_zero]
                rw [this]
                simp [hi])
          rw [hl] at key
          exact key
    · cases hp
  · cases hp

end Go.Am
