/- From the abstract machine to a row: rows of booleans. -/
import Derived.Test.YtabjkoehbbobdaaDoorAmZ
import Derived.Deep.Grids
namespace Go.Am
open Go.ChangeShapes Go.WideShapes Go.ChangeAt Go.RowKit Go.Deep

section
variable {H : Type} {enc : TypeId × Value → H} {P : Program} {W : World} {r : Reach} {b0 base : Nat} {held : Bool} {t e : TypeId} {v : Value} {d : DataW H} {ps : List MemPlace}

theorem arg_bools (ht : P.underlying t = some (.slice e)) (he : P.underlying e = some .bool) (hc : P.cellsOf e = 1) (hval : Value.okWide P W r b0 t v) (hd : DataW.Trod enc P W base (fun _ => true) held t v d ps) :
    ∃ zs : List Bool, RelV (gh0 W) W (.sl .frozen (zs.map .bool)) v ∧ zs.length ≤ maxLen := by
  obtain ⟨a, len, cap, rfl⟩ := okWide_slice ht hval
  obtain ⟨fuel, hf⟩ := hd
  rcases open_bools ht he hc hf with ⟨h1, -⟩ | ⟨a', len', cap', B, h1, -, h2, h3, -, h5⟩
  · simp [Value.cells] at h1
    obtain ⟨rfl, rfl, rfl⟩ := h1
    exact ⟨[], .sl .frozen [] none 0 (fun _ => .nilIface) 0 (Nat.le_refl _) trivial (fun _ => rfl) (fun a' h => by cases h) (fun i x h => by simp at h) (fun i x h => by simp at h) (fun i a' h => by simp at h), by simp⟩
  · simp [Value.cells] at h1
    obtain ⟨rfl, rfl, rfl⟩ := h1
    refine ⟨(List.range len).map B, ?_, by simp; omega⟩
    have hs := slice_spot ht hval
    have := row_rel (W := W) (a := a') (cap := cap) (xs := ((List.range len).map B).map .bool) (c := fun i => .bool (B i)) (by simp; exact h2) hs ?_ ?_
    · rw [List.length_map, List.length_map, List.length_range] at this; exact this
    · intro i x hx
      simp only [List.getElem?_map, Option.map_eq_some_iff] at hx
      obtain ⟨n, ⟨s, hn, rfl⟩, rfl⟩ := hx
      rw [List.getElem?_range (by have := (List.getElem?_eq_some_iff.1 hn).1; simpa using this)] at hn
      cases hn
      exact ⟨.bool _, rfl, rfl⟩
    · intro i hi
      have : i < len := by simpa using hi
      exact h5 i (by omega)

end
end Go.Am
