/- What a tied row's premise gives: the listed variables hold no nil. -/
import Derived.Test.YtoachlegeiefaaaDoorAmZ
import Derived.LaidMore
import Derived.MakeChecks
namespace Go.Am
open Go

theorem cells_of_laidVars {P : Program} {W : World} {n name : String} {d : DataW Unit} {g : Nat} {t : TypeId} {ms : Array (String × TypeId)} (hg : P.globalNamed n = some g) (ht : (P.globals[g]?).map (·.type) = some t) (hu : P.underlying t = some (.interface ms)) :
    ∀ (l : List (String × DataW Unit)) (ps : List MemPlace), DataW.LaidVars P W l ps → (n, DataW.iface name d) ∈ l → ∃ u v, W.cell? ⟨g, 0, none⟩ = some (.iface u v)
  | [], _, _, hm => by simp at hm
  | (n', d') :: r, ps, h, hm => by
    obtain ⟨g', t', cs, f, p, q, hg', ht', hv, hd, hr, _⟩ := h
    rcases List.mem_cons.1 hm with e | hm
    · obtain ⟨rfl, rfl⟩ := Prod.mk.injEq .. ▸ e
      obtain rfl := Option.some.inj (hg.symm.trans hg')
      obtain rfl := Option.some.inj (ht.symm.trans ht')
      obtain ⟨f', u, v, hcs, -, -⟩ := iface_of_trod hu hd
      have := World.var?_cell hg hv 0
      rw [Array.eq_one_of_toList hcs] at this
      exact ⟨u, v, by simpa using this⟩
    · exact cells_of_laidVars hg ht hu r q hr hm

theorem cells_of_laid {P : Program} {W : World} {l : List (String × DataW Unit)} (hp : (l.all fun x => x.2.handleName?.isNone) = true) (h : laidMetH P l W) {n name : String} {d : DataW Unit} {g : Nat} {t : TypeId} {ms : Array (String × TypeId)}
    (hm : (n, DataW.iface name d) ∈ l) (hg : P.globalNamed n = some g) (ht : (P.globals[g]?).map (·.type) = some t) (hu : P.underlying t = some (.interface ms)) : ∃ u v, W.cell? ⟨g, 0, none⟩ = some (.iface u v) := by
  rw [MakeChecks.laidMetH_plain _ _ _ hp] at h
  obtain ⟨ps, hv, _, _⟩ := h
  exact cells_of_laidVars hg ht hu l ps hv hm

theorem prot_of_cell {W : World} {g : Nat} {c : Value} (h : W.cell? ⟨g, 0, none⟩ = some c) : 0 < (gh0 W).prot g := by
  unfold World.cell? at h
  simp only [gh0]
  cases hh : W.heap[g]? with
  | none => simp [hh] at h
  | some o =>
    cases o <;> simp [hh] at h
    rename_i c' _ _
    simp only
    have := (Array.getElem?_eq_some_iff.1 h).1
    exact this

theorem gok_of {W : World} {KG : List Nat} (h : ∀ g ∈ KG, ∃ u v, W.cell? ⟨g, 0, none⟩ = some (.iface u v)) : GOk KG (gh0 W) W := fun g hg => by
  obtain ⟨u, v, hc⟩ := h g hg
  exact ⟨prot_of_cell hc, u, v, hc⟩

end Go.Am
