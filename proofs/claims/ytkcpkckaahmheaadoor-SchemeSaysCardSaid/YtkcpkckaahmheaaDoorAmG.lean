/- What a tied row's premise gives: the listed variables hold no nil. -/
import Derived.Test.YtkcpkckaahmheaaDoorAmZ
import Derived.LaidMore
import Derived.MakeChecks
import Derived.Stop.LaidTwo
namespace Go.Am
open Go

theorem cells_of_laidVars {P : Program} {W : World} {n name : String} {d : DataW Unit} {g : Nat} {t : TypeId} {ms : Array (String × TypeId)} (hg : P.globalNamed n = some g) (ht : (P.globals[g]?).map (·.type) = some t) (hu : P.underlying t = some (.interface ms)) :
    ∀ (l : List (String × DataW Unit)) (ps : List MemPlace), DataW.LaidVars P W l ps → (n, DataW.iface name d) ∈ l → ∃ u v, W.cell? ⟨g, 0, none⟩ = some (.iface u v)
  | [], _, _, hm => by simp at hm
  | (n', d') :: r, ps, h, hm => by
    obtain ⟨g', t', cs, f, p, q, hg', ht', hv, hd, hr, _⟩ := h
    rcases List.mem_cons.1 hm with e | hm
    · obtain ⟨rfl, rfl⟩ := Prod.mk.injEq .. ▸ e
      obtain rfl := Option.some.inj (hg.symm.trans hg')
      obtain rfl := Option.some.inj (ht.symm.trans ht')
      obtain ⟨f', u, v, hcs, -, -⟩ := iface_of_trod hu hd
      have := World.var?_cell hg hv 0
      rw [Array.eq_one_of_toList hcs] at this
      exact ⟨u, v, by simpa using this⟩
    · exact cells_of_laidVars hg ht hu r q hr hm

theorem cells_of_laid {P : Program} {W : World} {l : List (String × DataW Unit)} (hp : (l.all fun x => x.2.handleName?.isNone) = true) (h : laidMetH P l W) {n name : String} {d : DataW Unit} {g : Nat} {t : TypeId} {ms : Array (String × TypeId)}
    (hm : (n, DataW.iface name d) ∈ l) (hg : P.globalNamed n = some g) (ht : (P.globals[g]?).map (·.type) = some t) (hu : P.underlying t = some (.interface ms)) : ∃ u v, W.cell? ⟨g, 0, none⟩ = some (.iface u v) := by
  rw [MakeChecks.laidMetH_plain _ _ _ hp] at h
  obtain ⟨ps, hv, _, _⟩ := h
  exact cells_of_laidVars hg ht hu l ps hv hm

theorem prot_of_cell {W : World} {g : Nat} {c : Value} (h : W.cell? ⟨g, 0, none⟩ = some c) : 0 < (gh0 W).prot g := by
  unfold World.cell? at h
  simp only [gh0]
  cases hh : W.heap[g]? with
  | none => simp [hh] at h
  | some o =>
    cases o <;> simp [hh] at h
    rename_i c' _ _
    simp only
    have := (Array.getElem?_eq_some_iff.1 h).1
    exact this

theorem gok_of {W : World} {KG : List Nat} (hl : ∀ g ∈ KG, g < 1000000) (h : ∀ g ∈ KG, ∃ u v, W.cell? ⟨g, 0, none⟩ = some (.iface u v)) : GOk KG (gh0 W) W where
  var g hg _ := by
    obtain ⟨u, v, hc⟩ := h g hg
    exact ⟨prot_of_cell hc, u, v, hc⟩
  sen te _ ht := absurd (hl _ ht) (by omega)
  tab g _ hg := absurd (hl _ hg) (by omega)
  spc g _ hg := absurd (hl _ hg) (by omega)
  num g _ hg := absurd (hl _ hg) (by omega)

/-- A listed error's own text. -/
def textOf : DataW Unit → List UInt8
  | .iface _ (.ptr (.agg [.lit (.string s)])) => s
  | _ => []

def asErr (nm : String) (x : String × List UInt8) : String × DataW Unit := (x.1, .iface nm (.ptr (.agg [.lit (.string x.2)])))

/-- What listed errors' variables hold: pointers of one type, all unlike. -/
structure Errs (W : World) (tp : TypeId) (gs : List Nat) (as : List Addr) (ps : List MemPlace) : Prop where
  len : as.length = gs.length
  cell : ∀ (i : Nat) (g : Nat) (a : Addr), gs[i]? = some g → as[i]? = some a → W.cell? ⟨g, 0, none⟩ = some (.iface tp (.pointer (some a)))
  free : ∀ a ∈ as, ∃ c t, W.heap[a.block]? = some (.cells c t (0, 0))
  at_ : ∀ a ∈ as, MemPlace.cell a.block a.off ∈ ps
  unlike : as.Nodup

theorem errs_of {P : Program} {W : World} {nm : String} {ti tp te ts : TypeId} {ms : Array (String × TypeId)} {f : Field}
    (hi : P.underlying ti = some (.interface ms)) (hrow : ∀ u, P.typeName? 3 u = some nm → u = tp)
    (hp : P.underlying tp = some (.pointer te)) (he : P.underlying te = some (.struct #[f])) (hft : f.type = ts) (hfo : f.offset = 0) (hs : P.underlying ts = some .string) (hc : P.cellsOf te = 1) (hcs : P.cellsOf ts = 1)
    {ps0 : List MemPlace} (rows : ∀ b off, MemPlace.cell b off ∈ ps0 → (∃ c t, W.heap[b]? = some (.cells c t (0, 0))) ∧ ∀ u v, W.cell? ⟨b, off, none⟩ = some (.iface u v) → Value.okWide P W .any 0 u v) :
    ∀ (l : List (String × List UInt8)) (gs : List Nat) (ps : List MemPlace), DataW.LaidVars P W (l.map (asErr nm)) ps → (∀ x ∈ ps, x ∈ ps0) → ps.Nodup → l.map (fun x => P.globalNamed x.1) = gs.map some → (∀ g ∈ gs, (P.globals[g]?).map (·.type) = some ti) → ∃ as, Errs W tp gs as ps
  | [], gs, ps, _, _, _, hg, _ => by
    have : gs = [] := by simpa using hg.symm
    subst this
    exact ⟨[], rfl, fun i g a h => by simp at h, by simp, by simp, by simp⟩
  | (n, text) :: l, gs, ps, h, hsub, hnd, hg, hty => by
    match gs, hg, hty with
    | [], hg, _ => simp at hg
    | g :: gs, hg, hty =>
      simp only [List.map_cons, List.cons.injEq] at hg
      obtain ⟨g', t', cs, fu, p, q, hg', ht', hv, hd, hr, e⟩ := h
      obtain rfl := Option.some.inj (hg.1.symm.trans hg')
      obtain rfl := Option.some.inj ((hty g (by simp)).symm.trans ht')
      subst e
      have hnd2 := List.nodup_append.1 hnd
      obtain ⟨as, ih⟩ := errs_of hi hrow hp he hft hfo hs hc hcs rows l gs q hr (fun x hx => hsub x (by simp [hx])) hnd2.2.1 hg.2 (fun g hg => hty g (by simp [hg]))
      obtain ⟨l0⟩ := cs
      have ok0 : ∀ u v, l0 = [.iface u v] → Value.okWide P W .any 0 u v := fun u v e => by
        subst e
        exact (rows g 0 (hsub _ (by simp [MemPlace.row]))).2 u v (by simpa using World.var?_cell hg' hv 0)
      obtain ⟨a0, s0, rfl, hc0, hs0, hz0, rfl⟩ := errorString_of_trod hi hrow hp he hft hfo hs hc hcs hd ok0
      have hin : MemPlace.cell a0.block a0.off ∈ MemPlace.row ⟨g, 0, none⟩ 1 ++ MemPlace.row a0 1 := by simp [MemPlace.row]
      refine ⟨a0 :: as, by simp [ih.len], fun i g1 a1 h1 h2 => ?_, fun a ha => ?_, fun a ha => ?_, ?_⟩
      · cases i with
        | zero =>
          simp at h1 h2
          subst h1; subst h2
          simpa using World.var?_cell hg' hv 0
        | succ i => exact ih.cell i g1 a1 (by simpa using h1) (by simpa using h2)
      · rcases List.mem_cons.1 ha with rfl | ha
        · exact (rows a.block a.off (hsub _ (by simp [MemPlace.row]))).1
        · exact ih.free a ha
      · rcases List.mem_cons.1 ha with rfl | ha
        · simp [MemPlace.row]
        · simp [ih.at_ a ha]
      · refine List.nodup_cons.2 ⟨fun ha => ?_, ih.unlike⟩
        exact hnd2.2.2 _ hin _ (ih.at_ a0 ha) rfl

theorem gok_errs {W : World} {tp : TypeId} {gs : List Nat} {as : List Addr} {ps : List MemPlace} {KG : List Nat} (h : Errs W tp gs as ps) (hK : ∀ g ∈ KG, g < 1000000 → g ∈ gs) (hT : ∀ te, 1000000 + te ∈ KG → te = tp) (hL : ∀ x ∈ KG, x < 2000000 := by decide) : GOk KG (gh0 W) W := by
  have key : ∀ g ∈ gs, ∃ (i : Nat) (a : Addr), gs[i]? = some g ∧ as[i]? = some a ∧ a ∈ as := fun g hg => by
    obtain ⟨i, hi⟩ := List.getElem?_of_mem hg
    have hlt : i < as.length := by rw [h.len]; exact (List.getElem?_eq_some_iff.1 hi).1
    exact ⟨i, as[i], hi, List.getElem?_eq_getElem hlt, List.getElem_mem hlt⟩
  refine ⟨fun g hg hl => ?_, fun te _ ht g hg hl => ?_, fun g _ hg => absurd (hL _ hg) (by omega), fun g _ hg => absurd (hL _ hg) (by omega), fun g _ hg => absurd (hL _ hg) (by omega)⟩
  · obtain ⟨i, a, h1, h2, _⟩ := key g (hK g hg hl)
    have := h.cell i g a h1 h2
    exact ⟨prot_of_cell this, _, _, this⟩
  · obtain rfl := hT te ht
    obtain ⟨i, a, h1, h2, h3⟩ := key g (hK g hg hl)
    obtain ⟨c, t, hf⟩ := h.free a h3
    refine ⟨a, ⟨h.cell i g a h1 h2, (Array.getElem?_eq_some_iff.1 hf).1, fun r hr => absurd hr (by simp [gh0]), c, t, hf⟩, fun g' hg' hl' hc => ?_⟩
    obtain ⟨j, a', g1, g2, _⟩ := key g' (hK g' hg' hl')
    have e := Option.some.inj ((h.cell j g' a' g1 g2).symm.trans hc)
    simp only [Value.iface.injEq, Value.pointer.injEq, Option.some.injEq, true_and] at e
    subst e
    have hij : i = j := by
      obtain ⟨l1, e1⟩ := List.getElem?_eq_some_iff.1 h2
      obtain ⟨l2, e2⟩ := List.getElem?_eq_some_iff.1 g2
      exact (List.getElem_inj h.unlike).1 (e1.trans e2.symm)
    subst hij
    rw [h1] at g1
    exact (Option.some.inj g1).symm

end Go.Am
