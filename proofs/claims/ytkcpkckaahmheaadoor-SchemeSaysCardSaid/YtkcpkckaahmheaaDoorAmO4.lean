/- The abstract machine's operations are the model's: those that make memory or turn it. -/
import Derived.Test.YtkcpkckaahmheaaDoorAmO3
import Derived.Laws.CopyRow
import Derived.Maps.RangeRun
namespace Go.Am

theorem lowOk_push {bs : List Nat} {h : List Ob} (hl : LowOk bs h) (o : Ob) : LowOk bs (h ++ [o]) := by
  intro b hb
  obtain ⟨h1, h2⟩ := hl b hb
  refine ⟨by simp; omega, fun r x hr hx => h2 r x hr ?_⟩
  rw [List.getElem?_append_left (by omega)] at hx
  exact hx

theorem lowOk_set {bs : List Nat} {h : List Ob} (hl : LowOk bs h) (r : Nat) (o : Ob) (ho : ∀ b ∈ bs, r < b → obUnder b o = true) : LowOk bs (h.set r o) := by
  intro b hb
  obtain ⟨h1, h2⟩ := hl b hb
  refine ⟨by simpa using h1, fun r' x hr hx => ?_⟩
  by_cases e : r' = r
  · subst e
    rw [List.getElem?_set] at hx
    simp at hx
    obtain ⟨_, rfl⟩ := hx
    exact ho b hb hr
  · rw [List.getElem?_set_ne (Ne.symm e)] at hx
    exact h2 r' x hr hx

theorem underL_get {n : Nat} : ∀ {xs : List V}, underL n xs = true ↔ ∀ (i : Nat) (x : V), xs[i]? = some x → x.under n = true := by
  intro xs
  induction xs with
  | nil => simp [underL]
  | cons x xs ih =>
    simp only [underL, Bool.and_eq_true, ih]
    constructor
    · rintro ⟨h1, h2⟩ i y hy
      cases i with
      | zero => simp at hy; subst hy; exact h1
      | succ i => exact h2 i y (by simpa using hy)
    · intro h
      exact ⟨h 0 x rfl, fun i y hy => h (i + 1) y (by simpa using hy)⟩

theorem underL_splice {n off : Nat} {cs xs : List V} (h1 : underL n cs = true) (h2 : underL n xs = true) : underL n (splice cs off xs) = true := by
  rw [underL_eq, List.all_eq_true] at *
  intro x hx
  simp only [splice, List.mem_append] at hx
  rcases hx with (hx | hx) | hx
  · exact h1 x (List.mem_of_mem_take hx)
  · exact h2 x hx
  · exact h1 x (List.mem_of_mem_drop hx)

section
variable {P : Program} {A : Ann} {X : CallH} {z : Start} {γ γ' : Gh} {w w' : World} {lam lam' : Nat → Nat} {s s' : St} {a : Act} {o : Oper} {K : V → St → Prop} {Qx : Exit → Act → World → Prop}

/-- A local variable's block is new. -/
theorem SRel.local (hs : SRel z γ w lam s a) {d : Nat} {zc : List V} {arr : Array Value} {e : TypeId} (hl : s.l d = none) (hr : CellsRel γ w zc arr) :
    SRel z γ (w.alloc (.cells arr e)) (fun x => if x = d then w.heap.size else lam x) { s with l := putL s.l d zc } a := by
  obtain ⟨hev, hh⟩ := Ev.alloc hs.heap (.cells arr e)
  have hz : z.w.heap.size ≤ w.heap.size := hs.ev.size
  refine ⟨hh, ⟨fun d' cs hd => ?_, fun d1 d2 h1 h2 he => ?_⟩, fun i => ?_, hs.marks.ev hs.heap hev, fun l hl => (hs.rnd l hl).elim fun lp h1 => hev.lps l lp h1, hs.size, hs.ev.trans hev, fun d' hd' => ?_, hs.low⟩
  · simp only [putL] at hd
    by_cases e1 : d' = d
    · subst e1
      simp at hd; subst hd
      simp only [if_true]
      refine ⟨hs.heap.far _ (Nat.le_refl _), fun r hr he => by have := hs.heap.lt hr; omega, arr, e, heap_alloc_new w _, hr.mono hev.le⟩
    · rw [if_neg e1] at hd
      simp only [if_neg e1]
      exact (hs.loc.ev hev).blk d' cs hd
  · simp only [putL] at h1 h2
    have lt : ∀ d', s.l d' ≠ none → lam d' < w.heap.size := fun d' hd' => by
      cases hc : s.l d' with
      | none => exact absurd hc hd'
      | some cs =>
        obtain ⟨_, _, arr', e', hb, _⟩ := hs.loc.blk d' cs hc
        exact (Array.getElem?_eq_some_iff.1 hb).1
    by_cases e1 : d1 = d <;> by_cases e2 : d2 = d
    · rw [e1, e2]
    · rw [if_pos e1, if_neg e2] at he; rw [if_neg e2] at h2; have := lt d2 h2; omega
    · rw [if_neg e1, if_pos e2] at he; rw [if_neg e1] at h1; have := lt d1 h1; omega
    · rw [if_neg e1, if_neg e2] at he; rw [if_neg e1] at h1; rw [if_neg e2] at h2; exact hs.loc.inj d1 d2 h1 h2 he
  · rcases hs.reg i with h | ⟨d', o', h1, h2, h3⟩ | h
    · exact .inl h
    · refine .inr (.inl ⟨d', o', h1, ?_, ?_⟩)
      · simp only [putL]
        by_cases e1 : d' = d
        · rw [if_pos e1]; simp
        · rw [if_neg e1]; exact h2
      · have : d' ≠ d := fun e1 => h2 (e1 ▸ hl)
        simp only [if_neg this]
        exact h3
    · exact .inr (.inr (h.mono hev.le))
  · simp only [putL] at hd'
    by_cases e1 : d' = d
    · simp [e1]; exact hz
    · rw [if_neg e1] at hd'
      simp only [if_neg e1]
      exact hs.lnew d' hd'

theorem sim_new {zc : List V} {arr : Array Value} {e : TypeId} {hp : Bool} (hrun : (execOp a.eval o).run P w = .ok (.value (.pointer (some ⟨w.heap.size, 0, none⟩))) (w.alloc (.cells arr e))) (hr : CellsRel γ w zc arr) (hd : ∀ i, o.dst = some i → i < z.nt)
    (h : kNew zc o.dst K s hp) (hs : SRel z γ w lam s a) : o.wp P a w (Nx z o.dst K) Qx := by
  cases hp
  · simp only [kNew] at h
    cases hdst : o.dst with
    | none => rw [hdst] at h; exact h.elim
    | some d =>
      rw [hdst] at h
      obtain ⟨hl, hK⟩ := h
      have := nx_val (Qx := Qx) hrun hK (hs.local (e := e) hl hr) (.inr (.inl ⟨d, 0, rfl, by simp [putL], by simp⟩)) hd
      rw [hdst] at this
      exact this
  · obtain ⟨hev, hh⟩ := Ev.newOb hs.heap (.cells arr e) false 0 0 0 (.box zc) (fun hle => ⟨by simp [Gh.new], by simp [Gh.new], arr, e, by simp only [Gh.new, if_true]; exact heap_alloc_new w _, (hr.mono hle).pre⟩)
    refine nx_val hrun h (hs.after hev hh (lowOk_push hs.low _)) (.inr (.inr ?_)) hd
    have hn := hs.heap.n
    have e1 : (γ.new w.heap.size false 0 0 0).rho s.h.length = w.heap.size := by simp [Gh.new, hn]
    have hp := RelV.ptr (γ := γ.new w.heap.size false 0 0 0) (w := w.alloc (.cells arr e)) s.h.length 0 (by simp [Gh.new, hn]) (by simp [Gh.new, hn])
    rw [e1] at hp
    exact hp

theorem sim_alloc (e : TypeId) (ho : o.op = .alloc e) {zc : List V} {hp : Bool} (hz : zeroC P e = some zc) (hd : ∀ i, o.dst = some i → i < z.nt)
    (h : kNew zc o.dst K s hp) (hs : SRel z γ w lam s a) : o.wp P a w (Nx z o.dst K) Qx := by
  simp only [zeroC, Option.map_eq_some_iff] at hz
  obtain ⟨zx, hz, rfl⟩ := hz
  obtain ⟨i, zv, hi, hz1, hz2⟩ := zeroV_rel hz
  obtain ⟨hzr, hzl⟩ := constV_rel γ w zv zx hz2
  refine sim_new (e := e) ?_ (hzr.cells hzl) hd h hs
  simp [execOp, ho, Instr.alloc, run_zeroValue hi hz1, newVar, newRow]

theorem sim_box (e : TypeId) (x : Operand) (ho : o.op = .box e x) {n : Nat} {hp : Bool} {x' : AO} (hx : compX x = some x') (hd : ∀ i, o.dst = some i → i < z.nt)
    (h : (ev s.r x').cells.length = n ∧ (ev s.r x').isLoc = false ∧ kNew (ev s.r x').cells o.dst K s hp) (hs : SRel z γ w lam s a) : o.wp P a w (Nx z o.dst K) Qx := by
  have hr := (rel_x hs hx).ok h.2.1
  refine sim_new (e := e) ?_ (hr.cells h.2.1) hd h.2.2 hs
  simp [execOp, ho, Instr.box, newVar, newRow]

theorem CellsRel.all_one {cs : List V} {arr : Array Value} (h : CellsRel γ w cs arr) : ∀ v ∈ arr.toList, v.oneCell' = true := by
  intro v hv
  obtain ⟨i, hi, rfl⟩ := List.getElem_of_mem hv
  have hi' : i < arr.size := by simpa using hi
  have hc : i < cs.length := by rw [← h.1]; exact hi'
  have := (h.2 i cs[i] arr[i] (List.getElem?_eq_getElem hc) (Array.getElem?_eq_getElem hi')).2
  simpa using this

theorem splice_rel {cs xs : List V} {arr ys : Array Value} (h : CellsRel γ w cs arr) (hx : CellsRel γ w xs ys) (off : Nat) (hoff : off + xs.length ≤ cs.length) :
    CellsRel γ w (splice cs off xs) (arr.toList.take off ++ ys.toList ++ arr.toList.drop (off + ys.toList.length)).toArray := by
  have := h.splice hx off hoff
  have e : (arr.toList.take off ++ ys.toList ++ arr.toList.drop (off + ys.toList.length)).toArray = arr.extract 0 off ++ ys ++ arr.extract (off + ys.size) arr.size := by
    apply Array.ext'
    simp [List.take_of_length_le]
  rw [e]
  exact this

theorem splice_pre {cs xs : List V} {arr ys : Array Value} (h : PreRel γ w cs arr) (hx : CellsRel γ w xs ys) (off : Nat) (hoff : off + xs.length ≤ cs.length) :
    PreRel γ w (splice cs off xs) (arr.toList.take off ++ ys.toList ++ arr.toList.drop (off + ys.toList.length)).toArray := by
  have h1 := h.1
  have hb := splice_rel h.cut hx off hoff
  have hy : ys.toList.length = xs.length := by simpa using hx.1
  have e0 : (arr.extract 0 cs.length).toList = arr.toList.take cs.length := by simp
  rw [e0] at hb
  have e1 : (arr.toList.take cs.length).take off = arr.toList.take off := by rw [List.take_take]; congr 1; omega
  have e2 : arr.toList.drop (off + ys.toList.length) = (arr.toList.take cs.length).drop (off + ys.toList.length) ++ arr.toList.drop cs.length := by
    conv => lhs; rw [← List.take_append_drop cs.length arr.toList]
    rw [List.drop_append_of_le_length (by have h2 : arr.toList.length = arr.size := Array.length_toList; have h3 : ys.toList.length = ys.size := Array.length_toList; rw [List.length_take, h2, Nat.min_eq_left h1]; omega)]
  rw [e1] at hb
  rw [e2, ← List.append_assoc]
  have hbs := hb.1
  refine ⟨by simp only [List.size_toArray, List.length_append] at hbs ⊢; omega, fun i x u hi hu => hb.2 i x u hi ?_⟩
  have hil := (List.getElem?_eq_some_iff.1 hi).1
  have hlt : i < (arr.toList.take off ++ ys.toList ++ (arr.toList.take cs.length).drop (off + ys.toList.length)).length := by rw [← List.size_toArray, hbs]; exact hil
  rw [List.getElem?_toArray, List.getElem?_append_left hlt] at hu
  rw [List.getElem?_toArray]
  exact hu

theorem setRow_other' {g : Nat} {cs : Array Value} : ∀ b, b ≠ g → (w.setRow g cs).heap[b]? = w.heap[b]? := fun b hb => setRow_other w g b cs hb

/-- A local variable is turned. -/
theorem SRel.setLocal (hs : SRel z γ w lam s a) {d : Nat} {cs cs' : List V} {arr arr' : Array Value} {e : TypeId} (hl : s.l d = some cs) (hb : w.heap[lam d]? = some (.cells arr e (0, 0)))
    (hr : CellsRel γ w cs' arr') : SRel z γ (w.setRow (lam d) arr') lam { s with l := putL s.l d cs' } a := by
  obtain ⟨hp, hap, _⟩ := hs.loc.blk d cs hl
  have hle : Le γ w γ (w.setRow (lam d) arr') := { Le.refl γ w with cells := fun b o' ho' => cell_same (setRow_other' b (fun e => by subst e; omega)) o' }
  have hlt : ∀ r, r < γ.n → γ.rho r ≠ lam d := hap
  refine ⟨⟨hs.heap.n, hs.heap.inj, fun r o' ho' => ?_, fun b hb' => hs.heap.far b (by simpa using hb')⟩, ⟨fun d' cs1 hd => ?_, fun d1 d2 h1 h2 he => ?_⟩, fun i => ?_, hs.marks.keep fun b _ hb' => setRow_other' b (fun e1 => by subst e1; rw [hb] at hb'; cases hb'), fun l hl => (hs.rnd l hl).elim fun lp h1 => ⟨lp, (setRow_other' l (fun e1 => by subst e1; rw [hb] at h1; cases h1)).trans h1⟩, hs.size, ?_, fun d' hd' => ?_, hs.low⟩
  · have hr' : r < γ.n := hs.heap.n ▸ (List.getElem?_eq_some_iff.1 ho').1
    exact (hs.heap.obj r o' ho').keep hle hr' rfl rfl rfl (setRow_other' _ (hlt r hr')) rfl
  · simp only [putL] at hd
    by_cases e1 : d' = d
    · subst e1
      simp at hd; subst hd
      exact ⟨hp, hap, arr', e, setRow_heap w _ arr _ e _ hb, hr.mono hle⟩
    · rw [if_neg e1] at hd
      obtain ⟨g1, g2, arr1, e', g3, g4⟩ := hs.loc.blk d' cs1 hd
      have hne : lam d' ≠ lam d := fun he => e1 (hs.loc.inj d' d (by rw [hd]; simp) (by rw [hl]; simp) he)
      exact ⟨g1, g2, arr1, e', (setRow_other' _ hne).trans g3, g4.mono hle⟩
  · have f : ∀ d', putL s.l d cs' d' ≠ none → s.l d' ≠ none := fun d' hd' => by
      simp only [putL] at hd'
      by_cases e1 : d' = d
      · subst e1; rw [hl]; simp
      · rw [if_neg e1] at hd'; exact hd'
    exact hs.loc.inj d1 d2 (f d1 h1) (f d2 h2) he
  · rcases hs.reg i with h | ⟨d', o', h1, h2, h3⟩ | h
    · exact .inl h
    · refine .inr (.inl ⟨d', o', h1, ?_, h3⟩)
      simp only [putL]
      by_cases e1 : d' = d
      · rw [if_pos e1]; simp
      · rw [if_neg e1]; exact h2
    · exact .inr (.inr (h.mono hle))
  · have hev := hs.ev
    have hnew : z.w.heap.size ≤ lam d := hs.lnew d (by rw [hl]; simp)
    have cs_ : ∀ b o', o' < z.g.prot b → (w.setRow (lam d) arr').cell? ⟨b, o', none⟩ = w.cell? ⟨b, o', none⟩ := fun b o' ho' =>
      hle.cells b o' (Nat.lt_of_lt_of_le ho' (hev.le.prot b))
    exact { hev with
      le := { hev.le with cells := fun b o' ho' => (cs_ b o' ho').trans (hev.le.cells b o' ho') }
      size := by simpa using hev.size
      heap := fun b hb' hne => by
        have := hev.heap b hb' hne
        exact ⟨(setRow_other' b (by omega)).trans this.1, this.2⟩
      os := hev.os
      tape := hev.tape
      out := hev.out
      lps := fun b lp h => (hev.lps b lp h).elim fun lp' h1 => ⟨lp', (setRow_other' b (fun e1 => by subst e1; rw [hb] at h1; cases h1)).trans h1⟩ }
  · refine hs.lnew d' (fun e1 => hd' ?_)
    simp only [putL]
    by_cases e2 : d' = d
    · subst e2; rw [hl] at e1; cases e1
    · rw [if_neg e2]; exact e1

theorem sim_store (t : TypeId) (x y : Operand) (ho : o.op = .store t x y) {n : Nat} (hn : sizeT P t = some n) {x' y' : AO} (hx : compX x = some x') (hy : compX y = some y') (hd : ∀ i, o.dst = some i → i < z.nt)
    (h : (ev s.r y').cells.length = n ∧ (ev s.r y').isLoc = false ∧ kStore z.bs (ev s.r y').cells K s (ev s.r x')) (hs : SRel z γ w lam s a) : o.wp P a w (Nx z o.dst K) Qx := by
  obtain ⟨h1, h2, h3⟩ := h
  have hvc := ((rel_x hs hy).ok h2).cells h2
  have hrx := rel_x hs hx
  generalize ev s.r x' = vx at h3 hrx
  generalize ev s.r y' = vy at h1 h2 h3 hvc
  have run : ∀ (g off : Nat) (arr : Array Value) (e : TypeId), a.eval x = .pointer (some ⟨g, off, none⟩) → w.heap[g]? = some (.cells arr e (0, 0)) → off + vy.cells.length ≤ arr.size →
      (execOp a.eval o).run P w = .ok .skip (w.setRow g (arr.toList.take off ++ (a.eval y).cells.toList ++ arr.toList.drop (off + (a.eval y).cells.toList.length)).toArray) := by
    intro g off arr e he hg hlen
    have hst := run_storeCells_at (P := P) g off e (a.eval y).cells.toList 0 arr w hg (by simp; have := hvc.1; omega) hvc.all_one
    have hsz : (a.eval y).cells.size = n := by have := hvc.1; omega
    simp only [Nat.add_zero] at hst
    simp [execOp, ho, Instr.storeAt, he, Instr.sureAddr, storeVar, run_sizeOf' hn, hsz, hst]
  unfold kStore at h3
  split at h3
  · rename_i d off
    unfold kLoc at h3
    split at h3
    · rename_i _ cs hl
      obtain ⟨hlen, hK⟩ := h3
      rcases hrx with hr | ⟨d', o', e, h4, h5⟩ | hr
      · cases hr
      · cases e
        obtain ⟨hp, hap, arr, e, hb, hcr⟩ := hs.loc.blk d cs hl
        refine nx_skip (run _ _ arr e h5 hb (by have := hcr.1; omega)) hK (hs.setLocal hl hb ?_) hd
        exact splice_rel hcr hvc off hlen
      · cases hr
    · exact h3.elim
  · rename_i r off
    unfold kBox at h3
    split at h3
    · rename_i _ cs hh
      obtain ⟨hlen, hok, hK⟩ := h3
      have hr := hrx.ok rfl
      generalize hc : a.eval x = c at hr
      cases hr with
      | ptr _ _ hlt hk =>
        obtain ⟨hkd, hp, arr, e, hb, hcr⟩ := hs.heap.obj r _ hh
        have hrun := run _ _ arr e hc hb (by have := hcr.1; omega)
        obtain ⟨hev, hh'⟩ := Ev.set (w' := w.setRow (γ.rho r) (arr.toList.take off ++ (a.eval y).cells.toList ++ arr.toList.drop (off + (a.eval y).cells.toList.length)).toArray) hs.heap hlt (.box (splice cs off vy.cells)) (by simp)
          setRow_other' rfl rfl rfl hp (fun hle => ⟨hkd, hp, _, e, setRow_heap w _ arr _ e _ hb, (splice_pre hcr hvc off hlen).mono hle⟩)
        refine nx_skip hrun hK (hs.after hev hh' (lowOk_set hs.low r _ fun b hb' hrb => ?_)) hd
        exact underL_splice ((hs.low b hb').2 r _ hrb hh) (hok b hb' hrb)
    · exact h3.elim
  · rename_i r ver off
    unfold kVec at h3
    split at h3
    · rename_i _ v zz cs hh
      obtain ⟨hver, hlen, hok, hK⟩ := h3
      have hr := hrx.ok rfl
      generalize hc : a.eval x = c at hr
      cases hr with
      | vptr _ _ _ b o' hlt hk hv he =>
        obtain ⟨hkd, hff, hz0, hfc, hp, arr, e, hb, hasz, hcr⟩ := hs.heap.obj r _ hh
        obtain ⟨rfl, rfl⟩ := he (by omega)
        have hrun := run _ _ arr e hc hb (by have := hcr.1; omega)
        have hss : (arr.toList.take o' ++ (a.eval y).cells.toList ++ arr.toList.drop (o' + (a.eval y).cells.toList.length)).toArray.size = arr.size := by
          have h7 := hvc.1
          have h8 := hcr.1
          simp only [List.size_toArray, List.length_append, List.length_take, List.length_drop, Array.length_toList]
          omega
        obtain ⟨hev, hh'⟩ := Ev.set (w' := w.setRow (γ.rho r) (arr.toList.take o' ++ (a.eval y).cells.toList ++ arr.toList.drop (o' + (a.eval y).cells.toList.length)).toArray) hs.heap hlt (.vec v zz (splice cs o' vy.cells)) (by simp)
          setRow_other' rfl rfl rfl hp (fun hle => ⟨hkd, hff, hz0, hfc, hp, _, e, setRow_heap w _ arr _ e _ hb, by rw [hss, hasz], (splice_pre hcr hvc o' hlen).mono hle⟩)
        refine nx_skip hrun hK (hs.after hev hh' (lowOk_set hs.low r _ fun b hb' hrb => ?_)) hd
        exact underL_splice ((hs.low b hb').2 r _ hrb hh) (hok b hb' hrb)
    · exact h3.elim
  · exact h3.elim

theorem sim_mkmap (t : TypeId) (ho : o.op = .makeMap t none) (hd : ∀ i, o.dst = some i → i < z.nt)
    (h : K (.map (some s.h.length)) { s with h := s.h ++ [.map [] [] 0] }) (hs : SRel z γ w lam s a) : o.wp P a w (Nx z o.dst K) Qx := by
  obtain ⟨hev, hh⟩ := Ev.newOb hs.heap (.map #[] 0) false 0 0 0 (.map [] [] 0) (fun hle => ⟨by simp [Gh.new], by simp [Gh.new], #[], by simp only [Gh.new, if_true]; exact heap_alloc_new w _,
    ⟨rfl, fun i x e hx => by simp at hx, rfl, fun i e he => by simp at he⟩⟩)
  have hn := hs.heap.n
  have e1 : (γ.new w.heap.size false 0 0 0).rho s.h.length = w.heap.size := by simp [Gh.new, hn]
  have hp := RelV.map (γ := γ.new w.heap.size false 0 0 0) (w := w.alloc (.map #[] 0)) s.h.length (by simp [Gh.new, hn]) (by simp [Gh.new, hn])
  rw [e1] at hp
  refine nx_val ?_ h (hs.after hev hh (lowOk_push hs.low _)) (.inr (.inr hp)) hd
  simp [execOp, ho, Instr.makeMap]

theorem evs_rel (hs : SRel z γ w lam s a) : ∀ (xs : List Operand) (ys : List AO), compXs xs = some ys → okVals (evs s.r ys) = true →
    xs.length = ys.length ∧ (evs s.r ys).length = ys.length ∧ ∀ (i : Nat) (v : V) (x : Operand), (evs s.r ys)[i]? = some v → xs[i]? = some x → RelV γ w v (a.eval x) := by
  intro xs
  induction xs with
  | nil => intro ys h _; simp [compXs] at h; subst h; simp [evs]
  | cons x xs ih =>
    intro ys h hok
    simp only [compXs, Option.bind_eq_some_iff, Option.map_eq_some_iff] at h
    obtain ⟨y, hy, ys', hys, rfl⟩ := h
    simp only [evs, okVals, Bool.and_eq_true] at hok
    obtain ⟨i1, i2, i3⟩ := ih ys' hys hok.2
    refine ⟨by simp [i1], by simp [evs, i2], fun i v x' hv hx' => ?_⟩
    cases i with
    | zero =>
      simp [evs] at hv hx'
      subst hv; subst hx'
      exact (rel_x hs hy).ok (by simpa using hok.1)
    | succ i => simp [evs] at hv hx'; exact i3 i v x' hv hx'

theorem sim_mkfn (f : Nat) (cap : Array Operand) (ho : o.op = .makeFunc (.func f) #[] cap) {ys : List AO} (hc : compXs cap.toList = some ys) (hd : ∀ i, o.dst = some i → i < z.nt)
    (h : okVals (evs s.r ys) = true ∧ K (.fn f (evs s.r ys)) s) (hs : SRel z γ w lam s a) : o.wp P a w (Nx z o.dst K) Qx := by
  obtain ⟨i1, i2, i3⟩ := evs_rel hs _ _ hc h.1
  refine nx_val (c := .func (.func f) #[] (cap.map a.eval)) ?_ h.2 hs (.inr (.inr (.fn f _ _ (by simp; simp at i1; omega) (fun i x u hx hu => ?_) h.1))) hd
  · simp [execOp, ho, Instr.makeFunc]
  · simp only [Array.getElem?_map, Option.map_eq_some_iff] at hu
    obtain ⟨y, hy, rfl⟩ := hu
    exact i3 i x y hx (by simpa using hy)

theorem sim_mkmet (f : Nat) (xs : Array Operand) (ho : o.op = .makeFunc (.func f) xs #[]) {ys : List AO} (hc : compXs xs.toList = some ys) (hd : ∀ i, o.dst = some i → i < z.nt)
    (h : okVals (evs s.r ys) = true ∧ K (.mfn f (evs s.r ys)) s) (hs : SRel z γ w lam s a) : o.wp P a w (Nx z o.dst K) Qx := by
  obtain ⟨i1, i2, i3⟩ := evs_rel hs _ _ hc h.1
  refine nx_val (c := .func (.func f) (xs.map a.eval) #[]) ?_ h.2 hs (.inr (.inr (.mfn f _ _ (by simp; simp at i1; omega) (fun i x u hx hu => ?_) h.1))) hd
  · simp [execOp, ho, Instr.makeFunc]
  · simp only [Array.getElem?_map, Option.map_eq_some_iff] at hu
    obtain ⟨y, hy, rfl⟩ := hu
    exact i3 i x y hx (by simpa using hy)

theorem sim_mapset (t kt e : TypeId) (m k v : Operand) (ho : o.op = .mapUpdate t m k v ∨ o.op = .insert t m k v) (hu : P.underlying t = some (.map kt e)) {kk : KK} (hkt : keyT P kt = some kk)
    {m' k' v' : AO} (hm : compX m = some m') (hk : compX k = some k') (hv : compX v = some v') (hd : ∀ i, o.dst = some i → i < z.nt)
    (h : isKey kk (ev s.r k') = true ∧ (ev s.r v').isLoc = false ∧ kSet z.bs (ev s.r k') (ev s.r v') K s (ev s.r m')) (hs : SRel z γ w lam s a) : o.wp P a w (Nx z o.dst K) Qx := by
  obtain ⟨hkey, hvl, h3⟩ := h
  have hexec : execOp a.eval o = (do Instr.mapUpdate t (a.eval m) (a.eval k) (a.eval v); pure .skip) := by rcases ho with ho | ho <;> simp only [execOp, ho]
  have hrm := rel_x hs hm
  have hrv := (rel_x hs hv).ok hvl
  have hrk : RelV γ w (ev s.r k') (a.eval k) := (rel_x hs hk).ok (by generalize ev s.r k' = vk at hkey; cases kk <;> cases vk <;> first | rfl | (simp [isKey] at hkey))
  generalize ev s.r m' = vm at h3 hrm
  generalize ev s.r k' = vk at hkey h3 hrk
  generalize ev s.r v' = vv at hvl h3 hrv
  unfold kSet at h3
  split at h3
  · rename_i r
    unfold kSet1 at h3
    split at h3
    · rename_i _ es bo clock hes
      cases hse : setE vk vv es with
      | none => rw [hse] at h3; exact h3.elim
      | some es' =>
        rw [hse] at h3
        obtain ⟨hok, hK⟩ := h3
        obtain ⟨hkd, hp0, ents, hb, hmr⟩ := hs.heap.obj r _ hes
        have hem : a.eval m = .map (some (γ.rho r)) ∧ r < γ.n := by have := hrm.ok rfl; generalize a.eval m = c at this; cases this; exact ⟨rfl, by assumption⟩
        rw [setE_pos] at hse
        simp only [Option.map_eq_some_iff] at hse
        obtain ⟨p, hp, hes'⟩ := hse
        obtain ⟨d, hud, hdd⟩ := keyT_of hkt
        obtain ⟨f1, f2⟩ := findNow_rel (γ := γ) (w := w) (d := d) hdd hkey hrk es ents.toList 0 (by simpa using hmr.size) (fun i x e hx he => (hmr.rel i x e hx (by simpa using he)).1) p hp
        have low : LowOk z.bs (s.h.set r (setOb es.length bo clock es')) := by
          refine lowOk_set hs.low r _ fun b hb' hrb => ?_
          have h0 := (hs.low b hb').2 r _ hrb hes
          have h1 := hok b hb' hrb
          simp only [underL, Bool.and_true] at h1
          have h2 : (es'.all fun e => e.2.under b) = true := by
            simp only [obUnder, List.all_eq_true] at h0 ⊢
            intro x hx
            subst hes'
            cases p with
            | none =>
              simp at hx
              rcases hx with hx | rfl
              · exact h0 x hx
              · exact h1
            | some j =>
              rcases List.mem_or_eq_of_mem_set hx with hx | rfl
              · exact h0 x hx
              · exact h1
          unfold setOb
          split <;> exact h2
        cases p with
        | none =>
          subst hes'
          have eob : setOb es.length bo clock (es ++ [(vk, vv)]) = .map (es ++ [(vk, vv)]) (bo ++ [clock]) (clock + 1) := by simp [setOb]
          have hfk : (Instr.findKey kt (a.eval k) ents.toList).run P w = .ok none w := by
            simp only [Instr.findKey, Sem.run_bind, run_underlying' hud, Result.andThen_ok, f1]
            rfl
          have hev := Ev.set (w' := { w with heap := w.heap.setIfInBounds (γ.rho r) (.map (ents.push { key := a.eval k, val := a.eval v, born := clock }) (clock + 1)) }) hs.heap hem.2 (setOb es.length bo clock (es ++ [(vk, vv)])) (by simp)
            (fun b hb' => by simp [Array.getElem?_setIfInBounds_ne (Ne.symm hb')]) rfl rfl rfl hp0 (fun hle => by
              rw [eob]
              refine ⟨hkd, hp0, ents.push { key := a.eval k, val := a.eval v, born := clock }, by simp [hs.heap.lt hem.2], ?_⟩
              have hmr' := hmr.mono hle
              refine ⟨by simp [hmr.size], fun i x e hx he => ?_, by simp [hmr.len], fun i e he => ?_⟩
              · rw [List.getElem?_append] at hx
                rw [Array.getElem?_push] at he
                split at hx
                · rw [if_neg (by rw [hmr.size]; omega)] at he
                  exact hmr'.rel i x e hx he
                · have : i = es.length := by have := (List.getElem?_eq_some_iff.1 hx).1; simp at this; omega
                  subst this
                  rw [if_pos hmr.size.symm] at he
                  simp at hx he
                  subst hx; subst he
                  exact ⟨hrk.mono hle, ⟨kk, hkey⟩, hrv.mono hle, hvl⟩
              · rw [Array.getElem?_push] at he
                split at he
                · rename_i hi
                  cases he
                  subst hi
                  rw [List.getElem?_append_right (by rw [hmr.len, hmr.size]; exact Nat.le_refl _)]
                  simp [hmr.len, hmr.size]
                · have := hmr.born i e he
                  rw [List.getElem?_append_left (by exact (List.getElem?_eq_some_iff.1 this).1)]
                  exact this)
          refine nx_skip ?_ hK (hs.after hev.1 hev.2 low) hd
          simp only [hexec, Instr.mapUpdate, Sem.run_bind, run_underlying' hu, hem.1, Result.andThen_ok, run_getObj hb (by simp), run_checkKey hkt, hfk]
          simp [setObj, Sem.run, hb]
        | some j =>
          subst hes'
          have eob : setOb es.length bo clock (es.set j (vk, vv)) = .map (es.set j (vk, vv)) bo clock := by simp [setOb]
          obtain ⟨e0, he0, hbits⟩ := f2 j rfl
          have he0' : ents[j]? = some e0 := by simpa using he0
          have hfk : (Instr.findKey kt (a.eval k) ents.toList).run P w = .ok (some (j, e0.val)) w := by
            simp only [Instr.findKey, Sem.run_bind, run_underlying' hud, Result.andThen_ok, f1]
            simp [he0']
          have hev := Ev.set (w' := { w with heap := w.heap.setIfInBounds (γ.rho r) (.map (ents.modify j fun e => { e with key := a.eval k, val := a.eval v }) clock) }) hs.heap hem.2 (setOb es.length bo clock (es.set j (vk, vv))) (by simp)
            (fun b hb' => by simp [Array.getElem?_setIfInBounds_ne (Ne.symm hb')]) rfl rfl rfl hp0 (fun hle => by
              rw [eob]
              refine ⟨hkd, hp0, ents.modify j fun e => { e with key := a.eval k, val := a.eval v }, by simp [hs.heap.lt hem.2], ?_⟩
              have hmr' := hmr.mono hle
              refine ⟨by simp [hmr.size], fun i x e hx he => ?_, by simp [hmr.len], fun i e he => ?_⟩
              · rw [Array.getElem?_modify] at he
                by_cases hij : j = i
                · subst hij
                  rw [if_pos rfl] at he
                  simp only [Option.map_eq_some_iff] at he
                  obtain ⟨e1, h1, rfl⟩ := he
                  rw [List.getElem?_set] at hx
                  simp at hx
                  obtain ⟨_, rfl⟩ := hx
                  exact ⟨hrk.mono hle, ⟨kk, hkey⟩, hrv.mono hle, hvl⟩
                · rw [if_neg hij] at he
                  rw [List.getElem?_set_ne hij] at hx
                  exact hmr'.rel i x e hx he
              · rw [Array.getElem?_modify] at he
                split at he
                · simp only [Option.map_eq_some_iff] at he
                  obtain ⟨e1, h1, rfl⟩ := he
                  exact hmr.born i e1 h1
                · exact hmr.born i e he)
          refine nx_skip ?_ hK (hs.after hev.1 hev.2 low) hd
          simp only [hexec, Instr.mapUpdate, Sem.run_bind, run_underlying' hu, hem.1, Result.andThen_ok, run_getObj hb (by simp), run_checkKey hkt, hfk]
          simp [setObj, Sem.run, hb, he0', Instr.keyThatStays, hbits]
    · exact h3.elim
  · exact h3.elim

/- Goings through maps. -/
theorem sim_range (t kt e : TypeId) (x : Operand) (ho : o.op = .range t x) (hu : P.underlying t = some (.map kt e)) {x' : AO} (hx : compX x = some x') (hd : ∀ i, o.dst = some i → i < z.nt)
    (h : kRange K s (ev s.r x')) (hs : SRel z γ w lam s a) : o.wp P a w (Nx z o.dst K) Qx := by
  have hrx := rel_x hs hx
  generalize ev s.r x' = vx at h hrx
  have hn := hs.heap.n
  have go : ∀ (m : Option Nat) (ck : Nat), (∀ q, m = some q → q < γ.n ∧ γ.kd q = false) → (Instr.range t (a.eval x)).run P w = .ok (.pointer (some ⟨w.heap.size, 0, none⟩)) (w.alloc (.mapIter (m.map γ.rho) ck #[] ck)) →
      K (.ptr s.h.length 0) { s with h := s.h ++ [.iter m ck [] ck] } → o.wp P a w (Nx z o.dst K) Qx := by
    intro m ck hm hrun hK
    obtain ⟨hev, hh⟩ := Ev.newOb hs.heap (.mapIter (m.map γ.rho) ck #[] ck) false 0 0 0 (.iter m ck [] ck) (fun hle => by
      refine ⟨by simp [Gh.new], by simp [Gh.new], fun q hq => ⟨by have := (hm q hq).1; simp [Gh.new]; omega, by have := hm q hq; simp [Gh.new]; exact fun _ => this.2⟩, ?_⟩
      have e1 : (γ.new w.heap.size false 0 0 0).rho γ.n = w.heap.size := by simp [Gh.new]
      rw [e1, heap_alloc_new]
      cases m with
      | none => rfl
      | some q =>
        have e2 : (γ.new w.heap.size false 0 0 0).rho q = γ.rho q := hle.box q (hm q rfl).1 (hm q rfl).2
        simp only [Option.map_some, e2])
    have e1 : (γ.new w.heap.size false 0 0 0).rho s.h.length = w.heap.size := by simp [Gh.new, hn]
    have hp := RelV.ptr (γ := γ.new w.heap.size false 0 0 0) (w := w.alloc (.mapIter (m.map γ.rho) ck #[] ck)) s.h.length 0 (by simp [Gh.new, hn]) (by simp [Gh.new, hn])
    rw [e1] at hp
    refine nx_val ?_ hK (hs.after hev hh (lowOk_push hs.low _)) (.inr (.inr hp)) hd
    simp only [execOp, ho, Sem.run_bind, hrun, Result.andThen_ok, Sem.run_pure]
  unfold kRange at h
  split at h
  · have hem : a.eval x = .map none := by have := hrx.ok rfl; generalize a.eval x = c at this; cases this; rfl
    refine go none 0 (fun q hq => by cases hq) ?_ h
    rw [hem]
    exact run_range_nilMap w t kt e hu
  · rename_i r
    unfold kRange1 at h
    split at h
    · rename_i _ es bo ck hes
      have hem : a.eval x = .map (some (γ.rho r)) ∧ r < γ.n ∧ γ.kd r = false := by have := hrx.ok rfl; generalize a.eval x = c at this; cases this; exact ⟨rfl, by assumption, by assumption⟩
      obtain ⟨_, _, ents, hb, hmr⟩ := hs.heap.obj r _ hes
      refine go (some r) ck (fun q hq => by cases hq; exact hem.2) ?_ h
      rw [hem.1]
      exact run_range_map w t kt e _ ents ck hu hb
    · exact h.elim
  · exact h.elim

theorem sim_next (x : Operand) (ho : o.op = .next x false) {x' : AO} (hx : compX x = some x') (hd : ∀ i, o.dst = some i → i < z.nt)
    (h : kNext K s (ev s.r x')) (hs : SRel z γ w lam s a) : o.wp P a w (Nx z o.dst K) Qx := by
  have hrx := rel_x hs hx
  generalize ev s.r x' = vx at h hrx
  have over : RelV γ w (.tup [.bool false]) (.tuple #[.bool false]) := by
    refine .tup _ _ rfl fun i x u hx hu => ?_
    cases i with
    | zero => simp at hx hu; subst hx; subst hu; exact .bool false
    | succ i => simp at hx
  unfold kNext at h
  split at h
  · rename_i it
    have hem : a.eval x = .pointer (some ⟨γ.rho it, 0, none⟩) ∧ it < γ.n ∧ γ.kd it = false := by have := hrx.ok rfl; generalize a.eval x = c at this; cases this; exact ⟨rfl, by assumption, by assumption⟩
    unfold kNext1 at h
    split at h
    · rename_i since seen last hit
      obtain ⟨_, _, _, hb⟩ := hs.heap.obj it _ hit
      refine nx_val ?_ h hs (.inr (.inr over)) hd
      simp only [execOp, ho, hem.1, Sem.run_bind]
      simp only [Instr.next, Sem.run_bind, run_getObj hb (by simp), Option.map_none, Result.andThen_ok]
      rfl
    · rename_i r since seen last hit
      obtain ⟨hk0, hp0, hm0, hb0⟩ := hs.heap.obj it _ hit
      unfold kNext2 at h
      split at h
      · rename_i _ es bo ck hes
        obtain ⟨hlen, hold, hsl, hover, hstep⟩ := h
        obtain ⟨_, _, ents, hb, hmr⟩ := hs.heap.obj r _ hes
        have hidx : ∀ e ∈ ents.toList, ∃ i, ents[i]? = some e ∧ bo[i]? = some e.born := fun e he => by
          obtain ⟨i, hi⟩ := List.getElem?_of_mem he
          have hi' : ents[i]? = some e := by simpa using hi
          exact ⟨i, hi', hmr.born i e hi'⟩
        have hrun := run_next_at (P := P) w o.type (γ.rho it) (γ.rho r) since last seen.toArray ents ck hb0 hb (fun e he => by
          obtain ⟨i, _, hi⟩ := hidx e he
          exact hold _ (List.mem_of_getElem? hi)) hsl
        rcases hrun with ⟨h0, hrun⟩ | ⟨e, he, w1, hw1, hrun⟩
        · refine nx_val ?_ (hover fun b hb' => ?_) hs (.inr (.inr over)) hd
          · simp only [execOp, ho, hem.1, Sem.run_bind, hrun, Result.andThen_ok, Sem.run_pure]
          · obtain ⟨i, hi⟩ := List.getElem?_of_mem hb'
            have hib : i < ents.size := by rw [hmr.size, hlen]; exact (List.getElem?_eq_some_iff.1 hi).1
            have hbe := hmr.born i ents[i] (Array.getElem?_eq_getElem hib)
            rw [hi] at hbe
            have hbe : b = ents[i].born := by simpa using hbe
            have hnil : leftOf ents seen.toArray = #[] := Array.eq_empty_of_size_eq_zero h0
            unfold leftOf at hnil
            rw [Array.filter_eq_empty_iff] at hnil
            have := hnil ents[i] (Array.getElem_mem hib)
            subst hbe
            simpa using this
        · have he' : e ∈ ents.toList ∧ e.born ∉ seen := by
            unfold leftOf at he
            simpa using he
          obtain ⟨i, hi, hib⟩ := hidx e he'.1
          have hil : i < es.length := by rw [← hmr.size]; exact (Array.getElem?_eq_some_iff.1 hi).1
          have hrel := hmr.rel i es[i] e (List.getElem?_eq_getElem hil) hi
          have hd1 : HRel γ w1 s.h ∧ SRel z γ w1 lam s a := by
            rcases hw1 with rfl | rfl
            · exact ⟨hs.heap, hs⟩
            · have hq := Ev.drew hs.heap
              exact ⟨hq.2, hs.after hq.1 hq.2 hs.low⟩
          have hheap : w1.heap = w.heap := by rcases hw1 with rfl | rfl <;> rfl
          have hs1 := hd1.2
          have hev := Ev.set (w' := Go.ChangeMaps.setBlock w1 (γ.rho it) (.mapIter (some (γ.rho r)) since (seen.toArray.push e.born) ck)) hs1.heap hem.2.1 (.iter (some r) since (seen ++ [e.born]) ck)
            (by simp [Go.ChangeMaps.setBlock]) (fun b hb' => by simp [Go.ChangeMaps.setBlock, Array.getElem?_setIfInBounds_ne (Ne.symm hb')]) rfl rfl rfl hp0 (fun hle => by
              refine ⟨hk0, hp0, hm0, ?_⟩
              have hlt := hs1.heap.lt hem.2.1
              simp [Go.ChangeMaps.setBlock, hlt])
          have low : LowOk z.bs (s.h.set it (.iter (some r) since (seen ++ [e.born]) ck)) := by
            refine lowOk_set hs.low it _ fun b hb' hrb => ?_
            have := (hs.low b hb').2 it _ hrb hit
            simpa [obUnder] using this
          have hv : RelV γ w1 (.tup [.bool true, es[i].1, es[i].2]) (.tuple #[.bool true, e.key, e.val]) := by
            have hle : Le γ w γ w1 := by
              rcases hw1 with rfl | rfl
              · exact Le.refl _ _
              · exact (Ev.drew hs.heap).1.le
            refine .tup _ _ rfl fun j x u hx hu => ?_
            rcases j with _ | _ | _ | j
            · simp at hx hu; subst hx; subst hu; exact .bool true
            · simp at hx hu; subst hx; subst hu; exact hrel.1.mono hle
            · simp at hx hu; subst hx; subst hu; exact hrel.2.2.1.mono hle
            · simp at hx
          refine nx_val ?_ (hstep i es[i].1 es[i].2 e.born (List.getElem?_eq_getElem hil) hib he'.2) (hs1.after hev.1 hev.2 low) (.inr (.inr (hv.mono hev.1.le))) hd
          simp only [execOp, ho, hem.1, Sem.run_bind, hrun, Result.andThen_ok, Sem.run_pure]
      · exact h.elim
    · exact h.elim
  · exact h.elim

theorem bornE_some {b : Nat} : ∀ {es : List (V × V)} {bo : List Nat} {v : V}, bornE b es bo = some v → ∃ (i : Nat) (e : V × V), es[i]? = some e ∧ bo[i]? = some b ∧ v = .tup [e.1, e.2] ∧ ∀ j, j < i → bo[j]? ≠ some b
  | [], _, _, h => by simp [bornE] at h
  | _ :: _, [], _, h => by simp [bornE] at h
  | e :: es, c :: bo, v, h => by
    simp only [bornE] at h
    split at h
    · rename_i hc
      subst hc
      cases h
      exact ⟨0, e, rfl, rfl, rfl, fun j hj => by omega⟩
    · rename_i hc
      obtain ⟨i, e', h1, h2, h3, h4⟩ := bornE_some h
      refine ⟨i + 1, e', by simpa using h1, by simpa using h2, h3, fun j hj => ?_⟩
      cases j with
      | zero => simpa using hc
      | succ j => simpa using h4 j (by omega)

theorem sim_entry (x : Operand) (ho : o.op = .entry x) {x' : AO} (hx : compX x = some x') (hd : ∀ i, o.dst = some i → i < z.nt)
    (h : kSome K s (entV s (ev s.r x'))) (hs : SRel z γ w lam s a) : o.wp P a w (Nx z o.dst K) Qx := by
  obtain ⟨v, hv, hK⟩ := some_of h
  have hrx := rel_x hs hx
  generalize ev s.r x' = vx at hv hrx
  unfold entV at hv
  split at hv
  · rename_i it
    have hem : a.eval x = .pointer (some ⟨γ.rho it, 0, none⟩) := by have := hrx.ok rfl; generalize a.eval x = c at this; cases this; rfl
    unfold entV1 at hv
    split at hv
    · rename_i r since seen last hit
      obtain ⟨_, _, _, hb0⟩ := hs.heap.obj it _ hit
      unfold entV2 at hv
      split at hv
      · rename_i es bo ck hes
        obtain ⟨_, _, ents, hb, hmr⟩ := hs.heap.obj r _ hes
        split at hv
        · rename_i hc
          obtain ⟨rfl, hlen⟩ := hc
          simp only [Option.bind_eq_some_iff] at hv
          obtain ⟨b, hlast, hv⟩ := hv
          obtain ⟨i, e, h1, h2, rfl, h4⟩ := bornE_some hv
          have hil : i < ents.size := by rw [hmr.size]; exact (List.getElem?_eq_some_iff.1 h1).1
          have hbi := hmr.born i ents[i] (Array.getElem?_eq_getElem hil)
          rw [h2] at hbi
          have hbi : b = ents[i].born := by simpa using hbi
          have hrel := hmr.rel i e ents[i] h1 (Array.getElem?_eq_getElem hil)
          have hf : ents.find? (·.born == b) = some ents[i] := by
            rw [Array.find?_eq_some_iff_getElem]
            refine ⟨by simp [hbi], i, hil, rfl, fun j hj => ?_⟩
            have hjl : j < ents.size := by omega
            have hbj := hmr.born j ents[j] (Array.getElem?_eq_getElem hjl)
            have := h4 j hj
            rw [hbj] at this
            simpa using this
          have hv : RelV γ w (.tup [e.1, e.2]) (.tuple #[ents[i].key, ents[i].val]) := by
            refine .tup _ _ rfl fun j x u hx hu => ?_
            rcases j with _ | _ | j
            · simp at hx hu; subst hx; subst hu; exact hrel.1
            · simp at hx hu; subst hx; subst hu; exact hrel.2.2.1
            · simp at hx
          refine nx_val ?_ hK hs (.inr (.inr hv)) hd
          have hback : seen.toArray.back? = some b := by simpa using hlast
          simp only [execOp, ho, hem, Sem.run_bind]
          simp only [Instr.entry, Sem.run_bind, run_getObj hb0 (by simp), Option.map_some, Result.andThen_ok, hback, run_getObj hb (by simp), bne_self_eq_false, Bool.false_eq_true, if_false, hf]
          rfl
        · cases hv
      · cases hv
    · cases hv
  · cases hv

theorem delE_pos (k : V) : ∀ (es : List (V × V)) (bo : List Nat) (x : List (V × V) × List Nat), es.length = bo.length → delE k es bo = some x →
    ∃ p, posE k es = some p ∧ x = match p with | some j => (es.eraseIdx j, bo.eraseIdx j) | none => (es, bo)
  | [], [], x, _, h => by simp [delE] at h; exact ⟨none, by simp [posE], h.symm⟩
  | [], _ :: _, _, hl, _ => by simp at hl
  | _ :: _, [], _, hl, _ => by simp at hl
  | e :: es, b :: bo, x, hl, h => by
    simp only [delE] at h
    simp only [posE]
    split at h
    · rename_i hk
      cases h
      rw [hk]
      exact ⟨some 0, rfl, rfl⟩
    · rename_i hk
      simp only [Option.map_eq_some_iff] at h
      obtain ⟨y, hy, rfl⟩ := h
      obtain ⟨p, hp, he⟩ := delE_pos k es bo y (by simpa using hl) hy
      rw [hk, hp]
      cases p with
      | none => exact ⟨none, rfl, by subst he; rfl⟩
      | some j => exact ⟨some (j + 1), by simp, by subst he; rfl⟩
    · cases h

theorem sim_delete (t u kt e : TypeId) (m k : Operand) (ho : o.op = .call { callee := .builtin .delete, args := #[m, k], argTypes := #[t, u] }) (hu : P.underlying t = some (.map kt e)) {kk : KK} (hkt : keyT P kt = some kk)
    {m' k' : AO} (hm : compX m = some m') (hk : compX k = some k') (hd : ∀ i, o.dst = some i → i < z.nt)
    (h : isKey kk (ev s.r k') = true ∧ kDel (ev s.r k') K s (ev s.r m')) (hs : SRel z γ w lam s a) : o.wp P a w (Nx z o.dst K) Qx := by
  obtain ⟨hkey, h3⟩ := h
  have hrm := rel_x hs hm
  have hrk : RelV γ w (ev s.r k') (a.eval k) := (rel_x hs hk).ok (by generalize ev s.r k' = vk at hkey; cases kk <;> cases vk <;> first | rfl | (simp [isKey] at hkey))
  generalize ev s.r m' = vm at h3 hrm
  generalize ev s.r k' = vk at hkey h3 hrk
  have unit : ∀ (γ : Gh) (w : World), RelV γ w (.tup []) (.tuple #[]) := fun γ w => .tup [] #[] rfl (by simp)
  unfold kDel at h3
  split at h3
  · have hem : a.eval m = .map none := by have := hrm.ok rfl; generalize a.eval m = c at this; cases this; rfl
    refine nx_val (c := .tuple #[]) ?_ h3 hs (.inr (.inr (unit _ _))) hd
    simp [execOp, ho, resolve, invoke, builtin, Builtin.delete_, hem, run_underlying' hu, run_checkKey hkt]
  · rename_i r
    unfold kDel1 at h3
    split at h3
    · rename_i _ es bo clock hes
      cases hse : delE vk es bo with
      | none => rw [hse] at h3; exact h3.elim
      | some x =>
        rw [hse] at h3
        obtain ⟨hkd, hp0, ents, hb, hmr⟩ := hs.heap.obj r _ hes
        have hem : a.eval m = .map (some (γ.rho r)) ∧ r < γ.n := by have := hrm.ok rfl; generalize a.eval m = c at this; cases this; exact ⟨rfl, by assumption⟩
        obtain ⟨p, hp, hx⟩ := delE_pos vk es bo x hmr.len.symm hse
        obtain ⟨d, hud, hdd⟩ := keyT_of hkt
        obtain ⟨f1, f2⟩ := findNow_rel (γ := γ) (w := w) (d := d) hdd hkey hrk es ents.toList 0 (by simpa using hmr.size) (fun i x e hx he => (hmr.rel i x e hx (by simpa using he)).1) p hp
        have low : LowOk z.bs (s.h.set r (.map x.1 x.2 clock)) := by
          refine lowOk_set hs.low r _ fun b hb' hrb => ?_
          have h0 := (hs.low b hb').2 r _ hrb hes
          simp only [obUnder, List.all_eq_true] at h0 ⊢
          intro y hy
          subst hx
          cases p with
          | none => exact h0 y hy
          | some j => exact h0 y (List.mem_of_mem_eraseIdx hy)
        cases p with
        | none =>
          subst hx
          have hfk : (Instr.findKey kt (a.eval k) ents.toList).run P w = .ok none w := by
            simp only [Instr.findKey, Sem.run_bind, run_underlying' hud, Result.andThen_ok, f1]
            rfl
          have hev := Ev.set (w' := { w with heap := w.heap.setIfInBounds (γ.rho r) (.map ents clock) }) hs.heap hem.2 (.map es bo clock) (by simp)
            (fun b hb' => by simp [Array.getElem?_setIfInBounds_ne (Ne.symm hb')]) rfl rfl rfl hp0 (fun hle => ⟨hkd, hp0, ents, by simp [hs.heap.lt hem.2], hmr.mono hle⟩)
          refine nx_val (c := .tuple #[]) ?_ h3 (hs.after hev.1 hev.2 low) (.inr (.inr (unit _ _))) hd
          simp [execOp, ho, resolve, invoke, builtin, Builtin.delete_, hem.1, run_underlying' hu, run_getObj hb (by simp), run_checkKey hkt, hfk]
          simp [setObj, Sem.run, hb]
        | some j =>
          subst hx
          obtain ⟨e0, he0, hbits⟩ := f2 j rfl
          have he0' : ents[j]? = some e0 := by simpa using he0
          have hjl : j < ents.size := (Array.getElem?_eq_some_iff.1 he0').1
          have hfk : (Instr.findKey kt (a.eval k) ents.toList).run P w = .ok (some (j, e0.val)) w := by
            simp only [Instr.findKey, Sem.run_bind, run_underlying' hud, Result.andThen_ok, f1]
            simp [he0']
          have hget : ∀ (i : Nat) (e : MapEntry), (ents.eraseIdxIfInBounds j)[i]? = some e → ents[if i < j then i else i + 1]? = some e := fun i e he => by
            rw [Array.eraseIdxIfInBounds, dif_pos hjl, Array.getElem?_eraseIdx] at he
            by_cases hij : i < j
            · rw [if_pos hij]; rw [if_pos hij] at he; exact he
            · rw [if_neg hij]; rw [if_neg hij] at he; exact he
          have hev := Ev.set (w' := { w with heap := w.heap.setIfInBounds (γ.rho r) (.map (ents.eraseIdxIfInBounds j) clock) }) hs.heap hem.2 (.map (es.eraseIdx j) (bo.eraseIdx j) clock) (by simp)
            (fun b hb' => by simp [Array.getElem?_setIfInBounds_ne (Ne.symm hb')]) rfl rfl rfl hp0 (fun hle => by
              refine ⟨hkd, hp0, ents.eraseIdxIfInBounds j, by simp [hs.heap.lt hem.2], ?_⟩
              have hmr' := hmr.mono hle
              have hjs : j < es.length := by rw [← hmr.size]; exact hjl
              refine ⟨?_, fun i x e hx he => ?_, ?_, fun i e he => ?_⟩
              · rw [Array.eraseIdxIfInBounds, dif_pos hjl, Array.size_eraseIdx, List.length_eraseIdx, if_pos hjs, hmr.size]
              · have h1 := hget i e he
                rw [List.getElem?_eraseIdx] at hx
                refine hmr'.rel (if i < j then i else i + 1) x e ?_ h1
                by_cases hij : i < j
                · rw [if_pos hij]; rw [if_pos hij] at hx; exact hx
                · rw [if_neg hij]; rw [if_neg hij] at hx; exact hx
              · rw [List.length_eraseIdx, List.length_eraseIdx, hmr.len]
              · have h1 := hget i e he
                have h2 := hmr.born _ e h1
                rw [List.getElem?_eraseIdx]
                by_cases hij : i < j
                · rw [if_pos hij]; rw [if_pos hij] at h2; exact h2
                · rw [if_neg hij]; rw [if_neg hij] at h2; exact h2)
          refine nx_val (c := .tuple #[]) ?_ h3 (hs.after hev.1 hev.2 low) (.inr (.inr (unit _ _))) hd
          simp [execOp, ho, resolve, invoke, builtin, Builtin.delete_, hem.1, run_underlying' hu, run_getObj hb (by simp), run_checkKey hkt, hfk]
          simp [setObj, Sem.run, hb]
    · exact h3.elim
  · exact h3.elim

end
end Go.Am
