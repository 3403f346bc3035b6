/- The abstract machine's operations are the model's: boxes that no one turns; rows that may be turned. -/
import Derived.Test.YtkcpkckaahmheaaDoorAmO7
namespace Go.Am

/-- Of rows of so many cells each: where a cell lies. -/
theorem flatMap_get {sz : Nat} (h0 : 0 < sz) : ∀ {xs : List V}, (∀ v ∈ xs, v.cells.length = sz) → (xs.flatMap V.cells).length = xs.length * sz ∧ ∀ k, (xs.flatMap V.cells)[k]? = (xs[k / sz]?).bind fun x => x.cells[k % sz]? := by
  intro xs
  induction xs with
  | nil => intro _; simp
  | cons x xs ih =>
    intro h
    obtain ⟨h1, h2⟩ := ih fun v hv => h v (by simp [hv])
    have hx := h x (by simp)
    refine ⟨by simp only [List.flatMap_cons, List.length_append, h1, hx, List.length_cons, Nat.add_mul]; omega, fun k => ?_⟩
    rw [List.flatMap_cons, List.getElem?_append]
    split
    · rename_i hk
      rw [hx] at hk
      simp [Nat.div_eq_of_lt hk, Nat.mod_eq_of_lt hk]
    · rename_i hk
      rw [hx] at hk ⊢
      rw [h2]
      have e1 : k / sz = (k - sz) / sz + 1 := by rw [← Nat.add_div_right _ h0]; congr 1; omega
      have e2 : k % sz = (k - sz) % sz := by
        have : k = (k - sz) + sz := by omega
        rw [this, Nat.add_mod_right]; simp
      rw [e1, e2, List.getElem?_cons_succ]

theorem replicate_get {α : Type} {zc : List α} (h0 : 0 < zc.length) : ∀ (m : Nat), (List.replicate m zc).flatten.length = m * zc.length ∧ ∀ k, k < m * zc.length → (List.replicate m zc).flatten[k]? = zc[k % zc.length]? := by
  intro m
  induction m with
  | zero => simp
  | succ m ih =>
    refine ⟨by simp, fun k hk => ?_⟩
    rw [List.replicate_succ, List.flatten_cons, List.getElem?_append]
    split
    · rename_i h; rw [Nat.mod_eq_of_lt h]
    · rename_i h
      rw [ih.2 _ (by rw [Nat.add_mul] at hk; omega)]
      have : k = (k - zc.length) + zc.length := by omega
      rw [this, Nat.add_mod_right]; simp

section
variable {P : Program} {A : Ann} {X : CallH} {z : Start} {γ γ' : Gh} {w w' : World} {lam lam' : Nat → Nat} {s s' : St} {a : Act} {o : Oper} {K : V → St → Prop} {Qx : Exit → Act → World → Prop}

theorem sim_fbox (e : TypeId) (x : Operand) (ho : o.op = .box e x) {n : Nat} {x' : AO} (hx : compX x = some x') (hd : ∀ i, o.dst = some i → i < z.nt)
    (h : (ev s.r x').cells.length = n ∧ (ev s.r x').isLoc = false ∧ K (.elp (ev s.r x') 0) s) (hs : SRel z γ w lam s a) : o.wp P a w (Nx z o.dst K) Qx := by
  have hr := (rel_x hs hx).ok h.2.1
  obtain ⟨hev, hh⟩ := Ev.shutNew hs.heap (.cells (a.eval x).cells e) (a.eval x).cells.size
  refine nx_val (c := .pointer (some ⟨w.heap.size, 0, none⟩)) ?_ h.2.2 (hs.after hev hh hs.low) (.inr (.inr ?_)) hd
  · simp [execOp, ho, Instr.box, newVar, newRow]
  · refine .elp _ 0 (a.eval x) w.heap.size 0 (hr.mono hev.le) h.2.1 fun j u hj => ?_
    refine ⟨by simp [Gh.shut]; exact (Array.getElem?_eq_some_iff.1 hj).1, ?_⟩
    rw [Nat.zero_add, World.cell?_alloc_new]
    exact hj

/-- The cells of a row. -/
theorem row_cells {sz : Nat} (h0 : 0 < sz) {xs : List V} {f : Nat → Option Value} (h : Row γ w sz xs f) (hall : ∀ v ∈ xs, v.cells.length = sz) : CellsRel γ w (xs.flatMap V.cells) (flat f (xs.length * sz)).toArray := by
  obtain ⟨g1, g2⟩ := flatMap_get h0 hall
  obtain ⟨f1, f2, f3⟩ := h.flat h0
  refine ⟨by rw [g1]; simp [flat_len], fun k x u hx hu => ?_⟩
  have hu : (flat f (xs.length * sz))[k]? = some u := by simpa using hu
  have hk : k < xs.length * sz := by have := (List.getElem?_eq_some_iff.1 hu).1; rwa [flat_len] at this
  rw [g2, Option.bind_eq_some_iff] at hx
  obtain ⟨y, hy, hyx⟩ := hx
  obtain ⟨c, hc⟩ := h
  obtain ⟨h1, h2, h3, h4⟩ := hc _ y hy
  have hj : k % sz < (c (k / sz)).cells.size := by rw [h3]; exact Nat.mod_lt _ h0
  have e := h4 (k % sz) _ (Array.getElem?_eq_getElem hj)
  have e2 : k / sz * sz + k % sz = k := by rw [Nat.mul_comm]; exact Nat.div_add_mod k sz
  rw [e2] at e
  rw [f3 k hk, e] at hu
  cases hu
  exact (h1.cells h2).2 _ x _ hyx (Array.getElem?_eq_getElem hj)

theorem made_cells {zv : Value} {zx : V} (hr : RelV γ w zx zv) (hl : zx.isLoc = false) (h0 : 0 < zx.cells.length) (m : Nat) : CellsRel γ w (List.replicate m zx.cells).flatten (madeCells zv.cells (m * zx.cells.length)) := by
  have hc := hr.cells hl
  obtain ⟨g1, g2⟩ := replicate_get h0 m
  refine ⟨by rw [g1, size_madeCells], fun k x u hx hu => ?_⟩
  have hk : k < m * zx.cells.length := by rw [← g1]; exact (List.getElem?_eq_some_iff.1 hx).1
  rw [g2 k hk] at hx
  rw [madeCells_get (by rw [hc.1]; exact h0) hk, hc.1] at hu
  exact hc.2 _ x u hx hu

theorem CellsRel.app {as bs : List V} {A B : Array Value} (h : CellsRel γ w as A) (h' : CellsRel γ w bs B) : CellsRel γ w (as ++ bs) (A ++ B) := by
  refine ⟨by simp [h.1, h'.1], fun i x u hx hu => ?_⟩
  rw [List.getElem?_append] at hx
  rw [Array.getElem?_append] at hu
  rw [h.1] at hu
  split at hx
  · rename_i hi
    rw [if_pos hi] at hu
    exact h.2 i x u hx hu
  · rename_i hi
    rw [if_neg hi] at hu
    exact h'.2 _ x u hx hu

theorem CellsRel.preApp {as : List V} {A : Array Value} (h : CellsRel γ w as A) (B : Array Value) : PreRel γ w as (A ++ B) := by
  have h1 := h.1
  refine ⟨by simp; omega, fun i x u hx hu => h.2 i x u hx ?_⟩
  have hi : i < A.size := by have := (List.getElem?_eq_some_iff.1 hx).1; omega
  rwa [Array.getElem?_append_left hi] at hu

/-- A new box that something is made of. -/
theorem sim_new_c {w1 : World} {zc : List V} {arr : Array Value} {e : TypeId} {cf : Addr → Value} {vf : Nat → V} (hrun : (execOp a.eval o).run P w = .ok (.value (cf ⟨w1.heap.size, 0, none⟩)) (w1.alloc (.cells arr e))) (hr : PreRel γ w1 zc arr) (hd : ∀ i, o.dst = some i → i < z.nt)
    (h : K (vf s.h.length) { s with h := s.h ++ [.box zc] }) (hs : SRel z γ w1 lam s a) (hv : ∀ (γ' : Gh) (w' : World) (r : Nat), r < γ'.n → γ'.kd r = false → RelV γ' w' (vf r) (cf ⟨γ'.rho r, 0, none⟩)) : o.wp P a w (Nx z o.dst K) Qx := by
  obtain ⟨hev, hh⟩ := Ev.newOb hs.heap (.cells arr e) false 0 0 0 (.box zc) (fun hle => ⟨by simp [Gh.new], by simp [Gh.new], arr, e, by simp only [Gh.new, if_true]; exact heap_alloc_new w1 _, hr.mono hle⟩)
  refine nx_val hrun h (hs.after hev hh (lowOk_push hs.low _)) (.inr (.inr ?_)) hd
  have hn := hs.heap.n
  have e1 : (γ.new w1.heap.size false 0 0 0).rho s.h.length = w1.heap.size := by simp [Gh.new, hn]
  have hp := hv (γ.new w1.heap.size false 0 0 0) (w1.alloc (.cells arr e)) s.h.length (by simp [Gh.new, hn]) (by simp [Gh.new, hn])
  rw [e1] at hp
  exact hp

theorem sim_mkarr (t e : TypeId) (l c : Operand) (ho : o.op = .makeSlice t l c) (hu : P.underlying t = some (.slice e)) {zc : List V} (hz : zeroC P e = some zc) {i : TypeInfo} (hi : P.info? e = some i) (hb : i.bytes ≤ maxEl) (h0 : 0 < zc.length) (hsz : zc.length = i.size)
    {l' c' : AO} (hl : compX l = some l') (hc : compX c = some c') (hd : ∀ i, o.dst = some i → i < z.nt) (h : kMakeM zc K s (ev s.r l') (ev s.r c')) (hs : SRel z γ w lam s a) : o.wp P a w (Nx z o.dst K) Qx := by
  have hrl := rel_x hs hl
  have hrc := rel_x hs hc
  generalize ev s.r l' = vl at h hrl
  generalize ev s.r c' = vc at h hrc
  unfold kMakeM at h
  split at h
  · rename_i k n k' m
    obtain ⟨h1, h2, h3, hK⟩ := h
    have el := relV_int hrl
    have ec := relV_int hrc
    simp only [zeroC, Option.map_eq_some_iff] at hz
    obtain ⟨zx, hz, rfl⟩ := hz
    obtain ⟨i', zv, hi', hz1, hz2⟩ := zeroV_rel hz
    rw [hi] at hi'
    cases hi'
    obtain ⟨hzr, hzl⟩ := constV_rel γ w zv zx hz2
    simp only [lim] at h3
    simp only [maxEl] at hb
    have hm0 : 0 ≤ m := by omega
    have hbm : (i.bytes : Int) * m ≤ 281474976710656 := by
      have h4 : i.bytes * m.toNat ≤ 70368744177664 := Nat.le_trans (Nat.mul_le_mul hb (show m.toNat ≤ 4294967296 by omega)) (by decide)
      have h5 : ((i.bytes * m.toNat : Nat) : Int) ≤ 70368744177664 := Int.ofNat_le.2 h4
      rw [Int.natCast_mul, Int.toNat_of_nonneg hm0] at h5
      omega
    have hrun := run_make (P := P) w t e i zv hu hi hz1 k k' n m h1 h2 hbm (by omega)
    have hmade := made_cells hzr hzl h0 m.toNat
    rw [hsz] at hmade
    exact (sim_new_c (o := o) (Qx := Qx) (w1 := w) (cf := fun p => .slice (some p) n.toNat m.toNat) (vf := fun r => .msl r 0 n.toNat m.toNat zx.cells.length) (e := e) (by simp [execOp, ho, el, ec, hrun]) hmade.pre hd hK hs
      fun γ' w' r g1 g2 => .msl r 0 _ _ _ _ g1 g2 (by omega) (fun _ => rfl))
  · exact h.elim

theorem zero_cells {zv : Value} {zx : V} (hr : RelV γ w zx zv) (hl : zx.isLoc = false) (h0 : 0 < zx.cells.length) (m : Nat) : CellsRel γ w (List.replicate m zx.cells).flatten (Builtin.zeroCells zv.cells m) := by
  have := made_cells hr hl h0 m
  rw [← (hr.cells hl).1] at this
  exact this

theorem sim_appm (t u e : TypeId) (x y : Operand) (ho : o.op = .call { callee := .builtin .append, args := #[x, y], argTypes := #[t, u] }) (ht : P.underlying t = some (.slice e)) (hu : (∃ e', P.underlying u = some (.slice e')) ∨ P.underlying u = some .string) {i : TypeInfo} (hi : P.info? e = some i) {zc : List V} (hz : zeroC P e = some zc)
    (hb : i.bytes ≤ maxEl) (h0 : 0 < i.size) (hzs : zc.length = i.size) {x' y' : AO} (hx : compX x = some x') (hy : compX y = some y') (hd : ∀ i, o.dst = some i → i < z.nt) (lo : Bool)
    (h : kAppm z.bs i.size (if lo = true then [] else zc) K s (ev s.r x') (elemsOf (ev s.r y'))) (hs : SRel z γ w lam s a) : o.wp P a w (Nx z o.dst K) Qx := by
  have hrx := rel_x hs hx
  have hry := rel_x hs hy
  generalize ev s.r x' = vx at h hrx
  generalize ev s.r y' = vy at h hry
  have exec : ∀ c w', (Builtin.append_ #[t, u] o.type #[a.eval x, a.eval y]).run P w = .ok c w' → (execOp a.eval o).run P w = .ok (.value c) w' := by
    intro c w' hr
    simp [execOp, ho, resolve, invoke, builtin, hr]
  simp only [zeroC, Option.map_eq_some_iff] at hz
  obtain ⟨zx, hz, rfl⟩ := hz
  obtain ⟨i', zv, hi', hz1, hz2⟩ := zeroV_rel hz
  rw [hi] at hi'
  cases hi'
  obtain ⟨hev1, hh1⟩ := Ev.drew hs.heap
  have hs1 : SRel z γ w.drew lam s a := hs.after hev1 hh1 hs.low
  cases he : elemsOf vy with
  | none => rw [he] at h; unfold kAppm at h; split at h <;> first | cases ‹none = some _› | exact h.elim
  | some ys =>
    rw [he] at h
    have hyl : vy.isLoc = false := by unfold elemsOf at he; split at he <;> first | rfl | cases he
    have src : ys ≠ [] → (∀ v ∈ ys, v.cells.length = i.size) → ∃ fy, Row γ w i.size ys fy ∧ Source P w i.size (a.eval y) ys.length (flat fy (ys.length * i.size)) := by
      intro hne hally
      refine source_of (P := P) (hry.ok hyl) he h0 hally fun b hb => ?_
      subst hb
      simp only [elemsOf, Option.some.injEq] at he
      subst he
      cases b with
      | nil => exact .inr rfl
      | cons c cs =>
        have h1 := hally (.int .u8 c.toNat) (by simp)
        exact .inl (by simpa [V.cells] using h1.symm)
    obtain ⟨hzr, hzl⟩ := constV_rel γ w.drew zv zx hz2
    have hz0 : 0 < zx.cells.length := by omega
    simp only [maxEl] at hb
    unfold kAppm at h
    split at h
    · rename_i heq
      cases heq
      have hr := hrx.ok rfl
      obtain ⟨g, _, hsrc⟩ := source_of (P := P) (hry.ok hyl) he h0 (by simp) (fun b hb => by
        subst hb
        simp only [elemsOf, Option.some.injEq, List.map_eq_nil_iff] at he
        exact .inr he)
      generalize hca : a.eval x = c at hr exec
      have hr2 := hr
      cases hr with
      | sl _ _ ad cap c z' hcap htag hnil hspot hvv hzz hat =>
        exact nx_val (exec _ _ (run_append_zero t u o.type e i ht hu hi ad _ cap hcap _ _ hsrc)) h hs (.inr (.inr hr2)) hd
    · rename_i y0 ys0 heq
      cases heq
      obtain ⟨hally, hlim, hK⟩ := h
      have hne : (y0 :: ys0) ≠ [] := by simp
      generalize y0 :: ys0 = ys at hally hlim hK hne src he
      obtain ⟨fy, hrowy, hsrc⟩ := src hne hally
      have hm : 0 < ys.length := by cases ys with | nil => exact absurd rfl hne | cons _ _ => simp
      obtain ⟨ad, cap, hca, hcap, htag, hrow⟩ := (hrx.ok rfl).row (sz := i.size) (by simp)
      rw [hca] at exec
      have hc0 : cap = 0 := htag
      subst hc0
      simp only [lim] at hlim
      have hfits : (0 + ys.length) * i.bytes ≤ 140737488355328 := Nat.le_trans (Nat.mul_le_mul (by omega) hb) (by decide : 4294967296 * 16384 ≤ 140737488355328)
      have hgf := growslice_fits (show 0 < 0 + ys.length by omega) hfits
      have hrun := run_append_new' (P := P) (w := w) t u o.type e i zv ht hu hi hz1 ad 0 0 [] (fun w' _ => by
        rcases hrow with ⟨rfl, _, _⟩ | ⟨b, off, rfl, _, _⟩
        · simp [Builtin.firstCells]
        · have := run_firstCells_some (P := P) w' i.size 0 ⟨b, off, none⟩ 0 0 [] (by simp) (fun j v hj => by simp at hj)
          simpa using this) _ _ _ hsrc (by omega) (by omega) hgf
      simp only [Nat.zero_add] at hrun
      have hge := grownCap_ge w ys.length 0 e
      have hcl := ((row_cells h0 hrowy hally).mono hev1.le).app (zero_cells hzr hzl hz0 (grownCap w ys.length 0 e - ys.length))
      unfold kAppn at hK
      split at hK
      · refine sim_new_c (w1 := w.drew) (cf := fun p => .slice (some p) ys.length (grownCap w ys.length 0 e)) (vf := fun r => .msl r 0 ys.length 0 i.size) (exec _ _ hrun) ?_ hd hK hs1 fun γ' w' r g1 g2 => .msl r 0 _ _ _ _ g1 g2 hge (fun hle => by omega)
        simpa using ((row_cells h0 hrowy hally).mono hev1.le).preApp _
      · rename_i z0 zs hzc
        have hlo : lo = false := by cases lo <;> simp_all
        subst hlo
        simp only [Bool.false_eq_true, if_false] at hzc
        refine sim_new_c (w1 := w.drew) (cf := fun p => .slice (some p) ys.length (grownCap w ys.length 0 e)) (vf := fun r => .msl r 0 ys.length (grownCap w ys.length 0 e) i.size) (exec _ _ hrun) ?_ hd (hK _ hge) hs1 fun γ' w' r g1 g2 => .msl r 0 _ _ _ _ g1 g2 hge (fun _ => rfl)
        rw [← hzc]
        simpa using hcl.pre
    · rename_i r len cap q ys' heq
      cases heq
      obtain ⟨rfl, hne, hally, hlim, hK⟩ := h
      obtain ⟨fy, hrowy, hsrc⟩ := src hne hally
      have hm : 0 < ys.length := by cases ys with | nil => exact absurd rfl hne | cons _ _ => simp
      have hcy := row_cells h0 hrowy hally
      have hr := hrx.ok rfl
      generalize hca : a.eval x = c at hr exec
      cases hr with
      | msl _ _ _ _ _ c h1 h2 h3 h4 =>
        unfold kAppm1 at hK
        split at hK
        · rename_i _ cs hbox
          obtain ⟨hkd, hp, cur, ec, hblk, hcr⟩ := hs.heap.obj r _ hbox
          simp only [lim] at hlim
          split at hK
          · rename_i hroom
            obtain ⟨hfit, hok, hK⟩ := hK
            cases h4 (by omega)
            have hlen := (flatMap_get h0 hally).1
            have hrun := run_append_room' (P := P) (w := w) t u o.type e i ht hu hi (γ.rho r) len cap cur ec hblk (a.eval y) _ _ hsrc hroom (by rw [flat_len]; exact Nat.le_trans hfit hcr.1)
            have hsp := splice_pre hcr hcy (len * i.size) (by rw [hlen]; exact hfit)
            obtain ⟨hev, hh'⟩ := Ev.set (w' := w.setRow (γ.rho r) (cur.toList.take (len * i.size) ++ (flat fy (ys.length * i.size)).toArray.toList ++ cur.toList.drop (len * i.size + (flat fy (ys.length * i.size)).toArray.toList.length)).toArray) hs.heap h1 (.box (splice cs (len * i.size) (ys.flatMap V.cells))) (by simp)
              setRow_other' rfl rfl rfl hp (fun hle => ⟨hkd, hp, _, ec, setRow_heap w _ cur _ ec _ hblk, hsp.mono hle⟩)
            refine nx_val (exec _ _ hrun) hK (hs.after hev hh' (lowOk_set hs.low r _ fun b hb' hrb => ?_)) (.inr (.inr (.msl r 0 _ _ _ _ h1 h2 hroom (fun _ => rfl)))) hd
            exact underL_splice ((hs.low b hb').2 r _ hrb hbox) (hok b hb' hrb)
          · rename_i hroom
            obtain ⟨hlc, hfit, hK⟩ := hK
            cases h4 hlc
            have hfits : (len + ys.length) * i.bytes ≤ 140737488355328 := Nat.le_trans (Nat.mul_le_mul (by omega) hb) (by decide : 4294967296 * 16384 ≤ 140737488355328)
            have hgf := growslice_fits (show cap < len + ys.length by omega) hfits
            have hol : (cur.toList.take (len * i.size)).length = len * i.size := by simp; have := hcr.1; omega
            have hrun := run_append_new' (P := P) (w := w) t u o.type e i zv ht hu hi hz1 (some ⟨γ.rho r, 0, none⟩) len cap (cur.toList.take (len * i.size)) (fun w' hw => 
              run_firstCells_some (P := P) w' i.size len ⟨γ.rho r, 0, none⟩ len cap _ hol (fun j v hj => by
                rw [addr_add, hw, Nat.zero_add, cell_of_row w _ j cur ec (0, 0) hblk]
                rw [List.getElem?_take] at hj
                split at hj
                · simpa using hj
                · cases hj)) _ _ _ hsrc (by omega) (by omega) hgf
            have hge := grownCap_ge w (len + ys.length) cap e
            refine sim_new_c (w1 := w.drew) (cf := fun p => .slice (some p) (len + ys.length) (grownCap w (len + ys.length) cap e)) (vf := fun r => .msl r 0 (len + ys.length) (grownCap w (len + ys.length) cap e) i.size) (exec _ _ hrun) ?_ hd (hK _ hge) hs1 fun γ' w' r g1 g2 => .msl r 0 _ _ _ _ g1 g2 hge (fun _ => rfl)
            have hto : CellsRel γ w (cs.take (len * i.size)) (cur.toList.take (len * i.size)).toArray := by
              refine ⟨by have := hcr.1; simp; omega, fun k x u hx hu => ?_⟩
              rw [List.getElem?_take] at hx
              have hu : (cur.toList.take (len * i.size))[k]? = some u := by simpa using hu
              rw [List.getElem?_take] at hu
              split at hx
              · rename_i hk
                rw [if_pos hk] at hu
                exact hcr.2 k x u hx (by simpa using hu)
              · cases hx
            have hcl := ((hto.app hcy).mono hev1.le).app (zero_cells hzr hzl hz0 (grownCap w (len + ys.length) cap e - (len + ys.length)))
            cases lo with
            | false => exact hcl.pre
            | true => simpa using ((hto.app hcy).mono hev1.le).preApp _
        · exact hK.elim
    · exact h.elim

/-- A row that may be turned, as it lies. -/
theorem msl_row (hs : SRel z γ w lam s a) {r off len cap : Nat} {c : Value} (hr : RelV γ w (.msl r off len cap 1) c) {cs : List V} (hb : s.h[r]? = some (.box cs)) (hl : off + len ≤ cs.length) :
    ∃ c', c = .slice (some ⟨γ.rho r, off, none⟩) ((cs.drop off).take len).length c' ∧ ((cs.drop off).take len).length = len ∧ len ≤ c' ∧ (len ≤ cap → c' = cap) ∧ Row γ w 1 ((cs.drop off).take len) (fun k => w.cell? ⟨γ.rho r, off + k, none⟩) := by
  have hlen : ((cs.drop off).take len).length = len := by simp; omega
  cases hr with
  | msl _ _ _ _ _ c' h1 h2 h3 h4 =>
    obtain ⟨_, _, arr, e, hblk, hpr⟩ := hs.heap.obj r _ hb
    refine ⟨c', by rw [hlen], hlen, h3, h4, fun i => arr.getD (off + i) .nilIface, fun i x hx => ?_⟩
    rw [List.getElem?_take] at hx
    split at hx
    · rename_i hi
      rw [List.getElem?_drop] at hx
      obtain ⟨u, hu, hru, hone⟩ := hpr.get hx
      have hg : arr.getD (off + i) .nilIface = u := by rw [Array.getD_eq_getD_getElem?, hu]; rfl
      simp only [hg]
      have hx2 : x.isLoc = false ∧ u.cells = #[u] := by
        clear hg hu hx
        cases hru <;> first | exact ⟨rfl, rfl⟩ | (simp [Value.oneCell'] at hone)
      refine ⟨hru, hx2.1, by rw [hx2.2]; rfl, fun j v hj => ?_⟩
      rw [hx2.2] at hj
      cases j with
      | succ j => simp at hj
      | zero =>
        simp at hj
        subst hj
        rw [cell_of_row w _ _ arr e (0, 0) hblk]
        simpa using hu
    · cases hx

theorem oneV_rel {cs : List V} {arr : Array Value} (hr : CellsRel γ w cs arr) (h0 : 0 < cs.length) : ∃ c, RelV γ w (oneV cs) c ∧ (oneV cs).isLoc = false ∧ c.cells = arr := by
  match cs, h0, hr with
  | [x], _, hr =>
    have hs1 : arr.size = 1 := hr.1
    have hg : arr[0]? = some arr[0] := Array.getElem?_eq_getElem (by omega)
    obtain ⟨h1, h2⟩ := hr.2 0 x arr[0] rfl hg
    have hx : x.isLoc = false ∧ arr[0].cells = #[arr[0]] := by
      generalize arr[0] = u at h1 h2
      cases h1 <;> first | exact ⟨rfl, rfl⟩ | (simp [Value.oneCell'] at h2)
    refine ⟨arr[0], h1, hx.1, ?_⟩
    rw [hx.2]
    apply Array.ext
    · simp [hs1]
    · intro i h3 h4
      have : i = 0 := by simp at h3; omega
      subst this
      rfl
  | x :: y :: l, _, hr => exact ⟨.agg arr, hr.agg, rfl, rfl⟩

/-- A row that grows, as it lies. -/
theorem vec_row (hs : SRel z γ w lam s a) {r ver off len zz : Nat} {c : Value} (hr : RelV γ w (.vec r ver off len zz) c) {v z' : Nat} {cs : List V} (hb : s.h[r]? = some (.vec v z' cs)) (hver : v = ver) (h0 : 0 < zz) (hl : off + len * zz ≤ cs.length) :
    ∃ c', c = .slice (some ⟨γ.rho r, off, none⟩) len c' ∧ (rowsOf cs zz off len).length = len ∧ Row γ w zz (rowsOf cs zz off len) (fun k => w.cell? ⟨γ.rho r, off + k, none⟩) := by
  have hget : ∀ (n off i : Nat), (rowsOf cs zz off n)[i]? = if i < n then some (oneV ((cs.drop (off + i * zz)).take zz)) else none := by
    intro n
    induction n with
    | zero => intro off i; simp [rowsOf]
    | succ n ih =>
      intro off i
      cases i with
      | zero => simp [rowsOf]
      | succ i =>
        simp only [rowsOf, List.getElem?_cons_succ, ih]
        have e : off + zz + i * zz = off + (i + 1) * zz := by rw [Nat.add_mul]; omega
        rw [e]
        simp
  have hlen : ∀ (n off : Nat), (rowsOf cs zz off n).length = n := by
    intro n
    induction n with
    | zero => intro off; rfl
    | succ n ih => intro off; simp [rowsOf, ih]
  cases hr with
  | vec _ _ _ _ _ b o c' h1 h2 h3 h4 h5 =>
    obtain ⟨_, hff, _, _, _, arr, e, hblk, _, hpr⟩ := hs.heap.obj r _ hb
    obtain ⟨rfl, rfl, _⟩ := h5 (by omega)
    refine ⟨c', rfl, hlen _ _, ?_⟩
    have elt : ∀ i, i < len → ∃ c, RelV γ w (oneV ((cs.drop (o + i * zz)).take zz)) c ∧ (oneV ((cs.drop (o + i * zz)).take zz)).isLoc = false ∧ c.cells = arr.extract (o + i * zz) (o + i * zz + zz) ∧ c.cells.size = zz := fun i hi => by
      have hle : o + i * zz + zz ≤ cs.length := by
        have : i * zz + zz ≤ len * zz := by
          calc i * zz + zz = (i + 1) * zz := by rw [Nat.add_mul]; omega
            _ ≤ len * zz := Nat.mul_le_mul_right _ hi
        omega
      obtain ⟨c, g1, g2, g3⟩ := oneV_rel (hpr.take (o + i * zz) zz (by omega)) (by simp; omega)
      exact ⟨c, g1, g2, g3, by rw [g3]; simp; have := hpr.1; omega⟩
    let cf : Nat → Value := fun i => open Classical in if hi : i < len then Classical.choose (elt i hi) else .nilIface
    have hcf : ∀ i (hi : i < len), RelV γ w (oneV ((cs.drop (o + i * zz)).take zz)) (cf i) ∧ (oneV ((cs.drop (o + i * zz)).take zz)).isLoc = false ∧ (cf i).cells = arr.extract (o + i * zz) (o + i * zz + zz) ∧ (cf i).cells.size = zz := fun i hi => by
      have := Classical.choose_spec (elt i hi)
      simp only [cf, dif_pos hi]
      exact this
    refine ⟨cf, fun i x hx => ?_⟩
    rw [hget] at hx
    split at hx
    · rename_i hi
      cases hx
      obtain ⟨q1, q2, q3, q4⟩ := hcf i hi
      refine ⟨q1, q2, q4, fun j u hj => ?_⟩
      rw [q3, Array.getElem?_extract] at hj
      split at hj
      · show w.cell? ⟨γ.rho r, o + (i * zz + j), none⟩ = some u
        rw [cell_of_row w _ _ arr e (0, 0) hblk]
        rw [← hj]
        congr 1
        omega
      · cases hj
    · cases hx

theorem rows_one {cs : List V} : ∀ (n off : Nat), off + n ≤ cs.length → rowsOf cs 1 off n = (cs.drop off).take n
  | 0, off, _ => by simp [rowsOf]
  | n + 1, off, h => by
    have hlt : off < cs.length := by omega
    have h1 : (cs.drop off).take 1 = [cs[off]] := by rw [List.drop_eq_getElem_cons hlt]; rfl
    have h2 : (cs.drop off).take (n + 1) = cs[off] :: (cs.drop (off + 1)).take n := by rw [List.drop_eq_getElem_cons hlt]; rfl
    rw [rowsOf, rows_one n (off + 1) (by omega), h1, h2]
    rfl

theorem rd_cases {v : V} {tg : Tag} {xs : List V} (h : rdV s v = .sl tg xs) : v = .sl tg xs ∨ (∃ r off len cap cs, v = .msl r off len cap 1 ∧ s.h[r]? = some (.box cs) ∧ off + len ≤ cs.length ∧ tg = (if len = cap then .clip else .frozen) ∧ xs = (cs.drop off).take len) ∨
    ∃ r ver off len v' z cs, v = .vec r ver off len 1 ∧ s.h[r]? = some (.vec v' z cs) ∧ v' = ver ∧ off + len ≤ cs.length ∧ tg = .frozen ∧ xs = (cs.drop off).take len := by
  unfold rdV at h
  split at h
  · rename_i r off len cap
    unfold rdO at h
    split at h
    · rename_i cs hb
      split at h
      · rename_i hl
        simp only [V.sl.injEq] at h
        exact .inr (.inl ⟨r, off, len, cap, cs, rfl, hb, hl, h.1.symm, h.2.symm⟩)
      · cases h
    · cases h
  · rename_i r ver off len
    unfold rdW at h
    split at h
    · rename_i v' z cs hb
      split at h
      · rename_i hl
        simp only [V.sl.injEq] at h
        exact .inr (.inr ⟨r, ver, off, len, v', z, cs, rfl, hb, hl.1, hl.2, h.1.symm, h.2.symm⟩)
      · cases h
    · cases h
  · exact .inl h

/-- What is read as a row. -/
theorem rd_row (hs : SRel z γ w lam s a) {v : V} {c : Value} (hr : RelR γ w lam s.l v c) {tg : Tag} {xs : List V} (hv : rdV s v = .sl tg xs) (hall : ∀ v ∈ xs, v.cells.length = 1) :
    ∃ ad cap, c = .slice ad xs.length cap ∧ xs.length ≤ cap ∧ TagOk γ tg ad xs.length cap ∧ ((ad = none ∧ xs = [] ∧ cap = 0) ∨ ∃ b off, ad = some ⟨b, off, none⟩ ∧ Row γ w 1 xs (fun k => w.cell? ⟨b, off + k, none⟩)) := by
  rcases rd_cases hv with rfl | ⟨r, off, len, cap, cs, rfl, hb, hl, rfl, rfl⟩ | ⟨r, ver, off, len, v', zz, cs, rfl, hb, hver, hl, rfl, rfl⟩
  · obtain ⟨ad, cap, h1, h2, h3, h4⟩ := (hr.ok rfl).row hall
    exact ⟨ad, cap, h1, h2, h3, h4.imp id fun ⟨b, off, e1, e2, _⟩ => ⟨b, off, e1, e2⟩⟩
  · obtain ⟨c', h1, h2, h3, h4, h5⟩ := msl_row hs (hr.ok rfl) hb hl
    refine ⟨_, c', h1, by omega, ?_, .inr ⟨_, off, rfl, h5⟩⟩
    split
    · rename_i e
      have := h4 (by omega)
      show c' = _
      omega
    · trivial
  · have hrel := hr.ok rfl
    obtain ⟨c', h1, h2, h3⟩ := vec_row hs hrel hb hver (by omega) (by omega)
    rw [rows_one len off hl] at h2 h3
    subst h1
    refine ⟨_, c', by rw [h2], ?_, trivial, .inr ⟨_, off, rfl, h3⟩⟩
    rw [h2]
    cases hrel with
    | vec _ _ _ _ _ _ _ _ _ _ _ h4 _ => exact h4

theorem source_row {c : Value} {ad : Option Addr} {cap sz : Nat} {xs : List V} (hsz : 0 < sz) (hc : c = .slice ad xs.length cap) (hrow : (ad = none ∧ xs = [] ∧ cap = 0) ∨ ∃ b off, ad = some ⟨b, off, none⟩ ∧ Row γ w sz xs (fun k => w.cell? ⟨b, off + k, none⟩)) :
    ∃ g, Row γ w sz xs g ∧ Source P w sz c xs.length (flat g (xs.length * sz)) := by
  subst hc
  rcases hrow with ⟨rfl, rfl, rfl⟩ | ⟨b, off, rfl, hr⟩
  · exact ⟨fun _ => none, Row.nil _ _, ⟨fun w' => rfl, fun w' _ => by simp [Builtin.firstCells, flat], by simp [flat], by simp [flat]⟩⟩
  · obtain ⟨f1, f2, f3⟩ := hr.flat hsz
    refine ⟨_, hr, ⟨fun w' => rfl, fun w' hw => ?_, flat_len _ _, f2⟩⟩
    exact run_firstCells_some (P := P) w' sz _ ⟨b, off, none⟩ _ cap _ (flat_len _ _) (fun j v hj => by rw [addr_add, hw]; exact f1 j v hj)

theorem sim_appE (t u e : TypeId) (x y : Operand) (ho : o.op = .call { callee := .builtin .append, args := #[x, y], argTypes := #[t, u] }) (ht : P.underlying t = some (.slice e)) (hu : (∃ e', P.underlying u = some (.slice e')) ∨ P.underlying u = some .string) {i : TypeInfo} (hi : P.info? e = some i) {zc : List V} (hz : zeroC P e = some zc)
    (hb : i.bytes ≤ maxEl) (h0 : 0 < i.size) (hzs : zc.length = i.size) {x' y' : AO} (hx : compX x = some x') (hy : compX y = some y') (hd : ∀ i, o.dst = some i → i < z.nt)
    (h : kAppE i.size K s (ev s.r x') (ev s.r y')) (hs : SRel z γ w lam s a) : o.wp P a w (Nx z o.dst K) Qx := by
  have hrx := rel_x hs hx
  have hry := rel_x hs hy
  generalize ev s.r x' = vx at h hrx
  generalize ev s.r y' = vy at h hry
  obtain ⟨h1, h2, h⟩ := h
  refine sim_append_core t u e x y ho ht hu hi hz hb h0 hzs hd (vx := rdV s vx) (yo := elemsOf (rdV s vy)) (fun tg xs hv hall => ?_) (fun ys he hall => ?_) (fun hn tg xs hv => ?_) (by rw [h1]; exact h) hs
  · rw [h1] at hall ⊢
    exact rd_row hs hrx hv hall
  · rw [h1] at hall ⊢
    cases hrd : rdV s vy with
    | sl tg ys' =>
      rw [hrd] at he
      simp only [elemsOf, Option.some.injEq] at he
      subst he
      obtain ⟨ad, cap, g1, _, _, g2⟩ := rd_row hs hry hrd hall
      exact source_row (by omega) g1 g2
    | str b =>
      have hvy : vy = .str b := by
        unfold rdV at hrd
        split at hrd
        · unfold rdO at hrd
          split at hrd
          · split at hrd <;> cases hrd
          · cases hrd
        · unfold rdW at hrd
          split at hrd
          · split at hrd <;> cases hrd
          · cases hrd
        · exact hrd
      subst hvy
      rw [hrd] at he
      exact source_of (P := P) (hry.ok rfl) he (by omega) hall fun _ _ => .inl rfl
    | _ => rw [hrd] at he; cases he
  · rcases rd_cases hv with e | ⟨r, off, len, cap, cs, rfl, _⟩ | ⟨r, ver, off, len, v', zz, cs, rfl, _⟩
    · rw [hv, ← e]; exact hrx
    · exact absurd hn (h2 rfl)
    · exact absurd hn (h2 rfl)

theorem sim_bslM (t e : TypeId) (n : Nat) (ps : Array (Nat × Operand)) (ho : o.op = .buildSlice t n ps) (hu : P.underlying t = some (.slice e)) {zc : List V} (hz : zeroC P e = some zc) {m : Nat} (hm : sizeT P e = some m)
    {qs : List (Nat × AO)} (hq : compIdx ps.toList = some qs) (h0 : 0 < zc.length) (hzm : zc.length = m) (hlim : n * zc.length ≤ 16777216) (hd : ∀ i, o.dst = some i → i < z.nt)
    (h : kBslM zc n K s (buildS s.r zc.length qs (List.replicate n (oneV zc)))) (hs : SRel z γ w lam s a) : o.wp P a w (Nx z o.dst K) Qx := by
  cases hb : buildS s.r zc.length qs (List.replicate n (oneV zc)) with
  | none => rw [hb] at h; exact h.elim
  | some xs' =>
  rw [hb] at h
  simp only [zeroC, Option.map_eq_some_iff] at hz
  obtain ⟨zx, hz, rfl⟩ := hz
  obtain ⟨i, zv, hi, hz1, hz2⟩ := zeroV_rel hz
  obtain ⟨hzr, hzl⟩ := constV_rel γ w zv zx hz2
  have hzs := (hzr.cells hzl).1
  have hrow := row_made hzr hzl h0 n (n * m) (by rw [hzm]; exact Nat.le_refl _)
  have hsz : (madeCells zv.cells (n * m)).size = (List.replicate n (oneV zx.cells)).length * zx.cells.length := by rw [size_madeCells]; simp [hzm]
  obtain ⟨arr', g1, g2, g3, g4⟩ := fill_row hs zx.cells.length ps.toList qs hq _ _ xs' hrow hsz hb
  have hlen : xs'.length = n := by rw [g4]; simp
  have hrun : (execOp a.eval o).run P w = .ok (.value (.slice (some ⟨w.heap.size, 0, none⟩) n n)) (w.alloc (.cells arr' e)) := by
    have hnm : ¬ (16777216 < n * m) := by rw [← hzm]; omega
    have hfill : Instr.fill (fun i => some (i * m, m)) (madeCells zv.cells (n * m)) (ps.map fun p => (p.1, a.eval p.2)).toList = some arr' := by
      rw [← hzm]; rw [← hzm] at g1; simpa using g1
    by_cases hn0 : n * m = 0
    · have hmade : madeCells zv.cells (n * m) = #[] := by rw [hn0]; simp [madeCells, Array.range_zero']
      rw [hmade] at hfill
      have hn : n = 0 := by
        rcases Nat.mul_eq_zero.1 hn0 with h | h
        · exact h
        · omega
      subst hn
      simp at hfill
      simp [execOp, ho, Instr.buildSlice, run_underlying' hu, run_sizeOf' hm, Array.range_zero', hfill, newRow]
    · simp only [madeCells] at hfill
      simp at hfill
      simp [execOp, ho, Instr.buildSlice, run_underlying' hu, run_sizeOf' hm, hnm, hn0, run_zeroValue hi hz1, hfill, newRow]
  have hall : ∀ v ∈ xs', v.cells.length = zx.cells.length := fun v hv => by
    obtain ⟨k, hk⟩ := List.getElem?_of_mem hv
    obtain ⟨c, hc⟩ := g2
    obtain ⟨q1, q2, q3, _⟩ := hc k v hk
    rw [← (q1.cells q2).1, q3]
  have hcl := row_cells h0 g2 hall
  have harr : (flat (fun k => arr'[k]?) (xs'.length * zx.cells.length)).toArray = arr' := by
    apply Array.ext'
    apply List.ext_getElem?
    intro k
    simp only [flat]
    by_cases hk : k < xs'.length * zx.cells.length
    · have hk2 : k < arr'.size := by rw [g3]; exact hk
      simp [hk, hk2]
    · rw [List.getElem?_eq_none (by simpa using hk), List.getElem?_eq_none (by rw [Array.length_toList, g3]; omega)]
  rw [harr] at hcl
  exact sim_new_c (o := o) (Qx := Qx) (w1 := w) (cf := fun p => .slice (some p) n n) (vf := fun r => .msl r 0 n n zx.cells.length) (e := e) hrun hcl.pre hd h hs
    fun γ' w' r q1 q2 => .msl r 0 _ _ _ _ q1 q2 (Nat.le_refl _) (fun _ => rfl)

/-- A new row that grows. -/
theorem sim_newV {w1 : World} {zc : List V} {arr : Array Value} {e : TypeId} {n c sz : Nat} (hrun : (execOp a.eval o).run P w = .ok (.value (.slice (some ⟨w1.heap.size, 0, none⟩) n c)) (w1.alloc (.cells arr e))) (hr : PreRel γ w1 zc arr) (hz : 0 < sz) (hc : c ≤ maxLen) (hn : n ≤ c) (hsz : arr.size = c * sz) (hd : ∀ i, o.dst = some i → i < z.nt)
    (h : K (.vec s.h.length 0 0 n sz) { s with h := s.h ++ [.vec 0 sz zc] }) (hs : SRel z γ w1 lam s a) : o.wp P a w (Nx z o.dst K) Qx := by
  obtain ⟨hev, hh⟩ := Ev.newOb hs.heap (.cells arr e) true 0 c 0 (.vec 0 sz zc) (fun hle => ⟨by simp [Gh.new], by simp [Gh.new], hz, by simpa [Gh.new] using hc, by simp [Gh.new], arr, e, by simp only [Gh.new, if_true]; exact heap_alloc_new w1 _, by simpa [Gh.new] using hsz, hr.mono hle⟩)
  have hn' := hs.heap.n
  refine nx_val hrun h (hs.after hev hh (lowOk_push hs.low _)) (.inr (.inr ?_)) hd
  exact .vec _ _ _ _ _ _ _ _ (by simp [Gh.new, hn']) (by simp [Gh.new, hn']) (Nat.zero_le _) hn (fun _ => ⟨by simp [Gh.new, hn'], rfl, fun _ => by simp [Gh.new, hn']⟩)

theorem sim_mkvec (t e : TypeId) (l c : Operand) (ho : o.op = .makeSlice t l c) (hu : P.underlying t = some (.slice e)) {zc : List V} (hz : zeroC P e = some zc) {i : TypeInfo} (hi : P.info? e = some i) (hb : i.bytes ≤ maxEl) (h0 : 0 < zc.length) (hsz : zc.length = i.size)
    {l' c' : AO} (hl : compX l = some l') (hc : compX c = some c') (hd : ∀ i, o.dst = some i → i < z.nt) (h : kMakeV zc K s (ev s.r l') (ev s.r c')) (hs : SRel z γ w lam s a) : o.wp P a w (Nx z o.dst K) Qx := by
  have hrl := rel_x hs hl
  have hrc := rel_x hs hc
  generalize ev s.r l' = vl at h hrl
  generalize ev s.r c' = vc at h hrc
  unfold kMakeV at h
  split at h
  · rename_i k n k' m
    obtain ⟨h1, h2, h3, hK⟩ := h
    have el := relV_int hrl
    have ec := relV_int hrc
    simp only [zeroC, Option.map_eq_some_iff] at hz
    obtain ⟨zx, hz, rfl⟩ := hz
    obtain ⟨i', zv, hi', hz1, hz2⟩ := zeroV_rel hz
    rw [hi] at hi'
    cases hi'
    obtain ⟨hzr, hzl⟩ := constV_rel γ w zv zx hz2
    simp only [lim] at h3
    simp only [maxEl] at hb
    have hm0 : 0 ≤ m := by omega
    have hbm : (i.bytes : Int) * m ≤ 281474976710656 := by
      have h4 : i.bytes * m.toNat ≤ 70368744177664 := Nat.le_trans (Nat.mul_le_mul hb (show m.toNat ≤ 4294967296 by omega)) (by decide)
      have h5 : ((i.bytes * m.toNat : Nat) : Int) ≤ 70368744177664 := Int.ofNat_le.2 h4
      rw [Int.natCast_mul, Int.toNat_of_nonneg hm0] at h5
      omega
    have hrun := run_make (P := P) w t e i zv hu hi hz1 k k' n m h1 h2 hbm (by omega)
    have hmade := made_cells hzr hzl h0 m.toNat
    have hlen := (replicate_get (zc := zx.cells) h0 n.toNat).1
    have hlen2 := (replicate_get (zc := zx.cells) h0 m.toNat).1
    have hle : n.toNat * zx.cells.length ≤ m.toNat * zx.cells.length := Nat.mul_le_mul_right _ (by omega)
    have hpre : PreRel γ w (List.replicate n.toNat zx.cells).flatten (madeCells zv.cells (m.toNat * zx.cells.length)) := by
      refine ⟨by rw [hlen, size_madeCells]; exact hle, fun k x u hx hu => ?_⟩
      have hk : k < n.toNat * zx.cells.length := by rw [← hlen]; exact (List.getElem?_eq_some_iff.1 hx).1
      refine hmade.2 k x u ?_ hu
      rw [(replicate_get (zc := zx.cells) h0 n.toNat).2 k hk] at hx
      rw [(replicate_get (zc := zx.cells) h0 m.toNat).2 k (by omega)]
      exact hx
    have hsz2 : (madeCells zv.cells (m.toNat * zx.cells.length)).size = m.toNat * zx.cells.length := size_madeCells ..
    refine sim_newV (w1 := w) (e := e) ?_ hpre h0 (by unfold maxLen; omega) (by omega) hsz2 hd hK hs
    rw [hsz]
    simp [execOp, ho, el, ec, hrun]
  · exact h.elim

theorem sim_bslV (t e : TypeId) (n : Nat) (ps : Array (Nat × Operand)) (ho : o.op = .buildSlice t n ps) (hu : P.underlying t = some (.slice e)) {zc : List V} (hz : zeroC P e = some zc) {m : Nat} (hm : sizeT P e = some m)
    {qs : List (Nat × AO)} (hq : compIdx ps.toList = some qs) (h0 : 0 < zc.length) (hzm : zc.length = m) (hlim : n * zc.length ≤ 16777216) (hd : ∀ i, o.dst = some i → i < z.nt)
    (h : kBslV zc n K s (buildS s.r zc.length qs (List.replicate n (oneV zc)))) (hs : SRel z γ w lam s a) : o.wp P a w (Nx z o.dst K) Qx := by
  cases hb : buildS s.r zc.length qs (List.replicate n (oneV zc)) with
  | none => rw [hb] at h; exact h.elim
  | some xs' =>
  rw [hb] at h
  simp only [zeroC, Option.map_eq_some_iff] at hz
  obtain ⟨zx, hz, rfl⟩ := hz
  obtain ⟨i, zv, hi, hz1, hz2⟩ := zeroV_rel hz
  obtain ⟨hzr, hzl⟩ := constV_rel γ w zv zx hz2
  have hzs := (hzr.cells hzl).1
  have hrow := row_made hzr hzl h0 n (n * m) (by rw [hzm]; exact Nat.le_refl _)
  have hsz : (madeCells zv.cells (n * m)).size = (List.replicate n (oneV zx.cells)).length * zx.cells.length := by rw [size_madeCells]; simp [hzm]
  obtain ⟨arr', g1, g2, g3, g4⟩ := fill_row hs zx.cells.length ps.toList qs hq _ _ xs' hrow hsz hb
  have hlen : xs'.length = n := by rw [g4]; simp
  have hrun : (execOp a.eval o).run P w = .ok (.value (.slice (some ⟨w.heap.size, 0, none⟩) n n)) (w.alloc (.cells arr' e)) := by
    have hnm : ¬ (16777216 < n * m) := by rw [← hzm]; omega
    have hfill : Instr.fill (fun i => some (i * m, m)) (madeCells zv.cells (n * m)) (ps.map fun p => (p.1, a.eval p.2)).toList = some arr' := by
      rw [← hzm]; rw [← hzm] at g1; simpa using g1
    by_cases hn0 : n * m = 0
    · have hmade : madeCells zv.cells (n * m) = #[] := by rw [hn0]; simp [madeCells, Array.range_zero']
      rw [hmade] at hfill
      have hn : n = 0 := by
        rcases Nat.mul_eq_zero.1 hn0 with h | h
        · exact h
        · omega
      subst hn
      simp at hfill
      simp [execOp, ho, Instr.buildSlice, run_underlying' hu, run_sizeOf' hm, Array.range_zero', hfill, newRow]
    · simp only [madeCells] at hfill
      simp at hfill
      simp [execOp, ho, Instr.buildSlice, run_underlying' hu, run_sizeOf' hm, hnm, hn0, run_zeroValue hi hz1, hfill, newRow]
  have hall : ∀ v ∈ xs', v.cells.length = zx.cells.length := fun v hv => by
    obtain ⟨k, hk⟩ := List.getElem?_of_mem hv
    obtain ⟨c, hc⟩ := g2
    obtain ⟨q1, q2, q3, _⟩ := hc k v hk
    rw [← (q1.cells q2).1, q3]
  have hcl := row_cells h0 g2 hall
  have harr : (flat (fun k => arr'[k]?) (xs'.length * zx.cells.length)).toArray = arr' := by
    apply Array.ext'
    apply List.ext_getElem?
    intro k
    simp only [flat]
    by_cases hk : k < xs'.length * zx.cells.length
    · have hk2 : k < arr'.size := by rw [g3]; exact hk
      simp [hk, hk2]
    · rw [List.getElem?_eq_none (by simpa using hk), List.getElem?_eq_none (by rw [Array.length_toList, g3]; omega)]
  rw [harr] at hcl
  have hmax : n ≤ maxLen := by
    have : n * 1 ≤ n * zx.cells.length := Nat.mul_le_mul_left _ h0
    unfold maxLen; omega
  exact sim_newV (o := o) (Qx := Qx) (w1 := w) (e := e) hrun hcl.pre h0 hmax (Nat.le_refl _) (by rw [g3, hlen]) hd h hs

theorem sim_appV (t u e : TypeId) (x y : Operand) (ho : o.op = .call { callee := .builtin .append, args := #[x, y], argTypes := #[t, u] }) (ht : P.underlying t = some (.slice e)) (hu : (∃ e', P.underlying u = some (.slice e')) ∨ P.underlying u = some .string) {i : TypeInfo} (hi : P.info? e = some i) {zc : List V} (hz : zeroC P e = some zc)
    (hb : i.bytes ≤ maxEl) (h0 : 0 < i.size) (hzs : zc.length = i.size) {x' y' : AO} (hx : compX x = some x') (hy : compX y = some y') (hd : ∀ i, o.dst = some i → i < z.nt)
    (h : kAppV z.bs i.size K s (ev s.r x') (elemsW s i.size (ev s.r y'))) (hs : SRel z γ w lam s a) : o.wp P a w (Nx z o.dst K) Qx := by
  have hrx := rel_x hs hx
  have hry := rel_x hs hy
  generalize ev s.r x' = vx at h hrx
  generalize ev s.r y' = vy at h hry
  have exec : ∀ c w', (Builtin.append_ #[t, u] o.type #[a.eval x, a.eval y]).run P w = .ok c w' → (execOp a.eval o).run P w = .ok (.value c) w' := by
    intro c w' hr
    simp [execOp, ho, resolve, invoke, builtin, hr]
  simp only [zeroC, Option.map_eq_some_iff] at hz
  obtain ⟨zx, hz, rfl⟩ := hz
  obtain ⟨i', zv, hi', hz1, hz2⟩ := zeroV_rel hz
  rw [hi] at hi'
  cases hi'
  obtain ⟨hev1, hh1⟩ := Ev.drew hs.heap
  have hs1 : SRel z γ w.drew lam s a := hs.after hev1 hh1 hs.low
  have hzsz : zv.cells.size = i.size := by
    obtain ⟨hzr, hzl⟩ := constV_rel γ w zv zx hz2
    have := (hzr.cells hzl).1
    omega
  simp only [maxEl] at hb
  cases he : elemsW s i.size vy with
  | none => rw [he] at h; unfold kAppV at h; split at h <;> first | cases ‹none = some _› | exact h.elim
  | some ys =>
    rw [he] at h
    have src : (∀ v ∈ ys, v.cells.length = i.size) → ∃ fy, Row γ w i.size ys fy ∧ Source P w i.size (a.eval y) ys.length (flat fy (ys.length * i.size)) := by
      intro hally
      cases vy with
      | vec r ver off len zz =>
        simp only [elemsW] at he
        split at he
        · rename_i hzz
          subst hzz
          unfold elemsW1 at he
          split at he
          · rename_i v z' cs hbl
            split at he
            · rename_i hc
              simp only [Option.some.injEq] at he
              obtain ⟨g1, g2, g3⟩ := hc
              obtain ⟨c', q1, q2, q3⟩ := vec_row hs (hry.ok rfl) hbl g1 g2 g3
              rw [he] at q2 q3
              exact source_row h0 (by rw [q1, q2]) (.inr ⟨_, off, rfl, q3⟩)
            · cases he
          · cases he
        · cases he
      | sl tg xs =>
        simp only [elemsW] at he
        exact source_of (P := P) (hry.ok rfl) he h0 hally (fun b hb => by cases hb)
      | str b =>
        simp only [elemsW] at he
        refine source_of (P := P) (hry.ok rfl) he h0 hally fun b' hb => ?_
        cases hb
        simp only [elemsOf, Option.some.injEq] at he
        subst he
        cases b with
        | nil => exact .inr rfl
        | cons c cs =>
          have h1 := hally (.int .u8 c.toNat) (by simp)
          exact .inl (by simpa [V.cells] using h1.symm)
      | _ => simp [elemsW, elemsOf] at he
    obtain ⟨hzr, hzl⟩ := constV_rel γ w.drew zv zx hz2
    have hz0 : 0 < zx.cells.length := by omega
    unfold kAppV at h
    split at h
    · -- nothing behind a full one
      rename_i xs heq
      cases heq
      obtain ⟨g, _, hsrc⟩ := src (by simp)
      have hr := hrx.ok rfl
      generalize hca : a.eval x = c at hr exec
      have hr2 := hr
      cases hr with
      | sl _ _ ad cap c z' hcap htag hnil hspot hvv hzz hat =>
        exact nx_val (exec _ _ (run_append_zero t u o.type e i ht hu hi ad _ cap hcap _ _ hsrc)) h hs (.inr (.inr hr2)) hd
    · -- a new one
      rename_i xs y0 ys0 heq
      cases heq
      obtain ⟨hall, hlim, hK⟩ := h
      have hallx : ∀ v ∈ xs, v.cells.length = i.size := fun v hv => hall v (by simp [hv])
      have hally : ∀ v ∈ y0 :: ys0, v.cells.length = i.size := fun v hv => hall v (List.mem_append_right _ hv)
      obtain ⟨fy, hrowy, hsrc⟩ := src hally
      have hm : 0 < (y0 :: ys0).length := by simp
      generalize y0 :: ys0 = ys at *
      obtain ⟨ad, cap, hca, hcap, htag, hrow⟩ := (hrx.ok rfl).row hallx
      rw [hca] at exec
      have hcl : cap = xs.length := htag
      simp only [lim] at hlim
      have hneed : xs.length + ys.length ≤ maxLen := by unfold maxLen; omega
      have hfits : (xs.length + ys.length) * i.bytes ≤ 140737488355328 := Nat.le_trans (Nat.mul_le_mul hlim hb) (by decide)
      have hgr : cap < xs.length + ys.length := by omega
      have hgf := growslice_fits hgr hfits
      obtain ⟨fx, hrowx, hrun⟩ : ∃ fx, Row γ w i.size xs fx ∧
          (Builtin.append_ #[t, u] o.type #[.slice ad xs.length cap, a.eval y]).run P w = .ok (.slice (some ⟨w.heap.size, 0, none⟩) (xs.length + ys.length) (grownCap w (xs.length + ys.length) cap e))
            (w.drew.alloc (.cells ((flat fx (xs.length * i.size)).toArray ++ (flat fy (ys.length * i.size)).toArray ++ Builtin.zeroCells zv.cells (grownCap w (xs.length + ys.length) cap e - (xs.length + ys.length))) e)) := by
        rcases hrow with ⟨rfl, rfl, rfl⟩ | ⟨b, off, rfl, hr, _⟩
        · exact ⟨fun _ => none, Row.nil _ _, run_append_new' t u o.type e i zv ht hu hi hz1 none 0 0 _ (fun w' _ => by simp [Builtin.firstCells, flat]) _ _ _ hsrc hgr (by omega) hgf⟩
        · obtain ⟨f1, f2, f3⟩ := hr.flat h0
          exact ⟨_, hr, run_append_new' t u o.type e i zv ht hu hi hz1 (some ⟨b, off, none⟩) xs.length cap _ (fun w' hw => run_firstCells_some (P := P) w' _ _ ⟨b, off, none⟩ _ cap _ (flat_len _ _) (fun j v hj => by rw [addr_add, hw]; exact f1 j v hj)) _ _ _ hsrc hgr (by omega) hgf⟩
      have hge := grownCap_ge w (xs.length + ys.length) cap e
      have hcells := (((row_cells h0 hrowx hallx).app (row_cells h0 hrowy hally)).mono hev1.le).preApp (Builtin.zeroCells zv.cells (grownCap w (xs.length + ys.length) cap e - (xs.length + ys.length)))
      rw [← List.flatMap_append] at hcells
      refine sim_newV (w1 := w.drew) (e := e) (exec _ _ hrun) hcells h0 (grownCap_le_maxLen _ _ _ _ hneed) hge ?_ hd hK hs1
      simp only [Array.size_append, List.size_toArray, flat_len, size_zeroCells, hzsz, ← Nat.add_mul]
      congr 1
      omega
    · -- nothing behind one that grows
      rename_i r ver len zz heq
      cases heq
      obtain ⟨g, _, hsrc⟩ := src (by simp)
      have hr := hrx.ok rfl
      generalize hca : a.eval x = c at hr exec
      have hr2 := hr
      cases hr with
      | vec _ _ _ _ _ b o' cap h1 h2 h3 h4 h5 =>
        exact nx_val (exec _ _ (run_append_zero t u o.type e i ht hu hi _ _ cap h4 _ _ hsrc)) h hs (.inr (.inr hr2)) hd
    · rename_i r ver len zz y0 ys0 heq
      cases heq
      obtain ⟨rfl, hally, hlim, hK⟩ := h
      obtain ⟨fy, hrowy, hsrc⟩ := src hally
      have hm : 0 < (y0 :: ys0).length := by simp
      generalize y0 :: ys0 = ys at *
      have hcy := row_cells h0 hrowy hally
      have hylen := (flatMap_get h0 hally).1
      have hr := hrx.ok rfl
      generalize hca : a.eval x = c at hr exec
      cases hr with
      | vec _ _ _ _ _ b o' cap h1 h2 h3 h4 h5 =>
        unfold kAppV1 at hK
        split at hK
        · rename_i _ v z' cs hbox
          obtain ⟨hver, rfl, hfit, hok, hK⟩ := hK
          subst hver
          obtain ⟨hkd, hff, _, hfc, hp, cur, ec, hblk, hcsz, hcr⟩ := hs.heap.obj r _ hbox
          obtain ⟨rfl, rfl, hcap⟩ := h5 hff.symm
          have hcap := hcap rfl
          simp only [lim] at hlim
          have hlow : LowOk z.bs (s.h.set r (.vec (v + 1) i.size (cs.take (len * i.size) ++ ys.flatMap V.cells))) := by
            refine lowOk_set hs.low r _ fun b hb' hrb => ?_
            have h1 := (hs.low b hb').2 r _ hrb hbox
            have h2 := hok b hb' hrb
            refine underL_get.2 fun k x hx => ?_
            rw [List.getElem?_append] at hx
            split at hx
            · rw [List.getElem?_take] at hx
              split at hx
              · exact underL_get.1 h1 k x hx
              · cases hx
            · exact underL_get.1 h2 _ x hx
          have hto : CellsRel γ w (cs.take (len * i.size)) (cur.toList.take (len * i.size)).toArray := by
            refine ⟨by have := hcr.1; simp; omega, fun k x u hx hu => ?_⟩
            rw [List.getElem?_take] at hx
            have hu : (cur.toList.take (len * i.size))[k]? = some u := by simpa using hu
            rw [List.getElem?_take] at hu
            split at hx
            · rename_i hk
              rw [if_pos hk] at hu
              exact hcr.2 k x u hx (by simpa using hu)
            · cases hx
          by_cases hroom : len + ys.length ≤ cap
          · have hmul : len * i.size + ys.length * i.size ≤ cur.size := by
              rw [hcsz, ← Nat.add_mul]
              exact Nat.mul_le_mul_right _ (Nat.le_trans hroom hcap)
            have hrun := run_append_room' (P := P) (w := w) t u o.type e i ht hu hi (γ.rho r) len cap cur ec hblk (a.eval y) _ _ hsrc hroom (by rw [flat_len]; exact hmul)
            have hj := (hto.app hcy).preApp (cur.toList.drop (len * i.size + (flat fy (ys.length * i.size)).length)).toArray
            have hAs : (cur.toList.take (len * i.size) ++ flat fy (ys.length * i.size) ++ cur.toList.drop (len * i.size + (flat fy (ys.length * i.size)).length)).toArray.size = cur.size := by
              simp only [List.size_toArray, List.length_append, List.length_take, List.length_drop, flat_len, Array.length_toList]; omega
            have harr : (cur.toList.take (len * i.size)).toArray ++ (flat fy (ys.length * i.size)).toArray ++ (cur.toList.drop (len * i.size + (flat fy (ys.length * i.size)).length)).toArray = (cur.toList.take (len * i.size) ++ flat fy (ys.length * i.size) ++ cur.toList.drop (len * i.size + (flat fy (ys.length * i.size)).length)).toArray := by simp
            rw [harr] at hj
            generalize (cur.toList.take (len * i.size) ++ flat fy (ys.length * i.size) ++ cur.toList.drop (len * i.size + (flat fy (ys.length * i.size)).length)).toArray = Arr at hrun hj hAs
            have hset := setRow_heap w (γ.rho r) cur Arr ec (0, 0) hblk
            obtain ⟨hev, hh⟩ := Ev.turn (w' := w.setRow (γ.rho r) Arr) hs.heap hbox (by simp) setRow_other' rfl rfl rfl Arr ec hset (by rw [hAs, hcsz]) (fun hle => hj.mono hle)
            refine nx_val (exec _ _ hrun) hK (hs.after hev hh hlow) (.inr (.inr ?_)) hd
            exact .vec _ _ _ _ _ _ _ _ h1 hkd (by simp [Gh.turn]) hroom (fun _ => ⟨rfl, rfl, fun _ => hcap⟩)
          · have hfits : (len + ys.length) * i.bytes ≤ 140737488355328 := Nat.le_trans (Nat.mul_le_mul (by omega) hb) (by decide : 4294967296 * 16384 ≤ 140737488355328)
            have hgf := growslice_fits (show cap < len + ys.length by omega) hfits
            have hol : (cur.toList.take (len * i.size)).length = len * i.size := by simp; have := hcr.1; omega
            have hrun := run_append_new' (P := P) (w := w) t u o.type e i zv ht hu hi hz1 (some ⟨γ.rho r, 0, none⟩) len cap (cur.toList.take (len * i.size)) (fun w' hw =>
              run_firstCells_some (P := P) w' i.size len ⟨γ.rho r, 0, none⟩ len cap _ hol (fun j v hj => by
                rw [addr_add, hw, Nat.zero_add, cell_of_row w _ j cur ec (0, 0) hblk]
                rw [List.getElem?_take] at hj
                split at hj
                · simpa using hj
                · cases hj)) _ _ _ hsrc (by omega) (by omega) hgf
            have hge := grownCap_ge w (len + ys.length) cap e
            have hneed : len + ys.length ≤ maxLen := by unfold maxLen; omega
            have hgm := grownCap_le_maxLen w (len + ys.length) cap e hneed
            have hj := ((hto.app hcy).mono hev1.le).preApp (Builtin.zeroCells zv.cells (grownCap w (len + ys.length) cap e - (len + ys.length)))
            have hasz : ((cur.toList.take (len * i.size)).toArray ++ (flat fy (ys.length * i.size)).toArray ++ Builtin.zeroCells zv.cells (grownCap w (len + ys.length) cap e - (len + ys.length))).size = grownCap w (len + ys.length) cap e * i.size := by
              simp only [Array.size_append, List.size_toArray, hol, flat_len, size_zeroCells, hzsz, ← Nat.add_mul]
              congr 1
              omega
            generalize hA : (cur.toList.take (len * i.size)).toArray ++ (flat fy (ys.length * i.size)).toArray ++ Builtin.zeroCells zv.cells (grownCap w (len + ys.length) cap e - (len + ys.length)) = Arr at hrun hj hasz
            generalize hG : grownCap w (len + ys.length) cap e = G at hrun hasz hge hgm
            obtain ⟨hev2, hh2⟩ := Ev.moveV (c := G) hh1 hbox hgm Arr e hasz (fun hle => hj.mono hle)
            refine nx_val (exec _ _ hrun) hK (hs.after (hev1.trans hev2) hh2 hlow) (.inr (.inr ?_)) hd
            exact .vec _ _ _ _ _ _ _ _ h1 hkd (by simp [Gh.move]) hge (fun _ => ⟨by simp [Gh.move], rfl, fun _ => by simp [Gh.move]⟩)
        · exact hK.elim
    · exact h.elim

/-- Cells stored where a row that may be turned lies. -/
theorem sim_cells {c : Value} {v : V} {xs : List V} {news : List Value} (hvc : CellsRel γ w xs news.toArray)
    (hd : ∀ i, o.dst = some i → i < z.nt) (hs : SRel z γ w lam s a) (hv : ∀ (γ : Gh) (w : World), RelV γ w v c) {r off : Nat} {b o' : Nat}
    (run : ∀ (arr : Array Value) (e : TypeId), w.heap[b]? = some (.cells arr e (0, 0)) → o' + xs.length ≤ arr.size →
      (execOp a.eval o).run P w = .ok (.value c) (w.setRow b (arr.toList.take o' ++ news ++ arr.toList.drop (o' + news.length)).toArray)) :
    (∀ (hlt : r < γ.n) (_ : γ.rho r = b) (_ : off = o') (_ : kBox z.bs r off xs (fun _ s' => K v s') s s.h[r]?), o.wp P a w (Nx z o.dst K) Qx) ∧
    ∀ (ver : Nat) (hlt : r < γ.n) (_ : ver ≤ γ.ff r) (_ : ver = γ.ff r → b = γ.rho r ∧ o' = off) (_ : kVec z.bs r ver off xs (fun _ s' => K v s') s s.h[r]?), o.wp P a w (Nx z o.dst K) Qx := by
  constructor
  · rintro hlt rfl rfl h3
    unfold kBox at h3
    split at h3
    · rename_i _ cs hh
      obtain ⟨hlen, hok, hK⟩ := h3
      obtain ⟨hkd, hp, arr, e, hb, hcr⟩ := hs.heap.obj r _ hh
      have hrun := run arr e hb (by have := hcr.1; omega)
      have hsp := splice_pre hcr hvc off hlen
      obtain ⟨hev, hh'⟩ := Ev.set (w' := w.setRow (γ.rho r) (arr.toList.take off ++ news.toArray.toList ++ arr.toList.drop (off + news.toArray.toList.length)).toArray) hs.heap hlt (.box (splice cs off xs)) (by simp)
        setRow_other' rfl rfl rfl hp (fun hle => ⟨hkd, hp, _, e, setRow_heap w _ arr _ e _ hb, hsp.mono hle⟩)
      refine nx_val hrun hK (hs.after hev hh' (lowOk_set hs.low r _ fun b hb' hrb => ?_)) (.inr (.inr (hv _ _))) hd
      exact underL_splice ((hs.low b hb').2 r _ hrb hh) (hok b hb' hrb)
    · exact h3.elim
  · intro ver hlt hv1 he h3
    unfold kVec at h3
    split at h3
    · rename_i _ v' zz cs hh
      obtain ⟨hver, hlen, hok, hK⟩ := h3
      obtain ⟨hkd, hff, hz0, hfc, hp, arr, e, hb, hasz, hcr⟩ := hs.heap.obj r _ hh
      obtain ⟨rfl, rfl⟩ := he (by omega)
      have hrun := run arr e hb (by have := hcr.1; omega)
      have hsp := splice_pre hcr hvc o' hlen
      have hss : (arr.toList.take o' ++ news.toArray.toList ++ arr.toList.drop (o' + news.toArray.toList.length)).toArray.size = arr.size := by
        have h7 := hvc.1
        have h8 := hcr.1
        simp only [List.size_toArray] at h7
        simp only [List.size_toArray, List.length_append, List.length_take, List.length_drop, Array.length_toList]
        omega
      obtain ⟨hev, hh'⟩ := Ev.set (w' := w.setRow (γ.rho r) (arr.toList.take o' ++ news.toArray.toList ++ arr.toList.drop (o' + news.toArray.toList.length)).toArray) hs.heap hlt (.vec v' zz (splice cs o' xs)) (by simp)
        setRow_other' rfl rfl rfl hp (fun hle => ⟨hkd, hff, hz0, hfc, hp, _, e, setRow_heap w _ arr _ e _ hb, by rw [hss, hasz], hsp.mono hle⟩)
      refine nx_val hrun hK (hs.after hev hh' (lowOk_set hs.low r _ fun b hb' hrb => ?_)) (.inr (.inr (hv _ _))) hd
      exact underL_splice ((hs.low b hb').2 r _ hrb hh) (hok b hb' hrb)
    · exact h3.elim

theorem sim_copyM (t u e : TypeId) (x y : Operand) (ho : o.op = .call { callee := .builtin .copy, args := #[x, y], argTypes := #[t, u] }) (hu : P.underlying t = some (.slice e)) {n : Nat} (hn : sizeT P e = some n) (h0 : 0 < n) {x' y' : AO} (hx : compX x = some x') (hy : compX y = some y') (hd : ∀ i, o.dst = some i → i < z.nt)
    (h : kCopyM z.bs n K s (ev s.r x') (ev s.r y')) (hs : SRel z γ w lam s a) : o.wp P a w (Nx z o.dst K) Qx := by
  have exec : ∀ c w', (Builtin.copy_ #[t, u] o.type #[a.eval x, a.eval y]).run P w = .ok c w' → (execOp a.eval o).run P w = .ok (.value c) w' := by
    intro c w' hr
    simp [execOp, ho, resolve, invoke, builtin, hr]
  have main : ∀ (ys : List V) (b o' c len : Nat), elemsOf (ev s.r y') = some ys → (ev s.r y').isLoc = false → (∀ bb, ev s.r y' ≠ .str bb) → (∀ v ∈ ys, v.cells.length = n) → ys.length ≤ len → a.eval x = .slice (some ⟨b, o', none⟩) len c →
      ∃ news : List Value, CellsRel γ w (ys.flatMap V.cells) news.toArray ∧ ∀ (arr : Array Value) (te : TypeId), w.heap[b]? = some (.cells arr te (0, 0)) → o' + (ys.flatMap V.cells).length ≤ arr.size →
        (execOp a.eval o).run P w = .ok (.value (.int .i64 ys.length)) (w.setRow b (arr.toList.take o' ++ news ++ arr.toList.drop (o' + news.length)).toArray) := by
    intro ys b o' c len he hl hstr hall hle hcx
    obtain ⟨g, hrow, hsrc⟩ := source_of (P := P) ((rel_x hs hy).ok hl) he h0 hall (fun bb hb => absurd hb (hstr bb))
    refine ⟨_, row_cells h0 hrow hall, fun arr te hb hfit => exec _ _ ?_⟩
    have hlen := (flatMap_get h0 hall).1
    have hst := run_storeCells_at (P := P) b o' te (flat g (ys.length * n)) 0 arr w hb (by rw [flat_len]; omega) hsrc.one
    simp only [Nat.add_zero] at hst
    have h1 := hsrc.len w
    have h2 := hsrc.cells w (fun _ => rfl)
    have hm : Nat.min ys.length len = ys.length := Nat.min_eq_left hle
    simp [Builtin.copy_, run_underlying' hu, run_sizeOf' hn, hcx, h1, hm, h2, hst, goInt]
  unfold kCopyM at h
  split at h
  · rename_i e1 e2
    exact sim_copy0 t u e x y ho hu hn hx hy hd (by rw [e1, e2]; exact h) hs
  · rename_i r off len cap q tg ys e1 e2
    obtain ⟨rfl, hle, hall, hK⟩ := h
    have hr := (rel_x hs hx).ok (by rw [e1]; rfl)
    rw [e1] at hr
    generalize hca : a.eval x = c at hr
    cases hr with
    | msl _ _ _ _ _ c h1 h2 h3 h4 =>
      obtain ⟨news, hc, run⟩ := main ys (γ.rho r) off c len (by rw [e2]; rfl) (by rw [e2]; rfl) (by rw [e2]; intro bb hb; cases hb) hall hle hca
      exact (sim_cells hc hd hs (fun _ _ => .int _ _) (r := r) (off := off) run).1 h1 rfl rfl hK
  · rename_i r ver off len q tg ys e1 e2
    obtain ⟨rfl, hle, hall, hK⟩ := h
    have hr := (rel_x hs hx).ok (by rw [e1]; rfl)
    rw [e1] at hr
    generalize hca : a.eval x = c at hr
    cases hr with
    | vec _ _ _ _ _ b o' c h1 h2 h3 h4 h5 =>
      obtain ⟨news, hc, run⟩ := main ys b o' c len (by rw [e2]; rfl) (by rw [e2]; rfl) (by rw [e2]; intro bb hb; cases hb) hall hle hca
      exact (sim_cells hc hd hs (fun _ _ => .int _ _) (r := r) (off := off) run).2 ver h1 h3 (fun hv => ⟨(h5 hv).1, (h5 hv).2.1⟩) hK
  · exact h.elim

theorem sim_clearM (t e : TypeId) (x : Operand) (ho : o.op = .call { callee := .builtin .clear, args := #[x], argTypes := #[t] }) (hu : P.underlying t = some (.slice e)) {zc : List V} (hz : zeroC P e = some zc) (h0 : 0 < zc.length) {x' : AO} (hx : compX x = some x') (hd : ∀ i, o.dst = some i → i < z.nt)
    (h : kClearM z.bs zc K s (ev s.r x')) (hs : SRel z γ w lam s a) : o.wp P a w (Nx z o.dst K) Qx := by
  have exec : ∀ c w', (Builtin.clear_ #[t] o.type #[a.eval x]).run P w = .ok c w' → (execOp a.eval o).run P w = .ok (.value c) w' := by
    intro c w' hr
    simp [execOp, ho, resolve, invoke, builtin, hr]
  simp only [zeroC, Option.map_eq_some_iff] at hz
  obtain ⟨zx, hz, rfl⟩ := hz
  obtain ⟨i, zv, hi, hz1, hz2⟩ := zeroV_rel hz
  obtain ⟨hzr, hzl⟩ := constV_rel γ w zv zx hz2
  have unit : ∀ (γ : Gh) (w : World), RelV γ w (.tup []) (.tuple #[]) := fun γ w => .tup [] #[] rfl (by simp)
  have main : ∀ (b o' c len : Nat), a.eval x = .slice (some ⟨b, o', none⟩) len c →
      ∃ news : List Value, CellsRel γ w (List.replicate len zx.cells).flatten news.toArray ∧ ∀ (arr : Array Value) (te : TypeId), w.heap[b]? = some (.cells arr te (0, 0)) → o' + (List.replicate len zx.cells).flatten.length ≤ arr.size →
        (execOp a.eval o).run P w = .ok (.value (.tuple #[])) (w.setRow b (arr.toList.take o' ++ news ++ arr.toList.drop (o' + news.length)).toArray) := by
    intro b o' c len hcx
    have hcl := zero_cells hzr hzl h0 len
    refine ⟨(Builtin.zeroCells zv.cells len).toList, by simpa using hcl, fun arr te hb hfit => exec _ _ ?_⟩
    have hone : ∀ v ∈ (Builtin.zeroCells zv.cells len).toList, v.oneCell' = true := hcl.all_one
    have hsz := hcl.1
    have hst := run_storeCells_at (P := P) b o' te (Builtin.zeroCells zv.cells len).toList 0 arr w hb (by simp only [Array.length_toList]; omega) hone
    simp only [Nat.add_zero] at hst
    cases len with
    | zero =>
      have e0 : (Builtin.zeroCells zv.cells 0).toList = [] := by simp [Builtin.zeroCells]
      have hself := setRow_self w b arr te (0, 0) hb
      simp [Builtin.clear_, run_underlying' hu, hcx, e0, hself]
    | succ len =>
      simp [Builtin.clear_, run_underlying' hu, hcx, zeroValue, typeInfo, hi, hz1, hst]
  unfold kClearM at h
  split at h
  · rename_i tg e1
    have hr := (rel_x hs hx).ok (by rw [e1]; rfl)
    rw [e1] at hr
    generalize hca : a.eval x = c at hr exec
    cases hr with
    | sl _ _ ad cap f z' hcap htag hnil hspot hvv hzz hat =>
      refine nx_val (exec (.tuple #[]) w ?_) h hs (.inr (.inr (unit _ _))) hd
      cases ad <;> simp [Builtin.clear_, run_underlying' hu]
  · rename_i r off len cap q e1
    obtain ⟨_, hK⟩ := h
    have hr := (rel_x hs hx).ok (by rw [e1]; rfl)
    rw [e1] at hr
    generalize hca : a.eval x = c at hr
    cases hr with
    | msl _ _ _ _ _ c h1 h2 h3 h4 =>
      obtain ⟨news, hc, run⟩ := main (γ.rho r) off c len hca
      exact (sim_cells hc hd hs unit (r := r) (off := off) run).1 h1 rfl rfl (by unfold kBox at hK ⊢; split at hK <;> exact hK)
  · rename_i r ver off len q e1
    obtain ⟨_, hK⟩ := h
    have hr := (rel_x hs hx).ok (by rw [e1]; rfl)
    rw [e1] at hr
    generalize hca : a.eval x = c at hr
    cases hr with
    | vec _ _ _ _ _ b o' c h1 h2 h3 h4 h5 =>
      obtain ⟨news, hc, run⟩ := main b o' c len hca
      exact (sim_cells hc hd hs unit (r := r) (off := off) run).2 ver h1 h3 (fun hv => ⟨(h5 hv).1, (h5 hv).2.1⟩) (by unfold kVec at hK ⊢; split at hK <;> exact hK)
  · exact h.elim

end
end Go.Am
