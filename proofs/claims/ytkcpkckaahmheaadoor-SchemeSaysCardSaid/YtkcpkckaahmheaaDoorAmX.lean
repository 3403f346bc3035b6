/- What the abstract machine says of a call is so. -/
import Derived.Test.YtkcpkckaahmheaaDoorAmD3
namespace Go.Am

theorem underL_mem {n : Nat} {l : List V} : underL n l = true ↔ ∀ x ∈ l, x.under n = true := by
  rw [underL_eq, List.all_eq_true]

section
variable {P : Program} {γ γ' : Gh} {w w' : World}

theorem RelV.under {v : V} {c : Value} (h : RelV γ w v c) : v.under γ.n = true := by
  have mem : ∀ (l : List V), (∀ (i : Nat) (x : V), l[i]? = some x → x.under γ.n = true) → underL γ.n l = true := fun l hl => underL_get.2 hl
  induction h with
  | bool b => rfl
  | int k n => rfl
  | str s b h => rfl
  | sl t xs a cap c z hcap htag hnil hspot hv hz hat ih =>
    simp only [V.under, Bool.and_eq_true]
    refine ⟨?_, mem xs ih⟩
    cases t with
    | frozen => rfl
    | clip => rfl
    | fam r => simpa using htag.1
  | ptr r off h hk => simpa [V.under] using h
  | elp e off c b o he hl hat ih => simpa [V.under] using ih
  | nilp => rfl
  | mapn => rfl
  | map r h hk => simpa [V.under] using h
  | fn f cap vs hs hv hl ih =>
    simp only [V.under]
    refine mem cap fun i x hx => ?_
    have hi : i < vs.size := by rw [hs]; exact (List.getElem?_eq_some_iff.1 hx).1
    exact ih i x vs[i] hx (Array.getElem?_eq_getElem hi)
  | mfn f xs vs hs hv hl ih =>
    simp only [V.under]
    refine mem xs fun i x hx => ?_
    have hi : i < vs.size := by rw [hs]; exact (List.getElem?_eq_some_iff.1 hx).1
    exact ih i x vs[i] hx (Array.getElem?_eq_getElem hi)
  | nilfn => rfl
  | iface t v c h hl ih => simpa [V.under] using ih
  | nili => rfl
  | agg cs vs hs hv ho ih =>
    simp only [V.under]
    refine mem cs fun i x hx => ?_
    have hi : i < vs.size := by rw [hs]; exact (List.getElem?_eq_some_iff.1 hx).1
    exact ih i x vs[i] hx (Array.getElem?_eq_getElem hi)
  | tup cs vs hs hv ih =>
    simp only [V.under]
    refine mem cs fun i x hx => ?_
    have hi : i < vs.size := by rw [hs]; exact (List.getElem?_eq_some_iff.1 hx).1
    exact ih i x vs[i] hx (Array.getElem?_eq_getElem hi)
  | tok g => rfl
  | sent g t c hp hc => rfl
  | msl r off len cap z c h hk hl he => simpa [V.under] using h
  | vec r ver off len z b o c h hk hv hl he => simpa [V.under] using h
  | vptr r ver off b o h hk hv he => simpa [V.under] using h
  | yld r h hk => simpa [V.under] using h

theorem RelV.cut {n : Nat} {v : V} {c : Value} (h : RelV γ w v c) (hu : v.under n = true) : RelV { γ with n := n } w v c := by
  induction h with
  | bool b => exact .bool b
  | int k n => exact .int k n
  | str s b h => exact .str s b h
  | sl t xs a cap c z hcap htag hnil hspot hv hz hat ih =>
    simp only [V.under, Bool.and_eq_true] at hu
    refine .sl t xs a cap c z hcap ?_ hnil hspot (fun i x hx => ih i x hx (underL_get.1 hu.2 i x hx)) hz hat
    cases t with
    | frozen => trivial
    | clip => exact htag
    | fam r => exact ⟨by simpa using hu.1, htag.2.1, htag.2.2.1, htag.2.2.2⟩
  | ptr r off h hk => exact RelV.ptr (γ := { γ with n := n }) r off (by simpa [V.under] using hu) hk
  | elp e off c b o he hl hat ih => exact .elp e off c b o (ih (by simpa [V.under] using hu)) hl hat
  | nilp => exact .nilp
  | mapn => exact .mapn
  | map r h hk => exact RelV.map (γ := { γ with n := n }) r (by simpa [V.under] using hu) hk
  | fn f cap vs hs hv hl ih => exact .fn f cap vs hs (fun i x u hx hu' => ih i x u hx hu' (underL_get.1 (by simpa [V.under] using hu) i x hx)) hl
  | mfn f xs vs hs hv hl ih => exact .mfn f xs vs hs (fun i x u hx hu' => ih i x u hx hu' (underL_get.1 (by simpa [V.under] using hu) i x hx)) hl
  | nilfn => exact .nilfn
  | iface t v c h hl ih => exact .iface t v c (ih (by simpa [V.under] using hu)) hl
  | nili => exact .nili
  | agg cs vs hs hv ho ih => exact .agg cs vs hs (fun i x u hx hu' => ih i x u hx hu' (underL_get.1 (by simpa [V.under] using hu) i x hx)) ho
  | tup cs vs hs hv ih => exact .tup cs vs hs (fun i x u hx hu' => ih i x u hx hu' (underL_get.1 (by simpa [V.under] using hu) i x hx))
  | tok g => exact RelV.tok (γ := { γ with n := n }) g
  | sent g t c hp hc => exact .sent g t c hp hc
  | msl r off len cap z c h hk hl he => exact RelV.msl (γ := { γ with n := n }) r off len cap z c (by simpa [V.under] using hu) hk hl he
  | vec r ver off len z b o c h hk hv hl he => exact RelV.vec (γ := { γ with n := n }) r ver off len z b o c (by simpa [V.under] using hu) hk hv hl he
  | vptr r ver off b o h hk hv he => exact RelV.vptr (γ := { γ with n := n }) r ver off b o (by simpa [V.under] using hu) hk hv he
  | yld r h hk => exact RelV.yld (γ := { γ with n := n }) r (by simpa [V.under] using hu) hk

theorem key_under {kk : KK} {k : V} (h : isKey kk k = true) (n : Nat) : k.under n = true := by
  cases kk <;> cases k <;> first | rfl | (simp [isKey] at h)

theorem HRel.under {h : List Ob} (hh : HRel γ w h) : ∀ (r : Nat) (o : Ob), h[r]? = some o → obUnder h.length o = true := by
  intro r o ho
  rw [← hh.n]
  have hob := hh.obj r o ho
  cases o with
  | box cs =>
    obtain ⟨_, _, arr, e, _, hr⟩ := hob
    exact underL_get.2 fun i x hx => by
      obtain ⟨u, _, hru, _⟩ := hr.get hx
      exact hru.under
  | fam k z => rfl
  | vec ver z cs =>
    obtain ⟨_, _, _, _, _, arr, e, _, _, hr⟩ := hob
    exact underL_get.2 fun i x hx => by
      obtain ⟨u, _, hru, _⟩ := hr.get hx
      exact hru.under
  | iter m since seen last =>
    obtain ⟨_, _, h3, _⟩ := hob
    cases m with
    | none => rfl
    | some q => simpa [obUnder] using (h3 q rfl).1
  | loop key regs st pe =>
    obtain ⟨_, _, lp, _, hl⟩ := hob
    simp only [obUnder, List.all_eq_true]
    intro x hx
    rcases hl.regs x hx with e | e
    · rw [e]; rfl
    · exact e.under
  | map es bo ck =>
    obtain ⟨_, _, ents, _, hr⟩ := hob
    simp only [obUnder, List.all_eq_true]
    intro x hx
    obtain ⟨i, hi, rfl⟩ := List.getElem_of_mem hx
    have hi' : i < ents.size := by rw [hr.size]; exact hi
    exact (hr.rel i _ _ (List.getElem?_eq_getElem hi) (Array.getElem?_eq_getElem hi')).2.2.1.under

theorem HRel.cut {h : List Ob} (hh : HRel γ w h) {n : Nat} (hn : n ≤ h.length) (hu : ∀ (r : Nat) (o : Ob), r < n → h[r]? = some o → obUnder n o = true) : HRel { γ with n := n } w (h.take n) := by
  refine ⟨by simp; omega, fun r r' h1 h2 => hh.inj r r' (by have := hh.n; simp at h1; omega) (by have := hh.n; simp at h2; omega), fun r o ho => ?_, hh.far⟩
  rw [List.getElem?_take] at ho
  split at ho
  · rename_i hlt
    have hob := hh.obj r o ho
    have hou := hu r o hlt ho
    cases o with
    | box cs =>
      obtain ⟨h1, h2, arr, e, h3, h4⟩ := hob
      exact ⟨h1, h2, arr, e, h3, h4.1, fun i x u hx hu' => ⟨(h4.2 i x u hx hu').1.cut (underL_get.1 hou i x hx), (h4.2 i x u hx hu').2⟩⟩
    | fam k z => exact hob
    | vec ver z cs =>
      obtain ⟨h1, h2, h3, h4, h5, arr, e, h6, h7, h8⟩ := hob
      exact ⟨h1, h2, h3, h4, h5, arr, e, h6, h7, h8.1, fun i x u hx hu' => ⟨(h8.2 i x u hx hu').1.cut (underL_get.1 hou i x hx), (h8.2 i x u hx hu').2⟩⟩
    | iter m since seen last =>
      obtain ⟨h1, h2, h3, h4⟩ := hob
      refine ⟨h1, h2, fun q hq => ⟨?_, (h3 q hq).2⟩, h4⟩
      subst hq
      simpa [obUnder] using hou
    | loop key regs st pe =>
      obtain ⟨h1, h2, lp, h3, h4⟩ := hob
      simp only [obUnder, List.all_eq_true] at hou
      exact ⟨h1, h2, lp, h3, h4.code, h4.st, h4.pe, fun x hx => (h4.regs x hx).imp id (fun g => g.cut (hou x hx))⟩
    | map es bo ck =>
      obtain ⟨h1, h2, ents, h3, h4⟩ := hob
      refine ⟨h1, h2, ents, h3, h4.size, fun i x e hx he => ?_, h4.len, h4.born⟩
      obtain ⟨g1, ⟨kk, g2⟩, g3, g4⟩ := h4.rel i x e hx he
      simp only [obUnder, List.all_eq_true] at hou
      exact ⟨g1.cut (key_under g2 n), ⟨kk, g2⟩, g3.cut (hou x (List.mem_of_getElem? hx)), g4⟩
  · cases ho

/-- No one turns any more what lies behind what an activation made. -/
noncomputable def Gh.lock (γ : Gh) (w : World) (n : Nat) : Gh := { γ with
  prot := fun b => open Classical in if ∃ r, n ≤ r ∧ r < γ.n ∧ γ.rho r = b ∧ γ.prot b = 0 then (match w.heap[b]? with | some (.cells c _ _) => c.size | _ => 0) else γ.prot b }

theorem lock_prot {n b : Nat} : γ.prot b ≤ (γ.lock w n).prot b ∧ ((γ.lock w n).prot b ≠ γ.prot b → ∃ r, n ≤ r ∧ r < γ.n ∧ γ.rho r = b) := by
  simp only [Gh.lock]
  split
  · rename_i h
    obtain ⟨r, h1, h2, h3, h4⟩ := h
    exact ⟨by omega, fun _ => ⟨r, h1, h2, h3⟩⟩
  · exact ⟨Nat.le_refl _, fun h => absurd rfl h⟩

theorem lock_le {n : Nat} : Le γ w (γ.lock w n) w :=
  { Le.refl γ w with prot := fun b => lock_prot.1 }

theorem lock_box {h : List Ob} (hh : HRel γ w h) {n r : Nat} (hn : n ≤ r) {cs : List V} (hr : h[r]? = some (.box cs)) {arr : Array Value} {e : TypeId} {f : Nat × Nat} (hb : w.heap[γ.rho r]? = some (.cells arr e f)) : (γ.lock w n).prot (γ.rho r) = arr.size := by
  have hlt : r < γ.n := hh.n ▸ (List.getElem?_eq_some_iff.1 hr).1
  obtain ⟨_, hp, _⟩ := hh.obj r _ hr
  simp only [Gh.lock]
  rw [if_pos ⟨r, hn, hlt, rfl, hp⟩, hb]

theorem lock_vec {h : List Ob} (hh : HRel γ w h) {n r : Nat} (hn : n ≤ r) {ver z : Nat} {cs : List V} (hr : h[r]? = some (.vec ver z cs)) {arr : Array Value} {e : TypeId} {f : Nat × Nat} (hb : w.heap[γ.rho r]? = some (.cells arr e f)) : (γ.lock w n).prot (γ.rho r) = arr.size := by
  have hlt : r < γ.n := hh.n ▸ (List.getElem?_eq_some_iff.1 hr).1
  obtain ⟨_, _, _, _, hp, _⟩ := hh.obj r _ hr
  simp only [Gh.lock]
  rw [if_pos ⟨r, hn, hlt, rfl, hp⟩, hb]

theorem HRel.lock {h : List Ob} (hh : HRel γ w h) {n : Nat} (hn : n ≤ h.length) (h' : HRel { γ with n := n } w (h.take n)) : HRel { γ.lock w n with n := n } w (h.take n) := by
  have hle : Le { γ with n := n } w { γ.lock w n with n := n } w :=
    { n := Nat.le_refl _, kd := fun _ _ => rfl, box := fun _ _ _ => rfl, fam := fun _ _ _ => ⟨Nat.le_refl _, fun _ => ⟨rfl, rfl⟩⟩, prot := fun b => (lock_prot (γ := γ) (w := w) (n := n) (b := b)).1, cells := fun _ _ _ => rfl, tk := rfl, bd := rfl }
  refine ⟨h'.n, h'.inj, fun r o ho => ?_, fun b hb => ?_⟩
  · have hr : r < n := by have := (List.getElem?_eq_some_iff.1 ho).1; simp at this; omega
    have hgn := hh.n
    refine (h'.obj r o ho).keep hle hr rfl rfl rfl rfl ?_
    refine Classical.byContradiction fun hne => ?_
    obtain ⟨r', h1, h2, h3⟩ := (lock_prot (γ := γ) (w := w) (n := n) (b := γ.rho r)).2 hne
    have := hh.inj r' r h2 (by omega) h3
    omega
  · refine Classical.byContradiction fun hne => ?_
    have h0 := hh.far b hb
    obtain ⟨r, h1, h2, h3⟩ := (lock_prot (γ := γ) (w := w) (n := n) (b := b)).2 (by rw [h0]; exact hne)
    have := hh.lt h2
    omega

theorem Frz.isLoc {n : Nat} {h : List Ob} {v v' : V} (hf : Frz n h v v') : v'.isLoc = v.isLoc := by
  cases hf <;> rfl

/-- What is frozen stands for the same. -/
theorem Frz.rel {n : Nat} {h : List Ob} (hh : HRel γ w h) {v v' : V} (hf : Frz n h v v') : ∀ c, RelV γ w v c → RelV (γ.lock w n) w v' c := by
  induction hf with
  | same v => intro c hc; exact hc.mono lock_le
  | msl r off len cap z cs xs hr hc hz hl hb hx ih =>
    intro c hcv
    cases hcv with
    | msl _ _ _ _ _ cap h1 h2 h3 _ =>
      obtain ⟨_, _, arr, e, hblk, hcr⟩ := hh.obj r _ hc
      have hlk := lock_box hh hr hc hblk
      have elt : ∀ i, i < len → ∃ c, RelV γ w (oneV ((cs.drop (off + i * z)).take z)) c ∧ (oneV ((cs.drop (off + i * z)).take z)).isLoc = false ∧ c.cells = arr.extract (off + i * z) (off + i * z + z) ∧ c.cells.size = z := fun i hi => by
        have hle : off + i * z + z ≤ cs.length := by
          have : i * z + z ≤ len * z := by
            calc i * z + z = (i + 1) * z := by rw [Nat.add_mul]; omega
              _ ≤ len * z := Nat.mul_le_mul_right _ hi
          omega
        obtain ⟨c, g1, g2, g3⟩ := oneV_rel (hcr.take (off + i * z) z (by omega)) (by simp; omega)
        exact ⟨c, g1, g2, g3, by rw [g3]; simp; have := hcr.1; omega⟩
      have elt' := fun i : Nat => Classical.em (i < len)
      let cf : Nat → Value := fun i => open Classical in if hi : i < len then Classical.choose (elt i hi) else .nilIface
      have hcf : ∀ i (hi : i < len), RelV γ w (oneV ((cs.drop (off + i * z)).take z)) (cf i) ∧ (oneV ((cs.drop (off + i * z)).take z)).isLoc = false ∧ (cf i).cells = arr.extract (off + i * z) (off + i * z + z) ∧ (cf i).cells.size = z := fun i hi => by
        have := Classical.choose_spec (elt i hi)
        simp only [cf, dif_pos hi]
        exact this
      have hxl : ∀ (i : Nat) (x : V), xs[i]? = some x → i < len := fun i x hx => by rw [← hl]; exact (List.getElem?_eq_some_iff.1 hx).1
      have key := RelV.sl (γ := γ.lock w n) (w := w) .frozen xs (some ⟨γ.rho r, off, none⟩) cap cf z (by omega) trivial (fun e => by cases e) (fun a' e => by cases e; rfl)
        (fun i x hx' => ih i x hx' _ (hcf i (hxl i x hx')).1)
        (fun i x hx' => ⟨(hcf i (hxl i x hx')).2.2.2, by rw [(hx i x hx').isLoc]; exact (hcf i (hxl i x hx')).2.1⟩)
        (fun i a' hi ha j u hj => by
          cases ha
          have hi' : i < len := by omega
          obtain ⟨_, _, g3, g4⟩ := hcf i hi'
          have hjz : j < z := by rw [← g4]; exact (Array.getElem?_eq_some_iff.1 hj).1
          rw [g3] at hj
          rw [Array.getElem?_extract] at hj
          split at hj
          · refine ⟨by rw [hlk]; exact (Array.getElem?_eq_some_iff.1 hj).1, ?_⟩
            rw [cell_of_row w _ _ arr e (0, 0) hblk]
            exact hj
          · cases hj)
      rw [hl] at key
      exact key
  | vec r ver off len z z' cs xs hr hc hz hl hb hx ih =>
    intro c hcv
    cases hcv with
    | vec _ _ _ _ _ b o cap h1 h2 h3 h4 h5 =>
      obtain ⟨_, hff, _, _, _, arr, e, hblk, _, hcr⟩ := hh.obj r _ hc
      obtain ⟨rfl, rfl, _⟩ := h5 hff.symm
      have hlk := lock_vec hh hr hc hblk
      have elt : ∀ i, i < len → ∃ c, RelV γ w (oneV ((cs.drop (o + i * z)).take z)) c ∧ (oneV ((cs.drop (o + i * z)).take z)).isLoc = false ∧ c.cells = arr.extract (o + i * z) (o + i * z + z) ∧ c.cells.size = z := fun i hi => by
        have hle : o + i * z + z ≤ cs.length := by
          have : i * z + z ≤ len * z := by
            calc i * z + z = (i + 1) * z := by rw [Nat.add_mul]; omega
              _ ≤ len * z := Nat.mul_le_mul_right _ hi
          omega
        obtain ⟨c, g1, g2, g3⟩ := oneV_rel (hcr.take (o + i * z) z (by omega)) (by simp; omega)
        exact ⟨c, g1, g2, g3, by rw [g3]; simp; have := hcr.1; omega⟩
      have elt' := fun i : Nat => Classical.em (i < len)
      let cf : Nat → Value := fun i => open Classical in if hi : i < len then Classical.choose (elt i hi) else .nilIface
      have hcf : ∀ i (hi : i < len), RelV γ w (oneV ((cs.drop (o + i * z)).take z)) (cf i) ∧ (oneV ((cs.drop (o + i * z)).take z)).isLoc = false ∧ (cf i).cells = arr.extract (o + i * z) (o + i * z + z) ∧ (cf i).cells.size = z := fun i hi => by
        have := Classical.choose_spec (elt i hi)
        simp only [cf, dif_pos hi]
        exact this
      have hxl : ∀ (i : Nat) (x : V), xs[i]? = some x → i < len := fun i x hx => by rw [← hl]; exact (List.getElem?_eq_some_iff.1 hx).1
      have key := RelV.sl (γ := γ.lock w n) (w := w) .frozen xs (some ⟨γ.rho r, o, none⟩) cap cf z (by omega) trivial (fun e => by cases e) (fun a' e => by cases e; rfl)
        (fun i x hx' => ih i x hx' _ (hcf i (hxl i x hx')).1)
        (fun i x hx' => ⟨(hcf i (hxl i x hx')).2.2.2, by rw [(hx i x hx').isLoc]; exact (hcf i (hxl i x hx')).2.1⟩)
        (fun i a' hi ha j u hj => by
          cases ha
          have hi' : i < len := by omega
          obtain ⟨_, _, g3, g4⟩ := hcf i hi'
          have hjz : j < z := by rw [← g4]; exact (Array.getElem?_eq_some_iff.1 hj).1
          rw [g3] at hj
          rw [Array.getElem?_extract] at hj
          split at hj
          · refine ⟨by rw [hlk]; exact (Array.getElem?_eq_some_iff.1 hj).1, ?_⟩
            rw [cell_of_row w _ _ arr e (0, 0) hblk]
            exact hj
          · cases hj)
      rw [hl] at key
      exact key
  | sl t xs ys hl hx ih =>
    intro c hc
    cases hc with
    | sl _ _ a cap c z hcap htag hnil hspot hv hz hat =>
      have idx : ∀ (i : Nat) (y : V), ys[i]? = some y → ∃ x, xs[i]? = some x := fun i y hy => by
        have : i < xs.length := by rw [← hl]; exact (List.getElem?_eq_some_iff.1 hy).1
        exact ⟨_, List.getElem?_eq_getElem this⟩
      rw [← hl]
      refine .sl .frozen ys a cap c z (by omega) trivial hnil hspot (fun i y hy => ?_) (fun i y hy => ?_) (fun i a' hi ha => (hat i a' (by omega) ha).mono lock_le)
      · obtain ⟨x, hx'⟩ := idx i y hy
        exact ih i x y hx' hy _ (hv i x hx')
      · obtain ⟨x, hx'⟩ := idx i y hy
        exact ⟨(hz i x hx').1, by rw [(hx i x y hx' hy).isLoc]; exact (hz i x hx').2⟩
  | agg cs ds hl hx ih =>
    intro c hc
    cases hc with
    | agg _ vs hs hv ho =>
      refine .agg ds vs (by omega) (fun i y u hy hu => ?_) ho
      have : i < cs.length := by rw [← hl]; exact (List.getElem?_eq_some_iff.1 hy).1
      exact ih i _ y (List.getElem?_eq_getElem this) hy u (hv i _ u (List.getElem?_eq_getElem this) hu)
  | tup cs ds hl hx ih =>
    intro c hc
    cases hc with
    | tup _ vs hs hv =>
      refine .tup ds vs (by omega) fun i y u hy hu => ?_
      have : i < cs.length := by rw [← hl]; exact (List.getElem?_eq_some_iff.1 hy).1
      exact ih i _ y (List.getElem?_eq_getElem this) hy u (hv i _ u (List.getElem?_eq_getElem this) hu)

def resOf (tmps : Array Value) : ResultVar → Sem Value
  | .tmp t => pure (tmps.getD t undef)
  | .cell x t => do loadVar t (← asAddr (tmps.getD x undef))

theorem results_eq (fn : Func) (tmps : Array Value) : results fn tmps = (do
    let vs ← fn.results.mapM (resOf tmps)
    pure (if h : vs.size = 1 then vs[0] else .tuple vs)) := by
  unfold results
  congr 1

/-- What an activation hands back. -/
theorem run_results {z : Start} {lam : Nat → Nat} {s : St} {a : Act} (hs : SRel z γ w lam s a) : ∀ (rs : List ResultVar) (ars : List AR) (vs : List V), compR P rs = some ars → resV s ars = some vs → okVals vs = true →
    ∃ cs : List Value, (rs.mapM (resOf a.tmps)).run P w = .ok cs w ∧ cs.length = vs.length ∧ ∀ (i : Nat) (v : V) (c : Value), vs[i]? = some v → cs[i]? = some c → RelV γ w v c := by
  intro rs
  induction rs with
  | nil => intro ars vs h1 h2 _; simp [compR] at h1; subst h1; simp [resV] at h2; subst h2; exact ⟨[], by simp, rfl, fun i v c hv => by simp at hv⟩
  | cons r rs ih =>
    intro ars vs h1 h2 hok
    cases r with
    | tmp t =>
      simp only [compR, Option.map_eq_some_iff] at h1
      obtain ⟨ars', h3, rfl⟩ := h1
      simp only [resV, Option.map_eq_some_iff] at h2
      obtain ⟨vs', h4, rfl⟩ := h2
      simp only [okVals, Bool.and_eq_true] at hok
      obtain ⟨cs, i1, i2, i3⟩ := ih ars' vs' h3 h4 hok.2
      refine ⟨a.tmps.getD t undef :: cs, by simp [List.mapM_cons, resOf, i1], by simp [i2], fun i v c hv hc => ?_⟩
      cases i with
      | zero => simp at hv hc; subst hv; subst hc; simpa using (hs.reg t).ok (by simpa using hok.1)
      | succ i => exact i3 i v c (by simpa using hv) (by simpa using hc)
    | cell x t =>
      simp only [compR, Option.bind_eq_some_iff, Option.map_eq_some_iff] at h1
      obtain ⟨n, hn, ars', h3, rfl⟩ := h1
      simp only [resV, Option.bind_eq_some_iff, Option.map_eq_some_iff] at h2
      obtain ⟨v0, hv0, vs', h4, rfl⟩ := h2
      simp only [okVals, Bool.and_eq_true] at hok
      obtain ⟨cs, i1, i2, i3⟩ := ih ars' vs' h3 h4 hok.2
      obtain ⟨cells, off, g1, g2⟩ := load_split hv0
      obtain ⟨b, o', arr, e, hr, hcell⟩ := cells_at hs (hs.reg x) g1
      obtain ⟨c, hrun, hrel⟩ := run_loadVar_at (P := P) hn hr hcell g2
      refine ⟨c :: cs, ?_, by simp [i2], fun i v c' hv hc => ?_⟩
      · simp only [List.mapM_cons, resOf, Sem.run_bind, e, asAddr, Sem.run_pure, Result.andThen_ok, hrun, i1]
      · cases i with
        | zero => simp at hv hc; subst hv; subst hc; exact hrel
        | succ i => exact i3 i v c' (by simpa using hv) (by simpa using hc)

theorem oneOf_rel {vs : List V} {cs : List Value} (hl : cs.length = vs.length) (h : ∀ (i : Nat) (v : V) (c : Value), vs[i]? = some v → cs[i]? = some c → RelV γ w v c) :
    RelV γ w (oneOf vs) (if h : cs.toArray.size = 1 then cs.toArray[0] else .tuple cs.toArray) := by
  match vs, cs with
  | [v], [c] => simpa [oneOf] using h 0 v c rfl rfl
  | [], [] => exact .tup [] _ rfl (by simp)
  | v :: u :: l, [] => simp at hl
  | v :: u :: l, [c] => simp at hl
  | v :: u :: l, c :: d :: m =>
    rw [dif_neg (by simp)]
    exact .tup _ _ (by simpa using hl) fun i x y hx hy => h i x y hx (by simpa using hy)
  | [], c :: m => simp at hl
  | [v], [] => simp at hl
  | [v], c :: d :: m => simp at hl

def PrimOk (P : Program) (f : Nat) (p : List V → Option V) : Prop :=
  ∀ (args : List V) (v : V), p args = some v → ∀ (γ : Gh) (w : World) (h : List Ob) (cargs : Array Value), HRel γ w h → ArgsRel γ w args cargs → Came P f cargs w fun c w' => ∃ γ', RelV γ' w' v c ∧ HRel γ' w' h ∧ Ev γ w γ' w'

/-- One that leans on what package-level variables hold. -/
def PrimOkG (P : Program) (KG : List Nat) (f : Nat) (p : List V → Option V) : Prop :=
  ∀ (args : List V) (v : V), p args = some v → ∀ (γ : Gh) (w : World) (h : List Ob) (cargs : Array Value), GOk KG γ w → HRel γ w h → ArgsRel γ w args cargs → Came P f cargs w fun c w' => ∃ γ', RelV γ' w' v c ∧ HRel γ' w' h ∧ Ev γ w γ' w'
theorem PrimOk.g {P : Program} {KG : List Nat} {f : Nat} {p : List V → Option V} (h : PrimOk P f p) : PrimOkG P KG f p := fun args v hp γ w hh cargs _ => h args v hp γ w hh cargs

/-- Behind code something comes. -/
theorem wpL_nv {X : CallH} (hX : NV X) {bs : List Nat} : ∀ {l : List Ins} {K : St → Prop} {s : St}, wpL X bs l K s → ∃ s', K s' := by
  intro l
  induction l with
  | nil => intro K s h; simp only [wpL] at h; exact ⟨s, h⟩
  | cons i is ih =>
    intro K s h
    have h := wpL_cons.1 h
    unfold wpI at h
    cases he : i.eff s.r with
    | none => rw [he] at h; exact h.elim
    | some o =>
      rw [he] at h
      simp only [kEff] at h
      obtain ⟨v, s', h⟩ := wpOp_nv hX h
      exact ih h

theorem wpA_nv {X : CallH} (hX : NV X) {bs : List Nat} : ∀ {c : AC} {Q : AX → St → Prop} {s : St}, wpA X bs c Q s → ∃ e s', Q e s' := by
  intro c
  induction c with
  | skip => intro Q s h; simp only [wpA] at h; exact ⟨_, _, h⟩
  | reg l => intro Q s h; simp only [wpA] at h; obtain ⟨s', h⟩ := wpL_nv hX h; exact ⟨_, _, h⟩
  | seq a b iha ihb =>
    intro Q s h
    simp only [wpA] at h
    obtain ⟨e, s', h⟩ := iha h
    cases e <;> simp only [thenA] at h <;> first | exact ihb h | exact ⟨_, _, h⟩
  | cond c a b iha ihb =>
    intro Q s h
    simp only [wpA] at h
    generalize ev s.r c = v at h
    unfold condA at h
    split at h
    · rename_i c
      cases c
      · exact ihb (h.2 rfl)
      · exact iha (h.1 rfl)
    · exact h.elim
  | block id b ih =>
    intro Q s h
    simp only [wpA] at h
    obtain ⟨e, s', h⟩ := ih h
    cases e <;> simp only [blockA] at h
    · exact ⟨_, _, h⟩
    · split at h <;> exact ⟨_, _, h⟩
    · exact ⟨_, _, h⟩
  | loop keep locs b ih =>
    intro Q s h
    simp only [wpA, lfpA] at h
    refine h (fun _ => ∃ e s', Q e s') fun s h => ?_
    obtain ⟨e, s', h⟩ := ih h
    cases e <;> simp only [thenA] at h <;> first | exact h | exact ⟨_, _, h⟩
  | rfunc g key kp fs =>
    intro Q s h
    simp only [wpA] at h
    unfold kRf at h
    split at h
    · obtain ⟨_, h', h⟩ := hX _ _ _ _ _ _ h.2
      unfold rfEnd at h
      split at h
      · have h := h.2
        unfold peA at h
        split at h <;> exact ⟨_, _, h⟩
      · exact h.elim
    · exact h.elim
  | exit id => intro Q s h; simp only [wpA] at h; exact ⟨_, _, h⟩
  | ret => intro Q s h; simp only [wpA] at h; exact ⟨_, _, h⟩

theorem yldA_nv {ap : AP} {X : CallH} (hX : NV X) {r : Nat} {bs : List Nat} {args : List V} {h : List Ob} {Q : V → List Ob → Prop} {o : Option Ob} (hb : yldA ap X r bs args h Q o) : ∃ v h', Q v h' := by
  unfold yldA at hb
  split at hb
  · unfold yldB at hb
    split at hb
    · obtain ⟨e, s, h⟩ := wpA_nv hX hb.2
      cases e <;> simp only [asgP] at h
      unfold rnd rndO at h
      split at h
      · obtain ⟨e, s, h⟩ := wpA_nv hX h
        cases e <;> simp only [rndP] at h <;> unfold rndE at h <;> split at h <;> first | exact ⟨_, _, h⟩ | exact h.elim
      · exact h.elim
    · exact hb.elim
  · exact hb.elim

theorem bodyA_nv {ap : AP} {X : CallH} (hX : NV X) : NV (bodyA ap X) := by
  intro g vr bs args h Q hb
  unfold bodyA at hb
  split at hb
  · exact yldA_nv hX hb
  split at hb
  · exact hb.elim
  · exact hb.elim
  · unfold primK at hb; split at hb <;> first | exact ⟨_, _, hb⟩ | exact hb.elim
  · obtain ⟨e, s, h⟩ := wpA_nv hX hb.2
    have fin : ∀ (n : Nat) (h : List Ob) (o : Option (List V)), finF n Q h o → ∃ v h', Q v h' := by
      intro n h o hf
      cases o with
      | none => exact hf.elim
      | some vs =>
        obtain ⟨_, v, _, _, hq⟩ := hf
        exact ⟨_, _, hq⟩
    cases e <;> simp only [retF] at h <;> first | exact h.elim | exact fin _ _ _ h
  · obtain ⟨e, s, h⟩ := wpA_nv hX hb.2
    have fin : ∀ (t r : Bool) (n : Nat) (h : List Ob) (o : Option (List V)), finO r t n Q h o → ∃ v h', Q v h' := by
      intro t r n h o hf
      cases o with
      | none => exact hf.elim
      | some vs =>
        cases t
        · exact ⟨_, _, hf.2⟩
        · exact ⟨_, _, hf.2.2⟩
    cases e <;> simp only [retK] at h <;> first | exact h.elim | exact fin _ _ _ _ _ h

def TableOk (P : Program) (ap : AP) (KG : List Nat := []) : Prop :=
  ∀ f vr fd, ap f vr = some fd → match fd with
    | .codeF af => ∃ A fn, P.funcs[f]? = some fn ∧ compF P A af.ownR af.trunc fn = some af ∧ (∀ g ∈ A.gl, g ∈ KG) ∧ A.fi = f
    | .code af => ∃ A fn, P.funcs[f]? = some fn ∧ compF P A af.ownR af.trunc fn = some af ∧ (∀ g ∈ A.gl, g ∈ KG) ∧ A.fi = f
    | .body ab => ∃ A t, bdOf P f = some t ∧ compB P A t = some ab ∧ ∀ g ∈ A.gl, g ∈ KG
    | .prim p => PrimOkG P KG f p

theorem tab_body {P : Program} {KG : List Nat} {key : Nat} {A : Ann} {fn : Func} {ab : AB} (hf : P.funcs[key / 64]? = some fn)
    (hc : ((fn.body.bind fun c => ((rfs c)[key % 64]?).map fun t => (t.1, t.2.1, t.2.2, fn.ntmps)).bind (compB P A)) = some ab) (hg : ∀ g ∈ A.gl, g ∈ KG) :
    ∃ A t, bdOf P key = some t ∧ compB P A t = some ab ∧ ∀ g ∈ A.gl, g ∈ KG := by
  obtain ⟨t, h1, h2⟩ := Option.bind_eq_some_iff.1 hc
  exact ⟨A, t, by simp only [bdOf, hf, Option.bind_some]; exact h1, h2, hg⟩

/-- A mark is taken. -/
theorem SRel.take {z : Start} {lam : Nat → Nat} {s : St} {a : Act} (hs : SRel z γ w lam s a) {d : Deferred} {ds : List Deferred} (hd : a.defers = d :: ds) :
    ∃ r, d = { target := .collected r, args := #[] } ∧ w.heap[r]? = some (.deferred (some [])) ∧ SRel z γ (w.putObj r (.deferred none)) lam s { a with defers := ds } := by
  obtain ⟨hn, hm⟩ := hs.marks
  rw [hd] at hn hm
  obtain ⟨r, rfl, hr, hb⟩ := hm d (by simp)
  have other : ∀ b, b ≠ r → (w.putObj r (.deferred none)).heap[b]? = w.heap[b]? := fun b h => World.putObj_heap_other h
  have hcell : ∀ b o, o < γ.prot b → (w.putObj r (.deferred none)).cell? ⟨b, o, none⟩ = w.cell? ⟨b, o, none⟩ := fun b o _ => by
    by_cases e : b = r
    · subst e
      simp [World.cell?, hb, World.putObj_heap_same (Array.getElem?_eq_some_iff.1 hb).1]
    · exact cell_same (other b e) o
  have hle : Le γ w γ (w.putObj r (.deferred none)) := { Le.refl γ w with cells := hcell }
  refine ⟨r, rfl, hb, ⟨hs.heap.n, hs.heap.inj, fun r' o ho => ?_, fun b hb' => hs.heap.far b (by simpa using hb')⟩, ⟨fun d' cs hd' => ?_, hs.loc.inj⟩, fun i => (hs.reg i).mono hle, ⟨(List.nodup_cons.1 hn).2, fun d' hd' => ?_⟩, fun l hl => ?_, hs.size, ?_, hs.lnew, hs.low⟩
  · have hr' : r' < γ.n := hs.heap.n ▸ (List.getElem?_eq_some_iff.1 ho).1
    exact (hs.heap.obj r' o ho).keep hle hr' rfl rfl rfl (other _ (hs.heap.apart hb r' hr')) rfl
  · obtain ⟨h1, h2, arr, e, h3, h4⟩ := hs.loc.blk d' cs hd'
    exact ⟨h1, h2, arr, e, (other _ (fun e => by rw [e, hb] at h3; cases h3)).trans h3, h4.mono hle⟩
  · obtain ⟨r', h1, h2, h3⟩ := hm d' (by simp [hd'])
    refine ⟨r', h1, h2, (other _ (fun e => ?_)).trans h3⟩
    subst e; subst h1
    exact (List.nodup_cons.1 hn).1 hd'
  · obtain ⟨lp, h1⟩ := hs.rnd l hl
    exact ⟨lp, (other _ (fun e => by rw [e, hb] at h1; cases h1)).trans h1⟩
  · have hev := hs.ev
    exact { le := hev.le.trans hle, old := hev.old, new := hev.new, size := by simpa using hev.size, heap := fun b hb' hne => ⟨(other b (by omega)).trans (hev.heap b hb' hne).1, (hev.heap b hb' hne).2⟩, os := hev.os, tape := hev.tape, out := hev.out,
            lps := fun b lp h => (hev.lps b lp h).elim fun lp' h1 => ⟨lp', (other b (fun e => by rw [e, hb] at h1; cases h1)).trans h1⟩ }

theorem leaves_of {z : Start} {lam : Nat → Nat} {s : St} {fn : Func} {R : Ending → World → Prop} (tmps : Array Value) : ∀ (ds : List Deferred) (w : World), SRel z γ w lam s { tmps := tmps, defers := ds } →
    (∀ w', SRel z γ w' lam s { tmps := tmps, defers := [] } → ∃ v, (results fn tmps).run P w' = .ok v w' ∧ R (.returned v) w') → LeavesInM Fence.wide 0 P fn tmps R ds .returning w := by
  intro ds
  induction ds with
  | nil => intro w hs h; exact h w hs
  | cons d ds ih =>
    intro w hs h
    obtain ⟨r, h1, h2, h3⟩ := hs.take rfl
    exact ⟨by simp, .inl ⟨r, _, by rw [h1], run_takeDeferred h2, ih _ h3 h⟩⟩

/-- What a round begins with. -/
theorem startB_rel : ∀ (ps : List Nat) (as : List V) (cs : List Value) (r : Nat → V) (tmps : Array Value), ps.length = as.length → cs.length = as.length → (∀ p ∈ ps, p < tmps.size) →
    (∀ (i : Nat) (x : V) (u : Value), as[i]? = some x → cs[i]? = some u → RelV γ w x u) → (∀ i, r i = .undef ∨ RelV γ w (r i) (tmps.getD i undef)) →
    ((ps.zip cs).foldl (fun (t : Array Value) (p : Nat × Value) => t.setIfInBounds p.1 p.2) tmps).size = tmps.size ∧
    ∀ i, startB ps as r i = .undef ∨ RelV γ w (startB ps as r i) (((ps.zip cs).foldl (fun (t : Array Value) (p : Nat × Value) => t.setIfInBounds p.1 p.2) tmps).getD i undef) := by
  intro ps
  induction ps with
  | nil => intro as cs r tmps _ _ _ _ hr; simpa [startB] using hr
  | cons p ps ih =>
    intro as cs r tmps h1 h2 h3 h4 hr
    cases as with
    | nil => simp at h1
    | cons x as =>
      cases cs with
      | nil => simp at h2
      | cons c cs =>
        have hp : p < tmps.size := h3 p (by simp)
        simp only [startB, List.zip_cons_cons, List.foldl_cons]
        obtain ⟨g1, g2⟩ := ih as cs (put r p x) (tmps.setIfInBounds p c) (by simpa using h1) (by simpa using h2) (fun q hq => by simpa using h3 q (by simp [hq])) (fun i y u hy hu => h4 (i + 1) y u (by simpa using hy) (by simpa using hu)) (fun i => by
          by_cases e : i = p
          · subst e
            refine .inr ?_
            have : (tmps.setIfInBounds i c).getD i undef = c := by simp [Array.getD, hp]
            rw [this]
            simpa [put] using h4 0 x c rfl rfl
          · have : (tmps.setIfInBounds p c).getD i undef = tmps.getD i undef := by
              simp only [Array.getD_eq_getD_getElem?]
              rw [Array.getElem?_setIfInBounds_ne (Ne.symm e)]
            rw [this]
            simpa [put, e] using hr i)
        exact ⟨g1.trans (by simp), g2⟩

theorem regF_rel {γ : Gh} {w : World} {tmps : Array Value} : ∀ (regs : List (Nat × V)), (∀ x ∈ regs, x.2 = .undef ∨ RelV γ w x.2 (tmps.getD x.1 undef)) → ∀ i, regF regs i = .undef ∨ RelV γ w (regF regs i) (tmps.getD i undef) := by
  intro regs
  induction regs with
  | nil => intro _ i; exact .inl rfl
  | cons x regs ih =>
    intro h i
    obtain ⟨j, v⟩ := x
    simp only [regF]
    split
    · rename_i e
      subst e
      exact h (i, v) (by simp)
    · exact ih (fun x hx => h x (by simp [hx])) i

/-- A ROUND. -/
theorem sim_round (hm : P.follows .mixedOrders = true) {KG : List Nat} {X : CallH} (hX : XOk P KG X) (hL : HLe X X) (hN : NV X) {A : Ann} {h : List Ob} {g key : Nat} {regs : List (Nat × V)} {ab : AB} {bs : List Nat} {args : List V} {Q : V → List Ob → Prop} {cargs : Array Value}
    (ho : h[g]? = some (.loop key regs 0 none)) {t : Array Tmp × Code × Code × Nat} (hbd : bdOf P key = some t) (hcomp : compB P A t = some ab) (hsub : ∀ g ∈ A.gl, g ∈ KG) (hlen : args.length = ab.ps.length)
    (hb : wpA X bs ab.asg (asgP (rnd X g bs ab.bdy Q)) { r := startB ab.ps args (regF regs), l := fun _ => none, h := h })
    (hgb : γ.bd = bdOf P) (hglo : GOk KG γ w) (hh : HRel γ w h) (hlow : LowOk bs h) (hargs : ArgsRel γ w args cargs) : YCame P (γ.rho g) cargs w (XPost γ w bs Q) := by
  obtain ⟨h1, h2, lp, h3, h4⟩ := hh.obj g _ ho
  have hlt : g < γ.n := hh.n ▸ (List.getElem?_eq_some_iff.1 ho).1
  have ht : t = (lp.params, lp.assign, lp.body, lp.tmps.size) := by
    have := h4.code
    rw [hgb, hbd] at this
    exact Option.some.inj this
  subst ht
  unfold compB at hcomp
  split at hcomp
  case isFalse => cases hcomp
  rename_i hps
  simp only [Option.bind_eq_some_iff, Option.map_eq_some_iff] at hcomp
  obtain ⟨ac, hac, bc, hbc, rfl⟩ := hcomp
  simp only at hlen hb
  let z : Start := ⟨γ, w, bs, lp.tmps.size, some (γ.rho g)⟩
  have hXG : XG P KG A z X := ⟨hX, hgb, hglo, hsub⟩
  have hsz : cargs.size = lp.params.size := by rw [hargs.1, hlen]; simp
  obtain ⟨g1, g2⟩ := startB_rel (γ := γ) (w := w) lp.params.toList args cargs.toList (regF regs) lp.tmps hlen.symm (by simpa using hargs.1) (fun p hp => by simpa using (List.all_eq_true.1 hps) p hp)
    (fun i x u hx hu => hargs.2.2 i x u hx (by simpa using hu)) (regF_rel regs h4.regs)
  have efold : (lp.params.zip cargs).foldl (fun tmps (t, a) => tmps.setIfInBounds t a) lp.tmps = (lp.params.toList.zip cargs.toList).foldl (fun (t : Array Value) (p : Nat × Value) => t.setIfInBounds p.1 p.2) lp.tmps := by
    rw [← Array.foldl_toList]
    simp
  have hs0 : SRel z γ w (fun _ => 0) { r := startB lp.params.toList args (regF regs), l := fun _ => none, h := h } { tmps := (lp.params.toList.zip cargs.toList).foldl (fun (t : Array Value) (p : Nat × Value) => t.setIfInBounds p.1 p.2) lp.tmps, defers := [] } :=
    ⟨hh, ⟨fun d cs hd => (by cases hd), fun d d' h1 => absurd rfl h1⟩, fun i => (g2 i).imp id (fun e => .inr e), ⟨List.nodup_nil, fun d hd => (by cases hd)⟩, fun l hl => (by cases hl; exact ⟨lp, h3⟩), g1, Ev.refl _ _, fun d h1 => absurd rfl h1, hlow⟩
  refine ⟨lp.fn, _, lp.assign, lp.body, run_yield h3 hsz, ?_⟩
  rw [efold]
  refine roundIn_of_wpIn (F := Fence.wide) (n := 0) trivial ?_
  have draw := fun (z' : Start) (hXG : XG P KG A z' X) (id : Nat) (ops : Array Oper) (is : List Ins) (Q : AX → St → Prop) (s : St) (γ : Gh) (lam : Nat → Nat) (a : Act) (w : World) h1 (js : List Ins) (hj : Js (A.hp ++ A.kc) ops is js) h2 h3 h4 => sim_draw hm hXG hL hN (id := id) (ops := ops) (is := is) h1 (js := js) hj h2 (Q := Q) (s := s) (γ := γ) (lam := lam) (a := a) (w := w) h3 h4
  have hwa := sim_code (A := A) (z := z) (X := X) hXG (draw z hXG) lp.assign 64 ac hac (fun k t hk hl => by omega) _ _ γ _ _ w hb hs0
  refine wpIn_mono (F := Fence.wide.inRound (γ.rho g)) (show lp.assign.wpIn (Fence.wide.inRound (γ.rho g)) 0 P _ _ w from hwa) ?_
  intro e a1 w1 hq
  cases e <;> simp only [QR, Exit.then, asgP] at hq ⊢
  case exit => obtain ⟨_, _, _, hq, _⟩ := hq; exact hq
  case ret => obtain ⟨_, _, _, hq, _⟩ := hq; exact hq
  obtain ⟨γ1, lam1, s1, hq, hs1⟩ := hq
  unfold rnd rndO at hq
  split at hq
  case h_2 => exact hq.elim
  rename_i key1 regs1 ho1
  have er1 : γ1.rho g = γ.rho g := hs1.ev.le.box g hlt h1
  obtain ⟨lp1, k1, k2, k3⟩ := Ev.loopSet (st' := 1) (pe' := none) hs1.heap ho1
  rw [er1] at k1 k3
  obtain ⟨k4, k5⟩ := k3 { lp1 with state := .busy } rfl rfl rfl rfl rfl k2.pe
  refine ⟨_, run_beginRound k1 k2.st, ?_⟩
  have hs2 := hs1.after k4 k5 (lowOk_loop hs1.low ho1)
  have hwb := sim_code (A := A) (z := z) (X := X) hXG (draw z hXG) lp.body 64 bc hbc (fun k t hk hl => by omega) _ _ γ1 _ _ _ hq hs2
  refine wpIn_mono (F := Fence.wide.inRound (γ.rho g)) (show lp.body.wpIn (Fence.wide.inRound (γ.rho g)) 0 P _ _ _ from hwb) ?_
  intro e a2 w2 hq
  have fin : ∀ (γ2 : Gh) (lam2 : Nat → Nat) (s2 : St) (st' : Nat) (pe' : Option (Option Nat)), SRel z γ2 w2 lam2 s2 a2 → stOf st' = (if (peOf pe').isNone then .ready else .done) → rndE g st' pe' (peOf pe').isNone Q s2.h s2.h[g]? →
      ∃ v w', (Instr.endRound (γ.rho g) (peOf pe')).run P w2 = .ok v w' ∧ ∃ c, Ending.returned v = .returned c ∧ XPost γ w bs Q c w' := by
    intro γ2 lam2 s2 st' pe' hs2 hst hQ
    unfold rndE at hQ
    split at hQ
    case h_2 => exact hQ.elim
    rename_i key2 regs2 ho2
    have er2 : γ2.rho g = γ.rho g := hs2.ev.le.box g hlt h1
    obtain ⟨lp2, k1, k2, k3⟩ := Ev.loopSet (st' := st') (pe' := pe') hs2.heap ho2
    rw [er2] at k1 k3
    obtain ⟨k4, k5⟩ := k3 { lp2 with state := if (peOf pe').isNone then .ready else .done, pending := peOf pe' } rfl rfl rfl rfl hst.symm rfl
    exact ⟨_, _, run_endRound (peOf pe') k1, _, rfl, _, _, γ2, hQ, .bool _, k5, lowOk_loop hs2.low ho2, hs2.ev.trans k4⟩
  cases e <;> simp only [QR, roundPost, rndP] at hq ⊢
  · obtain ⟨γ2, lam2, s2, hQ, hs2⟩ := hq
    exact fin γ2 lam2 s2 0 none hs2 rfl hQ
  · obtain ⟨γ2, lam2, s2, hQ, hs2⟩ := hq
    exact fin γ2 lam2 s2 2 (some (some _)) hs2 rfl hQ
  · obtain ⟨γ2, lam2, s2, hQ, hs2⟩ := hq
    exact fin γ2 lam2 s2 2 (some none) hs2 rfl hQ

theorem xok (hm : P.follows .mixedOrders = true) {ap : AP} {KG : List Nat} (ht : TableOk P ap KG) : XOk P KG (CallA ap) := by
  intro g vr bs args h Q hc
  let X1 : CallH := fun g vr bs args h Q => (∃ v h', Q v h') ∧ ∀ γ w cargs, γ.bd = bdOf P → GOk KG γ w → HRel γ w h → LowOk bs h → ArgsRel γ w args cargs → if vr = 1000001 then YCame P (γ.rho g) cargs w (XPost γ w bs Q) else Came P g cargs w (XPost γ w bs Q)
  have hX1 : XOk P KG X1 := fun g vr bs args h Q hx => hx.2
  have hN1 : NV X1 := fun g vr bs args h Q hx => hx.1
  have hL1 : HLe X1 X1 := by
    intro g vr bs args h Q Q' hq ⟨⟨v, h', hx⟩, hx2⟩
    refine ⟨⟨v, h', hq _ _ hx⟩, fun γ w cargs hgb h0 h1 h2 h3 => ?_⟩
    have mono : ∀ c w', XPost γ w bs Q c w' → XPost γ w bs Q' c w' := by
      rintro c w' ⟨v, h', γ', g1, g2⟩
      exact ⟨v, h', γ', hq _ _ g1, g2⟩
    have hx2 := hx2 γ w cargs hgb h0 h1 h2 h3
    by_cases hv : vr = 1000001
    · rw [if_pos hv] at hx2 ⊢
      obtain ⟨f, tmps, as, bd, g1, g2⟩ := hx2
      refine ⟨f, tmps, as, bd, g1, g2.mono ?_⟩
      rintro e w' ⟨c, rfl, g3⟩
      exact ⟨c, rfl, mono _ _ g3⟩
    rw [if_neg hv] at hx2 ⊢
    rcases hx2 with ⟨g1, g2⟩ | ⟨c, w', g1, g2⟩
    · refine .inl ⟨g1, g2.mono ?_⟩
      rintro e w' ⟨c, rfl, g3⟩
      exact ⟨c, rfl, mono _ _ g3⟩
    · exact .inr ⟨c, w', g1, mono _ _ g2⟩
  refine (hc X1 ?_).2
  clear hc g vr bs args h Q
  intro g vr bs args h Q hb
  refine ⟨bodyA_nv hN1 _ _ _ _ _ _ hb, ?_⟩
  intro γ w cargs hgb hglo hh hlow hargs
  unfold bodyA at hb
  split at hb
  · rename_i hv
    rw [if_pos hv]
    unfold yldA at hb
    split at hb
    · rename_i key regs ho
      unfold yldB at hb
      split at hb
      · rename_i ab hap
        obtain ⟨A, t, hbd, hcomp, hsub⟩ := ht key 77 _ hap
        exact sim_round hm hX1 hL1 hN1 ho hbd hcomp hsub hb.1 hb.2 hgb hglo hh hlow hargs
      · exact hb.elim
    · exact hb.elim
  rename_i hv
  rw [if_neg hv]
  split at hb
  · exact hb.elim
  · exact hb.elim
  · rename_i p hap
    cases hp : p args with
    | none => rw [hp] at hb; exact hb.elim
    | some v =>
      rw [hp] at hb
      have hprim : PrimOkG P KG g p := ht g vr _ hap
      rcases hprim args v hp γ w h cargs hglo hh hargs with ⟨h1, h2⟩ | ⟨c, w', h1, γ', h2, h3, h4⟩
      · refine .inl ⟨h1, h2.mono ?_⟩
        rintro e w' ⟨c, rfl, γ', g1, g2, g3⟩
        exact ⟨c, rfl, v, h, γ', hb, g1, g2, hlow, g3⟩
      · exact .inr ⟨c, w', h1, v, h, γ', hb, h2, h3, hlow, h4⟩
  · rename_i af hap
    obtain ⟨hlen, hb⟩ := hb
    obtain ⟨A, fn, hfn, hcomp, hsub, hfi⟩ := ht g vr _ hap
    unfold compF at hcomp
    split at hcomp
    · cases hcomp
    rename_i hname
    simp only [Option.bind_eq_some_iff, Option.map_eq_some_iff] at hcomp
    obtain ⟨code, hbody, ac, hac, ars, hars, heq⟩ := hcomp
    obtain ⟨ac', ars', ownR, trunc, nt⟩ := af
    simp only [AF.mk.injEq, true_and] at heq
    obtain ⟨rfl, rfl, rfl⟩ := heq
    simp only at hlen hb
    refine .inl ⟨?_, ?_⟩
    · simp only [callFunc, Sem.run_bind, run_program, Result.andThen_ok, hfn]
      have hname' : (fn.name == "runtime.NumGoroutine") = false := by simpa using hname
      simp [hname', hbody]
    · refine callsIn_wide.1 (callsIn_of_wp_marks (F := Fence.wide) (n := 0) hfn hbody trivial ?_)
      let z : Start := ⟨γ, w, h.length :: bs, fn.ntmps, none⟩
      have hlow' : LowOk z.bs h := by
        intro b hbm
        rcases List.mem_cons.1 hbm with rfl | hbm
        · exact ⟨Nat.le_refl _, fun r o _ ho => hh.under r o ho⟩
        · exact hlow b hbm
      have hs0 : SRel z γ w (fun _ => 0) { r := startR args, l := fun _ => none, h := h } { tmps := cargs ++ Array.replicate (fn.ntmps - cargs.size) undef, defers := [] } := by
        refine ⟨hh, ⟨fun d cs hd => (by cases hd), fun d d' h1 => absurd rfl h1⟩, fun i => ?_, ⟨List.nodup_nil, fun d hd => (by cases hd)⟩, fun l hl => (by cases hl), ?_, Ev.refl _ _, fun d h1 => absurd rfl h1, hlow'⟩
        · by_cases hi : i < args.length
          · refine .inr (.inr ?_)
            have hc : i < cargs.size := by rw [hargs.1]; exact hi
            have e1 : startR args i = args[i] := by simp [startR, hi]
            have e2 : (cargs ++ Array.replicate (fn.ntmps - cargs.size) undef).getD i undef = cargs[i] := by
              simp only [Array.getD_eq_getD_getElem?]
              rw [Array.getElem?_append_left hc, Array.getElem?_eq_getElem hc]
              rfl
            show RelV γ w (startR args i) _
            rw [e1, e2]
            exact hargs.2.2 i _ _ (List.getElem?_eq_getElem hi) (Array.getElem?_eq_getElem hc)
          · refine .inl ?_
            simp [startR, List.getD_eq_getElem?_getD, List.getElem?_eq_none (Nat.le_of_not_lt hi)]
        · simp [z, hargs.1]
          omega
      have hXG : XG P KG A z X1 := ⟨hX1, hgb, hglo, hsub⟩
      have hwp := sim_code (A := A) (z := z) (X := X1)
        hXG (fun id ops is Q s γ lam a w h1 js hj h2 h3 h4 => sim_draw hm hXG hL1 hN1 h1 hj h2 h3 h4) code 0 ac hac (fun k t hk hl => by
          have e1 : (g * 64 + (0 + k)) / 64 = g := by omega
          have e2 : (g * 64 + (0 + k)) % 64 = k := by omega
          simp only [hfi, bdOf, e1, e2, hfn, hbody, Option.bind_some, hk, Option.map_some, z]) _ _ γ _ _ w hb hs0
      refine wpIn_mono (F := Fence.wide) (show code.wpIn Fence.wide 0 P _ _ w from hwp) ?_
      intro e a' w' hq
      have fin : ∀ γ' lam' s, finF h.length Q s.h (resV s ars) → ∀ w', SRel z γ' w' lam' s { tmps := a'.tmps, defers := [] } → ∃ v, (results fn a'.tmps).run P w' = .ok v w' ∧ ∃ c, Ending.returned v = .returned c ∧ XPost γ w bs Q c w' := by
        intro γ' lam' s hf w' hs
        cases hres : resV s ars with
        | none => rw [hres] at hf; exact hf.elim
        | some vs =>
          rw [hres] at hf
          obtain ⟨hok, v, hfrz, hu, hQ⟩ := hf
          obtain ⟨cs, i1, i2, i3⟩ := run_results (P := P) hs fn.results.toList ars vs hars hres hok
          have hone := oneOf_rel i2 i3
          refine ⟨if h : cs.toArray.size = 1 then cs.toArray[0] else .tuple cs.toArray, ?_, if h : cs.toArray.size = 1 then cs.toArray[0] else .tuple cs.toArray, rfl, ?_⟩
          · rw [results_eq]
            simp only [Sem.run_bind]
            rw [Array.mapM_eq_mapM_toList]
            simp only [Sem.run_map, i1, Result.andThen_ok, Sem.run_pure]
          · have hv := (hfrz.rel hs.heap _ hone).demote
            have hn : h.length ≤ γ'.n := by rw [← hh.n]; exact hs.ev.le.n
            have hn' : h.length ≤ s.h.length := by rw [← hs.heap.n]; exact hn
            have hlo := hs.low h.length (by simp [z])
            refine ⟨v.demote, s.h.take h.length, { γ'.lock w' h.length with n := h.length }, hQ, hv.cut hu, hs.heap.lock hn' (hs.heap.cut hn' hlo.2), fun b hbm => ?_, ?_⟩
            · have g1 := hlow b hbm
              have g2 := hs.low b (by simp [z, hbm])
              refine ⟨by simp; omega, fun r o hr ho => ?_⟩
              rw [List.getElem?_take] at ho
              split at ho
              · exact g2.2 r o hr ho
              · cases ho
            · have hev := hs.ev
              have en : γ.n = h.length := hh.n
              have hle := hev.le.trans (lock_le (γ := γ') (w := w') (n := h.length))
              refine { le := { hle with n := by show γ.n ≤ h.length; omega }, old := hev.old, new := fun r h1 h2 => by simp at h2; omega, size := hev.size, heap := fun b hb hne => ?_, os := hev.os, tape := hev.tape, out := hev.out, lps := hev.lps }
              obtain ⟨g1, g2⟩ := hev.heap b hb hne
              refine ⟨g1, ?_⟩
              rw [← g2]
              refine Classical.byContradiction fun hn2 => ?_
              obtain ⟨r, h1, h2, h3⟩ := (lock_prot (γ := γ') (w := w') (n := h.length) (b := b)).2 hn2
              have := hev.new r (show γ.n ≤ r by omega) h2
              have hb' : b < w.heap.size := hb
              have h3' : w.heap.size ≤ γ'.rho r := this
              omega
      cases e <;> simp only [QR, bodyPostM, retF] at hq ⊢
      · obtain ⟨γ', lam', s, hf, hs⟩ := hq
        exact leaves_of a'.tmps a'.defers w' hs (fin γ' lam' s hf)
      · obtain ⟨γ', lam', s, hf, hs⟩ := hq
        exact hf
      · obtain ⟨γ', lam', s, hf, hs⟩ := hq
        exact leaves_of a'.tmps a'.defers w' hs (fin γ' lam' s hf)
  · rename_i af hap
    obtain ⟨hlen, hb⟩ := hb
    obtain ⟨A, fn, hfn, hcomp, hsub, hfi⟩ := ht g vr _ hap
    unfold compF at hcomp
    split at hcomp
    · cases hcomp
    rename_i hname
    simp only [Option.bind_eq_some_iff, Option.map_eq_some_iff] at hcomp
    obtain ⟨code, hbody, ac, hac, ars, hars, heq⟩ := hcomp
    obtain ⟨ac', ars', ownR, trunc, nt⟩ := af
    simp only [AF.mk.injEq, true_and] at heq
    obtain ⟨rfl, rfl, rfl⟩ := heq
    simp only at hlen hb
    refine .inl ⟨?_, ?_⟩
    · simp only [callFunc, Sem.run_bind, run_program, Result.andThen_ok, hfn]
      have hname' : (fn.name == "runtime.NumGoroutine") = false := by simpa using hname
      simp [hname', hbody]
    · refine callsIn_wide.1 (callsIn_of_wp_marks (F := Fence.wide) (n := 0) hfn hbody trivial ?_)
      let z : Start := ⟨γ, w, if trunc = true then h.length :: bs else bs, fn.ntmps, none⟩
      have hlow' : LowOk z.bs h := by
        intro b hbm
        simp only [z] at hbm
        split at hbm
        · rcases List.mem_cons.1 hbm with rfl | hbm
          · exact ⟨Nat.le_refl _, fun r o _ ho => hh.under r o ho⟩
          · exact hlow b hbm
        · exact hlow b hbm
      have hs0 : SRel z γ w (fun _ => 0) { r := startR args, l := fun _ => none, h := h } { tmps := cargs ++ Array.replicate (fn.ntmps - cargs.size) undef, defers := [] } := by
        refine ⟨hh, ⟨fun d cs hd => (by cases hd), fun d d' h1 => absurd rfl h1⟩, fun i => ?_, ⟨List.nodup_nil, fun d hd => (by cases hd)⟩, fun l hl => (by cases hl), ?_, Ev.refl _ _, fun d h1 => absurd rfl h1, hlow'⟩
        · by_cases hi : i < args.length
          · refine .inr (.inr ?_)
            have hc : i < cargs.size := by rw [hargs.1]; exact hi
            have e1 : startR args i = args[i] := by simp [startR, hi]
            have e2 : (cargs ++ Array.replicate (fn.ntmps - cargs.size) undef).getD i undef = cargs[i] := by
              simp only [Array.getD_eq_getD_getElem?]
              rw [Array.getElem?_append_left hc, Array.getElem?_eq_getElem hc]
              rfl
            show RelV γ w (startR args i) _
            rw [e1, e2]
            exact hargs.2.2 i _ _ (List.getElem?_eq_getElem hi) (Array.getElem?_eq_getElem hc)
          · refine .inl ?_
            simp [startR, List.getD_eq_getElem?_getD, List.getElem?_eq_none (Nat.le_of_not_lt hi)]
        · simp [z, hargs.1]
          omega
      have hXG : XG P KG A z X1 := ⟨hX1, hgb, hglo, hsub⟩
      have hwp := sim_code (A := A) (z := z) (X := X1)
        hXG (fun id ops is Q s γ lam a w h1 js hj h2 h3 h4 => sim_draw hm hXG hL1 hN1 h1 hj h2 h3 h4) code 0 ac hac (fun k t hk hl => by
          have e1 : (g * 64 + (0 + k)) / 64 = g := by omega
          have e2 : (g * 64 + (0 + k)) % 64 = k := by omega
          simp only [hfi, bdOf, e1, e2, hfn, hbody, Option.bind_some, hk, Option.map_some, z]) _ _ γ _ _ w hb hs0
      refine wpIn_mono (F := Fence.wide) (show code.wpIn Fence.wide 0 P _ _ w from hwp) ?_
      intro e a' w' hq
      have fin : ∀ γ' lam' s, finO ownR trunc h.length Q s.h (resV s ars) → ∀ w', SRel z γ' w' lam' s { tmps := a'.tmps, defers := [] } → ∃ v, (results fn a'.tmps).run P w' = .ok v w' ∧ ∃ c, Ending.returned v = .returned c ∧ XPost γ w bs Q c w' := by
        intro γ' lam' s hf w' hs
        cases hres : resV s ars with
        | none => rw [hres] at hf; exact hf.elim
        | some vs =>
          rw [hres] at hf
          obtain ⟨hok, hend⟩ := hf
          obtain ⟨cs, i1, i2, i3⟩ := run_results (P := P) hs fn.results.toList ars vs hars hres hok
          have hone := oneOf_rel i2 i3
          refine ⟨if h : cs.toArray.size = 1 then cs.toArray[0] else .tuple cs.toArray, ?_, if h : cs.toArray.size = 1 then cs.toArray[0] else .tuple cs.toArray, rfl, ?_⟩
          · rw [results_eq]
            simp only [Sem.run_bind]
            rw [Array.mapM_eq_mapM_toList]
            simp only [Sem.run_map, i1, Result.andThen_ok, Sem.run_pure]
          · have hv : RelV γ' w' (if ownR = true then oneOf vs else (oneOf vs).demote) (if h : cs.toArray.size = 1 then cs.toArray[0] else .tuple cs.toArray) := by
              split
              · exact hone
              · exact hone.demote
            generalize (if ownR = true then oneOf vs else (oneOf vs).demote) = v at hv hend
            cases htr : trunc <;> rw [htr] at hend
            · refine ⟨v, s.h, γ', hend, hv, hs.heap, ?_, hs.ev⟩
              have := hs.low
              simp only [z, htr] at this
              exact this
            · obtain ⟨hu, hQ⟩ := hend
              have hn : h.length ≤ γ'.n := by rw [← hh.n]; exact hs.ev.le.n
              have hn' : h.length ≤ s.h.length := by rw [← hs.heap.n]; exact hn
              have hlo := hs.low h.length (by simp [z, htr])
              refine ⟨v, s.h.take h.length, { γ' with n := h.length }, hQ, hv.cut hu, hs.heap.cut hn' hlo.2, fun b hbm => ?_, ?_⟩
              · have g1 := hlow b hbm
                have g2 := hs.low b (by simp [z, htr, hbm])
                refine ⟨by simp; omega, fun r o hr ho => ?_⟩
                rw [List.getElem?_take] at ho
                split at ho
                · exact g2.2 r o hr ho
                · cases ho
              · have hev := hs.ev
                have en : γ.n = h.length := hh.n
                exact { le := { hev.le with n := by show γ.n ≤ h.length; omega }, old := hev.old, new := fun r h1 h2 => by simp at h2; omega, size := hev.size, heap := hev.heap, os := hev.os, tape := hev.tape, out := hev.out, lps := hev.lps }
      cases e <;> simp only [QR, bodyPostM, retK] at hq ⊢
      · obtain ⟨γ', lam', s, hf, hs⟩ := hq
        exact leaves_of a'.tmps a'.defers w' hs (fin γ' lam' s hf)
      · obtain ⟨γ', lam', s, hf, hs⟩ := hq
        exact hf
      · obtain ⟨γ', lam', s, hf, hs⟩ := hq
        exact leaves_of a'.tmps a'.defers w' hs (fin γ' lam' s hf)

end
end Go.Am
