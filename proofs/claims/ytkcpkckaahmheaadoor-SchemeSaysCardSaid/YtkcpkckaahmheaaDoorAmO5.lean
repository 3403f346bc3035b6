/- The abstract machine's operations are the model's: rows of values: built, made, cut, appended to. -/
import Derived.Test.YtkcpkckaahmheaaDoorAmO4
import Derived.Laws.MakeOwn
namespace Go.Am

section
variable {P : Program} {A : Ann} {X : CallH} {z : Start} {γ γ' : Gh} {w w' : World} {lam lam' : Nat → Nat} {s s' : St} {a : Act} {o : Oper} {K : V → St → Prop} {Qx : Exit → Act → World → Prop}

theorem foldl_set_list (off : Nat) : ∀ (l : List Value) (i : Nat) (cells : Array Value),
    ((l.zipIdx i).foldl (fun (cs : Array Value) (p : Value × Nat) => cs.setIfInBounds (off + p.2) p.1) cells).size = cells.size ∧
    ∀ k : Nat, ((l.zipIdx i).foldl (fun (cs : Array Value) (p : Value × Nat) => cs.setIfInBounds (off + p.2) p.1) cells)[k]? = if off + i ≤ k ∧ k < off + i + l.length ∧ k < cells.size then l[k - (off + i)]? else cells[k]? := by
  intro l
  induction l with
  | nil =>
    intro i cells
    refine ⟨rfl, fun k => ?_⟩
    rw [if_neg (by simp; omega)]
    rfl
  | cons v vs ih =>
    intro i cells
    simp only [List.zipIdx_cons, List.foldl_cons]
    obtain ⟨h1, h2⟩ := ih (i + 1) (cells.setIfInBounds (off + i) v)
    refine ⟨by rw [h1]; simp, fun k => ?_⟩
    rw [h2]
    simp only [Array.size_setIfInBounds, List.length_cons]
    by_cases hk : k = off + i
    · subst hk
      rw [if_neg (by omega)]
      by_cases hlt : off + i < cells.size
      · rw [if_pos (by omega)]; simp [hlt]
      · rw [if_neg (by omega)]; simp [hlt]
    · by_cases hc : off + (i + 1) ≤ k ∧ k < off + (i + 1) + vs.length ∧ k < cells.size
      · rw [if_pos hc, if_pos (by omega)]
        have : k - (off + i) = (k - (off + (i + 1))) + 1 := by omega
        rw [this]; simp
      · rw [if_neg hc, if_neg (by omega), Array.getElem?_setIfInBounds_ne (by omega)]

theorem foldl_set (off : Nat) (vs cells : Array Value) :
    (vs.zipIdx.foldl (fun (cs : Array Value) (p : Value × Nat) => cs.setIfInBounds (off + p.2) p.1) cells).size = cells.size ∧
    ∀ k : Nat, (vs.zipIdx.foldl (fun (cs : Array Value) (p : Value × Nat) => cs.setIfInBounds (off + p.2) p.1) cells)[k]? = if off ≤ k ∧ k < off + vs.size ∧ k < cells.size then vs[k - off]? else cells[k]? := by
  have h := foldl_set_list off vs.toList 0 cells
  rw [← Array.foldl_toList, Array.toList_zipIdx]
  simpa using h

theorem foldl_rel {cs xs : List V} {arr ys : Array Value} (h : CellsRel γ w cs arr) (hx : CellsRel γ w xs ys) (off : Nat) (hoff : off + xs.length ≤ cs.length) :
    CellsRel γ w (splice cs off xs) (ys.zipIdx.foldl (fun (cs : Array Value) (p : Value × Nat) => cs.setIfInBounds (off + p.2) p.1) arr) := by
  obtain ⟨h1, h2⟩ := foldl_set off ys arr
  have e1 := h.1
  have e2 := hx.1
  refine ⟨by rw [h1]; simp [splice]; omega, fun i x u hi hu => ?_⟩
  rw [h2] at hu
  unfold splice at hi
  by_cases hc : off ≤ i ∧ i < off + ys.size ∧ i < arr.size
  · rw [if_pos hc] at hu
    have : (cs.take off ++ xs ++ cs.drop (off + xs.length))[i]? = xs[i - off]? := by
      rw [List.append_assoc, List.getElem?_append_right (by simp; omega), List.getElem?_append_left (by simp; omega)]
      congr 1
      simp; omega
    rw [this] at hi
    exact hx.2 _ _ _ hi hu
  · rw [if_neg hc] at hu
    have hlt : i < arr.size := (Array.getElem?_eq_some_iff.1 hu).1
    have : (cs.take off ++ xs ++ cs.drop (off + xs.length))[i]? = cs[i]? := by
      by_cases hlt2 : i < off
      · rw [List.append_assoc, List.getElem?_append_left (by simp; omega), List.getElem?_take, if_pos hlt2]
      · rw [List.getElem?_append_right (by simp; omega), List.getElem?_drop]
        congr 1
        simp; omega
    rw [this] at hi
    exact h.2 _ _ _ hi hu

theorem fill_build (hs : SRel z γ w lam s a) (places : List (Nat × Nat)) : ∀ (ps : List (Nat × Operand)) (qs : List (Nat × Nat × AO)), compParts places ps = some qs → ∀ (cs : List V) (arr : Array Value) (cs' : List V), CellsRel γ w cs arr → buildC s.r qs cs = some cs' →
    ∃ arr', Instr.fill (places.toArray[·]?) arr (ps.map fun p => (p.1, a.eval p.2)) = some arr' ∧ CellsRel γ w cs' arr' := by
  intro ps
  induction ps with
  | nil => intro qs h cs arr cs' hr hb; simp [compParts] at h; subst h; simp [buildC] at hb; subst hb; exact ⟨arr, rfl, hr⟩
  | cons p ps ih =>
    intro qs h cs arr cs' hr hb
    obtain ⟨i, x⟩ := p
    simp only [compParts, Option.bind_eq_some_iff, Option.map_eq_some_iff] at h
    obtain ⟨⟨off, n⟩, hf, y, hy, qs', hqs, rfl⟩ := h
    simp only [buildC] at hb
    split at hb
    · rename_i hc
      obtain ⟨hc1, hc2, hc3⟩ := hc
      have hv := ((rel_x hs hy).ok hc3).cells hc3
      obtain ⟨arr', h1, h2⟩ := ih qs' hqs _ _ cs' (foldl_rel hr hv off (by omega)) hb
      refine ⟨arr', ?_, h2⟩
      have hsz := hv.1
      have hsz' := hr.1
      have hf' : places.toArray[i]? = some (off, n) := by simpa using hf
      simp only [List.map_cons, Instr.fill, hf']
      rw [if_neg (by simp; omega)]
      exact h1
    · cases hb

theorem sim_build (t : TypeId) (ps : Array (Nat × Operand)) (ho : o.op = .build t ps) {zc : List V} (hz : zeroV P t = some (.agg zc)) {fs : Array Field} (hu : P.underlying t = some (.struct fs)) {pl : List (Nat × Nat)} (hpl : placesT P fs = some pl)
    {qs : List (Nat × Nat × AO)} (hq : compParts pl ps.toList = some qs) (hd : ∀ i, o.dst = some i → i < z.nt) (h : kSome K s ((buildC s.r qs zc).map .agg)) (hs : SRel z γ w lam s a) : o.wp P a w (Nx z o.dst K) Qx := by
  obtain ⟨v, hv, hK⟩ := some_of h
  simp only [Option.map_eq_some_iff] at hv
  obtain ⟨cs', hb, rfl⟩ := hv
  obtain ⟨i, zv, hi, hz1, hz2⟩ := zeroV_rel hz
  obtain ⟨hzr, hzl⟩ := constV_rel γ w zv _ hz2
  obtain ⟨arr', h1, h2⟩ := fill_build hs pl ps.toList qs hq _ _ cs' (hzr.cells hzl) hb
  refine nx_val (c := .agg arr') ?_ hK hs (.inr (.inr h2.agg)) hd
  have hbuilt : P.built t (ps.map fun p => (p.1, a.eval p.2)).toList = some arr' := by
    unfold Program.built
    rw [hi, hu]
    simp only [hz1]
    unfold placesT at hpl
    rw [hpl]
    simpa using h1
  have hr := run_build w t _ _ hbuilt
  simp [execOp, ho, hr]

theorem fill_mono {p q : Nat → Option (Nat × Nat)} (hpq : ∀ i x, p i = some x → q i = some x) : ∀ (l : List (Nat × Value)) (cells r : Array Value), Instr.fill p cells l = some r → Instr.fill q cells l = some r
  | [], _, _, h => h
  | (i, v) :: l, cells, r, h => by
    simp only [Instr.fill] at h ⊢
    split at h
    · cases h
    · rename_i off size hp
      rw [hpq i _ hp]
      simp only
      split at h
      · cases h
      · rename_i hc
        rw [if_neg hc]
        exact fill_mono hpq l _ r h

theorem sim_buildA (t : TypeId) (ps : Array (Nat × Operand)) (ho : o.op = .build t ps) {zc : List V} (hz : zeroV P t = some (.agg zc)) {n : Nat} {e : TypeId} (hu : P.underlying t = some (.array n e)) {sz : Nat} (hsz : sizeT P e = some sz)
    {qs : List (Nat × Nat × AO)} (hq : compParts (placesA n sz) ps.toList = some qs) (hd : ∀ i, o.dst = some i → i < z.nt) (h : kSome K s ((buildC s.r qs zc).map .agg)) (hs : SRel z γ w lam s a) : o.wp P a w (Nx z o.dst K) Qx := by
  obtain ⟨v, hv, hK⟩ := some_of h
  simp only [Option.map_eq_some_iff] at hv
  obtain ⟨cs', hb, rfl⟩ := hv
  obtain ⟨i, zv, hi, hz1, hz2⟩ := zeroV_rel hz
  obtain ⟨hzr, hzl⟩ := constV_rel γ w zv _ hz2
  obtain ⟨arr', h1, h2⟩ := fill_build hs (placesA n sz) ps.toList qs hq _ _ cs' (hzr.cells hzl) hb
  refine nx_val (c := .agg arr') ?_ hK hs (.inr (.inr h2.agg)) hd
  have h3 := fill_mono (q := fun i => some (i * sz, sz)) (fun i x hx => by
    simp only [placesA, List.getElem?_toArray, List.getElem?_map, Option.map_eq_some_iff] at hx
    obtain ⟨j, hj, rfl⟩ := hx
    rw [List.getElem?_range (by simpa using (List.getElem?_eq_some_iff.1 hj).1)] at hj
    cases hj
    rfl) _ _ _ h1
  simp [execOp, ho, Instr.build, run_zeroValue hi hz1, run_underlying' hu, run_sizeOf' hsz, h3]

/-- A row of values, so many cells each, as a function from a cell's place. -/
def Row (γ : Gh) (w : World) (sz : Nat) (xs : List V) (f : Nat → Option Value) : Prop :=
  ∃ c : Nat → Value, ∀ (i : Nat) (x : V), xs[i]? = some x → RelV γ w x (c i) ∧ x.isLoc = false ∧ (c i).cells.size = sz ∧ ∀ (j : Nat) (u : Value), (c i).cells[j]? = some u → f (i * sz + j) = some u

theorem Row.mono (hle : Le γ w γ' w') {sz : Nat} {xs : List V} {f g : Nat → Option Value} (h : Row γ w sz xs f) (hfg : ∀ k u, k < xs.length * sz → f k = some u → g k = some u) : Row γ' w' sz xs g := by
  obtain ⟨c, hc⟩ := h
  refine ⟨c, fun i x hx => ?_⟩
  obtain ⟨h1, h2, h3, h4⟩ := hc i x hx
  refine ⟨h1.mono hle, h2, h3, fun j u hj => hfg _ u ?_ (h4 j u hj)⟩
  have hi := (List.getElem?_eq_some_iff.1 hx).1
  have hj' : j < sz := by rw [← h3]; exact (Array.getElem?_eq_some_iff.1 hj).1
  calc i * sz + j < i * sz + sz := by omega
    _ = (i + 1) * sz := by rw [Nat.add_mul]; omega
    _ ≤ xs.length * sz := Nat.mul_le_mul_right _ hi

theorem Row.sl {sz : Nat} {xs : List V} {f : Nat → Option Value} (h : Row γ w sz xs f) {b off cap : Nat} {t : Tag} (hcap : xs.length ≤ cap) (ht : TagOk γ t (some ⟨b, off, none⟩) xs.length cap)
    (hf : ∀ k u, k < xs.length * sz → f k = some u → off + k < γ.prot b ∧ w.cell? ⟨b, off + k, none⟩ = some u) : RelV γ w (.sl t xs) (.slice (some ⟨b, off, none⟩) xs.length cap) := by
  obtain ⟨c, hc⟩ := h
  refine .sl t xs _ cap c sz hcap ht (fun e => by cases e) (fun a' e => by cases e; rfl) (fun i x hx => (hc i x hx).1) (fun i x hx => ⟨(hc i x hx).2.2.1, (hc i x hx).2.1⟩) (fun i a' hi e => ?_)
  cases e
  intro j u hj
  obtain ⟨h1, h2, h3, h4⟩ := hc i _ (List.getElem?_eq_getElem hi)
  have hj' : j < sz := by rw [← h3]; exact (Array.getElem?_eq_some_iff.1 hj).1
  have hk : i * sz + j < xs.length * sz := by
    calc i * sz + j < i * sz + sz := by omega
      _ = (i + 1) * sz := by rw [Nat.add_mul]; omega
      _ ≤ xs.length * sz := Nat.mul_le_mul_right _ hi
  have := hf _ u hk (h4 j u hj)
  simpa [Nat.add_assoc] using this

theorem Row.total {sz : Nat} {xs : List V} {f : Nat → Option Value} (h : Row γ w sz xs f) (hsz : 0 < sz) {k : Nat} (hk : k < xs.length * sz) : ∃ u, f k = some u ∧ u.oneCell' = true := by
  obtain ⟨c, hc⟩ := h
  have hi : k / sz < xs.length := (Nat.div_lt_iff_lt_mul hsz).2 hk
  obtain ⟨h1, h2, h3, h4⟩ := hc (k / sz) _ (List.getElem?_eq_getElem hi)
  have hj : k % sz < (c (k / sz)).cells.size := by rw [h3]; exact Nat.mod_lt _ hsz
  have := h4 (k % sz) _ (Array.getElem?_eq_getElem hj)
  have e : k / sz * sz + k % sz = k := by rw [Nat.mul_comm]; exact Nat.div_add_mod k sz
  rw [e] at this
  refine ⟨_, this, (h1.cells h2).all_one _ (by simp)⟩

theorem Row.nil (sz : Nat) (f : Nat → Option Value) : Row γ w sz [] f := ⟨fun _ => .nilFunc, fun i x hx => by simp at hx⟩

theorem Row.append {sz : Nat} {xs ys : List V} {f g : Nat → Option Value} (h : Row γ w sz xs f) (h' : Row γ w sz ys g) :
    Row γ w sz (xs ++ ys) (fun k => if k < xs.length * sz then f k else g (k - xs.length * sz)) := by
  obtain ⟨c, hc⟩ := h
  obtain ⟨d, hd⟩ := h'
  refine ⟨fun i => if i < xs.length then c i else d (i - xs.length), fun i x hx => ?_⟩
  rw [List.getElem?_append] at hx
  by_cases hi : i < xs.length
  · rw [if_pos hi] at hx
    simp only [if_pos hi]
    obtain ⟨h1, h2, h3, h4⟩ := hc i x hx
    refine ⟨h1, h2, h3, fun j u hj => ?_⟩
    have hj' : j < sz := by rw [← h3]; exact (Array.getElem?_eq_some_iff.1 hj).1
    rw [if_pos]
    · exact h4 j u hj
    · calc i * sz + j < i * sz + sz := by omega
        _ = (i + 1) * sz := by rw [Nat.add_mul]; omega
        _ ≤ xs.length * sz := Nat.mul_le_mul_right _ hi
  · rw [if_neg hi] at hx
    simp only [if_neg hi]
    obtain ⟨h1, h2, h3, h4⟩ := hd _ x hx
    refine ⟨h1, h2, h3, fun j u hj => ?_⟩
    have hle : xs.length * sz ≤ i * sz := Nat.mul_le_mul_right _ (by omega)
    rw [if_neg (by omega)]
    have e : i * sz + j - xs.length * sz = (i - xs.length) * sz + j := by rw [Nat.sub_mul]; omega
    rw [e]
    exact h4 j u hj

theorem Row.set {sz : Nat} {xs : List V} {f : Nat → Option Value} (h : Row γ w sz xs f) {i : Nat} {y : V} {cy : Value} (hy : RelV γ w y cy) (hl : y.isLoc = false) (hcy : cy.cells.size = sz) {g : Nat → Option Value}
    (h1 : ∀ (j : Nat) (u : Value), cy.cells[j]? = some u → i < xs.length → g (i * sz + j) = some u) (h2 : ∀ k u, k < i * sz ∨ i * sz + sz ≤ k → f k = some u → g k = some u) : Row γ w sz (xs.set i y) g := by
  obtain ⟨c, hc⟩ := h
  refine ⟨fun k => if k = i then cy else c k, fun k x hx => ?_⟩
  by_cases e : k = i
  · subst e
    rw [List.getElem?_set] at hx
    simp at hx
    obtain ⟨hlt, rfl⟩ := hx
    simp only [if_true]
    exact ⟨hy, hl, hcy, fun j u hj => h1 j u hj hlt⟩
  · rw [List.getElem?_set_ne (Ne.symm e)] at hx
    simp only [if_neg e]
    obtain ⟨g1, g2, g3, g4⟩ := hc k x hx
    refine ⟨g1, g2, g3, fun j u hj => h2 _ u ?_ (g4 j u hj)⟩
    have hj' : j < sz := by rw [← g3]; exact (Array.getElem?_eq_some_iff.1 hj).1
    rcases Nat.lt_or_gt_of_ne e with hlt | hgt
    · left
      calc k * sz + j < k * sz + sz := by omega
        _ = (k + 1) * sz := by rw [Nat.add_mul]; omega
        _ ≤ i * sz := Nat.mul_le_mul_right _ hlt
    · right
      calc i * sz + sz = (i + 1) * sz := by rw [Nat.add_mul]; omega
        _ ≤ k * sz := Nat.mul_le_mul_right _ hgt
        _ ≤ k * sz + j := by omega

theorem oneV_cells {zx : V} (hl : zx.isLoc = false) (h0 : 0 < zx.cells.length) (hf : ∀ cs, zx = .agg cs → 2 ≤ cs.length ∨ ∀ x, cs = [x] → ∀ ds, x ≠ .agg ds) : (oneV zx.cells).cells.length = zx.cells.length := by
  cases zx <;> try rfl
  rename_i cs
  simp only [V.cells] at *
  match cs, h0 with
  | [x], _ => 
    rcases hf [x] rfl with h | h
    · simp at h
    · have := h x rfl
      cases x <;> first | rfl | exact absurd rfl (this _)
  | x :: y :: l, _ => rfl

/-- The zero value of a type, as a row holds it. -/
theorem zero_row {zv : Value} {zx : V} (hr : RelV γ w zx zv) (hl : zx.isLoc = false) (h0 : 0 < zx.cells.length) : ∃ c, RelV γ w (oneV zx.cells) c ∧ (oneV zx.cells).isLoc = false ∧ c.cells = zv.cells := by
  by_cases ha : ∃ cs, zx = .agg cs
  · obtain ⟨cs, rfl⟩ := ha
    cases hr with
    | agg _ vs hsz hv hone =>
      simp only [V.cells, Value.cells] at *
      match cs, h0 with
      | [x], _ =>
        have hs1 : vs.size = 1 := hsz
        have hg : vs[0]? = some vs[0] := Array.getElem?_eq_getElem (by omega)
        have h1 := hv 0 x vs[0] rfl hg
        have h2 := hone 0 vs[0] hg
        have hx : x.isLoc = false ∧ vs[0].cells = #[vs[0]] := by
          generalize vs[0] = u at h1 h2
          cases h1 <;> first | exact ⟨rfl, rfl⟩ | (simp [Value.oneCell'] at h2)
        refine ⟨vs[0], h1, hx.1, ?_⟩
        show vs[0].cells = vs
        rw [hx.2]
        apply Array.ext
        · simp [hs1]
        · intro i h3 h4
          have : i = 0 := by simp at h3; omega
          subst this
          rfl
      | x :: y :: l, _ => exact ⟨.agg vs, .agg _ vs hsz hv hone, rfl, rfl⟩
  · obtain ⟨h1, h2, h3⟩ := hr.one hl (fun cs e => ha ⟨cs, e⟩)
    rw [h3]
    exact ⟨zv, hr, hl, rfl⟩

theorem madeCells_get {zc : Array Value} (h0 : 0 < zc.size) {n k : Nat} (hk : k < n) : (madeCells zc n)[k]? = zc[k % zc.size]? := by
  have hm : k % zc.size < zc.size := Nat.mod_lt _ h0
  simp only [madeCells, Array.getElem?_map, Array.getElem?_range, hk, if_true, Option.map_some, Array.getElem?_eq_getElem hm]
  rw [getElem!_pos zc (k % zc.size) hm]

theorem row_made {zv : Value} {zx : V} (hr : RelV γ w zx zv) (hl : zx.isLoc = false) (h0 : 0 < zx.cells.length) (n : Nat) (m : Nat) (hm : n * zx.cells.length ≤ m) : Row γ w zx.cells.length (List.replicate n (oneV zx.cells)) (fun k => (madeCells zv.cells m)[k]?) := by
  obtain ⟨c, h1, h2, h3⟩ := zero_row hr hl h0
  have hsz := (hr.cells hl).1
  refine ⟨fun _ => c, fun i x hx => ?_⟩
  have hx' : i < n ∧ x = oneV zx.cells := by
    rw [List.getElem?_replicate] at hx
    split at hx
    · cases hx; exact ⟨by assumption, rfl⟩
    · cases hx
  obtain ⟨hi, rfl⟩ := hx'
  refine ⟨h1, h2, by rw [h3]; exact hsz, fun j u hj => ?_⟩
  rw [h3] at hj
  have hj' : j < zx.cells.length := by rw [← hsz]; exact (Array.getElem?_eq_some_iff.1 hj).1
  have hk : i * zx.cells.length + j < n * zx.cells.length := by
    calc i * zx.cells.length + j < i * zx.cells.length + zx.cells.length := by omega
      _ = (i + 1) * zx.cells.length := by rw [Nat.add_mul]; omega
      _ ≤ n * zx.cells.length := Nat.mul_le_mul_right _ hi
  show (madeCells zv.cells m)[i * zx.cells.length + j]? = some u
  rw [madeCells_get (by omega) (by omega), hsz, Nat.mul_comm i, Nat.mul_add_mod, Nat.mod_eq_of_lt hj']
  exact hj

theorem sim_mkslice (t e : TypeId) (l c : Operand) (ho : o.op = .makeSlice t l c) (hu : P.underlying t = some (.slice e)) {zc : List V} (hz : zeroC P e = some zc) {i : TypeInfo} (hi : P.info? e = some i) (hb : i.bytes ≤ maxEl) (h0 : 0 < zc.length) (hsz : zc.length = i.size)
    {l' c' : AO} (hl : compX l = some l') (hc : compX c = some c') (hd : ∀ i, o.dst = some i → i < z.nt) (h : kMake zc K s (ev s.r l') (ev s.r c')) (hs : SRel z γ w lam s a) : o.wp P a w (Nx z o.dst K) Qx := by
  have hrl := rel_x hs hl
  have hrc := rel_x hs hc
  generalize ev s.r l' = vl at h hrl
  generalize ev s.r c' = vc at h hrc
  unfold kMake at h
  split at h
  · rename_i k n k' m
    obtain ⟨h1, h2, h3, hK⟩ := h
    have el := relV_int hrl
    have ec := relV_int hrc
    simp only [zeroC, Option.map_eq_some_iff] at hz
    obtain ⟨zx, hz, rfl⟩ := hz
    obtain ⟨i', zv, hi', hz1, hz2⟩ := zeroV_rel hz
    rw [hi] at hi'
    cases hi'
    obtain ⟨hzr, hzl⟩ := constV_rel γ w zv zx hz2
    simp only [lim] at h3
    simp only [maxEl] at hb
    have hm0 : 0 ≤ m := by omega
    have hbm : (i.bytes : Int) * m ≤ 281474976710656 := by
      have h4 : i.bytes * m.toNat ≤ 70368744177664 := Nat.le_trans (Nat.mul_le_mul hb (show m.toNat ≤ 4294967296 by omega)) (by decide)
      have h5 : ((i.bytes * m.toNat : Nat) : Int) ≤ 70368744177664 := Int.ofNat_le.2 h4
      rw [Int.natCast_mul, Int.toNat_of_nonneg hm0] at h5
      omega
    have hrun := run_make (P := P) w t e i zv hu hi hz1 k k' n m h1 h2 hbm (by omega)
    have hmk : (madeCells zv.cells (m.toNat * i.size)).size = m.toNat * i.size := size_madeCells _ _
    have hnm : n.toNat ≤ m.toNat := by omega
    have hml : m.toNat ≤ maxLen := by unfold maxLen; omega
    obtain ⟨hev, hh⟩ := Ev.newOb hs.heap (.cells (madeCells zv.cells (m.toNat * i.size)) e) true n.toNat m.toNat (n.toNat * i.size) (.fam n.toNat zx.cells.length) (fun hle => by
      refine ⟨by simp [Gh.new], by simp [Gh.new], h0, by simpa [Gh.new] using hnm, (by show (if γ.n = γ.n then m.toNat else γ.fc γ.n) ≤ maxLen; rw [if_pos rfl]; exact hml), by simp [Gh.new, hsz], _, e, by simp only [Gh.new, if_true]; exact heap_alloc_new w _, by simp [Gh.new, hmk, hsz]⟩)
    refine nx_val (c := .slice (some ⟨w.heap.size, 0, none⟩) n.toNat m.toNat) (by simp [execOp, ho, el, ec, hrun]) hK (hs.after hev hh (lowOk_push hs.low _)) (.inr (.inr ?_)) hd
    have hn := hs.heap.n
    have hrow := row_made hzr hzl h0 n.toNat (m.toNat * i.size) (by rw [hsz]; exact Nat.mul_le_mul_right _ hnm)
    have hlen : (List.replicate n.toNat (oneV zx.cells)).length = n.toNat := by simp
    have := (hrow.mono (g := fun k => (madeCells zv.cells (m.toNat * i.size))[k]?) hev.le (fun k u _ hk => hk)).sl (b := w.heap.size) (off := 0) (cap := m.toNat) (t := .fam s.h.length) (by rw [hlen]; exact hnm)
      ⟨by simp [Gh.new, hn], by simp [Gh.new, hn], by rw [hlen]; simp [Gh.new, hn], fun _ => by simp [Gh.new, hn]⟩
      (fun k u hk hu' => ⟨by rw [hlen] at hk; simp [Gh.new]; rw [← hsz]; exact hk, by simp only [Nat.zero_add]; rw [World.cell?_alloc_new]; exact hu'⟩)
    rw [hlen] at this
    exact this
  · exact h.elim

end
end Go.Am
