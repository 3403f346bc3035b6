/- The abstract machine's operations are the model's: literals, slicing, appending, conversions, calls. -/
import Derived.Test.YtkcpkckaahmheaaDoorAmO5
import Derived.Laws.BytesString
import Derived.Laws.IdiomStrings
import Derived.Laws.Slices
namespace Go.Am

section
variable {P : Program} {A : Ann} {X : CallH} {z : Start} {γ γ' : Gh} {w w' : World} {lam lam' : Nat → Nat} {s s' : St} {a : Act} {o : Oper} {K : V → St → Prop} {Qx : Exit → Act → World → Prop}

theorem fill_row (hs : SRel z γ w lam s a) (n : Nat) : ∀ (ps : List (Nat × Operand)) (qs : List (Nat × AO)), compIdx ps = some qs → ∀ (xs : List V) (arr : Array Value) (xs' : List V), Row γ w n xs (arr[·]?) → arr.size = xs.length * n → buildS s.r n qs xs = some xs' →
    ∃ arr', Instr.fill (fun i => some (i * n, n)) arr (ps.map fun p => (p.1, a.eval p.2)) = some arr' ∧ Row γ w n xs' (arr'[·]?) ∧ arr'.size = xs'.length * n ∧ xs'.length = xs.length := by
  intro ps
  induction ps with
  | nil => intro qs h xs arr xs' hr hsz hb; simp [compIdx] at h; subst h; simp [buildS] at hb; subst hb; exact ⟨arr, rfl, hr, hsz, rfl⟩
  | cons p ps ih =>
    intro qs h xs arr xs' hr hsz hb
    obtain ⟨i, x⟩ := p
    simp only [compIdx, Option.bind_eq_some_iff, Option.map_eq_some_iff] at h
    obtain ⟨y, hy, qs', hqs, rfl⟩ := h
    simp only [buildS] at hb
    split at hb
    · rename_i hc
      obtain ⟨hc1, hc2, hc3⟩ := hc
      have hrel := (rel_x hs hy).ok hc3
      have hv := hrel.cells hc3
      have hvs : (a.eval x).cells.size = n := by have := hv.1; omega
      obtain ⟨f1, f2⟩ := foldl_set (i * n) (a.eval x).cells arr
      have hin : i * n + n ≤ arr.size := by
        rw [hsz]
        calc i * n + n = (i + 1) * n := by rw [Nat.add_mul]; omega
          _ ≤ xs.length * n := Nat.mul_le_mul_right _ hc2
      have hrow := hr.set (i := i) hrel hc3 hvs (g := fun k => ((a.eval x).cells.zipIdx.foldl (fun (cs : Array Value) (p : Value × Nat) => cs.setIfInBounds (i * n + p.2) p.1) arr)[k]?)
        (fun j u hj _ => by
          have hj' : j < n := by rw [← hvs]; exact (Array.getElem?_eq_some_iff.1 hj).1
          show _ = _
          rw [f2, if_pos (by omega)]
          simpa using hj)
        (fun k u hk hu => by
          show _ = _
          rw [f2, if_neg (by omega)]
          exact hu)
      obtain ⟨arr', g1, g2, g3, g4⟩ := ih qs' hqs _ _ xs' hrow (by rw [f1, hsz]; simp) hb
      refine ⟨arr', ?_, g2, g3, by rw [g4]; simp⟩
      simp only [List.map_cons, Instr.fill]
      rw [if_neg (by simp; omega)]
      exact g1
    · cases hb

theorem sim_bslice (t e : TypeId) (n : Nat) (ps : Array (Nat × Operand)) (ho : o.op = .buildSlice t n ps) (hu : P.underlying t = some (.slice e)) {zc : List V} (hz : zeroC P e = some zc) {m : Nat} (hm : sizeT P e = some m)
    {qs : List (Nat × AO)} (hq : compIdx ps.toList = some qs) (h0 : 0 < zc.length) (hzm : zc.length = m) (hlim : n * zc.length ≤ 16777216) (hd : ∀ i, o.dst = some i → i < z.nt)
    (h : kSome K s ((buildS s.r zc.length qs (List.replicate n (oneV zc))).map (.sl .clip))) (hs : SRel z γ w lam s a) : o.wp P a w (Nx z o.dst K) Qx := by
  obtain ⟨v, hv, hK⟩ := some_of h
  simp only [Option.map_eq_some_iff] at hv
  obtain ⟨xs', hb, rfl⟩ := hv
  simp only [zeroC, Option.map_eq_some_iff] at hz
  obtain ⟨zx, hz, rfl⟩ := hz
  obtain ⟨i, zv, hi, hz1, hz2⟩ := zeroV_rel hz
  obtain ⟨hzr, hzl⟩ := constV_rel γ w zv zx hz2
  have hzs := (hzr.cells hzl).1
  have hrow := row_made hzr hzl h0 n (n * m) (by rw [hzm]; exact Nat.le_refl _)
  have hsz : (madeCells zv.cells (n * m)).size = (List.replicate n (oneV zx.cells)).length * zx.cells.length := by rw [size_madeCells]; simp [hzm]
  obtain ⟨arr', g1, g2, g3, g4⟩ := fill_row hs zx.cells.length ps.toList qs hq _ _ xs' hrow hsz hb
  have hlen : xs'.length = n := by rw [g4]; simp
  obtain ⟨hev, hh⟩ := Ev.shutNew hs.heap (.cells arr' e) (n * m)
  refine nx_val (c := .slice (some ⟨w.heap.size, 0, none⟩) n n) ?_ hK (hs.after hev hh hs.low) (.inr (.inr ?_)) hd
  · have hnm : ¬ (16777216 < n * m) := by rw [← hzm]; omega
    have hfill : Instr.fill (fun i => some (i * m, m)) (madeCells zv.cells (n * m)) (ps.map fun p => (p.1, a.eval p.2)).toList = some arr' := by
      rw [← hzm]; rw [← hzm] at g1; simpa using g1
    by_cases hn0 : n * m = 0
    · have hmade : madeCells zv.cells (n * m) = #[] := by rw [hn0]; simp [madeCells, Array.range_zero']
      rw [hmade] at hfill
      have hn : n = 0 := by
        rcases Nat.mul_eq_zero.1 hn0 with h | h
        · exact h
        · omega
      subst hn
      simp at hfill
      simp [execOp, ho, Instr.buildSlice, run_underlying' hu, run_sizeOf' hm, Array.range_zero', hfill, newRow]
    · simp only [madeCells] at hfill
      simp at hfill
      simp [execOp, ho, Instr.buildSlice, run_underlying' hu, run_sizeOf' hm, hnm, hn0, run_zeroValue hi hz1, hfill, newRow]
  · have := (g2.mono (g := (arr'[·]?)) hev.le (fun k u _ hk => hk)).sl (b := w.heap.size) (off := 0) (cap := n) (t := .clip) (by omega) hlen.symm
      (fun k u hk hu' => ⟨by simp [Gh.shut]; rw [hlen, hzm] at hk; exact hk, by simp only [Nat.zero_add]; rw [World.cell?_alloc_new]; exact hu'⟩)
    rw [hlen] at this
    exact this

theorem bnd_some (hs : SRel z γ w lam s a) {x : Operand} {x' : AO} (hx : compX x = some x') {d n : Nat} (hb : bnd s.r d (some x') = some n) : ∃ k, a.eval x = .int k (n : Int) := by
  have hr := rel_x hs hx
  simp only [bnd] at hb
  generalize ev s.r x' = v at hb hr
  split at hb
  · rename_i k m
    split at hb
    · rename_i hm
      cases hb
      refine ⟨k, ?_⟩
      rw [relV_int hr, Int.toNat_of_nonneg hm]
    · cases hb
  · cases hb

theorem optX_cases {x : Option Operand} {y : Option AO} (h : optX x = some y) : (x = none ∧ y = none) ∨ ∃ p q, x = some p ∧ y = some q ∧ compX p = some q := by
  cases x with
  | none => simp [optX] at h; exact .inl ⟨rfl, h.symm⟩
  | some p =>
    simp only [optX, Option.map_eq_some_iff] at h
    obtain ⟨q, hq, rfl⟩ := h
    exact .inr ⟨p, q, rfl, rfl, hq⟩

theorem run_bound {k : IntKind} {n y : Nat} {code : BoundsCode} (h : n ≤ y) : (Instr.sliceBound (.int k (n : Int)) y code).run P w = .ok n w := by
  have := run_sliceBound (P := P) w k (n : Int) y code (by omega) (by omega)
  simpa using this

theorem run_bounds (hs : SRel z γ w lam s a) {lo hi : Option Operand} {lo' hi' : Option AO} (hlo : optX lo = some lo') (hhi : optX hi = some hi') {isSlice : Bool} {len cap l h : Nat} (hl : bnd s.r 0 lo' = some l) (hh : bnd s.r len hi' = some h) (h1 : l ≤ h) (h2 : h ≤ len) (h3 : len ≤ cap) :
    (Instr.sliceBounds isSlice len cap (lo.map a.eval) (hi.map a.eval) none).run P w = .ok (l, h, cap) w := by
  rcases optX_cases hlo with ⟨rfl, rfl⟩ | ⟨p, q, rfl, rfl, hp⟩ <;> rcases optX_cases hhi with ⟨rfl, rfl⟩ | ⟨p', q', rfl, rfl, hp'⟩
  · simp [bnd] at hl hh; subst hl; subst hh
    simp [Instr.sliceBounds]
  · obtain ⟨k, hk⟩ := bnd_some hs hp' hh
    simp [bnd] at hl; subst hl
    simp [Instr.sliceBounds, hk, run_bound (P := P) (w := w) (show h ≤ cap by omega)]
  · obtain ⟨k, hk⟩ := bnd_some hs hp hl
    simp [bnd] at hh; subst hh
    simp [Instr.sliceBounds, hk, run_bound (P := P) (w := w) h1]
  · obtain ⟨k, hk⟩ := bnd_some hs hp hl
    obtain ⟨k', hk'⟩ := bnd_some hs hp' hh
    simp [Instr.sliceBounds, hk, hk', run_bound (P := P) (w := w) h1, run_bound (P := P) (w := w) (show h ≤ cap by omega)]

theorem run_bounds3 (hs : SRel z γ w lam s a) {lo hi : Option Operand} {lo' hi' : Option AO} {mx : Operand} {mx' : AO} (hlo : optX lo = some lo') (hhi : optX hi = some hi') (hmx : compX mx = some mx') {len cap l h : Nat} (hl : bnd s.r 0 lo' = some l) (hne : hi ≠ none) (hh : bnd s.r len hi' = some h) (hm : bnd s.r 0 (some mx') = some h) (h1 : l ≤ h) (h2 : h ≤ cap) :
    (Instr.sliceBounds true len cap (lo.map a.eval) (hi.map a.eval) (some (a.eval mx))).run P w = .ok (l, h, h) w := by
  obtain ⟨km, hkm⟩ := bnd_some hs hmx hm
  rcases optX_cases hhi with ⟨rfl, rfl⟩ | ⟨p', q', rfl, rfl, hp'⟩
  · exact absurd rfl hne
  · obtain ⟨k', hk'⟩ := bnd_some hs hp' hh
    rcases optX_cases hlo with ⟨rfl, rfl⟩ | ⟨p, q, rfl, rfl, hp⟩
    · simp [bnd] at hl; subst hl
      simp [Instr.sliceBounds, hkm, hk', run_bound (P := P) (w := w) h2, run_bound (P := P) (w := w) (Nat.le_refl h)]
    · obtain ⟨k, hk⟩ := bnd_some hs hp hl
      simp [Instr.sliceBounds, hkm, hk', hk, run_bound (P := P) (w := w) h2, run_bound (P := P) (w := w) (Nat.le_refl h), run_bound (P := P) (w := w) h1]

/-- A cut of a row. -/
theorem cut_rel {t : Tag} {xs : List V} {ad : Option Addr} {cap : Nat} (h : RelV γ w (.sl t xs) (.slice ad xs.length cap)) {l hh m n : Nat} (h1 : l ≤ hh) (h2 : hh ≤ xs.length) (h3 : hh ≤ m) (hz : l = 0 ∨ ∀ x ∈ xs, x.cells.length = n) {t' : Tag}
    (ht : TagOk γ t' (if m = l then ad else ad.map (·.add (l * n))) (hh - l) (m - l)) (hm : m ≤ cap) : RelV γ w (.sl t' ((xs.drop l).take (hh - l))) (.slice (if m = l then ad else ad.map (·.add (l * n))) (hh - l) (m - l)) := by
  have hlen : ((xs.drop l).take (hh - l)).length = hh - l := by simp; omega
  cases h with
  | sl _ _ _ _ c z' hcap htag hnil hspot hv hzz hat =>
    have key := RelV.sl (γ := γ) (w := w) t' ((xs.drop l).take (hh - l)) (if m = l then ad else ad.map (·.add (l * n))) (m - l) (fun i => c (l + i)) z' (by rw [hlen]; omega) (by rw [hlen]; exact ht)
      (fun e => by
        split at e
        · omega
        · cases ad with
          | none => have := hnil rfl; omega
          | some a' => cases e)
      (fun a' e => by
        split at e
        · exact hspot a' e
        · simp only [Option.map_eq_some_iff] at e
          obtain ⟨b, hb, rfl⟩ := e
          have := hspot b hb
          obtain ⟨bb, off, sp⟩ := b
          subst this
          rw [addr_add])
      (fun i x hx => by
        rw [List.getElem?_take] at hx
        split at hx
        · rw [List.getElem?_drop] at hx; exact hv _ _ hx
        · cases hx)
      (fun i x hx => by
        rw [List.getElem?_take] at hx
        split at hx
        · rw [List.getElem?_drop] at hx; exact hzz _ _ hx
        · cases hx)
      (fun i a' hi e => by
        rw [hlen] at hi
        rw [if_neg (by omega)] at e
        simp only [Option.map_eq_some_iff] at e
        obtain ⟨b, hb, rfl⟩ := e
        have hsp := hspot b hb
        obtain ⟨bb, off, sp⟩ := b
        subst hsp
        rw [addr_add]
        have hl0 : l * n = l * z' := by
          rcases hz with rfl | hz
          · simp
          · have hx0 : l < xs.length := by omega
            have g1 := hz _ (List.getElem_mem hx0)
            have g2 := hzz l _ (List.getElem?_eq_getElem hx0)
            have g3 := ((hv l _ (List.getElem?_eq_getElem hx0)).cells g2.2).1
            rw [← g1, ← g2.1, g3]
        have := hat (l + i) _ (by omega) hb
        rw [Nat.add_mul, ← hl0, ← Nat.add_assoc] at this
        exact this)
    rw [hlen] at key
    exact key

theorem sim_slice (t : TypeId) (x : Operand) (lo hi mx : Option Operand) (ho : o.op = .slice t x lo hi mx) {e : TypeId} (hu : P.underlying t = some (.slice e)) {n : Nat} (hn : sizeT P e = some n) (hn0 : 0 < n) {x' : AO} {lo' hi' mx' : Option AO} (hx : compX x = some x')
    (hlo : optX lo = some lo') (hhi : optX hi = some hi') (hmx : optX mx = some mx') (hne : mx ≠ none → hi ≠ none) (hd : ∀ i, o.dst = some i → i < z.nt) (h : kSome K s (sliceV n s.r (ev s.r x') lo' hi' mx')) (hs : SRel z γ w lam s a) : o.wp P a w (Nx z o.dst K) Qx := by
  obtain ⟨v, hv, hK⟩ := some_of h
  have hrx := rel_x hs hx
  generalize ev s.r x' = vx at hv hrx
  unfold sliceV at hv
  split at hv
  · rename_i sz tg xs
    simp only [Option.bind_eq_some_iff] at hv
    obtain ⟨l, hl, hh, hhh, hv⟩ := hv
    split at hv
    · rename_i hc
      obtain ⟨hc1, hc2, hc3⟩ := hc
      have hr := hrx.ok rfl
      generalize hca : a.eval x = c at hr
      have hr' := hr
      cases hr with
      | sl _ _ ad cap c z' hcap htag hnil hspot hvv hzz hat =>
        rcases optX_cases hmx with ⟨rfl, rfl⟩ | ⟨p, q, rfl, rfl, hp⟩
        · cases hv
          have hrun := run_bounds (P := P) hs (isSlice := true) hlo hhi hl hhh hc1 hc2 hcap
          refine nx_val (c := .slice (if cap = l then ad else ad.map (·.add (l * (sz + 1)))) (hh - l) (cap - l)) ?_ hK hs (.inr (.inr (cut_rel hr' hc1 hc2 (by omega) hc3 ?_ (Nat.le_refl _)))) hd
          · simp [execOp, ho, hca, Instr.sliceAt, Instr.slice, run_underlying' hu, hrun, run_sizeOf' hn]
          · split
            · rename_i h0
              obtain ⟨h0, h00⟩ := h0
              subst h0; subst h00
              have : (if cap = 0 then ad else ad.map (·.add (0 * (sz + 1)))) = ad := by
                split
                · rfl
                · cases ad with
                  | none => rfl
                  | some ad => simp [Addr.add]
              rw [this]
              simpa using htag
            · trivial
        · simp only [Option.bind_eq_some_iff] at hv
          obtain ⟨m, hm, hv⟩ := hv
          split at hv
          · rename_i hmm
            subst hmm
            cases hv
            have hrun := run_bounds3 (P := P) (len := xs.length) (cap := cap) hs hlo hhi hp hl (hne (by simp)) hhh hm hc1 (by omega)
            refine nx_val (c := .slice (if m = l then ad else ad.map (·.add (l * (sz + 1)))) (m - l) (m - l)) ?_ hK hs (.inr (.inr (cut_rel hr' hc1 hc2 (Nat.le_refl _) hc3 (show TagOk γ .clip _ _ _ from rfl) (by omega)))) hd
            simp [execOp, ho, hca, Instr.sliceAt, Instr.slice, run_underlying' hu, hrun, run_sizeOf' hn]
          · cases hv
    · cases hv
  · rename_i sz q off len cap zz
    simp only [Option.bind_eq_some_iff] at hv
    obtain ⟨l, hl, hh, hhh, hv⟩ := hv
    split at hv
    · rename_i hc
      obtain ⟨hc1, hc2, hc3, hc4⟩ := hc
      have hr := hrx.ok rfl
      generalize hca : a.eval x = c at hr
      cases hr with
      | msl _ _ _ _ _ _ h1 h2 h3 h4 =>
        cases h4 hc4
        rcases optX_cases hmx with ⟨rfl, rfl⟩ | ⟨p, q', rfl, rfl, hp⟩
        · cases hv
          have hrun := run_bounds (P := P) hs (isSlice := true) hlo hhi hl hhh hc1 hc2 h3
          refine nx_val (c := .slice (if cap = l then some ⟨γ.rho q, off, none⟩ else (some ⟨γ.rho q, off, none⟩ : Option Addr).map (·.add (l * (sz + 1)))) (hh - l) (cap - l)) ?_ hK hs (.inr (.inr ?_)) hd
          · simp [execOp, ho, hca, Instr.sliceAt, Instr.slice, run_underlying' hu, hrun, run_sizeOf' hn]
          · by_cases e1 : cap = l
            · rw [if_pos e1, if_pos e1]
              exact .msl _ _ _ _ _ _ h1 h2 (by omega) (fun _ => rfl)
            · rw [if_neg e1, if_neg e1]
              simp only [Option.map_some, addr_add]
              exact .msl _ _ _ _ _ _ h1 h2 (by omega) (fun _ => rfl)
        · cases hv
    · cases hv
  · rename_i sz q ver off len zz
    simp only [Option.bind_eq_some_iff] at hv
    obtain ⟨l, hl, hh, hhh, hv⟩ := hv
    split at hv
    · rename_i hc
      obtain ⟨hc1, hc2, hc3⟩ := hc
      have hr := hrx.ok rfl
      generalize hca : a.eval x = c at hr
      cases hr with
      | vec _ _ _ _ _ b o cap h1 h2 h3 h4 h5 =>
        rcases optX_cases hmx with ⟨rfl, rfl⟩ | ⟨p, q', rfl, rfl, hp⟩
        · cases hv
          have hrun := run_bounds (P := P) hs (isSlice := true) hlo hhi hl hhh hc1 hc2 h4
          refine nx_val (c := .slice (if cap = l then some ⟨b, o, none⟩ else (some ⟨b, o, none⟩ : Option Addr).map (·.add (l * (sz + 1)))) (hh - l) (cap - l)) ?_ hK hs (.inr (.inr ?_)) hd
          · simp [execOp, ho, hca, Instr.sliceAt, Instr.slice, run_underlying' hu, hrun, run_sizeOf' hn]
          · by_cases e0 : l = 0
            · subst e0
              rw [if_pos rfl]
              have hb0 : (if cap = 0 then (some ⟨b, o, none⟩ : Option Addr) else (some ⟨b, o, none⟩ : Option Addr).map (·.add (0 * (sz + 1)))) = some ⟨b, o, none⟩ := by
                split
                · rfl
                · simp [Addr.add]
              rw [hb0]
              exact .vec _ _ _ _ _ _ _ _ h1 h2 h3 (by omega) (fun e => ⟨(h5 e).1, (h5 e).2.1, fun e0 => by have := (h5 e).2.2 e0; omega⟩)
            · rw [if_neg e0]
              by_cases e1 : l < len
              · rw [if_pos e1, if_neg (by omega)]
                simp only [Option.map_some, addr_add]
                have hpos : 0 < l * (sz + 1) := Nat.mul_pos (by omega) (by omega)
                refine .vec _ _ _ _ _ _ _ _ h1 h2 h3 (by omega) fun e => ?_
                obtain ⟨g1, g2, _⟩ := h5 e
                exact ⟨g1, by omega, fun e2 => by omega⟩
              · rw [if_neg e1]
                have e2 : hh - l = 0 := by omega
                rw [e2]
                refine RelV.sl (γ := γ) (w := w) .frozen [] _ (cap - l) (fun _ => .nilIface) 0 (by simp) trivial (fun e => ?_) (fun a' e => ?_) (by simp) (by simp) (fun i a' hi => by simp at hi)
                · split at e <;> simp at e
                · split at e <;> simp [addr_add] at e <;> subst e <;> rfl
        · simp only [Option.bind_eq_some_iff] at hv
          obtain ⟨m, hm, hv⟩ := hv
          split at hv
          · rename_i hmm
            obtain ⟨hmm, h0⟩ := hmm
            subst hmm; subst h0
            cases hv
            have hrun := run_bounds3 (P := P) (len := len) (cap := cap) hs hlo hhi hp hl (hne (by simp)) hhh hm hc1 (by omega)
            refine nx_val (c := .slice (if m = 0 then some ⟨b, o, none⟩ else (some ⟨b, o, none⟩ : Option Addr).map (·.add (0 * (sz + 1)))) (m - 0) (m - 0)) ?_ hK hs (.inr (.inr ?_)) hd
            · simp [execOp, ho, hca, Instr.sliceAt, Instr.slice, run_underlying' hu, hrun, run_sizeOf' hn]
            · have hb0 : (if m = 0 then (some ⟨b, o, none⟩ : Option Addr) else (some ⟨b, o, none⟩ : Option Addr).map (·.add (0 * (sz + 1)))) = some ⟨b, o, none⟩ := by
                split
                · rfl
                · simp [Addr.add]
              rw [hb0]
              refine .vec _ _ _ _ _ _ _ _ h1 h2 h3 (Nat.le_refl _) fun e => ?_
              obtain ⟨g1, g2, g3⟩ := h5 e
              exact ⟨g1, g2, fun e0 => by have := g3 e0; omega⟩
          · cases hv
    · cases hv
  · omega
  · cases hv

theorem sim_slice_str (t : TypeId) (x : Operand) (lo hi : Option Operand) (ho : o.op = .slice t x lo hi none) (hu : P.underlying t = some .string) {x' : AO} {lo' hi' : Option AO} (hx : compX x = some x')
    (hlo : optX lo = some lo') (hhi : optX hi = some hi') (hd : ∀ i, o.dst = some i → i < z.nt) (h : kSome K s (sliceV 0 s.r (ev s.r x') lo' hi' none)) (hs : SRel z γ w lam s a) : o.wp P a w (Nx z o.dst K) Qx := by
  obtain ⟨v, hv, hK⟩ := some_of h
  have hrx := rel_x hs hx
  generalize ev s.r x' = vx at hv hrx
  unfold sliceV at hv
  split at hv
  · omega
  · omega
  · omega
  · rename_i b _
    simp only [Option.bind_eq_some_iff] at hv
    obtain ⟨l, hl, hh, hhh, hv⟩ := hv
    split at hv
    · rename_i hc
      obtain ⟨hc1, hc2⟩ := hc
      cases hv
      obtain ⟨bb, hca, hb⟩ := relV_str hrx
      have hsz : bb.size = b.length := by rw [size_list, hb]
      have hrun := run_bounds (P := P) hs (isSlice := false) (cap := bb.size) hlo hhi hl hhh hc1 hc2 (by omega)
      rw [← hsz] at hrun
      refine nx_val (c := .string (bb.extract l hh)) ?_ hK hs (.inr (.inr (.str _ _ ?_))) hd
      · simp [execOp, ho, hca, Instr.sliceAt, Instr.slice, run_underlying' hu, hrun]
      · subst hb
        simp [ByteArray.data_extract]
    · cases hv
  · cases hv

end
end Go.Am
