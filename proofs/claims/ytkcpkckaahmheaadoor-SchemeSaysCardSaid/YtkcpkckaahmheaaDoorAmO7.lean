/- The abstract machine's operations are the model's: appending, conversions, calls. -/
import Derived.Test.YtkcpkckaahmheaaDoorAmO6
namespace Go.Am

section
variable {P : Program} {A : Ann} {X : CallH} {z : Start} {γ γ' : Gh} {w w' : World} {lam lam' : Nat → Nat} {s s' : St} {a : Act} {o : Oper} {K : V → St → Prop} {Qx : Exit → Act → World → Prop}

/-- What is appended: so many elements, of these cells. -/
structure Source (P : Program) (w : World) (size : Nat) (x : Value) (n : Nat) (news : List Value) : Prop where
  len : ∀ w', (Builtin.lenOf x).run P w' = .ok n w'
  cells : ∀ w', (∀ a, w'.cell? a = w.cell? a) → (Builtin.firstCells size n x).run P w' = .ok news.toArray w'
  size : news.length = n * size
  one : ∀ v ∈ news, v.oneCell' = true

theorem run_append_room' (t u ty e : TypeId) (i : TypeInfo) (ht : P.underlying t = some (.slice e)) (hu : (∃ e', P.underlying u = some (.slice e')) ∨ P.underlying u = some .string) (hi : P.info? e = some i)
    (g sLen sCap : Nat) (cur : Array Value) (eb : TypeId) (hg : w.heap[g]? = some (.cells cur eb (0, 0))) (x : Value) (m : Nat) (news : List Value) (hx : Source P w i.size x m news)
    (hroom : sLen + m ≤ sCap) (hfit : sLen * i.size + news.length ≤ cur.size) :
    (Builtin.append_ #[t, u] ty #[.slice (some ⟨g, 0, none⟩) sLen sCap, x]).run P w =
      .ok (.slice (some ⟨g, 0, none⟩) (sLen + m) sCap) (w.setRow g (cur.toList.take (sLen * i.size) ++ news ++ cur.toList.drop (sLen * i.size + news.length)).toArray) := by
  have hst := run_storeCells_at P g (sLen * i.size) eb news 0 cur w hg (by simpa using hfit) hx.one
  simp only [Nat.add_zero] at hst
  have hc := hx.cells w (fun _ => rfl)
  have hl := hx.len w
  rcases hu with ⟨e', hd⟩ | hd
  · simp [Builtin.append_, run_underlying' ht, run_underlying' hd, sizeOf, typeInfo, hi, hl, hroom, hc, addr_add, hst]
  · simp [Builtin.append_, run_underlying' ht, run_underlying' hd, sizeOf, typeInfo, hi, hl, hroom, hc, addr_add, hst]

theorem run_append_new' (t u ty e : TypeId) (i : TypeInfo) (zv : Value) (ht : P.underlying t = some (.slice e)) (hu : (∃ e', P.underlying u = some (.slice e')) ∨ P.underlying u = some .string) (hi : P.info? e = some i) (hz : i.zero = some zv)
    (base : Option Addr) (sLen sCap : Nat) (olds : List Value) (holds : ∀ w', (∀ a, w'.cell? a = w.cell? a) → (Builtin.firstCells i.size sLen (.slice base sLen sCap)).run P w' = .ok olds.toArray w') (x : Value) (m : Nat) (news : List Value) (hx : Source P w i.size x m news)
    (hg : sCap < sLen + m) (h63 : ((sLen + m : Nat) : Int) ≤ 9223372036854775807) (hfit : Builtin.nextslicecap (sLen + m) sCap * i.bytes ≤ 281474976710656) :
    (Builtin.append_ #[t, u] ty #[.slice base sLen sCap, x]).run P w =
      .ok (.slice (some ⟨w.heap.size, 0, none⟩) (sLen + m) (grownCap w (sLen + m) sCap e))
        (w.drew.alloc (.cells (olds.toArray ++ news.toArray ++ Builtin.zeroCells zv.cells (grownCap w (sLen + m) sCap e - (sLen + m))) e)) := by
  have hn : ¬ (sLen + m ≤ sCap) := by omega
  have h63' : ¬ (9223372036854775807 < ((sLen : Int) + (m : Int))) := by omega
  have h48' : ¬ (281474976710656 < Builtin.nextslicecap (sLen + m) sCap * i.bytes) := by omega
  have hf := hx.cells w.drew (fun _ => rfl)
  have hfo := holds w.drew (fun _ => rfl)
  have hl := hx.len w
  rcases hu with ⟨e', hd⟩ | hd
  · simp [Builtin.append_, run_underlying' ht, run_underlying' hd, sizeOf, typeInfo, zeroValue, hi, hz, hl, hn, h63', h48', Question.forced, hf, hfo, newRow, grownCap]
    congr 2
    apply Array.ext'
    simp [List.append_assoc]
  · simp [Builtin.append_, run_underlying' ht, run_underlying' hd, sizeOf, typeInfo, zeroValue, hi, hz, hl, hn, h63', h48', Question.forced, hf, hfo, newRow, grownCap]
    congr 2
    apply Array.ext'
    simp [List.append_assoc]

/-- A row's cells as a list. -/
def flat (f : Nat → Option Value) (n : Nat) : List Value := (List.range n).map fun k => (f k).getD .nilFunc

theorem flat_len (f : Nat → Option Value) (n : Nat) : (flat f n).length = n := by simp [flat]

theorem Row.flat {sz : Nat} {xs : List V} {f : Nat → Option Value} (h : Row γ w sz xs f) (hsz : 0 < sz) : (∀ (j : Nat) (u : Value), (flat f (xs.length * sz))[j]? = some u → f j = some u) ∧ (∀ v ∈ flat f (xs.length * sz), v.oneCell' = true) ∧ ∀ j, j < xs.length * sz → (Am.flat f (xs.length * sz))[j]? = f j := by
  have g : ∀ j, j < xs.length * sz → (Am.flat f (xs.length * sz))[j]? = f j := by
    intro j hj
    obtain ⟨u, hu, _⟩ := h.total hsz hj
    simp [Am.flat, hj, hu]
  refine ⟨fun j u hj => ?_, fun v hv => ?_, g⟩
  · have hlt : j < xs.length * sz := by have := (List.getElem?_eq_some_iff.1 hj).1; rwa [flat_len] at this
    rw [← g j hlt]; exact hj
  · obtain ⟨j, hj, rfl⟩ := List.getElem_of_mem hv
    rw [flat_len] at hj
    obtain ⟨u, hu, ho⟩ := h.total hsz hj
    have := g j hj
    rw [List.getElem?_eq_getElem (by rw [flat_len]; exact hj), hu] at this
    simp at this
    rw [this]
    exact ho

/-- A slice's row. -/
theorem RelV.row {t : Tag} {xs : List V} {c : Value} (h : RelV γ w (.sl t xs) c) {sz : Nat} (hall : ∀ v ∈ xs, v.cells.length = sz) :
    ∃ ad cap, c = .slice ad xs.length cap ∧ xs.length ≤ cap ∧ TagOk γ t ad xs.length cap ∧ ((ad = none ∧ xs = [] ∧ cap = 0) ∨ ∃ b off, ad = some ⟨b, off, none⟩ ∧ Row γ w sz xs (fun k => w.cell? ⟨b, off + k, none⟩) ∧ ∀ k, k < xs.length * sz → off + k < γ.prot b) := by
  cases h with
  | sl _ _ ad cap c z' hcap htag hnil hspot hv hz hat =>
    refine ⟨ad, cap, rfl, hcap, htag, ?_⟩
    cases ad with
    | none =>
      have := hnil rfl
      exact .inl ⟨rfl, List.eq_nil_of_length_eq_zero (by omega), this⟩
    | some ad =>
      have hsp := hspot ad rfl
      obtain ⟨b, off, sp⟩ := ad
      subst hsp
      have hzz : ∀ (i : Nat) (x : V), xs[i]? = some x → z' = sz := fun i x hx => by
        have h1 := hz i x hx
        have h2 := ((hv i x hx).cells h1.2).1
        have h3 := hall x (List.mem_of_getElem? hx)
        omega
      refine .inr ⟨b, off, rfl, ⟨c, fun i x hx => ?_⟩, fun k hk => ?_⟩
      · have e := hzz i x hx
        subst e
        refine ⟨hv i x hx, (hz i x hx).2, (hz i x hx).1, fun j u hj => ?_⟩
        have := (hat i _ (List.getElem?_eq_some_iff.1 hx).1 rfl j u hj).2
        simpa [Nat.add_assoc] using this
      · have hpos : 0 < sz := by
          rcases Nat.eq_zero_or_pos sz with h0 | h0
          · subst h0; simp at hk
          · exact h0
        have hi : k / sz < xs.length := (Nat.div_lt_iff_lt_mul hpos).2 hk
        have hx := List.getElem?_eq_getElem hi
        have e := hzz _ _ hx
        subst e
        have hj : k % z' < (c (k / z')).cells.size := by rw [(hz _ _ hx).1]; exact Nat.mod_lt _ hpos
        have := (hat (k / z') _ hi rfl (k % z') _ (Array.getElem?_eq_getElem hj)).1
        have e2 : k / z' * z' + k % z' = k := by rw [Nat.mul_comm]; exact Nat.div_add_mod k z'
        have e3 : off + k / z' * z' + k % z' = off + k := by omega
        simpa [e3] using this

theorem source_of {y : V} {c : Value} (h : RelV γ w y c) {ys : List V} (he : elemsOf y = some ys) {sz : Nat} (hsz : 0 < sz) (hall : ∀ v ∈ ys, v.cells.length = sz) (hstr : ∀ b, y = .str b → sz = 1 ∨ b = []) :
    ∃ g, Row γ w sz ys g ∧ Source P w sz c ys.length (flat g (ys.length * sz)) := by
  unfold elemsOf at he
  split at he
  · cases he
    obtain ⟨ad, cap, rfl, hcap, _, hrow⟩ := h.row hall
    rcases hrow with ⟨rfl, rfl, rfl⟩ | ⟨b, off, rfl, hr, _⟩
    · exact ⟨fun _ => none, Row.nil _ _, ⟨fun w' => rfl, fun w' _ => by simp [Builtin.firstCells, flat], by simp [flat], by simp [flat]⟩⟩
    · obtain ⟨f1, f2, f3⟩ := hr.flat hsz
      refine ⟨_, hr, ⟨fun w' => rfl, fun w' hw => ?_, flat_len _ _, f2⟩⟩
      exact run_firstCells_some (P := P) w' sz _ ⟨b, off, none⟩ _ cap _ (flat_len _ _) (fun j v hj => by rw [addr_add, hw]; exact f1 j v hj)
  · rename_i bs
    cases he
    by_cases hb0 : bs = []
    · subst hb0
      cases h with
      | str _ x hx =>
        have hx0 : x.size = 0 := by rw [size_list, hx]; rfl
        refine ⟨fun _ => none, Row.nil _ _, ⟨fun w' => by simp [Builtin.lenOf, hx0], fun w' _ => ?_, by simp [flat], by simp [flat]⟩⟩
        have e : x.extract 0 0 = ByteArray.empty := by simp
        simp [Builtin.firstCells, flat, e]
    have h1 := (hstr _ rfl).resolve_right hb0
    subst h1
    cases h with
    | str _ x hx =>
      subst hx
      let g : Nat → Option Value := fun k => (x.data.toList[k]?).map fun b => Value.int .u8 b.toNat
      have hrow : Row γ w 1 (x.data.toList.map fun b => V.int .u8 b.toNat) g := by
        refine ⟨fun i => (g i).getD .nilFunc, fun i v hv => ?_⟩
        simp only [List.getElem?_map, Option.map_eq_some_iff] at hv
        obtain ⟨b, hb, rfl⟩ := hv
        have hg : g i = some (.int .u8 b.toNat) := by simp only [g, hb]; rfl
        simp only [hg, Option.getD_some]
        refine ⟨.int _ _, rfl, rfl, fun j u hj => ?_⟩
        cases j with
        | zero => simp [Value.cells] at hj; subst hj; simpa using hg
        | succ j => simp [Value.cells] at hj
      obtain ⟨f1, f2, f3⟩ := hrow.flat (by omega)
      refine ⟨g, hrow, ⟨fun w' => by simp only [Builtin.lenOf, Sem.run_pure, List.length_map]; rw [size_list], fun w' hw => ?_, flat_len _ _, f2⟩⟩
      simp only [Builtin.firstCells, Sem.run_pure]
      congr 1
      apply Array.ext'
      apply List.ext_getElem?
      intro k
      by_cases hk : k < x.data.toList.length
      · have := f3 k (by simpa using hk)
        rw [show (flat g ((x.data.toList.map fun b => V.int .u8 b.toNat).length * 1)).toArray.toList[k]? = g k by simpa using this]
        simp only [g, ByteArray.extract_zero_size, List.length_map]
        have e : x.extract 0 x.data.toList.length = x := by
          rw [← size_list]; exact ByteArray.extract_zero_size
        simp [e]
      · have e : x.extract 0 x.data.toList.length = x := by
          rw [← size_list]; exact ByteArray.extract_zero_size
        rw [List.getElem?_eq_none (by simp [e] at hk ⊢; omega), List.getElem?_eq_none (by simp [flat_len] at hk ⊢; omega)]
  · cases he

theorem run_append_zero (t u ty e : TypeId) (i : TypeInfo) (ht : P.underlying t = some (.slice e)) (hu : (∃ e', P.underlying u = some (.slice e')) ∨ P.underlying u = some .string) (hi : P.info? e = some i)
    (base : Option Addr) (sLen sCap : Nat) (h : sLen ≤ sCap) (x : Value) (news : List Value) (hx : Source P w i.size x 0 news) :
    (Builtin.append_ #[t, u] ty #[.slice base sLen sCap, x]).run P w = .ok (.slice base sLen sCap) w := by
  have hc := hx.cells w (fun _ => rfl)
  have hl := hx.len w
  have hn : news = [] := List.eq_nil_of_length_eq_zero (by simpa using hx.size)
  subst hn
  rcases hu with ⟨e', hd⟩ | hd <;> cases base <;> simp [Builtin.append_, run_underlying' ht, run_underlying' hd, sizeOf, typeInfo, hi, hl, h, hc, storeCells]

theorem rows_joined {sz : Nat} {xs ys : List V} {fx fy : Nat → Option Value} (hx : Row γ w sz xs fx) (hy : Row γ w sz ys fy) (hsz : 0 < sz) (rest : Array Value) :
    Row γ w sz (xs ++ ys) (fun k => ((flat fx (xs.length * sz)).toArray ++ (flat fy (ys.length * sz)).toArray ++ rest)[k]?) := by
  obtain ⟨_, _, gx⟩ := hx.flat hsz
  obtain ⟨_, _, gy⟩ := hy.flat hsz
  refine (hx.append hy).mono (Le.refl γ w) fun k u hk hu => ?_
  simp only [List.length_append, Nat.add_mul] at hk
  show _ = _
  rw [Array.getElem?_append_left (by simp [flat_len]; omega)]
  by_cases hlt : k < xs.length * sz
  · rw [if_pos hlt] at hu
    rw [Array.getElem?_append_left (by simpa [flat_len] using hlt)]
    rw [← gx k hlt] at hu
    simpa using hu
  · rw [if_neg hlt] at hu
    rw [Array.getElem?_append_right (by simp [flat_len]; omega)]
    have e : k - (flat fx (xs.length * sz)).toArray.size = k - xs.length * sz := by simp [flat_len]
    rw [e]
    rw [← gy _ (by omega)] at hu
    simpa using hu

theorem sim_append_core (t u e : TypeId) (x y : Operand) (ho : o.op = .call { callee := .builtin .append, args := #[x, y], argTypes := #[t, u] }) (ht : P.underlying t = some (.slice e)) (hu : (∃ e', P.underlying u = some (.slice e')) ∨ P.underlying u = some .string) {i : TypeInfo} (hi : P.info? e = some i) {zc : List V} (hz : zeroC P e = some zc)
    (hb : i.bytes ≤ maxEl) (h0 : 0 < i.size) (hzs : zc.length = i.size) (hd : ∀ i, o.dst = some i → i < z.nt) {vx : V} {yo : Option (List V)}
    (hX : ∀ tg xs, vx = .sl tg xs → (∀ v ∈ xs, v.cells.length = i.size) → ∃ ad cap, a.eval x = .slice ad xs.length cap ∧ xs.length ≤ cap ∧ TagOk γ tg ad xs.length cap ∧ ((ad = none ∧ xs = [] ∧ cap = 0) ∨ ∃ b off, ad = some ⟨b, off, none⟩ ∧ Row γ w i.size xs (fun k => w.cell? ⟨b, off + k, none⟩)))
    (hY : ∀ ys, yo = some ys → (∀ v ∈ ys, v.cells.length = i.size) → ∃ g, Row γ w i.size ys g ∧ Source P w i.size (a.eval y) ys.length (flat g (ys.length * i.size)))
    (hN : yo = some [] → ∀ tg xs, vx = .sl tg xs → RelR γ w lam s.l vx (a.eval x))
    (h : kApp i.size K s vx yo) (hs : SRel z γ w lam s a) : o.wp P a w (Nx z o.dst K) Qx := by
  have exec : ∀ c w', (Builtin.append_ #[t, u] o.type #[a.eval x, a.eval y]).run P w = .ok c w' → (execOp a.eval o).run P w = .ok (.value c) w' := by
    intro c w' hr
    simp [execOp, ho, resolve, invoke, builtin, hr]
  simp only [zeroC, Option.map_eq_some_iff] at hz
  obtain ⟨zx, hz, rfl⟩ := hz
  obtain ⟨i', zv, hi', hz1, hz2⟩ := zeroV_rel hz
  rw [hi] at hi'
  cases hi'
  have hzsz : zv.cells.size = i.size := by
    obtain ⟨hzr, hzl⟩ := constV_rel γ w zv zx hz2
    have := (hzr.cells hzl).1
    omega
  cases yo with
  | none => unfold kApp at h; split at h <;> first | cases ‹none = some _› | exact h.elim
  | some ys =>
    unfold kApp at h
    split at h
    · -- nothing
      rename_i tg xs heq
      cases heq
      have hrx' := (hN rfl tg xs rfl).ok rfl
      obtain ⟨g, _, hsrc⟩ := hY [] rfl (by simp)
      generalize hca : a.eval x = c at hrx' exec
      have hrx2 := hrx'
      cases hrx' with
      | sl _ _ ad cap c z' hcap htag hnil hspot hvv hzz hat =>
        exact nx_val (exec _ _ (run_append_zero t u o.type e i ht hu hi ad _ cap hcap _ _ hsrc)) h hs (.inr (.inr hrx2)) hd
    · rename_i tg xs y0 ys0 heq
      cases heq
      obtain ⟨hall, hlim, hk⟩ := h
      have hallx : ∀ v ∈ xs, v.cells.length = i.size := fun v hv => hall v (by simp [hv])
      have hally : ∀ v ∈ y0 :: ys0, v.cells.length = i.size := fun v hv => hall v (List.mem_append_right _ hv)
      obtain ⟨fy, hrowy, hsrc⟩ := hY _ rfl hally
      obtain ⟨ad, cap, hca, hcap, htag, hrow⟩ := hX tg xs rfl hallx
      rw [hca] at exec
      simp only [lim] at hlim
      simp only [maxEl] at hb
      have hm : 0 < (y0 :: ys0).length := by simp
      -- a new block
      have grow : cap < xs.length + (y0 :: ys0).length → ∃ fx, Row γ w i.size xs fx ∧ grownCap w (xs.length + (y0 :: ys0).length) cap e ≤ maxLen ∧ xs.length + (y0 :: ys0).length ≤ grownCap w (xs.length + (y0 :: ys0).length) cap e ∧
          (Builtin.append_ #[t, u] o.type #[.slice ad xs.length cap, a.eval y]).run P w = .ok (.slice (some ⟨w.heap.size, 0, none⟩) (xs.length + (y0 :: ys0).length) (grownCap w (xs.length + (y0 :: ys0).length) cap e))
            (w.drew.alloc (.cells ((flat fx (xs.length * i.size)).toArray ++ (flat fy ((y0 :: ys0).length * i.size)).toArray ++ Builtin.zeroCells zv.cells (grownCap w (xs.length + (y0 :: ys0).length) cap e - (xs.length + (y0 :: ys0).length))) e)) := by
        intro hgr
        have hneed : xs.length + (y0 :: ys0).length ≤ maxLen := by unfold maxLen; omega
        have hfits : (xs.length + (y0 :: ys0).length) * i.bytes ≤ 140737488355328 := Nat.le_trans (Nat.mul_le_mul hlim hb) (by decide)
        have hgf := growslice_fits hgr hfits
        rcases hrow with ⟨rfl, rfl, rfl⟩ | ⟨b, off, rfl, hr⟩
        · refine ⟨fun _ => none, Row.nil _ _, grownCap_le_maxLen _ _ _ _ hneed, grownCap_ge _ _ _ _, ?_⟩
          exact run_append_new' t u o.type e i zv ht hu hi hz1 none 0 0 _ (fun w' _ => by simp [Builtin.firstCells, flat]) _ _ _ hsrc hgr (by omega) hgf
        · obtain ⟨f1, f2, f3⟩ := hr.flat h0
          refine ⟨_, hr, grownCap_le_maxLen _ _ _ _ hneed, grownCap_ge _ _ _ _, ?_⟩
          exact run_append_new' t u o.type e i zv ht hu hi hz1 (some ⟨b, off, none⟩) xs.length cap _ (fun w' hw => run_firstCells_some (P := P) w' _ _ ⟨b, off, none⟩ _ cap _ (flat_len _ _) (fun j v hj => by rw [addr_add, hw]; exact f1 j v hj)) _ _ _ hsrc hgr (by omega) hgf
      have hlen : (xs ++ (y0 :: ys0)).length = xs.length + (y0 :: ys0).length := List.length_append
      unfold kTag at hk
      split at hk
      · exact hk.elim
      · -- clip
        have hcl : cap = xs.length := htag
        obtain ⟨fx, hrowx, hgm, hgn, hrun⟩ := grow (by omega)
        have hasz : ((flat fx (xs.length * i.size)).toArray ++ (flat fy ((y0 :: ys0).length * i.size)).toArray ++ Builtin.zeroCells zv.cells (grownCap w (xs.length + (y0 :: ys0).length) cap e - (xs.length + (y0 :: ys0).length))).size = grownCap w (xs.length + (y0 :: ys0).length) cap e * i.size := by
          simp only [Array.size_append, List.size_toArray, flat_len, size_zeroCells, hzsz, ← Nat.add_mul]
          congr 1
          omega
        have hjoin := rows_joined hrowx hrowy h0 (Builtin.zeroCells zv.cells (grownCap w (xs.length + (y0 :: ys0).length) cap e - (xs.length + (y0 :: ys0).length)))
        generalize hA : ((flat fx (xs.length * i.size)).toArray ++ (flat fy ((y0 :: ys0).length * i.size)).toArray ++ Builtin.zeroCells zv.cells (grownCap w (xs.length + (y0 :: ys0).length) cap e - (xs.length + (y0 :: ys0).length))) = Arr at hrun hasz hjoin
        generalize hG : grownCap w (xs.length + (y0 :: ys0).length) cap e = G at hrun hasz hgm hgn
        obtain ⟨hev1, hh1⟩ := Ev.drew hs.heap
        obtain ⟨hev2, hh2⟩ := Ev.newOb hh1 (.cells Arr e) true (xs.length + (y0 :: ys0).length) G ((xs.length + (y0 :: ys0).length) * i.size) (.fam (xs.length + (y0 :: ys0).length) i.size) (fun hle =>
          ⟨by simp [Gh.new], by simp [Gh.new], h0, by simpa [Gh.new] using hgn, by simpa [Gh.new] using hgm, by simp [Gh.new], Arr, e, by simp only [Gh.new, if_true]; exact heap_alloc_new w.drew _, by simpa [Gh.new] using hasz⟩)
        have hn := hs.heap.n
        refine nx_val (exec _ _ hrun) hk (hs.after (hev1.trans hev2) hh2 (lowOk_push hs.low _)) (.inr (.inr ?_)) hd
        have := (hjoin.mono (g := fun k => Arr[k]?) (hev1.trans hev2).le (fun k u _ hk => hk)).sl (b := w.heap.size) (off := 0) (cap := G) (t := .fam s.h.length) (by omega)
          ⟨by simp [Gh.new, hn], by simp [Gh.new, hn], by simp [Gh.new, hn], fun _ => by simp [Gh.new, hn]⟩
          (fun k u hk hu' => ⟨by rw [hlen] at hk; simpa [Gh.new] using hk, by simp only [Nat.zero_add]; exact (World.cell?_alloc_new w.drew Arr e k).trans hu'⟩)
        rw [hlen] at this
        exact this
      · -- a family
        rename_i r
        unfold kGrow at hk
        split at hk
        · rename_i _ k zf hfam
          obtain ⟨hkx, hzf, hK⟩ := hk
          subst hkx
          subst hzf
          obtain ⟨hkd, hff, _, hkc, hfc, hpr, cur, ec, hblk, hcsz⟩ := hs.heap.obj r _ hfam
          obtain ⟨htr, _, _, hteq⟩ := htag
          obtain ⟨had, hcapc⟩ := hteq hff.symm
          subst had
          have low : LowOk z.bs (s.h.set r (.fam (xs.length + (y0 :: ys0).length) i.size)) := lowOk_set hs.low r _ fun _ _ _ => rfl
          by_cases hroom : xs.length + (y0 :: ys0).length ≤ cap
          · -- in place
            rcases hrow with ⟨hnone, _, _⟩ | ⟨b, off, hbo, hrowx⟩
            · cases hnone
            simp only [Option.some.injEq, Addr.mk.injEq, and_true] at hbo
            obtain ⟨rfl, rfl⟩ := hbo
            have hmul : xs.length * i.size + (y0 :: ys0).length * i.size ≤ cur.size := by
              rw [hcsz, ← hcapc, ← Nat.add_mul]
              exact Nat.mul_le_mul_right _ hroom
            have hrun := run_append_room' (P := P) (w := w) t u o.type e i ht hu hi (γ.rho r) xs.length cap cur ec hblk (a.eval y) _ _ hsrc hroom (by rw [flat_len]; exact hmul)
            have hcell : ∀ k, w.cell? ⟨γ.rho r, 0 + k, none⟩ = cur[k]? := fun k => by rw [Nat.zero_add, cell_of_row w _ k cur ec (0, 0) hblk]
            obtain ⟨_, _, gy⟩ := hrowy.flat h0
            have hA1 : ∀ k, k < xs.length * i.size → (cur.toList.take (xs.length * i.size) ++ flat fy ((y0 :: ys0).length * i.size) ++ cur.toList.drop (xs.length * i.size + (flat fy ((y0 :: ys0).length * i.size)).length)).toArray[k]? = cur[k]? := by
              intro k hk
              simp only [List.getElem?_toArray]
              rw [List.append_assoc, List.getElem?_append_left (by simp; omega), List.getElem?_take, if_pos hk]
              simp
            have hA2 : ∀ k, xs.length * i.size ≤ k → k < xs.length * i.size + (y0 :: ys0).length * i.size → (cur.toList.take (xs.length * i.size) ++ flat fy ((y0 :: ys0).length * i.size) ++ cur.toList.drop (xs.length * i.size + (flat fy ((y0 :: ys0).length * i.size)).length)).toArray[k]? = fy (k - xs.length * i.size) := by
              intro k hk1 hk2
              have hl : (cur.toList.take (xs.length * i.size)).length = xs.length * i.size := by simp; omega
              simp only [List.getElem?_toArray]
              rw [List.append_assoc, List.getElem?_append_right (by omega), hl, List.getElem?_append_left (by rw [flat_len]; omega)]
              exact gy _ (by omega)
            have hAs : (cur.toList.take (xs.length * i.size) ++ flat fy ((y0 :: ys0).length * i.size) ++ cur.toList.drop (xs.length * i.size + (flat fy ((y0 :: ys0).length * i.size)).length)).toArray.size = cur.size := by
              simp only [List.size_toArray, List.length_append, List.length_take, List.length_drop, flat_len, Array.length_toList]; omega
            generalize (cur.toList.take (xs.length * i.size) ++ flat fy ((y0 :: ys0).length * i.size) ++ cur.toList.drop (xs.length * i.size + (flat fy ((y0 :: ys0).length * i.size)).length)).toArray = Arr at hrun hA1 hA2 hAs
            have hset := setRow_heap w (γ.rho r) cur Arr ec (0, 0) hblk
            obtain ⟨hev, hh⟩ := Ev.fill (w' := w.setRow (γ.rho r) Arr) (k' := xs.length + (y0 :: ys0).length) hs.heap hfam (by omega) (by omega) (by simp) setRow_other' rfl rfl rfl Arr ec hset (by rw [hAs, hcsz])
              (fun k hk => by rw [cell_of_row _ _ k Arr ec (0, 0) hset, cell_of_row w _ k cur ec (0, 0) hblk]; exact hA1 k hk)
            have hjoin := (hrowx.append hrowy).mono (g := fun k => Arr[k]?) hev.le (fun k v hk hv => by
              simp only [List.length_append, Nat.add_mul] at hk
              show _ = _
              by_cases hlt : k < xs.length * i.size
              · rw [if_pos hlt, hcell] at hv
                rw [hA1 k hlt]; exact hv
              · rw [if_neg hlt] at hv
                rw [hA2 k (by omega) (by omega)]; exact hv)
            refine nx_val (exec _ _ hrun) hK (hs.after hev hh low) (.inr (.inr ?_)) hd
            have := hjoin.sl (b := γ.rho r) (off := 0) (cap := cap) (t := .fam r) (by omega)
              ⟨htr, hkd, by simp [Gh.fill], fun _ => ⟨rfl, hcapc⟩⟩
              (fun k v hk hv => ⟨by rw [hlen] at hk; simpa [Gh.fill] using hk, by rw [Nat.zero_add, cell_of_row _ _ k Arr ec (0, 0) hset]; exact hv⟩)
            rw [hlen] at this
            exact this
          · obtain ⟨fx, hrowx, hgm, hgn, hrun⟩ := grow (by omega)
            have hasz : ((flat fx (xs.length * i.size)).toArray ++ (flat fy ((y0 :: ys0).length * i.size)).toArray ++ Builtin.zeroCells zv.cells (grownCap w (xs.length + (y0 :: ys0).length) cap e - (xs.length + (y0 :: ys0).length))).size = grownCap w (xs.length + (y0 :: ys0).length) cap e * i.size := by
              simp only [Array.size_append, List.size_toArray, flat_len, size_zeroCells, hzsz, ← Nat.add_mul]
              congr 1
              omega
            have hjoin := rows_joined hrowx hrowy h0 (Builtin.zeroCells zv.cells (grownCap w (xs.length + (y0 :: ys0).length) cap e - (xs.length + (y0 :: ys0).length)))
            generalize hA : ((flat fx (xs.length * i.size)).toArray ++ (flat fy ((y0 :: ys0).length * i.size)).toArray ++ Builtin.zeroCells zv.cells (grownCap w (xs.length + (y0 :: ys0).length) cap e - (xs.length + (y0 :: ys0).length))) = Arr at hrun hasz hjoin
            generalize hG : grownCap w (xs.length + (y0 :: ys0).length) cap e = G at hrun hasz hgm hgn
            obtain ⟨hev1, hh1⟩ := Ev.drew hs.heap
            obtain ⟨hev2, hh2⟩ := Ev.move (k' := xs.length + (y0 :: ys0).length) (c := G) hh1 hfam (by omega) hgn hgm Arr e hasz
            refine nx_val (exec _ _ hrun) hK (hs.after (hev1.trans hev2) hh2 low) (.inr (.inr ?_)) hd
            have := (hjoin.mono (g := fun k => Arr[k]?) (hev1.trans hev2).le (fun k u _ hk => hk)).sl (b := w.heap.size) (off := 0) (cap := G) (t := .fam r) (by omega)
              ⟨htr, hkd, by simp [Gh.move], fun _ => by simp [Gh.move]⟩
              (fun k u hk hu' => ⟨by rw [hlen] at hk; simpa [Gh.move] using hk, by simp only [Nat.zero_add]; exact (World.cell?_alloc_new w.drew Arr e k).trans hu'⟩)
            rw [hlen] at this
            exact this
        · exact hk.elim
    · exact h.elim

theorem sim_append (t u e : TypeId) (x y : Operand) (ho : o.op = .call { callee := .builtin .append, args := #[x, y], argTypes := #[t, u] }) (ht : P.underlying t = some (.slice e)) (hu : (∃ e', P.underlying u = some (.slice e')) ∨ P.underlying u = some .string) {i : TypeInfo} (hi : P.info? e = some i) {zc : List V} (hz : zeroC P e = some zc)
    (hb : i.bytes ≤ maxEl) (h0 : 0 < i.size) (hzs : zc.length = i.size) {x' y' : AO} (hx : compX x = some x') (hy : compX y = some y') (hd : ∀ i, o.dst = some i → i < z.nt)
    (h : kApp i.size K s (ev s.r x') (elemsOf (ev s.r y'))) (hs : SRel z γ w lam s a) : o.wp P a w (Nx z o.dst K) Qx := by
  have hrx := rel_x hs hx
  have hry := rel_x hs hy
  generalize ev s.r x' = vx at h hrx
  generalize ev s.r y' = vy at h hry
  refine sim_append_core t u e x y ho ht hu hi hz hb h0 hzs hd (vx := vx) (yo := elemsOf vy) (fun tg xs hv hall => ?_) (fun ys he hall => ?_) (fun _ _ _ _ => hrx) h hs
  · subst hv
    obtain ⟨ad, cap, h1, h2, h3, h4⟩ := (hrx.ok rfl).row hall
    exact ⟨ad, cap, h1, h2, h3, h4.imp id fun ⟨b, off, e1, e2, _⟩ => ⟨b, off, e1, e2⟩⟩
  · have hyl : vy.isLoc = false := by unfold elemsOf at he; split at he <;> first | rfl | cases he
    refine source_of (P := P) (hry.ok hyl) he h0 hall fun b hb => ?_
    subst hb
    simp only [elemsOf, Option.some.injEq] at he
    cases b with
    | nil => exact .inr rfl
    | cons c cs =>
      subst he
      have h1 := hall (.int .u8 c.toNat) (by simp)
      exact .inl (by simpa [V.cells] using h1.symm)

end
end Go.Am
