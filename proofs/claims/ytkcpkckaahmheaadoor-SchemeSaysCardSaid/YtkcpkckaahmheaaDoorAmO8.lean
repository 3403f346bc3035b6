/- The abstract machine's operations are the model's: conversions, calls; all of them. -/
import Derived.LaidEql
import Derived.Test.YtkcpkckaahmheaaDoorAmO9
namespace Go.Am

section
variable {P : Program} {A : Ann} {X : CallH} {z : Start} {γ γ' : Gh} {w w' : World} {lam lam' : Nat → Nat} {s s' : St} {a : Act} {o : Oper} {K : V → St → Prop} {Qx : Exit → Act → World → Prop}

theorem foldl_push (ns : List Int) (s : ByteArray) : (ns.foldl (fun (r : ByteArray) n => r.push (UInt8.ofNat n.toNat)) s).data.toList = s.data.toList ++ ns.map fun n => UInt8.ofNat n.toNat := by
  induction ns generalizing s with
  | nil => simp
  | cons n ns ih => simp only [List.foldl_cons, ih, List.map_cons]; simp [ByteArray.push]

theorem bytesV_some {t : Tag} : ∀ {xs : List V} {b : List UInt8}, bytesV (.sl t xs) = some b → ∃ ns : List Int, xs = ns.map (V.int .u8) ∧ b = ns.map fun n => UInt8.ofNat n.toNat := by
  intro xs
  induction xs with
  | nil => intro b h; simp [bytesV] at h; subst h; exact ⟨[], rfl, rfl⟩
  | cons x xs ih =>
    intro b h
    unfold bytesV at h
    split at h
    · rename_i heq; cases heq
    · rename_i heq
      cases heq
      simp only [Option.map_eq_some_iff] at h
      obtain ⟨b', hb', rfl⟩ := h
      obtain ⟨ns, rfl, rfl⟩ := ih hb'
      exact ⟨_ :: ns, rfl, rfl⟩
    · cases h

def ConvOk (P : Program) (src dst : TypeId) : Cv → Prop
  | .int k => (∃ j, P.underlying src = some (.int j)) ∧ P.underlying dst = some (.int k)
  | .id => P.underlying src = some .string ∧ P.underlying dst = some .string
  | .bytes => P.underlying src = some .string ∧ ∃ e, P.underlying dst = some (.slice e) ∧ P.underlying e = some (.int .u8)
  | .text => (∃ e, P.underlying src = some (.slice e) ∧ P.underlying e = some (.int .u8)) ∧ P.underlying dst = some .string
  | .rune => (∃ j, P.underlying src = some (.int j)) ∧ P.underlying dst = some .string

theorem sim_conv (src dst : TypeId) (x : Operand) (ho : o.op = .convert src dst x) {c : Cv}
    (hc : ConvOk P src dst c)
    {x' : AO} (hx : compX x = some x') (hd : ∀ i, o.dst = some i → i < z.nt) (h : kSome K s (convV c (ev s.r x'))) (hs : SRel z γ w lam s a) : o.wp P a w (Nx z o.dst K) Qx := by
  obtain ⟨v, hv, hK⟩ := some_of h
  have hrx := rel_x hs hx
  generalize ev s.r x' = vx at hv hrx
  unfold convV at hv
  split at hv
  · cases hv
    obtain ⟨⟨j, h1⟩, h2⟩ := hc
    have ex := relV_int hrx
    exact nx_val (by simp [execOp, ho, ex, convert, run_underlying' h1, run_underlying' h2, Conv.intToInt]) hK hs (.inr (.inr (.int _ _))) hd
  · cases hv
    obtain ⟨h1, h2⟩ := hc
    obtain ⟨b, ex, hb⟩ := relV_str hrx
    exact nx_val (c := .string b) (by simp [execOp, ho, ex, convert, run_underlying' h1, run_underlying' h2]) hK hs (.inr (.inr (.str _ b hb))) hd
  · split at hv
    · rename_i bs hlim
      cases hv
      obtain ⟨h1, e, h2, h3⟩ := hc
      obtain ⟨b, ex, hb⟩ := relV_str hrx
      subst hb
      have hrun := run_bytes_of_string (P := P) w src dst e b h1 h2 h3
      obtain ⟨hev1, hh1⟩ := Ev.drew hs.heap
      obtain ⟨hev2, hh2⟩ := Ev.shutNew hh1 (.cells (bytesRow b (grownCap w b.size 0 e)) e ((bytesRow b (grownCap w b.size 0 e)).size, (bytesRow b (grownCap w b.size 0 e)).size + 1)) b.size
      refine nx_val (c := .slice (some ⟨w.heap.size, 0, none⟩) b.size (grownCap w b.size 0 e)) (by simp only [execOp, ho, ex, Sem.run_bind, hrun, Result.andThen_ok, Sem.run_pure]) hK (hs.after (hev1.trans hev2) hh2 hs.low) (.inr (.inr ?_)) hd
      have hlen : (b.data.toList.map fun c => V.int .u8 c.toNat).length = b.size := by rw [List.length_map, ← size_list]
      have hrow : Row (γ.shut w.drew.heap.size b.size) (w.drew.alloc (.cells (bytesRow b (grownCap w b.size 0 e)) e ((bytesRow b (grownCap w b.size 0 e)).size, (bytesRow b (grownCap w b.size 0 e)).size + 1))) 1 (b.data.toList.map fun c => V.int .u8 c.toNat) (fun k => (b.data.toList[k]?).map fun c => Value.int .u8 c.toNat) := by
        refine ⟨fun i => ((b.data.toList[i]?).map fun c => Value.int .u8 c.toNat).getD .nilFunc, fun i v hv => ?_⟩
        simp only [List.getElem?_map, Option.map_eq_some_iff] at hv
        obtain ⟨c, hc, rfl⟩ := hv
        simp only [hc, Option.map_some, Option.getD_some]
        refine ⟨.int _ _, rfl, rfl, fun j u hj => ?_⟩
        cases j with
        | zero => simp [Value.cells] at hj; subst hj; simp [hc]
        | succ j => simp [Value.cells] at hj
      have := hrow.sl (b := w.heap.size) (off := 0) (cap := grownCap w b.size 0 e) (t := .frozen) (by rw [hlen]; exact grownCap_ge _ _ _ _) trivial (fun k u hk hu => by
        rw [hlen, Nat.mul_one] at hk
        refine ⟨by simp [Gh.shut, World.size_drew]; exact hk, ?_⟩
        simp only [Nat.zero_add]
        have hcell : (w.drew.alloc (.cells (bytesRow b (grownCap w b.size 0 e)) e ((bytesRow b (grownCap w b.size 0 e)).size, (bytesRow b (grownCap w b.size 0 e)).size + 1))).cell? ⟨w.heap.size, k, none⟩ = (bytesRow b (grownCap w b.size 0 e))[k]? :=
          cell_of_row _ _ k _ _ _ (heap_alloc_new w.drew _)
        rw [hcell]
        have hk' : k < b.data.size := hk
        simp only [bytesRow]
        rw [Array.getElem?_append_left (by simpa using hk')]
        simpa [hk'] using hu)
      rw [hlen] at this
      exact this
    · cases hv
  · simp only [Option.map_eq_some_iff] at hv
    obtain ⟨b, hb, rfl⟩ := hv
    obtain ⟨⟨e, h1, h2⟩, h3⟩ := hc
    cases vx with
    | sl t xs =>
      obtain ⟨ns, rfl, rfl⟩ := bytesV_some hb
      obtain ⟨ad, cap, hca, hcap, _, hrow⟩ := (hrx.ok rfl).row (sz := 1) (fun v hv => by simp at hv; obtain ⟨n, _, rfl⟩ := hv; rfl)
      have hconv := run_convert_bytes_string (P := P) w src dst e ad (ns.map (V.int .u8)).length cap h1 h2 h3
      rcases hrow with ⟨rfl, hnil, rfl⟩ | ⟨bk, off, rfl, hr, _⟩
      · have hns : ns = [] := by simpa using hnil
        subst hns
        refine nx_val (c := .string .empty) ?_ hK hs (.inr (.inr (.str _ _ rfl))) hd
        simp only [execOp, ho, hca, Sem.run_bind, hconv, Result.andThen_ok]
        simp [Conv.bytesToString]
      · have hload : (loadCells ⟨bk, off, none⟩ (ns.map (V.int .u8)).length).run P w = .ok (ns.map (Value.int .u8)).toArray w := by
          have := run_loadCells_list (P := P) w ⟨bk, off, none⟩ (ns.map (Value.int .u8)) (fun j v hj => by
            rw [addr_add]
            obtain ⟨c, hcc⟩ := hr
            simp only [List.getElem?_map, Option.map_eq_some_iff] at hj
            obtain ⟨n, hn, rfl⟩ := hj
            obtain ⟨g1, g2, g3, g4⟩ := hcc j (.int .u8 n) (by simp [hn])
            generalize c j = cj at g1 g4
            cases g1
            simpa using g4 0 (.int .u8 n) rfl)
          simpa using this
        have hrun := run_bytesToString (P := P) w ⟨bk, off, none⟩ (ns.map (V.int .u8)).length cap ns hload
        refine nx_val (c := .string (ns.foldl (fun (r : ByteArray) n => r.push (UInt8.ofNat n.toNat)) .empty)) ?_ hK hs (.inr (.inr (.str _ _ ?_))) hd
        · simp only [execOp, ho, hca, Sem.run_bind, hconv, hrun, Result.andThen_ok, Sem.run_pure]
        · rw [foldl_push]; rfl
    | _ => simp [bytesV] at hb
  · cases hv
    obtain ⟨⟨j, h1⟩, h2⟩ := hc
    have ex := relV_int hrx
    exact nx_val (c := .string (Utf8.encode _)) (by simp [execOp, ho, ex, convert, run_underlying' h1, run_underlying' h2, Conv.intToString]) hK hs (.inr (.inr (.str _ _ rfl))) hd
  · cases hv

theorem sim_textE (src dst e : TypeId) (x : Operand) (ho : o.op = .convert src dst x) (h1 : P.underlying src = some (.slice e)) (h2 : P.underlying e = some (.int .u8)) (h3 : P.underlying dst = some .string)
    {x' : AO} (hx : compX x = some x') (hd : ∀ i, o.dst = some i → i < z.nt) (h : kSome K s ((bytesV (rdV s (ev s.r x'))).map .str)) (hs : SRel z γ w lam s a) : o.wp P a w (Nx z o.dst K) Qx := by
  obtain ⟨v, hv, hK⟩ := some_of h
  have hrx := rel_x hs hx
  generalize ev s.r x' = vx at hv hrx
  simp only [Option.map_eq_some_iff] at hv
  obtain ⟨b, hb, rfl⟩ := hv
  cases hrd : rdV s vx with
  | sl t xs =>
    rw [hrd] at hb
    obtain ⟨ns, rfl, rfl⟩ := bytesV_some hb
    obtain ⟨ad, cap, hca, hcap, _, hrow⟩ := rd_row hs hrx hrd (fun v hv => by simp at hv; obtain ⟨n, _, rfl⟩ := hv; rfl)
    have hconv := run_convert_bytes_string (P := P) w src dst e ad (ns.map (V.int .u8)).length cap h1 h2 h3
    rcases hrow with ⟨rfl, hnil, rfl⟩ | ⟨bk, off, rfl, hr⟩
    · have hns : ns = [] := by simpa using hnil
      subst hns
      refine nx_val (c := .string .empty) ?_ hK hs (.inr (.inr (.str _ _ rfl))) hd
      simp only [execOp, ho, hca, Sem.run_bind, hconv, Result.andThen_ok]
      simp [Conv.bytesToString]
    · have hload : (loadCells ⟨bk, off, none⟩ (ns.map (V.int .u8)).length).run P w = .ok (ns.map (Value.int .u8)).toArray w := by
        have := run_loadCells_list (P := P) w ⟨bk, off, none⟩ (ns.map (Value.int .u8)) (fun j v hj => by
          rw [addr_add]
          obtain ⟨c, hcc⟩ := hr
          simp only [List.getElem?_map, Option.map_eq_some_iff] at hj
          obtain ⟨n, hn, rfl⟩ := hj
          obtain ⟨g1, g2, g3, g4⟩ := hcc j (.int .u8 n) (by simp [hn])
          generalize c j = cj at g1 g4
          cases g1
          simpa using g4 0 (.int .u8 n) rfl)
        simpa using this
      have hrun := run_bytesToString (P := P) w ⟨bk, off, none⟩ (ns.map (V.int .u8)).length cap ns hload
      refine nx_val (c := .string (ns.foldl (fun (r : ByteArray) n => r.push (UInt8.ofNat n.toNat)) .empty)) ?_ hK hs (.inr (.inr (.str _ _ ?_))) hd
      · simp only [execOp, ho, hca, Sem.run_bind, hconv, hrun, Result.andThen_ok, Sem.run_pure]
      · rw [foldl_push]; rfl
  | _ => rw [hrd] at hb; simp [bytesV] at hb

theorem errT_of {te : TypeId} (h : errT P te = true) : ∃ e i j, P.underlying te = some (.pointer e) ∧ P.info? te = some i ∧ i.comparable = true ∧ P.info? e = some j ∧ j.size ≠ 0 := by
  unfold errT at h
  split at h
  · rename_i e hu
    simp only [Bool.and_eq_true, Option.any_eq_true] at h
    obtain ⟨⟨i, h1, h2⟩, j, h3, h4⟩ := h
    exact ⟨e, i, j, hu, h1, h2, h3, by simpa using h4⟩
  · cases h

theorem sim_tasent {KG : List Nat} {te : TypeId} {gl : List Nat} (x : Operand) (xt at_ : TypeId) (ho : o.op = .typeAssert x xt at_ true) {d : TypeDesc} (hu : P.underlying at_ = some d) (hni : ∀ m, d ≠ .interface m) {zx : V} (hz : zeroV P at_ = some zx)
    {x' : AO} (hx : compX x = some x') (hd : ∀ i, o.dst = some i → i < z.nt) (hg : GOk KG γ w) (hsub : ∀ g ∈ gl, g ∈ KG ∧ g < 1000000) (hte : te < 1000000 ∧ 1000000 + te ∈ KG) (hne : te ≠ at_)
    (h : kSome K s (assentV gl at_ zx (ev s.r x'))) (hs : SRel z γ w lam s a) : o.wp P a w (Nx z o.dst K) Qx := by
  obtain ⟨v, hv, hK⟩ := some_of h
  have hrx := rel_x hs hx
  generalize hw : ev s.r x' = vx at hv hrx
  unfold assentV at hv
  split at hv
  · rename_i g
    split at hv
    · rename_i hgl
      cases hv
      have hr := hrx.ok rfl
      generalize hc : a.eval x = c at hr
      cases hr with
      | sent _ t c hp hcell =>
        obtain ⟨hk, hl⟩ := hsub g (by simpa using hgl)
        obtain ⟨ad, hs1, _⟩ := hg.sen te hte.1 hte.2 g hk hl
        have e1 := Option.some.inj (hs1.cell.symm.trans hcell)
        simp only [Value.iface.injEq] at e1
        obtain ⟨rfl, rfl⟩ := e1
        obtain ⟨i, zv, hi, hz1, hz2⟩ := zeroV_rel hz
        have hzr := (constV_rel γ w zv zx hz2).1
        have two : RelV γ w (.tup [zx, .bool false]) (.tuple #[zv, .bool false]) := by
          refine .tup _ _ rfl fun i x u hx hu => ?_
          rcases i with _ | _ | i
          · simp at hx hu; subst hx; subst hu; exact hzr
          · simp at hx hu; subst hx; subst hu; exact .bool false
          · simp at hx
        refine nx_val (c := .tuple #[zv, .bool false]) ?_ hK hs (.inr (.inr two)) hd
        simp only [execOp, ho, hc, Instr.typeAssert, Sem.run_bind, run_underlying' hu, Result.andThen_ok]
        cases d <;> first | exact absurd rfl (hni _) | simp [hne, run_zeroValue hi hz1]
    · cases hv
  · exact sim_tassert x xt at_ true ho hu hni hz hx hd (by rw [hw, hv]; exact hK) hs

theorem sim_eqi {KG : List Nat} {te : TypeId} {gl : List Nat} (neg : Bool) (t t' : TypeId) (x y : Operand) (ho : o.op = .binOp (if neg then .neq else .eql) t x y t') (hn : nilT P t = some .iface)
    {x' y' : AO} (hx : compX x = some x') (hy : compX y = some y') (hd : ∀ i, o.dst = some i → i < z.nt) (hg : GOk KG γ w) (hsub : ∀ g ∈ gl, g ∈ KG ∧ g < 1000000) (hte : te < 1000000 ∧ 1000000 + te ∈ KG) (hE : errT P te = true)
    (h : kSome K s (eqiV gl neg (ev s.r x') (ev s.r y'))) (hs : SRel z γ w lam s a) : o.wp P a w (Nx z o.dst K) Qx := by
  obtain ⟨v, hv, hK⟩ := some_of h
  have hrx := rel_x hs hx
  have hry := rel_x hs hy
  generalize ev s.r x' = vx at hv hrx
  generalize ev s.r y' = vy at hv hry
  obtain ⟨ms, ht⟩ : ∃ ms, P.underlying t = some (.interface ms) := by
    unfold nilT at hn
    split at hn <;> first | (cases hn; done) | exact ⟨_, by assumption⟩
  obtain ⟨e, ti, tj, hp, hi1, hi2, hj1, hj2⟩ := errT_of hE
  have fin : ∀ (cx cy : Value) (b : Bool), a.eval x = cx → a.eval y = cy → (∀ op, (eqGuard op t x y cx cy).run P w = .ok () w) → (∀ neg : Bool, (binOp (if neg = true then BinOp.neq else BinOp.eql) t cx cy).run P w = .ok (.bool (xor neg b)) w) → v = .bool (xor neg b) → o.wp P a w (Nx z o.dst K) Qx := by
    rintro cx cy b rfl rfl h1 h2 rfl
    refine nx_val ?_ hK hs (.inr (.inr (.bool _))) hd
    simp only [execOp, ho, Sem.run_bind, h1, h2, Result.andThen_ok, Sem.run_pure]
  have bin : ∀ (cx cy : Value) (b : Bool), (Op.equal t cx cy).run P w = .ok b w → ((∃ u c, cx = .iface u c) ∨ cx = .nilIface) → ((∃ u c, cy = .iface u c) ∨ cy = .nilIface) → ∀ neg : Bool, (binOp (if neg = true then BinOp.neq else BinOp.eql) t cx cy).run P w = .ok (.bool (xor neg b)) w := by
    rintro cx cy b he (⟨u, c, rfl⟩ | rfl) (⟨u', c', rfl⟩ | rfl) neg <;> cases neg <;> simp [binOp, he]
  unfold eqiV at hv
  split at hv
  · rename_i g g'
    split at hv
    · rename_i hgl
      cases hv
      have hrx := hrx.ok rfl
      have hry := hry.ok rfl
      generalize hcx : a.eval x = cx at hrx
      generalize hcy : a.eval y = cy at hry
      obtain ⟨hk, hl⟩ := hsub g (by simpa using hgl.1)
      obtain ⟨hk', hl'⟩ := hsub g' (by simpa using hgl.2)
      obtain ⟨ad, hs1, hu1⟩ := hg.sen te hte.1 hte.2 g hk hl
      obtain ⟨ad', hs2, hu2⟩ := hg.sen te hte.1 hte.2 g' hk' hl'
      cases hrx with
      | sent _ u c hp1 hcell =>
      cases hry with
      | sent _ u' c' hp2 hcell' =>
      have e1 := Option.some.inj (hs1.cell.symm.trans hcell)
      have e2 := Option.some.inj (hs2.cell.symm.trans hcell')
      simp only [Value.iface.injEq] at e1 e2
      obtain ⟨rfl, rfl⟩ := e1
      obtain ⟨rfl, rfl⟩ := e2
      refine fin _ _ (g == g') hcx hcy (fun op => by simp [eqGuard]) (bin _ _ _ ?_ (.inl ⟨_, _, rfl⟩) (.inl ⟨_, _, rfl⟩)) rfl
      by_cases hgg : g = g'
      · subst hgg
        have : ad = ad' := by
          have := Option.some.inj (hs1.cell.symm.trans hs2.cell)
          simpa using this
        subst this
        simpa [Op.equal, Op.maxDepth] using run_equalIn_iface_ptr_same w 9998 ad ht hp hi1 hi2 hj1
      · have hne : ad ≠ ad' := fun e => hgg (hu2 g hk hl (e ▸ hs1.cell))
        obtain ⟨ca, ta, ha⟩ := hs1.free
        obtain ⟨cb, tb, hb⟩ := hs2.free
        have hb' : (g == g') = false := by simpa using hgg
        rw [hb']
        simpa [Op.equal, Op.maxDepth] using run_equalIn_iface_ptr_other w 9998 ht hp hi1 hi2 hj1 hj2 hne ha hb
    · cases hv
  · cases hv
    have hrx := hrx.ok rfl
    have hry := hry.ok rfl
    generalize hcx : a.eval x = cx at hrx
    generalize hcy : a.eval y = cy at hry
    cases hrx
    cases hry
    have hq : ∀ (d u : Nat) (c : Value), (Op.equalIn (d + 1) t (.iface u c) .nilIface).run P w = .ok false w := fun d u c => by simp [Op.equalIn, run_underlying ht]
    exact fin _ _ false hcx hcy (fun op => by simp [eqGuard]) (bin _ _ _ (hq 9999 _ _) (.inl ⟨_, _, rfl⟩) (.inr rfl)) rfl
  · cases hv
    have hrx := hrx.ok rfl
    have hry := hry.ok rfl
    generalize hcx : a.eval x = cx at hrx
    generalize hcy : a.eval y = cy at hry
    cases hrx
    cases hry
    have hq : ∀ (d u : Nat) (c : Value), (Op.equalIn (d + 1) t .nilIface (.iface u c)).run P w = .ok false w := fun d u c => by simp [Op.equalIn, run_underlying ht]
    exact fin _ _ false hcx hcy (fun op => by simp [eqGuard]) (bin _ _ _ (hq 9999 _ _) (.inr rfl) (.inl ⟨_, _, rfl⟩)) rfl
  · cases hv

theorem senG_of {KG : List Nat} {A : Ann} {X : CallH} (hX : XG P KG A z X) : ∀ g ∈ senG A, g ∈ KG ∧ g < 1000000 := fun g hg => by
  simp only [senG, List.mem_filter, decide_eq_true_eq] at hg
  exact ⟨hX.sub g hg.1, hg.2⟩

theorem senOk_of {KG : List Nat} {A : Ann} {X : CallH} (hX : XG P KG A z X) (h : senOk P A = true) : ∃ te, (te < 1000000 ∧ 1000000 + te ∈ KG) ∧ errT P te = true ∧ 1000000 + te ∈ A.gl := by
  simp only [senOk, List.any_eq_true, Bool.and_eq_true, decide_eq_true_eq] at h
  obtain ⟨n, h1, ⟨h2, h2'⟩, h3⟩ := h
  have e : 1000000 + (n - 1000000) = n := by omega
  have e2 : n - 1000000 < 1000000 := Nat.sub_lt_left_of_lt_add h2 h2'
  exact ⟨n - 1000000, ⟨e2, by rw [e]; exact hX.sub n h1⟩, h3, by rw [e]; exact h1⟩

theorem evArgs_rel (hs : SRel z γ w lam s a) (own : List Nat) : ∀ (xs : List Operand) (ys : List AO) (k : Nat), compXs xs = some ys → okVals (evs s.r ys) = true →
    xs.length = (evArgs s.r own ys k).length ∧ okVals (evArgs s.r own ys k) = true ∧ ∀ (i : Nat) (v : V) (x : Operand), (evArgs s.r own ys k)[i]? = some v → xs[i]? = some x → RelV γ w v (a.eval x) := by
  intro xs
  induction xs with
  | nil => intro ys k h _; simp [compXs] at h; subst h; simp [evArgs, okVals]
  | cons x xs ih =>
    intro ys k h hok
    simp only [compXs, Option.bind_eq_some_iff, Option.map_eq_some_iff] at h
    obtain ⟨y, hy, ys', hys, rfl⟩ := h
    simp only [evs, okVals, Bool.and_eq_true] at hok
    obtain ⟨i1, i2, i3⟩ := ih ys' (k + 1) hys hok.2
    have hr := (rel_x hs hy).ok (by simpa using hok.1)
    refine ⟨by simp [evArgs, i1], ?_, fun i v x' hv hx' => ?_⟩
    · simp only [evArgs, okVals, Bool.and_eq_true]
      refine ⟨?_, i2⟩
      split
      · exact hok.1
      · rw [isLoc_demote]; exact hok.1
    · cases i with
      | zero =>
        simp [evArgs] at hv hx'
        subst hv; subst hx'
        split
        · exact hr
        · exact hr.demote
      | succ i => simp [evArgs] at hv hx'; exact i3 i v x' hv hx'

theorem okVals_append : ∀ (l m : List V), okVals (l ++ m) = (okVals l && okVals m) := by
  intro l m
  induction l with
  | nil => simp [okVals]
  | cons v l ih => simp [okVals, ih, Bool.and_assoc]

theorem sim_call {KG : List Nat} (hX : XG P KG A z X) (f : Operand) (args : Array Operand) (argTypes : Array TypeId) (ho : o.op = .call { callee := .value f, args, argTypes }) {f' : AO} {ys : List AO} (hf : compX f = some f') (has : compXs args.toList = some ys) {vr : Nat} {own : List Nat}
    (hv : vr ≠ 1000001) (hd : ∀ i, o.dst = some i → i < z.nt) (h : okVals (evs s.r ys) = true ∧ kCall X z.bs vr (evArgs s.r own ys 0) K s (ev s.r f')) (hs : SRel z γ w lam s a) : OpOk P o a w (Nx z o.dst K) Qx := by
  obtain ⟨hok, hk⟩ := h
  have hrf := rel_x hs hf
  generalize ev s.r f' = vf at hk hrf
  unfold kCall at hk
  split at hk
  · rename_i g cap
    have hr := hrf.ok rfl
    generalize hcf : a.eval f = cf at hr
    cases hr with
    | fn _ _ vs hsz hvv hl =>
      obtain ⟨i1, i2, i3⟩ := evArgs_rel hs own _ _ 0 has hok
      have hargs : ArgsRel γ w (evArgs s.r own ys 0 ++ cap) (args.map a.eval ++ vs) := by
        refine ⟨by simp [← i1, hsz], by rw [okVals_append, i2, hl]; rfl, fun i x u hx hu => ?_⟩
        rw [List.getElem?_append] at hx
        rw [Array.getElem?_append] at hu
        have e : (args.map a.eval).size = (evArgs s.r own ys 0).length := by simp [← i1]
        rw [e] at hu
        split at hx
        · rename_i hlt
          rw [if_pos hlt] at hu
          simp only [Array.getElem?_map, Option.map_eq_some_iff] at hu
          obtain ⟨y, hy, rfl⟩ := hu
          exact i3 i x y hx (by simpa using hy)
        · rename_i hlt
          rw [if_neg hlt] at hu
          exact hvv _ x u hx hu
      have hrun : (execOp a.eval o).run P w = (callFunc g (args.map a.eval ++ vs)).run P w := by
        simp [execOp, ho, resolve, hcf, Deferred.ofValue, invoke]
      have hcame := hX.ok g vr z.bs _ s.h _ hk γ w _ (hs.ev.le.bd.trans hX.bd) (hX.glo.mono hs.ev) hs.heap hs.low hargs
      rw [if_neg hv] at hcame
      have fin : ∀ c w', XPost γ w z.bs (kRet K s) c w' → Nx z o.dst K (a.put o.dst c) w' := by
        rintro c w' ⟨v, h', γ', hQ, hvc, hh', hlow', hev'⟩
        exact ⟨γ', lam, v, { s with h := h' }, hQ, (hs.after hev' hh' hlow').put hd (.inr (.inr hvc))⟩
      rcases hcame with ⟨hc1, hc2⟩ | ⟨c, w', hc1, hc2⟩
      · left
        unfold Oper.wp
        rw [hrun, hc1, Oper.upon_enter]
        refine hc2.mono ?_
        rintro e w' ⟨c, rfl, hp⟩
        exact fin c w' hp
      · left
        unfold Oper.wp
        rw [hrun, hc1, Oper.upon_value]
        exact fin c w' hc2
  case h_3 =>
    rename_i g xs
    have hr := hrf.ok rfl
    generalize hcf : a.eval f = cf at hr
    cases hr with
    | mfn _ _ vs hsz hvv hl =>
      obtain ⟨i1, i2, i3⟩ := evArgs_rel hs own _ _ 0 has hok
      have hargs : ArgsRel γ w (xs ++ evArgs s.r own ys 0) (vs ++ args.map a.eval) := by
        refine ⟨by simp [← i1, hsz], by rw [okVals_append, i2, hl]; rfl, fun i x u hx hu => ?_⟩
        rw [List.getElem?_append] at hx
        rw [Array.getElem?_append] at hu
        rw [hsz] at hu
        split at hx
        · rename_i hlt
          rw [if_pos hlt] at hu
          exact hvv _ x u hx hu
        · rename_i hlt
          rw [if_neg hlt] at hu
          simp only [Array.getElem?_map, Option.map_eq_some_iff] at hu
          obtain ⟨y, hy, rfl⟩ := hu
          exact i3 _ x y hx (by simpa using hy)
      have hrun : (execOp a.eval o).run P w = (callFunc g (vs ++ args.map a.eval)).run P w := by
        simp [execOp, ho, resolve, hcf, Deferred.ofValue, invoke]
      have hcame := hX.ok g vr z.bs _ s.h _ hk γ w _ (hs.ev.le.bd.trans hX.bd) (hX.glo.mono hs.ev) hs.heap hs.low hargs
      rw [if_neg hv] at hcame
      have fin : ∀ c w', XPost γ w z.bs (kRet K s) c w' → Nx z o.dst K (a.put o.dst c) w' := by
        rintro c w' ⟨v, h', γ', hQ, hvc, hh', hlow', hev'⟩
        exact ⟨γ', lam, v, { s with h := h' }, hQ, (hs.after hev' hh' hlow').put hd (.inr (.inr hvc))⟩
      rcases hcame with ⟨hc1, hc2⟩ | ⟨c, w', hc1, hc2⟩
      · left
        unfold Oper.wp
        rw [hrun, hc1, Oper.upon_enter]
        refine hc2.mono ?_
        rintro e w' ⟨c, rfl, hp⟩
        exact fin c w' hp
      · left
        unfold Oper.wp
        rw [hrun, hc1, Oper.upon_value]
        exact fin c w' hc2
  · rename_i r
    have hr := hrf.ok rfl
    generalize hcf : a.eval f = cf at hr
    cases hr with
    | yld _ h1 h2 =>
      obtain ⟨i1, i2, i3⟩ := evArgs_rel hs own _ _ 0 has hok
      have hargs : ArgsRel γ w (evArgs s.r own ys 0) (args.map a.eval) := by
        refine ⟨by simp [← i1], i2, fun i x u hx hu => ?_⟩
        simp only [Array.getElem?_map, Option.map_eq_some_iff] at hu
        obtain ⟨y, hy, rfl⟩ := hu
        exact i3 i x y hx (by simpa using hy)
      have hrun : (execOp a.eval o).run P w = (Instr.yield (γ.rho r) (args.map a.eval)).run P w := by
        simp [execOp, ho, resolve, hcf, Deferred.ofValue, invoke]
      have hcame := hX.ok r 1000001 z.bs _ s.h _ hk γ w _ (hs.ev.le.bd.trans hX.bd) (hX.glo.mono hs.ev) hs.heap hs.low hargs
      rw [if_pos rfl] at hcame
      obtain ⟨f', tmps, as, bd, g1, g2⟩ := hcame
      refine .inr ⟨_, f', tmps, as, bd, hrun.trans g1, g2.mono ?_⟩
      rintro e w' ⟨c, rfl, v, h', γ', hQ, hvc, hh', hlow', hev'⟩
      exact ⟨c, rfl, γ', lam, v, { s with h := h' }, hQ, (hs.after hev' hh' hlow').put hd (.inr (.inr hvc))⟩
  · exact hk.elim

theorem bind_ite {α : Type} {c : Prop} [Decidable c] {x y : α} (h : (if c then some x else none) = some y) : c ∧ x = y := by
  split at h
  · exact ⟨‹c›, by simpa using h⟩
  · cases h

/-- EVERY OPERATION. -/
theorem sim_op {KG : List Nat} (hX : XG P KG A z X) {ao : AOp} (hc : compOp P A o.dst o.op = some ao) (hd : ∀ i, o.dst = some i → i < z.nt) (h : wpOp X z.bs o.dst ao s K) (hs : SRel z γ w lam s a) : OpOk P o a w (Nx z o.dst K) Qx := by
  cases hop : o.op <;> rw [hop] at hc <;> (try (simp only [compOp, reduceCtorEq] at hc; done))
  case move x =>
    simp only [compOp, Option.map_eq_some_iff] at hc
    obtain ⟨y, hy, rfl⟩ := hc
    exact .inl (sim_mov x (.inl hop) hy hd h hs)
  case assign x =>
    simp only [compOp, Option.map_eq_some_iff] at hc
    obtain ⟨y, hy, rfl⟩ := hc
    exact .inl (sim_mov x (.inr hop) hy hd h hs)
  case pick c x y =>
    simp only [compOp, Option.bind_eq_some_iff, Option.map_eq_some_iff] at hc
    obtain ⟨c', h1, x', h2, y', h3, rfl⟩ := hc
    exact .inl (sim_pick c x y hop h1 h2 h3 hd h hs)
  case alloc e =>
    simp only [compOp, Option.bind_eq_some_iff, Option.map_eq_some_iff] at hc
    obtain ⟨zc, h1, d, h2, rfl⟩ := hc
    exact .inl (sim_alloc e hop h1 hd h hs)
  case box e x =>
    simp only [compOp, Option.bind_eq_some_iff, Option.map_eq_some_iff] at hc
    obtain ⟨n, h1, x', h2, d, h3, rfl⟩ := hc
    split at h
    · exact .inl (sim_fbox e x hop h2 hd h hs)
    · exact .inl (sim_box e x hop h2 hd h hs)
  case build t ps =>
    simp only [compOp, Option.bind_eq_some_iff] at hc
    obtain ⟨zx, h1, hc⟩ := hc
    split at hc
    · rename_i zc fs hu
      simp only [Option.bind_eq_some_iff, Option.map_eq_some_iff] at hc
      obtain ⟨pl, h2, qs, h3, rfl⟩ := hc
      exact .inl (sim_build t ps hop h1 hu h2 h3 hd h hs)
    · rename_i zc n e hu
      simp only [Option.bind_eq_some_iff, Option.map_eq_some_iff] at hc
      obtain ⟨sz, h2, qs, h3, rfl⟩ := hc
      exact .inl (sim_buildA t ps hop h1 hu h2 h3 hd h hs)
    · cases hc
  case buildSlice t n ps =>
    simp only [compOp] at hc
    split at hc
    · rename_i e hu
      simp only [Option.bind_eq_some_iff] at hc
      obtain ⟨zc, h1, m, h2, qs, h3, hc⟩ := hc
      obtain ⟨⟨g1, g2, g3⟩, rfl⟩ := bind_ite hc
      split at h
      · exact .inl (sim_bslM t e n ps hop hu h1 h2 h3 g1 g2 g3 hd h hs)
      · split at h
        · exact .inl (sim_bslV t e n ps hop hu h1 h2 h3 g1 g2 g3 hd h hs)
        · exact .inl (sim_bslice t e n ps hop hu h1 h2 h3 g1 g2 g3 hd h hs)
    · cases hc
  case load t x =>
    cases x with
    | global g =>
      simp only [compOp] at hc
      obtain ⟨⟨g1, g2⟩, rfl⟩ := bind_ite hc
      exact .inl (sim_gload t g hop g2.2 hX.glo (hX.sub g (by simpa using g1)) g2.1 hd h hs)
    | _ =>
      simp only [compOp, Option.bind_eq_some_iff, Option.map_eq_some_iff] at hc
      obtain ⟨n, h1, y, h2, rfl⟩ := hc
      exact .inl (sim_load t _ hop h1 h2 hd h hs)
  case store t x y =>
    simp only [compOp, Option.bind_eq_some_iff, Option.map_eq_some_iff] at hc
    obtain ⟨n, h1, x', h2, y', h3, rfl⟩ := hc
    exact .inl (sim_store t x y hop h1 h2 h3 hd h hs)
  case nilCheck x =>
    simp only [compOp, Option.map_eq_some_iff] at hc
    obtain ⟨y, hy, rfl⟩ := hc
    exact .inl (sim_nilck x hop hy hd h hs)
  case binOp op t x y t' =>
    simp only [compOp] at hc
    split at hc
    · rename_i hsl
      split at hc
      · rename_i hn
        split at hc
        · simp only [Option.map_eq_some_iff] at hc
          obtain ⟨x', h2, rfl⟩ := hc
          exact .inl (sim_nilsl false t t' x y hop hsl hn h2 hd h hs)
        · simp only [Option.map_eq_some_iff] at hc
          obtain ⟨x', h2, rfl⟩ := hc
          exact .inl (sim_nilsl true t t' x y hop hsl hn h2 hd h hs)
        · cases hc
      · cases hc
    split at hc
    · rename_i hk
      split at hc
      · simp only [Option.bind_eq_some_iff, Option.map_eq_some_iff] at hc
        obtain ⟨x', h1, y', h2, rfl⟩ := hc
        exact .inl (sim_eqb false t t' x y hop hk h1 h2 hd h hs)
      · simp only [Option.bind_eq_some_iff, Option.map_eq_some_iff] at hc
        obtain ⟨x', h1, y', h2, rfl⟩ := hc
        exact .inl (sim_eqb true t t' x y hop hk h1 h2 hd h hs)
      · cases hc
    · split at hc
      · simp only [Option.bind_eq_some_iff, Option.map_eq_some_iff] at hc
        obtain ⟨x', h1, y', h2, rfl⟩ := hc
        exact .inl (sim_bin op t t' x y hop h1 h2 hd h hs)
      · simp only [Option.bind_eq_some_iff] at hc
        obtain ⟨nk, h1, hc⟩ := hc
        split at hc
        · rename_i hn
          split at hc
          · simp only [Option.map_eq_some_iff] at hc
            obtain ⟨x', h2, rfl⟩ := hc
            exact .inl (sim_eqnil false t t' x y hop h1 hn h2 hd h hs)
          · simp only [Option.map_eq_some_iff] at hc
            obtain ⟨x', h2, rfl⟩ := hc
            exact .inl (sim_eqnil true t t' x y hop h1 hn h2 hd h hs)
          · cases hc
        · split at hc
          · rename_i hsn
            obtain ⟨rfl, hsn⟩ := hsn
            obtain ⟨te, hte, hE, -⟩ := senOk_of hX hsn
            split at hc
            · simp only [Option.bind_eq_some_iff, Option.map_eq_some_iff] at hc
              obtain ⟨x', h2, y', h3, rfl⟩ := hc
              exact .inl (sim_eqi false t t' x y hop h1 h2 h3 hd (hX.glo.mono hs.ev) (senG_of hX) hte hE h hs)
            · simp only [Option.bind_eq_some_iff, Option.map_eq_some_iff] at hc
              obtain ⟨x', h2, y', h3, rfl⟩ := hc
              exact .inl (sim_eqi true t t' x y hop h1 h2 h3 hd (hX.glo.mono hs.ev) (senG_of hX) hte hE h hs)
            · cases hc
          · cases hc
  case unOp op t x =>
    cases op
    · simp only [compOp, Option.map_eq_some_iff] at hc
      obtain ⟨y, hy, rfl⟩ := hc
      exact .inl (sim_neg t x hop hy hd h hs)
    · simp [compOp] at hc
    · simp only [compOp, Option.map_eq_some_iff] at hc
      obtain ⟨y, hy, rfl⟩ := hc
      exact .inl (sim_not t x hop hy hd h hs)
    · simp [compOp] at hc
  case convert src dst x =>
    simp only [compOp] at hc
    split at hc
    · rename_i j k h1 h2
      simp only [Option.map_eq_some_iff] at hc
      obtain ⟨y, hy, rfl⟩ := hc
      exact .inl (sim_conv src dst x hop (c := .int _) ⟨⟨_, h1⟩, h2⟩ hy hd h hs)
    · rename_i h1 h2
      simp only [Option.map_eq_some_iff] at hc
      obtain ⟨y, hy, rfl⟩ := hc
      exact .inl (sim_conv src dst x hop (c := .id) ⟨h1, h2⟩ hy hd h hs)
    · rename_i j h1 h2
      simp only [Option.map_eq_some_iff] at hc
      obtain ⟨y, hy, rfl⟩ := hc
      exact .inl (sim_conv src dst x hop (c := .rune) ⟨⟨_, h1⟩, h2⟩ hy hd h hs)
    · rename_i e h1 h2
      split at hc
      · rename_i h3
        simp only [Option.map_eq_some_iff] at hc
        obtain ⟨y, hy, rfl⟩ := hc
        exact .inl (sim_conv src dst x hop (c := .bytes) ⟨h1, e, h2, h3⟩ hy hd h hs)
      · cases hc
    · rename_i e h1 h2
      split at hc
      · rename_i h3
        simp only [Option.map_eq_some_iff] at hc
        obtain ⟨y, hy, rfl⟩ := hc
        split at h
        · exact .inl (sim_textE src dst e x hop h1 h3 h2 hy hd h hs)
        · exact .inl (sim_conv src dst x hop (c := .text) ⟨⟨e, h1, h3⟩, h2⟩ hy hd h hs)
      · cases hc
    · cases hc
  case makeInterface t x =>
    simp only [compOp] at hc
    split at hc
    · cases hc
    · rename_i d hne hu
      simp only [Option.map_eq_some_iff] at hc
      obtain ⟨y, hy, rfl⟩ := hc
      exact .inl (sim_mkif t x hop hu (fun m e => hne m e) hy hd h hs)
    · cases hc
  case insert t m k v =>
    simp only [compOp] at hc
    split at hc
    · rename_i kt e hu
      simp only [Option.bind_eq_some_iff, Option.map_eq_some_iff] at hc
      obtain ⟨kk, h1, m', h2, k', h3, v', h4, rfl⟩ := hc
      exact .inl (sim_mapset t kt e m k v (.inr hop) hu h1 h2 h3 h4 hd h hs)
    · cases hc
  case makeFunc fn first cap =>
    cases fn <;> simp only [compOp] at hc
    case func f =>
      split at hc
      · rename_i hfirst
        simp only [Option.map_eq_some_iff] at hc
        obtain ⟨ys, h1, rfl⟩ := hc
        have e : first = #[] := by simpa using hfirst
        subst e
        exact .inl (sim_mkfn f cap hop h1 hd h hs)
      · split at hc
        · rename_i hcap
          simp only [Option.map_eq_some_iff] at hc
          obtain ⟨ys, h1, rfl⟩ := hc
          have e : cap = #[] := by simpa using hcap
          subst e
          exact .inl (sim_mkmet f first hop h1 hd h hs)
        · cases hc
    all_goals cases hc
  case makeMap t r =>
    cases r <;> simp only [compOp] at hc
    · cases hc
      exact .inl (sim_mkmap t hop hd h hs)
    · cases hc
  case makeSlice t l c =>
    simp only [compOp] at hc
    split at hc
    · rename_i e hu
      simp only [Option.bind_eq_some_iff] at hc
      obtain ⟨zc, h1, i, h2, l', h3, c', h4, hc⟩ := hc
      obtain ⟨⟨g1, g2, g3⟩, rfl⟩ := bind_ite hc
      split at h
      · exact .inl (sim_mkarr t e l c hop hu h1 h2 g1 g2 g3 h3 h4 hd h hs)
      · split at h
        · exact .inl (sim_mkvec t e l c hop hu h1 h2 g1 g2 g3 h3 h4 hd h hs)
        · exact .inl (sim_mkslice t e l c hop hu h1 h2 g1 g2 g3 h3 h4 hd h hs)
    · cases hc
  case slice t x lo hi mx =>
    simp only [compOp] at hc
    split at hc
    · rename_i e hu
      simp only [Option.bind_eq_some_iff] at hc
      obtain ⟨n, h1, x', h2, lo', h3, hi', h4, mx', h5, hc⟩ := hc
      obtain ⟨⟨g1, g2⟩, rfl⟩ := bind_ite hc
      refine .inl (sim_slice t x lo hi mx hop hu h1 g1 h2 h3 h4 h5 (fun hm => ?_) hd h hs)
      cases hi with
        | some _ => simp
        | none =>
          simp only [optX, Option.some.injEq] at h4
          subst h4
          cases mx with
          | none => exact absurd rfl hm
          | some _ => rcases g2 with g | g <;> simp_all [optX]
    · rename_i hu
      simp only [Option.bind_eq_some_iff] at hc
      obtain ⟨x', h2, lo', h3, hi', h4, hc⟩ := hc
      obtain ⟨g1, rfl⟩ := bind_ite hc
      have e : mx = none := by simpa using g1
      subst e
      exact .inl (sim_slice_str t x lo hi hop hu h2 h3 h4 hd h hs)
    · cases hc
  case fieldAddr t x i =>
    simp only [compOp] at hc
    split at hc
    · rename_i fs hu
      simp only [Option.bind_eq_some_iff] at hc
      obtain ⟨f, h1, n, h2, hc⟩ := hc
      split at hc
      · rename_i hn
        simp only [Option.map_eq_some_iff] at hc
        obtain ⟨y, hy, rfl⟩ := hc
        exact .inl (sim_faddr t x i hop hu h1 h2 hn hy hd h hs)
      · cases hc
    · cases hc
  case field t x i =>
    simp only [compOp] at hc
    split at hc
    · rename_i fs hu
      simp only [Option.bind_eq_some_iff, Option.map_eq_some_iff] at hc
      obtain ⟨f, h1, n, h2, y, hy, rfl⟩ := hc
      exact .inl (sim_field t x i hop hu h1 h2 hy hd h hs)
    · cases hc
  case indexAddr t x i =>
    simp only [compOp] at hc
    split at hc
    · rename_i e hu
      simp only [Option.bind_eq_some_iff, Option.map_eq_some_iff] at hc
      obtain ⟨n, h1, x', h2, i', h3, rfl⟩ := hc
      exact .inl (sim_iaddr t e x i hop hu h1 h2 h3 hd h hs)
    · rename_i n e hu
      split at hc
      · rename_i kk k
        simp only [Option.bind_eq_some_iff] at hc
        obtain ⟨sz, h1, hc⟩ := hc
        split at hc
        · rename_i hk
          simp only [Option.map_eq_some_iff] at hc
          obtain ⟨y, hy, rfl⟩ := hc
          exact .inl (sim_aaddr t e x kk k hop hu h1 hk.1 hk.2 hy hd h hs)
        · cases hc
      · cases hc
    · cases hc
  case index t x i =>
    simp only [compOp] at hc
    split at hc
    · rename_i hu
      simp only [Option.bind_eq_some_iff, Option.map_eq_some_iff] at hc
      obtain ⟨x', h2, i', h3, rfl⟩ := hc
      exact .inl (sim_sindex t x i hop hu h2 h3 hd h hs)
    · cases hc
  case lookup t m k ok =>
    simp only [compOp] at hc
    split at hc
    · rename_i kt e hu
      simp only [Option.bind_eq_some_iff, Option.map_eq_some_iff] at hc
      obtain ⟨kk, h1, zx, h2, m', h3, k', h4, rfl⟩ := hc
      exact .inl (sim_lookup t kt e m k ok hop hu h1 h2 h3 h4 hd h hs)
    · cases hc
  case mapUpdate t m k v =>
    simp only [compOp] at hc
    split at hc
    · rename_i kt e hu
      simp only [Option.bind_eq_some_iff, Option.map_eq_some_iff] at hc
      obtain ⟨kk, h1, m', h2, k', h3, v', h4, rfl⟩ := hc
      exact .inl (sim_mapset t kt e m k v (.inl hop) hu h1 h2 h3 h4 hd h hs)
    · cases hc
  case range t x =>
    simp only [compOp] at hc
    split at hc
    · rename_i kt e hu
      simp only [Option.map_eq_some_iff] at hc
      obtain ⟨y, hy, rfl⟩ := hc
      exact .inl (sim_range t kt e x hop hu hy hd h hs)
    · cases hc
  case next x str =>
    cases str <;> simp [compOp] at hc
    obtain ⟨y, hy, rfl⟩ := hc
    exact .inl (sim_next x hop hy hd h hs)
  case entry x =>
    simp only [compOp, Option.map_eq_some_iff] at hc
    obtain ⟨y, hy, rfl⟩ := hc
    exact .inl (sim_entry x hop hy hd h hs)
  case typeAssert x xt as_ ok =>
    simp only [compOp] at hc
    split at hc
    · cases hc
    · rename_i d hne hu
      simp only [Option.bind_eq_some_iff, Option.map_eq_some_iff] at hc
      obtain ⟨zx, h1, y, hy, rfl⟩ := hc
      split at h
      · rename_i hsn
        obtain ⟨rfl, hsn, hno⟩ := hsn
        obtain ⟨te, hte, hE, hgl⟩ := senOk_of hX hsn
        exact .inl (sim_tasent x xt as_ hop hu (fun m e => hne m e) h1 hy hd (hX.glo.mono hs.ev) (senG_of hX) hte (fun e => by subst e; simp [hgl] at hno) h hs)
      · exact .inl (sim_tassert x xt as_ ok hop hu (fun m e => hne m e) h1 hy hd h hs)
    · cases hc
  case extract x i =>
    simp only [compOp, Option.map_eq_some_iff] at hc
    obtain ⟨y, hy, rfl⟩ := hc
    exact .inl (sim_extract x i hop hy hd h hs)
  case call c =>
    obtain ⟨callee, args, argTypes⟩ := c
    cases callee with
    | value f =>
      simp only [compOp, Option.bind_eq_some_iff, Option.map_eq_some_iff] at hc
      obtain ⟨x', h1, ys, h2, hc⟩ := hc
      split at hc <;> subst hc
      · exact sim_call hX _ args argTypes hop h1 h2 (by have := Nat.mod_lt (A.call ‹_›).1 (show 0 < 1000 by decide); omega) hd h hs
      · exact sim_call hX f args argTypes hop h1 h2 (by decide) hd h hs
    | invoke r m => simp [compOp] at hc
    | builtin b =>
      cases b <;> (try (simp [compOp] at hc; done))
      case max =>
        simp only [compOp] at hc
        split at hc
        · rename_i x y hx
          obtain ⟨args⟩ := args
          simp only at hx
          subst hx
          simp only [Option.bind_eq_some_iff, Option.map_eq_some_iff] at hc
          obtain ⟨x', h1, y', h2, rfl⟩ := hc
          exact .inl (sim_bmax x y argTypes hop h1 h2 hd h hs)
        · cases hc
      case min =>
        simp only [compOp] at hc
        split at hc
        · rename_i x y hx
          obtain ⟨args⟩ := args
          simp only at hx
          subst hx
          simp only [Option.bind_eq_some_iff, Option.map_eq_some_iff] at hc
          obtain ⟨x', h1, y', h2, rfl⟩ := hc
          exact .inl (sim_bmin x y argTypes hop h1 h2 hd h hs)
        · cases hc
      case copy =>
        simp only [compOp] at hc
        split at hc
        · rename_i x y t u hx ht
          obtain ⟨args⟩ := args
          obtain ⟨argTypes⟩ := argTypes
          simp only at hx ht
          subst hx; subst ht
          split at hc
          · rename_i e h0
            simp only [Option.bind_eq_some_iff, Option.map_eq_some_iff] at hc
            obtain ⟨n, h3, x', h1, y', h2, rfl⟩ := hc
            split at h
            · rename_i hc
              exact .inl (sim_copyM t u e x y hop h0 h3 hc.2 h1 h2 hd h hs)
            · exact .inl (sim_copy0 t u e x y hop h0 h3 h1 h2 hd h hs)
          · cases hc
        · cases hc
      case clear =>
        simp only [compOp] at hc
        split at hc
        · rename_i x t hx ht
          obtain ⟨args⟩ := args
          obtain ⟨argTypes⟩ := argTypes
          simp only at hx ht
          subst hx; subst ht
          split at hc
          · rename_i e h0
            simp only [Option.bind_eq_some_iff] at hc
            obtain ⟨zc, h3, x', h1, hc⟩ := hc
            obtain ⟨g1, rfl⟩ := bind_ite hc
            exact .inl (sim_clearM t e x hop h0 h3 g1 h1 hd h hs)
          · cases hc
        · cases hc
      case len =>
        simp only [compOp] at hc
        split at hc
        · rename_i x t hx ht
          obtain ⟨args⟩ := args
          obtain ⟨argTypes⟩ := argTypes
          simp only at hx ht
          subst hx; subst ht
          split at hc
          · rename_i hu
            simp only [Option.map_eq_some_iff] at hc
            obtain ⟨y, hy, rfl⟩ := hc
            exact .inl (sim_len t x 0 hop 0 hu hy hd h hs)
          · rename_i e hu
            simp only [Option.map_eq_some_iff] at hc
            obtain ⟨y, hy, rfl⟩ := hc
            exact .inl (sim_len t x 0 hop 1 ⟨e, hu⟩ hy hd h hs)
          · rename_i e e' hu
            simp only [Option.map_eq_some_iff] at hc
            obtain ⟨y, hy, rfl⟩ := hc
            exact .inl (sim_len t x 0 hop 2 ⟨e, e', hu⟩ hy hd h hs)
          · cases hc
        · cases hc
      case delete =>
        simp only [compOp] at hc
        split at hc
        · rename_i m k t u hx ht
          obtain ⟨args⟩ := args
          obtain ⟨argTypes⟩ := argTypes
          simp only at hx ht
          subst hx; subst ht
          split at hc
          · rename_i kt e hu
            simp only [Option.bind_eq_some_iff, Option.map_eq_some_iff] at hc
            obtain ⟨kk, h1, m', h2, k', h3, rfl⟩ := hc
            exact .inl (sim_delete t u kt e m k hop hu h1 h2 h3 hd h hs)
          · cases hc
        · cases hc
      case append =>
        simp only [compOp] at hc
        split at hc
        · rename_i x y t u hx ht
          obtain ⟨args⟩ := args
          obtain ⟨argTypes⟩ := argTypes
          simp only at hx ht
          subst hx; subst ht
          split at hc
          · rename_i e e' h1 h2
            simp only [Option.bind_eq_some_iff] at hc
            obtain ⟨i, h3, zc, h4, x', h5, y', h6, hc⟩ := hc
            obtain ⟨⟨g1, g2, g3⟩, rfl⟩ := bind_ite hc
            split at h
            · exact .inl (sim_appm t u e x y hop h1 (.inl ⟨e', h2⟩) h3 h4 g1 g2 g3 h5 h6 hd _ h hs)
            · split at h
              · exact .inl (sim_appE t u e x y hop h1 (.inl ⟨e', h2⟩) h3 h4 g1 g2 g3 h5 h6 hd h hs)
              · split at h
                · exact .inl (sim_appV t u e x y hop h1 (.inl ⟨e', h2⟩) h3 h4 g1 g2 g3 h5 h6 hd h hs)
                · exact .inl (sim_append t u e x y hop h1 (.inl ⟨e', h2⟩) h3 h4 g1 g2 g3 h5 h6 hd h hs)
          · rename_i e h1 h2
            simp only [Option.bind_eq_some_iff] at hc
            obtain ⟨i, h3, zc, h4, x', h5, y', h6, hc⟩ := hc
            obtain ⟨⟨g1, g2, g3⟩, rfl⟩ := bind_ite hc
            split at h
            · exact .inl (sim_appV t u e x y hop h1 (.inr h2) h3 h4 g1 (by omega) (by omega) h5 h6 hd h hs)
            · exact .inl (sim_append t u e x y hop h1 (.inr h2) h3 h4 g1 (by omega) (by omega) h5 h6 hd h hs)
          · cases hc
        · cases hc

end
end Go.Am
