/- The abstract machine's code is the model's. -/
import Derived.Test.YtkcpkckaahmheaaDoorAmO8
import Derived.Lib.SlBytesConst
namespace Go.Am

/-- The fence of an activation, of a round: nothing is barred. -/
def fen (ro : Option Nat) : Fence := { Fence.wide with round := ro }

theorem callsIn_fen {P : Program} {ro : Option Nat} {n : Nat} {f : FuncId} {args : Array Value} {w : World} {R : Ending → World → Prop} : CallsIn (fen ro) n P f args w R ↔ Calls P f args w R :=
  (callsIn_wide (n := n) : CallsIn Fence.wide n P f args w R ↔ _)

theorem rowsIn_fen {P : Program} {ro : Option Nat} {n : Nat} {row : String} {args : Array Value} {w : World} {R : Value → World → Prop} (h : Rows P row args w R) : RowsIn (fen ro) n P row args w R := by
  intro c cs _
  obtain ⟨v, w', h1, h2⟩ := h c cs
  exact ⟨v, w', h1, (stepsIn_wide (P := P)).2 h2⟩

theorem wpIn_of_ok {P : Program} {ro : Option Nat} {o : Oper} {a : Act} {w : World} {next : Act → World → Prop} {Q : Exit → Act → World → Prop} (hnd : ∀ c, o.op ≠ .defer c) (h : OpOk P o a w next Q) : o.wpIn (fen ro) 0 P a w next Q := by
  refine ⟨fun _ _ => trivial, ?_⟩
  have e : o.semAt (fen ro).round a.eval = execOp a.eval o := Oper.semAt_eq _ _ _ hnd
  rw [e]
  rcases h with h | ⟨l, f, tmps, as, bd, h1, h2⟩
  · unfold Oper.wp at h
    generalize (execOp a.eval o).run P w = r at h ⊢
    unfold Oper.upon at h
    split at h <;> simp only [Oper.uponIn]
    · exact h
    · exact h
    · exact h
    · exact ⟨fun h => by simp [fen, Fence.wide] at h, callsIn_fen.2 h⟩
    · exact ⟨fun h => by simp [fen, Fence.wide] at h, rowsIn_fen h⟩
    · exact h
    · exact h.elim
  · rw [h1]
    simp only [Oper.uponIn]
    refine ⟨fun h => by simp [fen, Fence.wide] at h, ?_⟩
    have h3 : RoundIn (fen ro) 0 P l f tmps as bd w fun e w' => ∃ c, e = .returned c ∧ next (a.put o.dst c) w' := h2
    refine h3.mono ?_
    rintro e w' ⟨c, rfl, h4⟩
    exact h4

/-- Behind a loop's round one stands where one stood. -/
theorem wpIn_loop_unroll {F : Fence} {n : Nat} {P : Program} {c : Code} {Q : Exit → Act → World → Prop} {a : Act} {w : World} (hg : ∀ l a w, ¬ Q (.goto l) a w) (ho : ∀ a w, ¬ Q .outgrown a w)
    (h : c.wpIn F n P (Exit.then ((Code.loop c).wpIn F n P Q) Q) a w) : (Code.loop c).wpIn F n P Q a w := by
  intro b k cs hro hb hr
  obtain ⟨e, a₁, w₁, hq, harr⟩ := h b (.inLoop c :: k) cs hro hb hr
  have h0 : (lone (b.atR a (.code (.loop c) :: k)) cs w).fenced P F := fenced_calm hb hr rfl
  cases e with
  | normal =>
    obtain ⟨e₂, a₂, w₂, hq₂, harr₂⟩ := hq b k cs hro hb hr
    have hs : StepsIn (Machine.fenced P F) P (lone (b.atR a (.code (.loop c) :: k)) cs w) (lone (b.atR a₁ (.inLoop c :: k)) cs w₁) := .head h0 stepR_loop harr
    have h1 : (lone (b.atR a₁ (.inLoop c :: k)) cs w₁).fenced P F := fenced_calm hb hr rfl
    -- both stand before the same step
    have turn : ∀ m', m' ≠ lone (b.atR a₁ (.code (.loop c) :: k)) cs w₁ → StepsIn (Machine.fenced P F) P (lone (b.atR a₁ (.code (.loop c) :: k)) cs w₁) m' → StepsIn (Machine.fenced P F) P (lone (b.atR a₁ (.inLoop c :: k)) cs w₁) m' := by
      intro m' hne hst
      generalize hm : lone (b.atR a₁ (.code (.loop c) :: k)) cs w₁ = m at hst hne
      cases hst with
      | refl => exact absurd rfl hne
      | head hI hs1 hs2 =>
        subst hm
        rw [stepR_loop] at hs1
        cases hs1
        exact .head h1 stepR_inLoop hs2
    have ne : ∀ (fr : Frame) (w' : World), fr.todo ≠ .code (.loop c) :: k → lone fr cs w' ≠ lone (b.atR a₁ (.code (.loop c) :: k)) cs w₁ := by
      intro fr w' ht e
      simp only [lone, Machine.mk.injEq, Array.mk.injEq, List.cons.injEq, Goroutine.mk.injEq] at e
      exact ht (by rw [e.2.1.1.1]; rfl)
    have ne' : ∀ (fr : Frame) (w' : World), fr.mode ≠ .run → lone fr cs w' ≠ lone (b.atR a₁ (.code (.loop c) :: k)) cs w₁ := by
      intro fr w' ht e
      simp only [lone, Machine.mk.injEq, Array.mk.injEq, List.cons.injEq, Goroutine.mk.injEq] at e
      exact ht (by rw [e.2.1.1.1]; rfl)
    cases e₂ with
    | normal => exact ⟨_, a₂, w₂, hq₂, hs.trans (turn _ (ne _ _ (fun e => by have := congrArg List.length e; simp [Frame.atR] at this)) harr₂)⟩
    | exit id =>
      refine ⟨_, a₂, w₂, hq₂, fun k' hk => hs.trans (turn _ (ne _ _ (fun e => ?_)) (harr₂.1 k' hk)), fun hr' hk => ?_⟩
      · have hlen : ∀ (k : List Item) (k' : List Item), exitTo id k = some k' → k'.length ≤ k.length := by
          intro k
          induction k with
          | nil => intro k' h; simp [exitTo] at h
          | cons x k ih =>
            intro k' h
            cases x <;> simp only [exitTo] at h <;> first
              | (split at h
                 · cases h; simp
                 · have := ih k' h; simp; omega)
              | (have := ih k' h; simp; omega)
        have := hlen k k' hk
        simp only [Frame.atR] at e
        rw [e] at this
        simp at this
        omega
      · obtain ⟨k₁, g1, g2⟩ := harr₂.2 hr' hk
        exact ⟨k₁, g1, hs.trans (turn _ (ne _ _ (fun e => by simp [Frame.atR] at e)) g2)⟩
    | goto l => exact absurd hq₂ (hg _ _ _)
    | ret =>
      refine ⟨_, a₂, w₂, hq₂, fun hr' => ?_, fun hr' => ?_⟩
      · obtain ⟨todo, hst⟩ := harr₂.1 hr'
        exact ⟨todo, hs.trans (turn _ (ne' _ _ (fun e => by simp at e)) hst)⟩
      · obtain ⟨k₁, hst⟩ := harr₂.2 hr'
        exact ⟨k₁, hs.trans (turn _ (ne _ _ (fun e => by simp [Frame.atR] at e)) hst)⟩
    | panic ch =>
      obtain ⟨todo, hst⟩ := harr₂
      exact ⟨_, a₂, w₂, hq₂, todo, hs.trans (turn _ (ne' _ _ (fun e => by simp at e)) hst)⟩
    | outgrown => exact absurd hq₂ (ho _ _)
  | exit id => exact ⟨_, a₁, w₁, hq, .of_steps (.one h0 stepR_loop) (.pass (x := .inLoop c) rfl (fun _ _ => .inl (by simp)) harr)⟩
  | goto l => exact absurd hq (hg _ _ _)
  | ret => exact ⟨_, a₁, w₁, hq, .of_steps (.one h0 stepR_loop) (.pass (x := .inLoop c) rfl (fun _ _ => .inl (by simp)) harr)⟩
  | panic ch => exact ⟨_, a₁, w₁, hq, .of_steps (.one h0 stepR_loop) (.pass (x := .inLoop c) rfl (fun _ _ => .inl (by simp)) harr)⟩
  | outgrown => exact absurd hq (ho _ _)

section
variable {P : Program} {A : Ann} {X : CallH} {z : Start} {γ γ' : Gh} {w w' : World} {lam lam' : Nat → Nat} {s s' : St} {a : Act}

/-- How the model leaves a piece of code, and how the abstract machine does. -/
def QR (z : Start) (Q : AX → St → Prop) : Exit → Act → World → Prop
  | .normal, a, w => ∃ γ lam s, Q .normal s ∧ SRel z γ w lam s a
  | .exit id, a, w => ∃ γ lam s, Q (.exit id) s ∧ SRel z γ w lam s a
  | .ret, a, w => ∃ γ lam s, Q .ret s ∧ SRel z γ w lam s a
  | _, _, _ => False

theorem yielded_of (hs : SRel z γ w lam s a) {ops : Array Oper} {j d : Nat} (hj : (ops[j]?).bind (·.dst) = some d) (hd : d < z.nt) {v : V} (hv : s.r d = v) :
    (∀ b, v = .bool b → yielded ops a.tmps j = some b) ∧ (v = .tup [] → yielded ops a.tmps j = none) := by
  have hr := hs.reg d
  have hlt : d < a.tmps.size := by rw [hs.size]; exact hd
  have e : a.tmps.getD d undef = a.tmps[d] := by simp [Array.getD, hlt]
  rw [e, hv] at hr
  have hy : yielded ops a.tmps j = match a.tmps[d] with | .bool b => some b | _ => none := by
    simp only [yielded, hj, Option.bind_some, Array.getElem?_eq_getElem hlt]
    generalize a.tmps[d] = c
    cases c <;> rfl
  constructor
  · intro b hb
    subst hb
    rw [hy, relV_bool hr]
  · intro hb
    subst hb
    have := hr.val (by simp) (by simp)
    rw [hy]
    generalize a.tmps[d] = c at this
    cases this
    rfl

/-- One operation of a region. -/
theorem sim_step {KG : List Nat} (hX : XG P KG A z X) {ops : Array Oper} {o : Oper} {i : Ins} (hi : compIns P A z.nt ops o = some i) {is : List Ins} {K : St → Prop} {K' : Act → World → Prop} {Q : Exit → Act → World → Prop}
    (hK : ∀ γ lam s a w, wpL X z.bs is K s → SRel z γ w lam s a → K' a w) (h : wpL X z.bs (i :: is) K s) (hs : SRel z γ w lam s a) :
    if Region.wanted o (yielded ops a.tmps) then o.wpIn (fen z.ro) 0 P a w K' Q else (∀ f, o.about P w a.eval = some f → (fen z.ro).fn f) ∧ K' (a.put o.dst undef) w := by
  unfold compIns at hi
  split at hi
  · rename_i hdst
    have hd : ∀ d, o.dst = some d → d < z.nt := fun d hd => by rw [hd] at hdst; simpa using hdst
    simp only [Option.bind_eq_some_iff] at hi
    obtain ⟨ao, hao, hi⟩ := hi
    -- carried out
    have doit : ∀ dd, dd = o.dst → wpOp X z.bs dd ao s (contL X z.bs dd is K) → o.wpIn (fen z.ro) 0 P a w K' Q := by
      rintro _ rfl h
      unfold compOpS at hao
      cases hao' : compOp P A o.dst o.op with
      | none => rw [hao'] at hao; simp at hao; subst hao; exact h.elim
      | some ao' =>
      rw [hao'] at hao
      simp at hao
      subst hao
      replace hao := hao'
      have hnd : ∀ c, o.op ≠ .defer c := fun c e => by rw [e] at hao; simp [compOp] at hao
      refine Oper.wpIn_mono ?_ (wpIn_of_ok (Q := Q) hnd (sim_op (Qx := Q) hX hao hd h hs))
      rintro a' w' ⟨γ', lam', v, s', hk, hs'⟩
      simp only [contL] at hk
      exact hK γ' lam' _ a' w' hk hs'
    have leave : ∀ dd, dd = o.dst → wpL X z.bs is K (putD s dd (.tup [])) → (∀ f, o.about P w a.eval = some f → (fen z.ro).fn f) ∧ K' (a.put o.dst undef) w := by
      rintro _ rfl h
      exact ⟨fun _ _ => trivial, hK γ lam _ _ w h (hs.put hd (.inr (.inr (.tup [] #[] rfl (by simp)))))⟩
    simp only [wpL] at h
    split at hi
    · rename_i hg
      cases hi
      simp only at h
      rw [if_pos (by simp [Region.wanted, hg])]
      exact doit _ rfl h
    · rename_i j want hg
      rw [Option.bind_eq_some_iff] at hi
      obtain ⟨d, hj, hi⟩ := hi
      split at hi
      · rename_i hdl
        cases hi
        simp only at h
        obtain ⟨y1, y2⟩ := yielded_of hs (ops := ops) (j := j) hj hdl rfl
        generalize s.r d = v at h y1 y2
        unfold guardL at h
        split at h
        · rename_i b
          have hy := y1 b rfl
          by_cases hb : b = want
          · rw [if_pos (by simp [Region.wanted, hg, hy, hb])]
            exact doit _ rfl (h.1 hb)
          · rw [if_neg (by simp [Region.wanted, hg, hy, hb])]
            exact leave _ rfl (h.2 hb)
        · have hy := y2 rfl
          rw [if_neg (by simp [Region.wanted, hg, hy])]
          exact leave _ rfl h
        · exact h.elim
      · cases hi
  · cases hi

/-- A row of bytes laid and told to be a text's. -/
theorem sim_lit {ops : Array Oper} {o p : Oper} {d : Nat} (hl : litOk P o p = some d) {i j : Ins} (hbs : isBsl i.op = true) (hi : compIns P A z.nt ops o = some i) (hj : compIns P A z.nt ops p = some j) {is : List Ins} {K : St → Prop} {K' : Act → World → Prop} {Q : Exit → Act → World → Prop}
    (hK : ∀ γ lam s a w, wpL X z.bs is K s → SRel z γ w lam s a → K' a w) (h : wpL X z.bs (i :: ⟨p.dst, none, .mov (.t d)⟩ :: is) K s) (hs : SRel z γ w lam s a) :
    o.guard = none ∧ p.guard = none ∧ o.wpIn (fen z.ro) 0 P a w (fun a w => p.wpIn (fen z.ro) 0 P a w K' Q) Q := by
  unfold litOk at hl
  split at hl
  · rename_i t n ps t1 t2 x d' ho hp hod
    split at hl
    · rename_i hc
      simp only [Option.some.injEq] at hl
      obtain ⟨rfl, rfl, rfl, hn, g1, g2, hu⟩ := hc
      subst hl
      have g1 : o.guard = none := by simpa using g1
      have g2 : p.guard = none := by simpa using g2
      refine ⟨g1, g2, ?_⟩
      obtain ⟨e, hu, hu8⟩ : ∃ e, P.underlying t2 = some (.slice e) ∧ P.underlying e = some (.int .u8) := by
        cases hd : P.underlying t2 with
        | none => rw [hd] at hu; simp at hu
        | some u =>
          rw [hd] at hu
          simp only [Option.any_some] at hu
          split at hu
          · rename_i e
            refine ⟨e, rfl, ?_⟩
            unfold isU8 at hu
            split at hu
            · assumption
            · cases hu
          · cases hu
      unfold compIns at hi hj
      split at hi
      case isFalse => cases hi
      rename_i hdst
      rw [hod] at hdst
      have hdlt : x < z.nt := by simpa using hdst
      split at hj
      case isFalse => cases hj
      rename_i hdst2
      have hd2 : ∀ k, p.dst = some k → k < z.nt := fun k hk => by rw [hk] at hdst2; simpa using hdst2
      simp only [Option.bind_eq_some_iff, g1] at hi
      obtain ⟨ao, hao, hi⟩ := hi
      simp only [Option.some.injEq] at hi
      subst hi
      unfold compOpS at hao
      simp only [Option.some.injEq] at hao
      subst hao
      rw [ho] at h
      rw [ho] at hbs
      simp only [compOp, hu] at h hbs
      simp only [wpL] at h
      cases hz : zeroC P e with
      | none => rw [hz] at h; exact h.elim
      | some zc =>
      cases hm : sizeT P e with
      | none => rw [hz, hm] at h; exact h.elim
      | some m =>
      cases hq : compIdx ps.toList with
      | none => rw [hz, hm, hq] at h; exact h.elim
      | some qs =>
      rw [hz, hm, hq] at h hbs
      simp only [Option.bind_some] at h hbs
      split at h
      case isFalse => exact h.elim
      rename_i hcond
      rw [if_pos hcond] at hbs
      split at h
      case isTrue hmu => rw [if_pos hmu] at hbs; cases hbs
      rename_i hmu
      rw [if_neg hmu] at hbs
      split at h
      case isTrue hmu2 => rw [if_pos hmu2] at hbs; cases hbs
      clear hbs
      obtain ⟨h0, hzm, hlim⟩ := hcond
      simp only [Option.getD_some] at h
      obtain ⟨v, hv, hk⟩ := some_of h
      simp only [Option.map_eq_some_iff] at hv
      obtain ⟨xs', hb, rfl⟩ := hv
      simp only [contL, wpL, wpOp] at hk
      simp only [zeroC, Option.map_eq_some_iff] at hz
      obtain ⟨zx, hz, rfl⟩ := hz
      obtain ⟨i, zv, hi, hz1, hz2⟩ := zeroV_rel hz
      obtain ⟨hzr, hzl⟩ := constV_rel γ w zv zx hz2
      have hzs := (hzr.cells hzl).1
      have hrow := row_made hzr hzl h0 n (n * m) (by rw [hzm]; exact Nat.le_refl _)
      have hsz : (madeCells zv.cells (n * m)).size = (List.replicate n (oneV zx.cells)).length * zx.cells.length := by rw [size_madeCells]; simp [hzm]
      obtain ⟨arr', q1, q2, q3, q4⟩ := fill_row hs zx.cells.length ps.toList qs hq _ _ xs' hrow hsz hb
      have hlen : xs'.length = n := by rw [q4]; simp
      have hrun : (execOp a.eval o).run P w = .ok (.value (.slice (some ⟨w.heap.size, 0, none⟩) n n)) (w.alloc (.cells arr' e)) := by
        have hnm : ¬ (16777216 < n * m) := by rw [← hzm]; omega
        have hfill : Instr.fill (fun i => some (i * m, m)) (madeCells zv.cells (n * m)) (ps.map fun p => (p.1, a.eval p.2)).toList = some arr' := by
          rw [← hzm]; rw [← hzm] at q1; simpa using q1
        have hn0 : n * m ≠ 0 := Nat.mul_ne_zero (by omega) (by omega)
        simp only [madeCells] at hfill
        simp at hfill
        simp [execOp, ho, Instr.buildSlice, run_underlying' hu, run_sizeOf' hm, hnm, hn0, run_zeroValue hi hz1, hfill, newRow]
      have hnd1 : ∀ c, o.op ≠ .defer c := fun c e => by rw [ho] at e; cases e
      have hnd2 : ∀ c, p.op ≠ .defer c := fun c e => by rw [hp] at e; cases e
      refine wpIn_of_ok hnd1 (.inl ?_)
      unfold Oper.wp
      rw [hrun, Oper.upon_value, hod]
      refine wpIn_of_ok hnd2 (.inl ?_)
      have hev1 : (a.put (some x) (.slice (some ⟨w.heap.size, 0, none⟩) n n)).eval (.tmp x) = .slice (some ⟨w.heap.size, 0, none⟩) n n := by
        have : x < a.tmps.size := by rw [hs.size]; exact hdlt
        simp [Act.eval, Act.put, Array.getD, this]
      have hrun2 : (execOp (a.put (some x) (.slice (some ⟨w.heap.size, 0, none⟩) n n)).eval p).run P (w.alloc (.cells arr' e)) = .ok (.value (.slice (some ⟨w.heap.size, 0, none⟩) n n)) (w.alloc (.cells arr' e (arr'.size, arr'.size + 1))) := by
        simp only [execOp, hp, hev1, Sem.run_bind, Lib.run_convert_bytes_const w t2 e arr' n n hu hu8, Result.andThen_ok, Sem.run_pure]
      unfold Oper.wp
      rw [hrun2, Oper.upon_value]
      obtain ⟨hev, hh⟩ := Ev.shutNew hs.heap (.cells arr' e (arr'.size, arr'.size + 1)) (n * m)
      have hrel : RelV (γ.shut w.heap.size (n * m)) (w.alloc (.cells arr' e (arr'.size, arr'.size + 1))) (.sl .clip xs') (.slice (some ⟨w.heap.size, 0, none⟩) n n) := by
        have := (q2.mono (g := (arr'[·]?)) hev.le (fun k u _ hk => hk)).sl (b := w.heap.size) (off := 0) (cap := n) (t := .clip) (by omega) hlen.symm
          (fun k u hk hu' => ⟨by simp [Gh.shut]; rw [hlen, hzm] at hk; exact hk, by simp only [Nat.zero_add]; rw [cell_of_row _ _ k arr' e _ (heap_alloc_new w _)]; exact hu'⟩)
        rw [hlen] at this
        exact this
      have hs1 := ((hs.after hev hh hs.low).put (d := some x) (fun k hk => by cases hk; exact hdlt) (.inr (.inr hrel))).put (d := p.dst) hd2 (v := .sl .clip xs') (c := .slice (some ⟨w.heap.size, 0, none⟩) n n) (.inr (.inr hrel))
      refine hK _ _ _ _ _ ?_ hs1
      rw [hod] at hk
      simpa [putD, put, ev] using hk
    · cases hl
  · cases hl

/-- A region's operations, in its text's order. -/
theorem sim_lits {KG : List Nat} (hX : XG P KG A z X) (ops : Array Oper) {K : St → Prop} {Q : Exit → Act → World → Prop} (hQ : ∀ γ lam s a w, K s → SRel z γ w lam s a → Q .normal a w) :
    ∀ (n : Nat) (os : List Oper) (l : List Nat) (is : List Ins), os.length ≤ n → l.length = os.length → (∀ (i : Nat) (k : Nat) (o : Oper), l[i]? = some k → os[i]? = some o → ops[k]? = some o) → compInss P A z.nt ops os = some is →
      ∀ (s : St) (γ : Gh) (lam : Nat → Nat) (a : Act) (w : World), wpL X z.bs (lits P os is) K s → SRel z γ w lam s a → wpOpsIn (fen z.ro) 0 P ops Q l a w := by
  intro n
  induction n with
  | zero =>
    intro os l is hn hl hk hc s γ lam a w h hs
    obtain rfl : os = [] := List.length_eq_zero_iff.1 (by omega)
    obtain rfl : l = [] := List.length_eq_zero_iff.1 (by simpa using hl)
    simp only [compInss, Option.some.injEq] at hc
    subst hc
    simp only [lits, wpL] at h
    exact hQ _ _ _ _ _ h hs
  | succ n ih =>
    intro os l is hn hl hk hc s γ lam a w h hs
    cases os with
    | nil =>
      obtain rfl : l = [] := List.length_eq_zero_iff.1 (by simpa using hl)
      simp only [compInss, Option.some.injEq] at hc
      subst hc
      simp only [lits, wpL] at h
      exact hQ _ _ _ _ _ h hs
    | cons o os =>
      cases l with
      | nil => simp at hl
      | cons k l =>
        have ho := hk 0 k o rfl rfl
        have hk' : ∀ (i : Nat) (k : Nat) (o : Oper), l[i]? = some k → os[i]? = some o → ops[k]? = some o := fun i k' o' h1 h2 => hk (i + 1) k' o' (by simpa using h1) (by simpa using h2)
        have hl' : l.length = os.length := by simpa using hl
        simp only [compInss, Option.bind_eq_some_iff, Option.map_eq_some_iff] at hc
        obtain ⟨i, hi, is', hc', rfl⟩ := hc
        -- one alone
        have one : wpL X z.bs (i :: lits P os is') K s → wpOpsIn (fen z.ro) 0 P ops Q (k :: l) a w := fun h => by
          simp only [wpOpsIn, ho]
          exact sim_step hX hi (fun γ lam s a w h hs => ih os l is' (by simp at hn; omega) hl' hk' hc' s γ lam a w h hs) h hs
        cases os with
        | nil =>
          simp only [compInss, Option.some.injEq] at hc'
          subst hc'
          exact one (by simpa [lits] using h)
        | cons p os =>
          simp only [compInss, Option.bind_eq_some_iff, Option.map_eq_some_iff] at hc'
          obtain ⟨j, hj, is2, hc2, rfl⟩ := hc'
          simp only [lits] at h
          cases hlit : litOk P o p with
          | none => rw [hlit] at h; exact one h
          | some d =>
            cases hbs : isBsl i.op with
            | false => rw [hlit, hbs] at h; exact one h
            | true =>
            rw [hlit, hbs] at h
            simp only at h
            cases l with
            | nil => simp at hl'
            | cons k2 l =>
              have hp := hk' 0 k2 p rfl rfl
              obtain ⟨g1, g2, hh⟩ := sim_lit (X := X) hlit hbs hi hj (K' := wpOpsIn (fen z.ro) 0 P ops Q l) (Q := Q) (fun γ lam s a w h hs => ih os l is2 (by simp at hn; omega) (by simpa using hl') (fun i k' o' h1 h2 => hk' (i + 1) k' o' (by simpa using h1) (by simpa using h2)) hc2 s γ lam a w h hs) h hs
              simp only [wpOpsIn, ho, hp]
              rw [if_pos (by simp [Region.wanted, g1])]
              refine Oper.wpIn_mono (fun a w h => ?_) hh
              rw [if_pos (by simp [Region.wanted, g2])]
              exact h

/-- The operations of a region in the order of a list. -/
theorem sim_ops {KG : List Nat} (hX : XG P KG A z X) (ops : Array Oper) {K : St → Prop} {Q : Exit → Act → World → Prop} (hQ : ∀ γ lam s a w, K s → SRel z γ w lam s a → Q .normal a w) :
    ∀ (l : List Nat) (is : List Ins), l.length = is.length → (∀ (i : Nat) (k : Nat) (ins : Ins), l[i]? = some k → is[i]? = some ins → ∃ o, ops[k]? = some o ∧ compIns P A z.nt ops o = some ins) →
      ∀ (s : St) (γ : Gh) (lam : Nat → Nat) (a : Act) (w : World), wpL X z.bs is K s → SRel z γ w lam s a → wpOpsIn (fen z.ro) 0 P ops Q l a w := by
  intro l
  induction l with
  | nil =>
    intro is hl _ s γ lam a w h hs
    cases is with
    | nil => simp only [wpL] at h; exact hQ _ _ _ _ _ h hs
    | cons i is => simp at hl
  | cons k l ih =>
    intro is hl hc s γ lam a w h hs
    cases is with
    | nil => simp at hl
    | cons i is =>
      obtain ⟨o, ho, hi⟩ := hc 0 k i rfl rfl
      have hc' : ∀ (j : Nat) (k : Nat) (ins : Ins), l[j]? = some k → is[j]? = some ins → ∃ o, ops[k]? = some o ∧ compIns P A z.nt ops o = some ins := fun j k' ins h1 h2 => hc (j + 1) k' ins (by simpa using h1) (by simpa using h2)
      have hl' : l.length = is.length := by simpa using hl
      simp only [wpOpsIn, ho]
      exact sim_step hX hi (fun γ lam s a w h hs => ih is hl' hc' s γ lam a w h hs) h hs

theorem compInss_get {nt : Nat} {ops : Array Oper} : ∀ {os : List Oper} {is : List Ins}, compInss P A nt ops os = some is → os.length = is.length ∧ ∀ (i : Nat) (o : Oper) (ins : Ins), os[i]? = some o → is[i]? = some ins → compIns P A nt ops o = some ins := by
  intro os
  induction os with
  | nil => intro is h; simp [compInss] at h; subst h; simp
  | cons o os ih =>
    intro is h
    simp only [compInss, Option.bind_eq_some_iff, Option.map_eq_some_iff] at h
    obtain ⟨i, hi, is', his, rfl⟩ := h
    obtain ⟨h1, h2⟩ := ih his
    refine ⟨by simp [h1], fun k o' ins ho' hins => ?_⟩
    cases k with
    | zero => simp at ho' hins; subst ho'; subst hins; exact hi
    | succ k => simp at ho' hins; exact h2 k o' ins ho' hins

theorem SRel.forget (hs : SRel z γ w lam s a) (keep locs : List Nat) : SRel z γ w lam (forget keep locs s) a := by
  refine ⟨hs.heap, ⟨fun d cs hd => ?_, fun d d' h1 h2 he => ?_⟩, fun i => ?_, hs.marks, hs.rnd, hs.size, hs.ev, fun d hd => ?_, hs.low⟩
  · simp only [Am.forget] at hd
    split at hd
    · exact hs.loc.blk d cs hd
    · cases hd
  · simp only [Am.forget] at h1 h2
    split at h1
    · split at h2
      · exact hs.loc.inj d d' h1 h2 he
      · exact absurd rfl h2
    · exact absurd rfl h1
  · have hr := hs.reg i
    simp only [Am.forget]
    split
    · rcases hr with h | ⟨d, o, h1, h2, h3⟩ | h
      · rw [h]; exact .inl rfl
      · rw [h1]; exact .inl rfl
      · refine .inr (.inr ?_)
        cases hv : s.r i <;> rw [hv] at h <;> first | exact h | cases h
    · split
      · rename_i hloc
        rcases hr with h | ⟨d, o, h1, h2, h3⟩ | h
        · rw [h]; exact .inl rfl
        · rw [h1]
          simp only [locOf]
          split
          · rename_i e
            subst e
            exact .inr (.inl ⟨d, o, rfl, by show (if d ∈ locs then s.l d else none) ≠ none; rw [if_pos hloc]; exact h2, h3⟩)
          · exact .inl rfl
        · cases hv : s.r i <;> rw [hv] at h <;> first | exact .inl rfl | cases h
      · exact .inl rfl
  · simp only [Am.forget] at hd
    split at hd
    · exact hs.lnew d hd
    · exact absurd rfl hd

/-- A loop's record is laid. -/
theorem SRel.lay (hs : SRel z γ w lam s a) {key : Nat} {regs : List (Nat × V)} {lp : Loop} (hl : LoopRel γ w key regs 0 none lp) :
    ∃ γ', SRel z γ' (w.alloc (.loop lp)) lam { s with h := s.h ++ [.loop key regs 0 none] } a ∧ γ'.rho s.h.length = w.heap.size ∧ γ'.kd s.h.length = false ∧ s.h.length < γ'.n ∧ Ev γ w γ' (w.alloc (.loop lp)) := by
  have hn := hs.heap.n
  obtain ⟨hev, hh⟩ := Ev.newOb hs.heap (.loop lp) false 0 0 0 (.loop key regs 0 none) (fun hle => ⟨by simp [Gh.new], by simp [Gh.new], lp, by simp only [Gh.new, if_true]; exact heap_alloc_new w _, hl.mono hle⟩)
  exact ⟨_, hs.after hev hh (lowOk_push hs.low _), by simp [Gh.new, hn], by simp [Gh.new, hn], by simp [Gh.new, hn], hev⟩

/-- A loop's record is turned. -/
theorem Ev.loopSet {h : List Ob} (hh : HRel γ w h) {r key : Nat} {regs : List (Nat × V)} {st st' : Nat} {pe pe' : Option (Option Nat)} (ho : h[r]? = some (.loop key regs st pe)) :
    ∃ lp, w.heap[γ.rho r]? = some (.loop lp) ∧ LoopRel γ w key regs st pe lp ∧ ∀ lp', lp'.params = lp.params → lp'.assign = lp.assign → lp'.body = lp.body → lp'.tmps = lp.tmps → lp'.state = stOf st' → lp'.pending = peOf pe' →
      Ev γ w γ (w.putObj (γ.rho r) (.loop lp')) ∧ HRel γ (w.putObj (γ.rho r) (.loop lp')) (h.set r (.loop key regs st' pe')) := by
  obtain ⟨h1, h2, lp, h3, h4⟩ := hh.obj r _ ho
  refine ⟨lp, h3, h4, fun lp' e1 e2 e3 e4 e5 e6 => ?_⟩
  have hr : r < γ.n := hh.n ▸ (List.getElem?_eq_some_iff.1 ho).1
  exact Ev.set hh hr (.loop key regs st' pe') (by simp) (fun b hb => World.putObj_heap_other hb) rfl rfl rfl h2
    (fun hle => ⟨h1, h2, lp', World.putObj_heap_same (Array.getElem?_eq_some_iff.1 h3).1, by rw [e1, e2, e3, e4]; exact h4.code, e5, e6, fun x hx => by rw [e4]; exact (h4.regs x hx).imp id (fun g => g.mono hle)⟩) (fun _ => rfl)

theorem lowOk_loop {bs : List Nat} {h : List Ob} (hl : LowOk bs h) {r key : Nat} {regs : List (Nat × V)} {st st' : Nat} {pe pe' : Option (Option Nat)} (ho : h[r]? = some (.loop key regs st pe)) : LowOk bs (h.set r (.loop key regs st' pe')) :=
  lowOk_set hl r _ fun b hb hr => (by have := (hl b hb).2 r _ hr ho; simpa only [obUnder] using this)

theorem capR_rel (hs : SRel z γ w lam s a) (kp : List Nat) : ∀ x ∈ capR kp s.r, x.2 = .undef ∨ RelV γ w x.2 (a.tmps.getD x.1 undef) := by
  intro x hx
  simp only [capR, List.mem_map] at hx
  obtain ⟨i, _, rfl⟩ := hx
  simp only [capV]
  split
  · exact .inl rfl
  · rename_i hl
    exact .inr ((hs.reg i).ok (by simpa using hl))

/-- A function that may be ranged over. -/
theorem iter_enter {f : Nat} (h : iterOk P f = true) (args : Array Value) (w : World) : (callFunc f args).run P w = .ok (.enter f args) w := by
  unfold iterOk at h
  cases hf : P.funcs[f]? with
  | none => rw [hf] at h; simp at h
  | some fn =>
    rw [hf] at h
    simp only [Option.any_some, Bool.and_eq_true, Bool.not_eq_true'] at h
    simp only [callFunc, Sem.run_bind, run_program, Result.andThen_ok, hf]
    cases hb : fn.body with
    | none => rw [hb] at h; simp at h
    | some c => simp [h.2]

/-- Behind the mark. -/
theorem SRel.mark (hs : SRel z γ w lam s a) : SRel z γ (w.alloc (.deferred (some []))) lam s { a with defers := { target := .collected w.heap.size, args := #[] } :: a.defers } := by
  obtain ⟨e1, e2⟩ := Ev.alloc hs.heap (.deferred (some []))
  have h := hs.after e1 e2 hs.low
  refine ⟨h.heap, h.loc, h.reg, ⟨List.nodup_cons.2 ⟨fun hm => ?_, h.marks.1⟩, fun d hd => ?_⟩, h.rnd, h.size, h.ev, h.lnew, h.low⟩
  · obtain ⟨r, h1, _, h3⟩ := hs.marks.2 _ hm
    simp at h1
    have := (Array.getElem?_eq_some_iff.1 h3).1
    omega
  · rcases List.mem_cons.1 hd with rfl | hd
    · exact ⟨_, rfl, hs.ev.size, heap_alloc_new w _⟩
    · exact h.marks.2 d hd

/-- The function that is ranged over, from where the record lies on. -/
theorem sim_iter {KG : List Nat} (hX : XG P KG A z X) {key : Nat} {regs : List (Nat × V)} {Q : AX → St → Prop} {f : Nat} {cap : List V} {vs : Array Value} (hf : iterOk P f = true) (hsz : vs.size = cap.length)
    (hv : ∀ (i : Nat) (x : V) (u : Value), cap[i]? = some x → vs[i]? = some u → RelV γ w x u) (hok : okVals cap = true) {L : Nat}
    (hs : SRel z γ w lam { s with h := s.h ++ [.loop key regs 0 none] } a) (hL : γ.rho s.h.length = L) (hkd : γ.kd s.h.length = false) (hlt : s.h.length < γ.n)
    (h : X f 0 z.bs (.yld s.h.length :: cap) (s.h ++ [.loop key regs 0 none]) (fun _ h => rfEnd s.h.length Q s h h[s.h.length]?)) :
    Calls P f (#[.func (.yield L) #[] #[]] ++ vs) w (rangePost (fen z.ro) 0 P L (QR z Q) a) := by
  subst hL
  have hargs : ArgsRel γ w (.yld s.h.length :: cap) (#[.func (.yield (γ.rho s.h.length)) #[] #[]] ++ vs) := by
    refine ⟨by simp [hsz]; omega, by simp [okVals, V.isLoc, hok], fun i x u hx hu => ?_⟩
    cases i with
    | zero =>
      rw [Array.getElem?_append_left (by simp)] at hu
      simp at hx hu
      subst hx; subst hu
      exact .yld _ hlt hkd
    | succ i =>
      simp at hx
      rw [Array.getElem?_append_right (by simp)] at hu
      exact hv i x u hx (by simpa using hu)
  have hcame := hX.ok f 0 z.bs _ _ _ h γ w _ (hs.ev.le.bd.trans hX.bd) (hX.glo.mono hs.ev) hs.heap hs.low hargs
  rw [if_neg (by decide)] at hcame
  rcases hcame with ⟨_, h2⟩ | ⟨c, w', h1, _⟩
  · refine h2.mono ?_
    rintro e w' ⟨c, rfl, v, h', γ', hQ, hvc, hh', hlow', hev'⟩
    unfold rfEnd at hQ
    split at hQ
    · rename_i key' regs' st pe ho
      obtain ⟨hst, hQ⟩ := hQ
      obtain ⟨lp, g1, g2, g3⟩ := Ev.loopSet (st' := 3) (pe' := pe) hh' ho
      have er : γ'.rho s.h.length = γ.rho s.h.length := hev'.le.box _ hlt hkd
      rw [er] at g1 g3
      obtain ⟨k1, k2⟩ := g3 { lp with state := .exhausted } rfl rfl rfl rfl rfl g2.pe
      have hb : lp.state ≠ .busy := by
        rw [g2.st]
        match st, hst with
        | 0, _ => simp [stOf]
        | 2, _ => simp [stOf]
        | n + 3, _ => simp [stOf]
      have hs2 := (hs.after hev' hh' hlow').after k1 k2 (lowOk_loop hlow' ho)
      refine ⟨lp.pending, _, run_endLoop g1 hb, ?_⟩
      have hpe := g2.pe
      match pe, hQ, hpe with
      | none, hQ, hpe => rw [show lp.pending = none from hpe] at hs2 ⊢; exact ⟨γ', lam, _, hQ, hs2⟩
      | some none, hQ, hpe => rw [show lp.pending = some .ret from hpe] at hs2 ⊢; exact wpIn_ret ⟨γ', lam, _, hQ, hs2⟩
      | some (some id), hQ, hpe => rw [show lp.pending = some (.exit id) from hpe] at hs2 ⊢; exact wpIn_exit ⟨γ', lam, _, hQ, hs2⟩
    · exact hQ.elim
  · rw [iter_enter hf] at h1
    cases h1

/-- A RANGE OVER A FUNCTION. -/
theorem sim_rfunc {KG : List Nat} (hX : XG P KG A z X) {g : Operand} {ps : Array Tmp} {x y : Code} {g' : AO} (hg : compX g = some g') {key : Nat} {kp : List Nat} (hrf : A.rf.all (iterOk P) = true) (hbd : bdOf P key = some (ps, x, y, z.nt)) {Q : AX → St → Prop}
    (h : kRf X z.bs key kp A.rf Q s (ev s.r g')) (hs : SRel z γ w lam s a) : (Code.rangeFunc g ps x y).wpIn (fen z.ro) 0 P (QR z Q) a w := by
  have hr := rel_x hs hg
  generalize ev s.r g' = vf at h hr
  unfold kRf at h
  split at h
  · rename_i f cap
    obtain ⟨hin, h⟩ := h
    have hf : iterOk P f = true := (List.all_eq_true.1 hrf) f (by simpa using hin)
    have hr := hr.ok rfl
    generalize hcf : a.eval g = cf at hr
    cases hr with
    | fn _ _ vs hsz hvv hl =>
      have hresolve : ∀ (l : Nat) (W : World), (resolve a.eval (rangeCall g l) 0).run P W = .ok { target := .fn (.func f) vs, args := #[.func (.yield l) #[] #[]] } W := by
        intro l W
        simp only [resolve, hcf]
        simp [go_sem]
      have hinv : ∀ (l : Nat) (W : World), (invoke (.fn (.func f) vs) #[.func (.yield l) #[] #[]]).run P W = .ok (.enter f (#[.func (.yield l) #[] #[]] ++ vs)) W := by
        intro l W
        simp [invoke, go_sem, iter_enter hf]
      have hbd' : γ.bd key = some (ps, x, y, a.tmps.size) := by rw [hs.ev.le.bd.trans hX.bd, hs.size]; exact hbd
      refine wpIn_rangeFunc fun fn _ => ?_
      cases hro : z.ro with
      | none =>
        have hs0 := hs.mark
        have hle := (Ev.alloc hs.heap (.deferred (some []))).1.le
        obtain ⟨γ', hs1, e1, e2, e3, hev⟩ := hs0.lay (key := key) (regs := capR kp s.r) (lp := { state := .ready, pending := none, fn, tmps := a.tmps, params := ps, assign := x, body := y, defers := w.heap.size })
          ⟨hbd', rfl, rfl, fun x hx => (capR_rel hs kp x hx).imp id (fun g => g.mono hle)⟩
        rw [World.size_alloc] at e1
        refine ⟨_, _, _, _, _, f, _, _, run_enterLoop_outer fn a.tmps ps x y, hresolve _ _, fun _ _ => trivial, hinv _ _, fun h => by simp [fen, Fence.wide] at h, callsIn_fen.2 ?_⟩
        rw [← hro]
        exact sim_iter hX hf hsz (fun i x u hx hu => (hvv i x u hx hu).mono (hle.trans hev.le)) hl hs1 e1 e2 e3 h
      | some l =>
        obtain ⟨r0, hr0⟩ := hs.rnd l hro
        obtain ⟨γ', hs1, e1, e2, e3, hev⟩ := hs.lay (key := key) (regs := capR kp s.r) (lp := { state := .ready, pending := none, fn, tmps := a.tmps, params := ps, assign := x, body := y, defers := r0.defers })
          ⟨hbd', rfl, rfl, fun x hx => capR_rel hs kp x hx⟩
        refine ⟨_, _, _, _, _, f, _, _, run_enterLoop_inner hr0 fn a.tmps ps x y, hresolve _ _, fun _ _ => trivial, hinv _ _, fun h => by simp [fen, Fence.wide] at h, callsIn_fen.2 ?_⟩
        rw [← hro]
        exact sim_iter hX hf hsz (fun i x u hx hu => (hvv i x u hx hu).mono hev.le) hl hs1 e1 e2 e3 h
  · exact h.elim

theorem stuckA {X : CallH} {bs : List Nat} {Q : AX → St → Prop} {s : St} : ¬ wpA X bs (.reg [⟨none, none, .stuck⟩]) Q s := fun h => by
  simp [wpA, wpL, wpOp] at h

/-- CODE. (A region whose order is open: 'hdraw'.) -/
theorem sim_code {KG : List Nat} (hX : XG P KG A z X)
    (hdraw : ∀ (id : Nat) (ops : Array Oper) (is : List Ins) (Q : AX → St → Prop) (s : St) (γ : Gh) (lam : Nat → Nat) (a : Act) (w : World), compInss P A z.nt ops ops.toList = some is → ∀ js : List Ins, Js (A.hp ++ A.kc) ops is js → drawOk ops js = true → wpL X z.bs js (Q .normal) s → SRel z γ w lam s a → (Code.region id ops true).wpIn (fen z.ro) 0 P (QR z Q) a w) :
    ∀ (c : Code) (i : Nat) (ac : AC), compC P A z.nt i c = some ac → (∀ (k : Nat) (t : Array Tmp × Code × Code), (rfs c)[k]? = some t → i + k < 64 → bdOf P (A.fi * 64 + (i + k)) = some (t.1, t.2.1, t.2.2, z.nt)) →
      ∀ (Q : AX → St → Prop) (s : St) (γ : Gh) (lam : Nat → Nat) (a : Act) (w : World), wpA X z.bs ac Q s → SRel z γ w lam s a → c.wpIn (fen z.ro) 0 P (QR z Q) a w := by
  intro c
  induction c with
  | skip => intro i ac hc _ Q s γ lam a w h hs; simp [compC] at hc; subst hc; exact wpIn_skip ⟨γ, lam, s, h, hs⟩
  | region id ops draw =>
    intro i ac hc _ Q s γ lam a w h hs
    simp only [compC, Option.bind_eq_some_iff] at hc
    obtain ⟨is, his, hc⟩ := hc
    cases draw
    · simp only [Bool.false_eq_true, if_false, Option.some.injEq] at hc
      subst hc
      refine wpIn_region (sim_lits (A := A) (K := Q .normal) hX ops (fun γ lam s a w hk hs => ⟨γ, lam, s, hk, hs⟩) ops.toList.length ops.toList (List.range ops.size) is (Nat.le_refl _) (by simp) ?_ his s γ lam a w h hs)
      intro i k o hk ho
      rw [List.getElem?_range] at hk
      · cases hk
        simpa using ho
      · have := (List.getElem?_eq_some_iff.1 hk).1
        simpa using this
    · simp only [if_true] at hc
      split at hc
      · cases hc
        exact hdraw id ops is Q s γ lam a w his _ .loc ‹_› h hs
      · split at hc
        · cases hc
          exact hdraw id ops is Q s γ lam a w his _ .mk ‹_› h hs
        · cases hc
          exact absurd h stuckA
  | seq x y ihx ihy =>
    intro i ac hc hrf Q s γ lam a w h hs
    simp only [compC, Option.bind_eq_some_iff, Option.map_eq_some_iff] at hc
    obtain ⟨ax, hx, ay, hy, rfl⟩ := hc
    have r1 : ∀ (k : Nat) (t : Array Tmp × Code × Code), (rfs x)[k]? = some t → i + k < 64 → bdOf P (A.fi * 64 + (i + k)) = some (t.1, t.2.1, t.2.2, z.nt) := fun k t hk hl =>
      hrf k t (by simp only [rfs]; rw [List.getElem?_append_left (List.getElem?_eq_some_iff.1 hk).1]; exact hk) hl
    have r2 : ∀ (k : Nat) (t : Array Tmp × Code × Code), (rfs y)[k]? = some t → i + (rfs x).length + k < 64 → bdOf P (A.fi * 64 + (i + (rfs x).length + k)) = some (t.1, t.2.1, t.2.2, z.nt) := fun k t hk hl => by
      have := hrf ((rfs x).length + k) t (by simp only [rfs]; rw [List.getElem?_append_right (by omega)]; simpa using hk) (by omega)
      rw [show i + ((rfs x).length + k) = i + (rfs x).length + k by omega] at this
      exact this
    refine wpIn_seq (wpIn_mono (ihx i ax hx r1 _ s γ lam a w h hs) ?_)
    intro e a' w' hq
    cases e <;> simp only [QR, Exit.then] at hq ⊢
    · obtain ⟨γ', lam', s', hq, hs'⟩ := hq
      exact ihy _ ay hy r2 Q s' γ' lam' a' w' hq hs'
    · exact hq
    · exact hq
  | cond c x y ihx ihy =>
    intro i ac hc hrf Q s γ lam a w h hs
    simp only [compC, Option.bind_eq_some_iff, Option.map_eq_some_iff] at hc
    obtain ⟨c', hc', ax, hx, ay, hy, rfl⟩ := hc
    have r1 : ∀ (k : Nat) (t : Array Tmp × Code × Code), (rfs x)[k]? = some t → i + k < 64 → bdOf P (A.fi * 64 + (i + k)) = some (t.1, t.2.1, t.2.2, z.nt) := fun k t hk hl =>
      hrf k t (by simp only [rfs]; rw [List.getElem?_append_left (List.getElem?_eq_some_iff.1 hk).1]; exact hk) hl
    have r2 : ∀ (k : Nat) (t : Array Tmp × Code × Code), (rfs y)[k]? = some t → i + (rfs x).length + k < 64 → bdOf P (A.fi * 64 + (i + (rfs x).length + k)) = some (t.1, t.2.1, t.2.2, z.nt) := fun k t hk hl => by
      have := hrf ((rfs x).length + k) t (by simp only [rfs]; rw [List.getElem?_append_right (by omega)]; simpa using hk) (by omega)
      rw [show i + ((rfs x).length + k) = i + (rfs x).length + k by omega] at this
      exact this
    have hr := rel_x hs hc'
    simp only [wpA] at h
    generalize ev s.r c' = v at h hr
    unfold condA at h
    split at h
    · rename_i b
      refine wpIn_cond_split (relV_bool hr) (fun e => ihx _ ax hx r1 Q s γ lam a w (h.1 e) hs) (fun e => ihy _ ay hy r2 Q s γ lam a w (h.2 e) hs)
    · exact h.elim
  | block id b ih =>
    intro i ac hc hrf Q s γ lam a w h hs
    simp only [compC, Option.map_eq_some_iff] at hc
    obtain ⟨ab, hb, rfl⟩ := hc
    refine wpIn_block (wpIn_mono (ih i ab hb hrf _ s γ lam a w h hs) ?_)
    intro e a' w' hq
    cases e <;> simp only [QR, Exit.inBlock] at hq ⊢
    · exact hq
    · obtain ⟨γ', lam', s', hq, hs'⟩ := hq
      simp only [blockA] at hq
      split at hq
      · rw [if_pos ‹_›]; exact ⟨γ', lam', s', hq, hs'⟩
      · rw [if_neg ‹_›]; exact ⟨γ', lam', s', hq, hs'⟩
    · exact hq
  | loop b ih =>
    intro i ac hc hrf Q s γ lam a w h hs
    simp only [compC, Option.map_eq_some_iff] at hc
    obtain ⟨ab, hb, rfl⟩ := hc
    simp only [wpA, lfpA] at h
    refine h (fun s => ∀ (γ : Gh) (lam : Nat → Nat) (a : Act) (w : World), SRel z γ w lam s a → (Code.loop b).wpIn (fen z.ro) 0 P (QR z Q) a w) ?_ γ lam a w hs
    intro s h γ lam a w hs
    refine wpIn_loop_unroll (fun _ _ _ h => h) (fun _ _ h => h) (wpIn_mono (ih i ab hb hrf _ _ γ lam a w h (hs.forget _ _)) ?_)
    intro e a' w' hq
    cases e <;> simp only [QR, Exit.then] at hq ⊢
    · obtain ⟨γ', lam', s', hq, hs'⟩ := hq
      exact hq γ' lam' a' w' hs'
    · exact hq
    · exact hq
  | exit id => intro i ac hc _ Q s γ lam a w h hs; simp [compC] at hc; subst hc; exact wpIn_exit ⟨γ, lam, s, h, hs⟩
  | scope b ih => intro i ac hc _ Q s γ lam a w h hs; simp [compC] at hc; subst hc; exact absurd h stuckA
  | label l => intro i ac hc _ Q s γ lam a w h hs; simp [compC] at hc; subst hc; exact wpIn_label ⟨γ, lam, s, h, hs⟩
  | ret => intro i ac hc _ Q s γ lam a w h hs; simp [compC] at hc; subst hc; exact wpIn_ret ⟨γ, lam, s, h, hs⟩
  | rangeFunc f ps x y =>
    intro i ac hc hrf Q s γ lam a w h hs
    simp only [compC] at hc
    rcases Classical.em (i < 64 ∧ A.rf.all (iterOk P) = true) with hi | hi
    case inr =>
      rw [if_neg hi] at hc
      cases hc
      exact absurd h stuckA
    obtain ⟨h1, h2⟩ := hi
    rw [if_pos ⟨h1, h2⟩] at hc
    simp only [Option.map_eq_some_iff] at hc
    obtain ⟨g', hg, rfl⟩ := hc
    exact sim_rfunc hX hg h2 (hrf 0 (ps, x, y) rfl (by omega)) h hs
  | goto l => intro i ac hc _ Q s γ lam a w h hs; simp [compC] at hc; subst hc; exact absurd h stuckA
  | refuse w => intro i ac hc _ Q s γ lam a w h hs; simp [compC] at hc; subst hc; exact absurd h stuckA

end
end Go.Am
