/- The abstract machine's code is the model's. -/
import Derived.Test.YtgngmbnbldkgnaaDoorAmO8
namespace Go.Am

/-- Behind a loop's round one stands where one stood. -/
theorem wp_loop_unroll {P : Program} {c : Code} {Q : Exit → Act → World → Prop} {a : Act} {w : World} (hg : ∀ l a w, ¬ Q (.goto l) a w) (ho : ∀ a w, ¬ Q .outgrown a w)
    (h : c.wp P (Exit.then ((Code.loop c).wp P Q) Q) a w) : (Code.loop c).wp P Q a w := by
  intro b k cs
  obtain ⟨e, a₁, w₁, hq, harr⟩ := h b (.inLoop c :: k) cs
  cases e with
  | normal =>
    obtain ⟨e₂, a₂, w₂, hq₂, harr₂⟩ := hq b k cs
    have hs : Steps P (lone (b.at a (.code (.loop c) :: k)) cs w) (lone (b.at a₁ (.inLoop c :: k)) cs w₁) := .head step_loop harr
    -- both stand before the same step
    have turn : ∀ m', m' ≠ lone (b.at a₁ (.code (.loop c) :: k)) cs w₁ → Steps P (lone (b.at a₁ (.code (.loop c) :: k)) cs w₁) m' → Steps P (lone (b.at a₁ (.inLoop c :: k)) cs w₁) m' := by
      intro m' hne ⟨n, hn⟩
      cases n with
      | zero => simp [runN] at hn; exact absurd hn.symm hne
      | succ n =>
        simp only [runN] at hn
        rw [step_loop] at hn
        exact .head step_inLoop ⟨n, hn⟩
    have ne : ∀ (a' : Act) (t : List Item) (w' : World), t ≠ .code (.loop c) :: k → lone (b.at a' t) cs w' ≠ lone (b.at a₁ (.code (.loop c) :: k)) cs w₁ := by
      intro a' t w' ht e
      simp [lone, Frame.at] at e
      exact ht e.2.2.1
    cases e₂ with
    | normal => exact ⟨_, a₂, w₂, hq₂, hs.trans (turn _ (ne _ _ _ (fun e => by have := congrArg List.length e; simp at this)) harr₂)⟩
    | exit id =>
      refine ⟨_, a₂, w₂, hq₂, fun k' hk => hs.trans (turn _ (ne _ _ _ (fun e => ?_)) (harr₂ k' hk))⟩
      have hlen : ∀ (k : List Item) (k' : List Item), exitTo id k = some k' → k'.length ≤ k.length := by
        intro k
        induction k with
        | nil => intro k' h; simp [exitTo] at h
        | cons x k ih =>
          intro k' h
          cases x <;> simp only [exitTo] at h <;> first
            | (split at h
               · cases h; simp
               · have := ih k' h; simp; omega)
            | (have := ih k' h; simp; omega)
      have := hlen k k' hk
      rw [e] at this
      simp at this
      omega
    | goto l => exact absurd hq₂ (hg _ _ _)
    | ret =>
      obtain ⟨todo, hst⟩ := harr₂
      exact ⟨_, a₂, w₂, hq₂, todo, hs.trans (turn _ (fun e => by simp [lone, Frame.at] at e) hst)⟩
    | panic ch =>
      obtain ⟨todo, hst⟩ := harr₂
      exact ⟨_, a₂, w₂, hq₂, todo, hs.trans (turn _ (fun e => by simp [lone, Frame.at] at e) hst)⟩
    | outgrown => exact absurd hq₂ (ho _ _)
  | exit id => exact ⟨_, a₁, w₁, hq, .of_steps (.one step_loop) (.pass (x := .inLoop c) rfl (fun _ _ => .inl (by simp)) harr)⟩
  | goto l => exact absurd hq (hg _ _ _)
  | ret => exact ⟨_, a₁, w₁, hq, .of_steps (.one step_loop) (.pass (x := .inLoop c) rfl (fun _ _ => .inl (by simp)) harr)⟩
  | panic ch => exact ⟨_, a₁, w₁, hq, .of_steps (.one step_loop) (.pass (x := .inLoop c) rfl (fun _ _ => .inl (by simp)) harr)⟩
  | outgrown => exact absurd hq (ho _ _)

section
variable {P : Program} {A : Ann} {X : CallH} {z : Start} {γ γ' : Gh} {w w' : World} {lam lam' : Nat → Nat} {s s' : St} {a : Act}

/-- How the model leaves a piece of code, and how the abstract machine does. -/
def QR (z : Start) (Q : AX → St → Prop) : Exit → Act → World → Prop
  | .normal, a, w => ∃ γ lam s, Q .normal s ∧ SRel z γ w lam s a
  | .exit id, a, w => ∃ γ lam s, Q (.exit id) s ∧ SRel z γ w lam s a
  | .ret, a, w => ∃ γ lam s, Q .ret s ∧ SRel z γ w lam s a
  | _, _, _ => False

theorem yielded_of (hs : SRel z γ w lam s a) {ops : Array Oper} {j d : Nat} (hj : (ops[j]?).bind (·.dst) = some d) (hd : d < z.nt) {v : V} (hv : s.r d = v) :
    (∀ b, v = .bool b → yielded ops a.tmps j = some b) ∧ (v = .tup [] → yielded ops a.tmps j = none) := by
  have hr := hs.reg d
  have hlt : d < a.tmps.size := by rw [hs.size]; exact hd
  have e : a.tmps.getD d undef = a.tmps[d] := by simp [Array.getD, hlt]
  rw [e, hv] at hr
  have hy : yielded ops a.tmps j = match a.tmps[d] with | .bool b => some b | _ => none := by
    simp only [yielded, hj, Option.bind_some, Array.getElem?_eq_getElem hlt]
    generalize a.tmps[d] = c
    cases c <;> rfl
  constructor
  · intro b hb
    subst hb
    rw [hy, relV_bool hr]
  · intro hb
    subst hb
    have := hr.val (by simp) (by simp)
    rw [hy]
    generalize a.tmps[d] = c at this
    cases this
    rfl

/-- One operation of a region. -/
theorem sim_step {KG : List Nat} (hX : XG P KG A z X) {ops : Array Oper} {o : Oper} {i : Ins} (hi : compIns P A z.nt ops o = some i) {is : List Ins} {K : St → Prop} {K' : Act → World → Prop} {Q : Exit → Act → World → Prop}
    (hK : ∀ γ lam s a w, wpL X z.bs is K s → SRel z γ w lam s a → K' a w) (h : wpL X z.bs (i :: is) K s) (hs : SRel z γ w lam s a) :
    if Region.wanted o (yielded ops a.tmps) then o.wp P a w K' Q ∨ (o.asks P a w ∧ LetsOut Q) else K' (a.put o.dst undef) w := by
  unfold compIns at hi
  split at hi
  · rename_i hdst
    have hd : ∀ d, o.dst = some d → d < z.nt := fun d hd => by rw [hd] at hdst; simpa using hdst
    simp only [Option.bind_eq_some_iff] at hi
    obtain ⟨ao, hao, hi⟩ := hi
    -- carried out
    have doit : ∀ dd, dd = o.dst → wpOp X z.bs dd ao s (contL X z.bs dd is K) → o.wp P a w K' Q := by
      rintro _ rfl h
      have hop := sim_op (Qx := Q) hX hao hd h hs
      unfold Oper.wp at hop ⊢
      have mono : ∀ a' w', Nx z o.dst (contL X z.bs o.dst is K) a' w' → K' a' w' := by
        rintro a' w' ⟨γ', lam', v, s', hk, hs'⟩
        simp only [contL] at hk
        exact hK γ' lam' _ a' w' hk hs'
      generalize (execOp a.eval o).run P w = r at hop ⊢
      unfold Oper.upon at hop ⊢
      split at hop <;> first
        | exact mono _ _ hop
        | exact hop.elim
        | exact hop
        | (refine hop.mono fun e w' he => ?_
           cases e <;> first | exact mono _ _ he | exact he)
        | exact hop.mono fun v w' he => mono _ _ he
    have leave : ∀ dd, dd = o.dst → wpL X z.bs is K (putD s dd (.tup [])) → K' (a.put o.dst undef) w := by
      rintro _ rfl h
      exact hK γ lam _ _ w h (hs.put hd (.inr (.inr (.tup [] #[] rfl (by simp)))))
    simp only [wpL] at h
    split at hi
    · rename_i hg
      cases hi
      simp only at h
      rw [if_pos (by simp [Region.wanted, hg])]
      exact .inl (doit _ rfl h)
    · rename_i j want hg
      rw [Option.bind_eq_some_iff] at hi
      obtain ⟨d, hj, hi⟩ := hi
      split at hi
      · rename_i hdl
        cases hi
        simp only at h
        obtain ⟨y1, y2⟩ := yielded_of hs (ops := ops) (j := j) hj hdl rfl
        generalize s.r d = v at h y1 y2
        unfold guardL at h
        split at h
        · rename_i b
          have hy := y1 b rfl
          by_cases hb : b = want
          · rw [if_pos (by simp [Region.wanted, hg, hy, hb])]
            exact .inl (doit _ rfl (h.1 hb))
          · rw [if_neg (by simp [Region.wanted, hg, hy, hb])]
            exact leave _ rfl (h.2 hb)
        · have hy := y2 rfl
          rw [if_neg (by simp [Region.wanted, hg, hy])]
          exact leave _ rfl h
        · exact h.elim
      · cases hi
  · cases hi

/-- The operations of a region in the order of a list. -/
theorem sim_ops {KG : List Nat} (hX : XG P KG A z X) (ops : Array Oper) {K : St → Prop} {Q : Exit → Act → World → Prop} (hQ : ∀ γ lam s a w, K s → SRel z γ w lam s a → Q .normal a w) :
    ∀ (l : List Nat) (is : List Ins), l.length = is.length → (∀ (i : Nat) (k : Nat) (ins : Ins), l[i]? = some k → is[i]? = some ins → ∃ o, ops[k]? = some o ∧ compIns P A z.nt ops o = some ins) →
      ∀ (s : St) (γ : Gh) (lam : Nat → Nat) (a : Act) (w : World), wpL X z.bs is K s → SRel z γ w lam s a → wpOps P ops Q l a w := by
  intro l
  induction l with
  | nil =>
    intro is hl _ s γ lam a w h hs
    cases is with
    | nil => simp only [wpL] at h; exact hQ _ _ _ _ _ h hs
    | cons i is => simp at hl
  | cons k l ih =>
    intro is hl hc s γ lam a w h hs
    cases is with
    | nil => simp at hl
    | cons i is =>
      obtain ⟨o, ho, hi⟩ := hc 0 k i rfl rfl
      have hc' : ∀ (j : Nat) (k : Nat) (ins : Ins), l[j]? = some k → is[j]? = some ins → ∃ o, ops[k]? = some o ∧ compIns P A z.nt ops o = some ins := fun j k' ins h1 h2 => hc (j + 1) k' ins (by simpa using h1) (by simpa using h2)
      have hl' : l.length = is.length := by simpa using hl
      simp only [wpOps, ho]
      exact sim_step hX hi (fun γ lam s a w h hs => ih is hl' hc' s γ lam a w h hs) h hs

theorem compInss_get {nt : Nat} {ops : Array Oper} : ∀ {os : List Oper} {is : List Ins}, compInss P A nt ops os = some is → os.length = is.length ∧ ∀ (i : Nat) (o : Oper) (ins : Ins), os[i]? = some o → is[i]? = some ins → compIns P A nt ops o = some ins := by
  intro os
  induction os with
  | nil => intro is h; simp [compInss] at h; subst h; simp
  | cons o os ih =>
    intro is h
    simp only [compInss, Option.bind_eq_some_iff, Option.map_eq_some_iff] at h
    obtain ⟨i, hi, is', his, rfl⟩ := h
    obtain ⟨h1, h2⟩ := ih his
    refine ⟨by simp [h1], fun k o' ins ho' hins => ?_⟩
    cases k with
    | zero => simp at ho' hins; subst ho'; subst hins; exact hi
    | succ k => simp at ho' hins; exact h2 k o' ins ho' hins

theorem SRel.forget (hs : SRel z γ w lam s a) (keep locs : List Nat) : SRel z γ w lam (forget keep locs s) a := by
  refine ⟨hs.heap, ⟨fun d cs hd => ?_, fun d d' h1 h2 he => ?_⟩, fun i => ?_, hs.nodef, hs.size, hs.ev, fun d hd => ?_, hs.low⟩
  · simp only [Am.forget] at hd
    split at hd
    · exact hs.loc.blk d cs hd
    · cases hd
  · simp only [Am.forget] at h1 h2
    split at h1
    · split at h2
      · exact hs.loc.inj d d' h1 h2 he
      · exact absurd rfl h2
    · exact absurd rfl h1
  · have hr := hs.reg i
    simp only [Am.forget]
    split
    · rcases hr with h | ⟨d, o, h1, h2, h3⟩ | h
      · rw [h]; exact .inl rfl
      · rw [h1]; exact .inl rfl
      · refine .inr (.inr ?_)
        cases hv : s.r i <;> rw [hv] at h <;> first | exact h | cases h
    · split
      · rename_i hloc
        rcases hr with h | ⟨d, o, h1, h2, h3⟩ | h
        · rw [h]; exact .inl rfl
        · rw [h1]
          simp only [locOf]
          split
          · rename_i e
            subst e
            exact .inr (.inl ⟨d, o, rfl, by show (if d ∈ locs then s.l d else none) ≠ none; rw [if_pos hloc]; exact h2, h3⟩)
          · exact .inl rfl
        · cases hv : s.r i <;> rw [hv] at h <;> first | exact .inl rfl | cases h
      · exact .inl rfl
  · simp only [Am.forget] at hd
    split at hd
    · exact hs.lnew d hd
    · exact absurd rfl hd

/-- CODE. (A region whose order is open: 'hdraw'.) -/
theorem sim_code {KG : List Nat} (hX : XG P KG A z X)
    (hdraw : ∀ (id : Nat) (ops : Array Oper) (is : List Ins) (Q : AX → St → Prop) (s : St) (γ : Gh) (lam : Nat → Nat) (a : Act) (w : World), compInss P A z.nt ops ops.toList = some is → ∀ js : List Ins, Js ops is js → drawOk ops js = true → wpL X z.bs js (Q .normal) s → SRel z γ w lam s a → (Code.region id ops true).wp P (QR z Q) a w) :
    ∀ (c : Code) (ac : AC), compC P A z.nt c = some ac → ∀ (Q : AX → St → Prop) (s : St) (γ : Gh) (lam : Nat → Nat) (a : Act) (w : World), wpA X z.bs ac Q s → SRel z γ w lam s a → c.wp P (QR z Q) a w := by
  intro c
  induction c with
  | skip => intro ac hc Q s γ lam a w h hs; simp [compC] at hc; subst hc; exact wp_skip ⟨γ, lam, s, h, hs⟩
  | region id ops draw =>
    intro ac hc Q s γ lam a w h hs
    simp only [compC, Option.bind_eq_some_iff] at hc
    obtain ⟨is, his, hc⟩ := hc
    cases draw
    · simp only [Bool.false_eq_true, if_false, Option.some.injEq] at hc
      subst hc
      obtain ⟨h1, h2⟩ := compInss_get his
      refine wp_region (sim_ops (A := A) (K := Q .normal) hX ops (fun γ lam s a w hk hs => ⟨γ, lam, s, hk, hs⟩) (List.range ops.size) is (by simpa using h1) ?_ s γ lam a w h hs)
      intro i k ins hk hins
      rw [List.getElem?_range] at hk
      · cases hk
        have hlt : i < ops.size := by
          have := (List.getElem?_eq_some_iff.1 hins).1
          rw [← h1] at this; simpa using this
        exact ⟨ops[i], Array.getElem?_eq_getElem hlt, h2 i _ ins (by simp [hlt]) hins⟩
      · have := (List.getElem?_eq_some_iff.1 hk).1
        simpa using this
    · simp only [if_true] at hc
      split at hc
      · cases hc
        exact hdraw id ops is Q s γ lam a w his _ .loc ‹_› h hs
      · split at hc
        · cases hc
          exact hdraw id ops is Q s γ lam a w his _ .mk ‹_› h hs
        · cases hc
  | seq x y ihx ihy =>
    intro ac hc Q s γ lam a w h hs
    simp only [compC, Option.bind_eq_some_iff, Option.map_eq_some_iff] at hc
    obtain ⟨ax, hx, ay, hy, rfl⟩ := hc
    refine wp_seq (wp_mono (ihx ax hx _ s γ lam a w h hs) ?_)
    intro e a' w' hq
    cases e <;> simp only [QR, Exit.then] at hq ⊢
    · obtain ⟨γ', lam', s', hq, hs'⟩ := hq
      exact ihy ay hy Q s' γ' lam' a' w' hq hs'
    · exact hq
    · exact hq
  | cond c x y ihx ihy =>
    intro ac hc Q s γ lam a w h hs
    simp only [compC, Option.bind_eq_some_iff, Option.map_eq_some_iff] at hc
    obtain ⟨c', hc', ax, hx, ay, hy, rfl⟩ := hc
    have hr := rel_x hs hc'
    simp only [wpA] at h
    generalize ev s.r c' = v at h hr
    unfold condA at h
    split at h
    · rename_i b
      refine wp_cond_split (relV_bool hr) (fun e => ihx ax hx Q s γ lam a w (h.1 e) hs) (fun e => ihy ay hy Q s γ lam a w (h.2 e) hs)
    · exact h.elim
  | block id b ih =>
    intro ac hc Q s γ lam a w h hs
    simp only [compC, Option.map_eq_some_iff] at hc
    obtain ⟨ab, hb, rfl⟩ := hc
    refine wp_block (wp_mono (ih ab hb _ s γ lam a w h hs) ?_)
    intro e a' w' hq
    cases e <;> simp only [QR, Exit.inBlock] at hq ⊢
    · exact hq
    · obtain ⟨γ', lam', s', hq, hs'⟩ := hq
      simp only [blockA] at hq
      split at hq
      · rw [if_pos ‹_›]; exact ⟨γ', lam', s', hq, hs'⟩
      · rw [if_neg ‹_›]; exact ⟨γ', lam', s', hq, hs'⟩
    · exact hq
  | loop b ih =>
    intro ac hc Q s γ lam a w h hs
    simp only [compC, Option.map_eq_some_iff] at hc
    obtain ⟨ab, hb, rfl⟩ := hc
    simp only [wpA, lfpA] at h
    refine h (fun s => ∀ (γ : Gh) (lam : Nat → Nat) (a : Act) (w : World), SRel z γ w lam s a → (Code.loop b).wp P (QR z Q) a w) ?_ γ lam a w hs
    intro s h γ lam a w hs
    refine wp_loop_unroll (fun _ _ _ h => h) (fun _ _ h => h) (wp_mono (ih ab hb _ _ γ lam a w h (hs.forget _ _)) ?_)
    intro e a' w' hq
    cases e <;> simp only [QR, Exit.then] at hq ⊢
    · obtain ⟨γ', lam', s', hq, hs'⟩ := hq
      exact hq γ' lam' a' w' hs'
    · exact hq
    · exact hq
  | exit id => intro ac hc Q s γ lam a w h hs; simp [compC] at hc; subst hc; exact wp_exit ⟨γ, lam, s, h, hs⟩
  | scope b ih => intro ac hc; simp [compC] at hc
  | label l => intro ac hc Q s γ lam a w h hs; simp [compC] at hc; subst hc; exact wp_label ⟨γ, lam, s, h, hs⟩
  | ret => intro ac hc Q s γ lam a w h hs; simp [compC] at hc; subst hc; exact wp_ret ⟨γ, lam, s, h, hs⟩
  | rangeFunc f ps x y => intro ac hc; simp [compC] at hc
  | goto l => intro ac hc; simp [compC] at hc
  | refuse w => intro ac hc; simp [compC] at hc

end
end Go.Am
