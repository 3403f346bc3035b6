/- The abstract machine's operations are the model's: those that touch no memory but to read. -/
import Derived.Test.YtkcpkckaahmheaaDoorAmT
import Derived.Laws.Strings
import Derived.Lib.ItoaNum
import Derived.Lib.LaidTab
import Derived.Lib.FieldsLaws
import Derived.Lib.Strings
import Derived.RangeFuncLeaves
import Derived.RangeFuncRecord
import Derived.RangeFuncNested
import Derived.OrdersIn
namespace Go.Am

/-- A call of function g comes back so. -/
def Came (P : Program) (g : Nat) (cargs : Array Value) (w : World) (R : Value → World → Prop) : Prop :=
  ((callFunc g cargs).run P w = .ok (.enter g cargs) w ∧ Calls P g cargs w fun e w' => ∃ c, e = .returned c ∧ R c w') ∨
  ∃ c w', (callFunc g cargs).run P w = .ok (.value c) w' ∧ R c w'

def ArgsRel (γ : Gh) (w : World) (args : List V) (cargs : Array Value) : Prop :=
  cargs.size = args.length ∧ okVals args = true ∧ ∀ (i : Nat) (x : V) (u : Value), args[i]? = some x → cargs[i]? = some u → RelV γ w x u

def XPost (γ : Gh) (w : World) (bs : List Nat) (Q : V → List Ob → Prop) (c : Value) (w' : World) : Prop :=
  ∃ v h' γ', Q v h' ∧ RelV γ' w' v c ∧ HRel γ' w' h' ∧ LowOk bs h' ∧ Ev γ w γ' w'

/-- What package-level variables hold that are listed: something that is not nil, and no one turns it. -/
structure SenAt (γ : Gh) (w : World) (te : TypeId) (g : Nat) (a : Addr) : Prop where
  cell : w.cell? ⟨g, 0, none⟩ = some (.iface te (.pointer (some a)))
  low : a.block < w.heap.size
  rho : ∀ r, r < γ.n → γ.rho r ≠ a.block
  free : ∃ c t, w.heap[a.block]? = some (.cells c t (0, 0))

/-- A table of the library's, that no one turns. -/
structure TabAt (γ : Gh) (w : World) (g : Nat) (vals : Array Value) : Prop where
  low : g < w.heap.size
  rho : ∀ r, r < γ.n → γ.rho r ≠ g
  cells : ∃ t f, w.heap[g]? = some (.cells vals t f)

/-- The powers of ten; which letters are blanks. -/
def powTab : Array Value := (Lib.pow10Tab.map fun z => Value.int .u64 z).toArray
def spcTab : Array Value := (Lib.asciiSpaceTab.map fun z => Value.int .u8 z).toArray

/-- A package-level variable that holds some number, and no one turns it. -/
def IntAt (γ : Gh) (w : World) (g : Nat) : Prop := 0 < γ.prot g ∧ ∃ m, w.cell? ⟨g, 0, none⟩ = some (.int .i64 m)

structure GOk (KG : List Nat) (γ : Gh) (w : World) : Prop where
  var : ∀ g ∈ KG, g < 1000000 → 0 < γ.prot g ∧ ∃ t c, w.cell? ⟨g, 0, none⟩ = some (.iface t c)
  sen : ∀ te, te < 1000000 → 1000000 + te ∈ KG → ∀ g ∈ KG, g < 1000000 → ∃ a, SenAt γ w te g a ∧ ∀ g' ∈ KG, g' < 1000000 → w.cell? ⟨g', 0, none⟩ = some (.iface te (.pointer (some a))) → g' = g
  tab : ∀ g, g < 1000000 → 2000000 + g ∈ KG → TabAt γ w g powTab
  spc : ∀ g, g < 1000000 → 3000000 + g ∈ KG → TabAt γ w g spcTab
  num : ∀ g, g < 1000000 → 4000000 + g ∈ KG → IntAt γ w g

theorem GOk.mono {KG : List Nat} {γ γ' : Gh} {w w' : World} (h : GOk KG γ w) (ev : Ev γ w γ' w') : GOk KG γ' w' := by
  have notOurs : ∀ b, b < w.heap.size → (∀ r, r < γ.n → γ.rho r ≠ b) → ∀ r, r < γ'.n → γ'.rho r ≠ b := fun b hb s3 r hr => by
    by_cases hr' : r < γ.n
    · rcases ev.old r hr' with e | e
      · rw [e]; exact s3 r hr'
      · omega
    · have := ev.new r (by omega) hr
      omega
  have tabs : ∀ g vals, TabAt γ w g vals → TabAt γ' w' g vals := fun g vals ⟨h1, h2, t, f, h3⟩ =>
    ⟨Nat.lt_of_lt_of_le h1 ev.size, notOurs g h1 h2, t, f, (ev.heap g h1 h2).1.trans h3⟩
  refine ⟨fun g hg hl => ?_, fun te hte ht g hg hl => ?_, fun g hl hg => tabs g _ (h.tab g hl hg), fun g hl hg => tabs g _ (h.spc g hl hg), fun g hl hg => ?_⟩
  · obtain ⟨h1, t, c, h2⟩ := h.var g hg hl
    exact ⟨Nat.lt_of_lt_of_le h1 (ev.le.prot g), t, c, (ev.le.cells g 0 h1).trans h2⟩
  · obtain ⟨a, ⟨s1, s2, s3, c, t, s4⟩, hu⟩ := h.sen te hte ht g hg hl
    refine ⟨a, ⟨(ev.le.cells g 0 (h.var g hg hl).1).trans s1, Nat.lt_of_lt_of_le s2 ev.size, notOurs _ s2 s3, c, t, (ev.heap a.block s2 s3).1.trans s4⟩, fun g' hg' hl' hc => hu g' hg' hl' ((ev.le.cells g' 0 (h.var g' hg' hl').1).symm.trans hc)⟩
  · obtain ⟨h1, m, h2⟩ := h.num g hl hg
    exact ⟨Nat.lt_of_lt_of_le h1 (ev.le.prot g), m, (ev.le.cells g 0 h1).trans h2⟩

/-- A round of the loop of this record comes back so. -/
def YCame (P : Program) (l : Nat) (cargs : Array Value) (w : World) (R : Value → World → Prop) : Prop :=
  ∃ f tmps assign body, (Instr.yield l cargs).run P w = .ok (.round l f tmps assign body) w ∧ RoundIn Fence.wide 0 P l f tmps assign body w fun e w' => ∃ c, e = .returned c ∧ R c w'

def XOk (P : Program) (KG : List Nat) (X : CallH) : Prop :=
  ∀ g vr bs args h Q, X g vr bs args h Q → ∀ γ w cargs, γ.bd = bdOf P → GOk KG γ w → HRel γ w h → LowOk bs h → ArgsRel γ w args cargs →
    if vr = 1000001 then YCame P (γ.rho g) cargs w (XPost γ w bs Q) else Came P g cargs w (XPost γ w bs Q)

/-- An operation is carried out: as everywhere, or it is a round. -/
def OpOk (P : Program) (o : Oper) (a : Act) (w : World) (next : Act → World → Prop) (Q : Exit → Act → World → Prop) : Prop :=
  o.wp P a w next Q ∨ ∃ l f tmps assign body, (execOp a.eval o).run P w = .ok (.round l f tmps assign body) w ∧ RoundIn Fence.wide 0 P l f tmps assign body w fun e w' => ∃ c, e = .returned c ∧ next (a.put o.dst c) w'

/-- What an activation's steps may lean on. -/
structure XG (P : Program) (KG : List Nat) (A : Ann) (z : Start) (X : CallH) : Prop where
  ok : XOk P KG X
  bd : z.g.bd = bdOf P
  glo : GOk KG z.g z.w
  sub : ∀ g ∈ A.gl, g ∈ KG

/-- Behind an operation. -/
def Nx (z : Start) (dst : Option Nat) (K : V → St → Prop) (a : Act) (w : World) : Prop :=
  ∃ γ lam v s, K v s ∧ SRel z γ w lam (putD s dst v) a

section
variable {P : Program} {A : Ann} {X : CallH} {z : Start} {γ γ' : Gh} {w w' : World} {lam lam' : Nat → Nat} {s s' : St} {a : Act} {o : Oper} {K : V → St → Prop} {Qx : Exit → Act → World → Prop}

theorem nx_val {c : Value} {v : V} (hrun : (execOp a.eval o).run P w = .ok (.value c) w') (hK : K v s') (hs : SRel z γ' w' lam' s' a) (hv : RelR γ' w' lam' s'.l v c)
    (hd : ∀ i, o.dst = some i → i < z.nt) : o.wp P a w (Nx z o.dst K) Qx := by
  unfold Oper.wp
  rw [hrun, Oper.upon_value]
  exact ⟨γ', lam', v, s', hK, hs.put hd hv⟩

theorem nx_skip (hrun : (execOp a.eval o).run P w = .ok .skip w') (hK : K (.tup []) s') (hs : SRel z γ' w' lam' s' a)
    (hd : ∀ i, o.dst = some i → i < z.nt) : o.wp P a w (Nx z o.dst K) Qx := by
  unfold Oper.wp
  rw [hrun, Oper.upon_skip]
  exact ⟨γ', lam', .tup [], s', hK, hs.put hd (.inr (.inr (.tup [] #[] rfl (by simp))))⟩

theorem some_of {o : Option V} (h : kSome K s o) : ∃ v, o = some v ∧ K v s := by
  cases o with
  | none => exact h.elim
  | some v => exact ⟨v, rfl, h⟩

theorem constF_rel (γ : Gh) (w : World) (v : Value) (x : V) (h : constF v = some x) : RelV γ w x v ∧ v.oneCell' = true ∧ x.isLoc = false := by
  cases v with
  | bool b => simp [constF] at h; subst h; exact ⟨.bool b, rfl, rfl⟩
  | int k n => simp [constF] at h; subst h; exact ⟨.int k n, rfl, rfl⟩
  | string b => simp [constF] at h; subst h; exact ⟨.str _ b rfl, rfl, rfl⟩
  | pointer p => cases p <;> simp [constF] at h; subst h; exact ⟨.nilp, rfl, rfl⟩
  | slice p l c =>
    cases p with
    | some p => simp [constF] at h
    | none =>
      cases l with
      | succ l => simp [constF] at h
      | zero =>
        cases c with
        | succ c => simp [constF] at h
        | zero =>
          simp [constF] at h; subst h
          exact ⟨.sl .clip [] none 0 (fun _ => .nilFunc) 0 (Nat.zero_le _) rfl (fun _ => rfl) (fun _ e => by cases e) (fun i x hx => by simp at hx) (fun i x hx => by simp at hx) (fun i a' hi => by simp at hi), rfl, rfl⟩
  | map r => cases r <;> simp [constF] at h; subst h; exact ⟨.mapn, rfl, rfl⟩
  | nilFunc => simp [constF] at h; subst h; exact ⟨.nilfn, rfl, rfl⟩
  | nilIface => simp [constF] at h; subst h; exact ⟨.nili, rfl, rfl⟩
  | agg cs => simp [constF] at h
  | float k n => simp [constF] at h
  | complex k n m => simp [constF] at h
  | chan r => simp [constF] at h
  | func f a b => simp [constF] at h
  | iface t v => simp [constF] at h
  | tuple vs => simp [constF] at h

theorem constL_rel (γ : Gh) (w : World) : ∀ (cs : List Value) (xs : List V), constL cs = some xs → cs.length = xs.length ∧ ∀ (i : Nat) (x : V) (u : Value), xs[i]? = some x → cs[i]? = some u → RelV γ w x u ∧ u.oneCell' = true := by
  intro cs
  induction cs with
  | nil => intro xs h; simp [constL] at h; subst h; simp
  | cons v vs ih =>
    intro xs h
    simp only [constL, Option.bind_eq_some_iff, Option.map_eq_some_iff] at h
    obtain ⟨x, hx, ys, hys, rfl⟩ := h
    obtain ⟨h1, h2⟩ := ih ys hys
    have hx' := constF_rel γ w v x hx
    refine ⟨by simp [h1], fun i y u hy hu => ?_⟩
    cases i with
    | zero => simp at hy hu; subst hy; subst hu; exact ⟨hx'.1, hx'.2.1⟩
    | succ i => simp at hy hu; exact h2 i y u hy hu

theorem constV_rel (γ : Gh) (w : World) (v : Value) (x : V) (h : constV v = some x) : RelV γ w x v ∧ x.isLoc = false := by
  unfold constV at h
  split at h
  · rename_i cs
    simp only [Option.map_eq_some_iff] at h
    obtain ⟨xs, hxs, rfl⟩ := h
    obtain ⟨h1, h2⟩ := constL_rel γ w cs.toList xs hxs
    exact ⟨CellsRel.agg ⟨by simpa using h1, fun i x u hx hu => h2 i x u hx (by simpa using hu)⟩, rfl⟩
  · have := constF_rel γ w v x h
    exact ⟨this.1, this.2.2⟩

theorem zeroV_rel {t : TypeId} {x : V} (h : zeroV P t = some x) : ∃ i zv, P.info? t = some i ∧ i.zero = some zv ∧ constV zv = some x := by
  simp only [zeroV, Option.bind_eq_some_iff] at h
  obtain ⟨i, hi, zv, hz, hx⟩ := h
  exact ⟨i, zv, hi, hz, hx⟩

theorem rel_x (hs : SRel z γ w lam s a) {x : Operand} {y : AO} (hc : compX x = some y) : RelR γ w lam s.l (ev s.r y) (a.eval x) := by
  cases x with
  | tmp t => simp [compX] at hc; subst hc; exact hs.reg t
  | const v =>
    simp only [compX, Option.map_eq_some_iff] at hc
    obtain ⟨u, hu, rfl⟩ := hc
    exact .inr (.inr (constV_rel γ w v u hu).1)
  | global g => simp [compX] at hc
  | func f => simp [compX] at hc; subst hc; exact .inr (.inr (.fn f [] #[] rfl (fun i x u hx => by simp at hx) rfl))

theorem sim_mov (x : Operand) (ho : o.op = .move x ∨ o.op = .assign x) {y : AO} (hc : compX x = some y) (hd : ∀ i, o.dst = some i → i < z.nt)
    (h : K (ev s.r y) s) (hs : SRel z γ w lam s a) : o.wp P a w (Nx z o.dst K) Qx :=
  nx_val (by rcases ho with ho | ho <;> simp [execOp, ho]) h hs (rel_x hs hc) hd

theorem sim_pick (c x y : Operand) (ho : o.op = .pick c x y) {c' x' y' : AO} (hc : compX c = some c') (hx : compX x = some x') (hy : compX y = some y') (hd : ∀ i, o.dst = some i → i < z.nt)
    (h : kPick (ev s.r x') (ev s.r y') K s (ev s.r c')) (hs : SRel z γ w lam s a) : o.wp P a w (Nx z o.dst K) Qx := by
  have hrc := rel_x hs hc
  generalize ev s.r c' = vc at h hrc
  unfold kPick at h
  split at h
  · rename_i b
    have hb : a.eval c = .bool b := by
      have := hrc.ok rfl
      generalize a.eval c = u at this
      cases this; rfl
    refine nx_val (c := if b = true then a.eval x else a.eval y) (v := if b = true then ev s.r x' else ev s.r y') ?_ h hs ?_ hd
    · cases b <;> simp [execOp, ho, asBool, hb]
    · cases b
      · exact rel_x hs hy
      · exact rel_x hs hx
  · exact h.elim

/-- What lies behind an address. -/
theorem cells_at (hs : SRel z γ w lam s a) {v : V} {c : Value} (hv : RelR γ w lam s.l v c) {cs : List V} {off : Nat} (hc : cellsAt s v = some (cs, off)) :
    ∃ b o arr, c = .pointer (some ⟨b, o + off, none⟩) ∧ CellsRel γ w cs arr ∧ ∀ (j : Nat) (u : Value), arr[j]? = some u → w.cell? ⟨b, o + j, none⟩ = some u := by
  cases v with
  | loc d off' =>
    simp only [cellsAt, Option.map_eq_some_iff] at hc
    obtain ⟨cs', hl, e⟩ := hc
    simp at e
    obtain ⟨rfl, rfl⟩ := e
    rcases hv with hv | ⟨d', o', e, _, rfl⟩ | hv
    · cases hv
    · cases e
      obtain ⟨_, _, arr, e, hb, hr⟩ := hs.loc.blk d cs' hl
      exact ⟨lam d, 0, arr, by simp, hr, fun j u hj => by rw [Nat.zero_add, cell_of_row w _ j arr e (0, 0) hb]; exact hj⟩
    · cases hv
  | elp e off' =>
    simp only [cellsAt, Option.some.injEq, Prod.mk.injEq] at hc
    obtain ⟨rfl, rfl⟩ := hc
    have := hv.ok rfl
    cases this with
    | elp _ _ c b o he hl hat => exact ⟨b, o, c.cells, rfl, he.cells hl, fun j u hj => (hat j u hj).2⟩
  | ptr r off' =>
    simp only [cellsAt] at hc
    split at hc
    · rename_i cs' hh
      simp at hc
      obtain ⟨rfl, rfl⟩ := hc
      have := hv.ok rfl
      cases this with
      | ptr _ _ h hk =>
        obtain ⟨_, _, arr, e, hb, hr⟩ := hs.heap.obj r _ hh
        exact ⟨γ.rho r, 0, arr.extract 0 cs'.length, by simp, hr.cut, fun j u hj => by
          rw [Nat.zero_add, cell_of_row w _ j arr e (0, 0) hb]
          rw [Array.getElem?_extract] at hj
          split at hj
          · simpa using hj
          · cases hj⟩
    · cases hc
  | vptr r ver off' =>
    simp only [cellsAt] at hc
    split at hc
    · rename_i v zz cs' hh
      split at hc
      · rename_i hver
        simp at hc
        obtain ⟨rfl, rfl⟩ := hc
        have := hv.ok rfl
        cases this with
        | vptr _ _ _ b o h hk hv he =>
          obtain ⟨_, hff, _, _, _, arr, e, hb, _, hr⟩ := hs.heap.obj r _ hh
          obtain ⟨rfl, rfl⟩ := he (by omega)
          exact ⟨γ.rho r, 0, arr.extract 0 cs'.length, by simp, hr.cut, fun j u hj => by
            rw [Nat.zero_add, cell_of_row w _ j arr e (0, 0) hb]
            rw [Array.getElem?_extract] at hj
            split at hj
            · simpa using hj
            · cases hj⟩
      · cases hc
    · cases hc
  | _ => simp [cellsAt] at hc

theorem addr_add (b o n : Nat) : (⟨b, o, none⟩ : Addr).add n = ⟨b, o + n, none⟩ := by
  unfold Addr.add
  split
  · subst n; rfl
  · rfl

theorem run_isAgg {t : TypeId} {g : Bool} (h : isAggT P t = some g) : (isAgg t).run P w = .ok g w := by
  simp only [isAggT, Option.map_eq_some_iff] at h
  obtain ⟨d, hd, rfl⟩ := h
  simp only [isAgg, underlying, Sem.run_bind, run_program, Result.andThen_ok, hd, Sem.run_pure]
  cases d <;> rfl

theorem run_sizeOf' {t : TypeId} {n : Nat} (h : sizeT P t = some n) : (sizeOf t).run P w = .ok n w := by
  simp only [sizeT, Option.map_eq_some_iff] at h
  obtain ⟨i, hi, rfl⟩ := h
  simp [sizeOf, typeInfo, hi]

theorem shape_cases {t : TypeId} {n : Option Nat} (h : shapeT P t = some n) : (n = none ∧ isAggT P t = some false) ∨ ∃ m, n = some m ∧ isAggT P t = some true ∧ sizeT P t = some m := by
  simp only [shapeT, Option.bind_eq_some_iff] at h
  obtain ⟨g, hg, h⟩ := h
  cases g
  · simp at h; exact .inl ⟨h.symm, hg⟩
  · simp only [if_true, Option.map_eq_some_iff] at h
    obtain ⟨m, hm, rfl⟩ := h
    exact .inr ⟨m, rfl, hg, hm⟩

theorem extract_cells (arr : Array Value) (off m : Nat) (h : off + m ≤ arr.size) : (arr.extract off (off + m)).toList.length = m := by simp; omega

theorem run_loadVar_at {t : TypeId} {n : Option Nat} (ht : shapeT P t = some n) {cs : List V} {arr : Array Value} (hr : CellsRel γ w cs arr) {b o off : Nat}
    (hcell : ∀ (j : Nat) (u : Value), arr[j]? = some u → w.cell? ⟨b, o + j, none⟩ = some u) {v : V} (hsel : sel cs off n = some v) :
    ∃ c, (loadVar t ⟨b, o + off, none⟩).run P w = .ok c w ∧ RelV γ w v c := by
  rcases hr.sel hsel with ⟨rfl, u, hu, hru, _⟩ | ⟨m, rfl, hm, hra⟩
  · rcases shape_cases ht with ⟨_, hg⟩ | ⟨m, e, _⟩
    · refine ⟨u, ?_, hru⟩
      simp only [loadVar, Sem.run_bind, run_isAgg hg, Result.andThen_ok]
      simp [run_load, hcell off u hu]
    · cases e
  · rcases shape_cases ht with ⟨e, _⟩ | ⟨m', e, hg, hsz⟩
    · cases e
    · cases e
      refine ⟨_, ?_, hra⟩
      have hl := run_loadCells_list (P := P) w ⟨b, o + off, none⟩ (arr.extract off (off + m)).toList (fun j u hj => by
        rw [addr_add, Nat.add_assoc]
        refine hcell _ _ ?_
        rw [Array.getElem?_toList, Array.getElem?_extract] at hj
        split at hj
        · exact hj
        · cases hj)
      rw [extract_cells arr off m hm] at hl
      simp only [loadVar, Sem.run_bind, run_isAgg hg, Result.andThen_ok, if_true, run_sizeOf' hsz, hl, Sem.run_pure]

theorem load_split {v : V} {n : Option Nat} {x : V} (h : loadV s v n = some x) : ∃ cs off, cellsAt s v = some (cs, off) ∧ sel cs off n = some x := by
  simp only [loadV, Option.bind_eq_some_iff] at h
  obtain ⟨⟨cs, off⟩, h1, h2⟩ := h
  exact ⟨cs, off, h1, h2⟩

theorem sim_load (t : TypeId) (x : Operand) (ho : o.op = .load t x) {n : Option Nat} {y : AO} (ht : shapeT P t = some n) (hc : compX x = some y) (hd : ∀ i, o.dst = some i → i < z.nt)
    (h : kSome K s (loadV s (ev s.r y) n)) (hs : SRel z γ w lam s a) : o.wp P a w (Nx z o.dst K) Qx := by
  obtain ⟨v, hv, hK⟩ := some_of h
  obtain ⟨cs, off, h1, h2⟩ := load_split hv
  obtain ⟨b, o', arr, e, hr, hcell⟩ := cells_at hs (rel_x hs hc) h1
  obtain ⟨c, hrun, hrel⟩ := run_loadVar_at (P := P) ht hr hcell h2
  refine nx_val ?_ hK hs (.inr (.inr hrel)) hd
  simp [execOp, ho, Instr.loadAt, e, Instr.sureAddr, hrun]

theorem sim_gload {KG : List Nat} (t : TypeId) (g : Nat) (ho : o.op = .load t (.global g)) (ht : shapeT P t = some none) (hg : GOk KG z.g z.w) (hk : g ∈ KG) (hkl : g < 1000000) (hd : ∀ i, o.dst = some i → i < z.nt)
    (h : K (.sent g) s) (hs : SRel z γ w lam s a) : o.wp P a w (Nx z o.dst K) Qx := by
  obtain ⟨h1, ty, c, h2⟩ := (hg.mono hs.ev).var g hk hkl
  have hrun : (loadVar t ⟨g, 0, none⟩).run P w = .ok (.iface ty c) w := by
    rcases shape_cases ht with ⟨_, hg⟩ | ⟨m, e, _⟩
    · simp only [loadVar, Sem.run_bind, run_isAgg hg, Result.andThen_ok]
      simp [run_load, h2]
    · cases e
  refine nx_val (c := .iface ty c) ?_ h hs (.inr (.inr (.sent g ty c h1 h2))) hd
  have e : a.eval (.global g) = .pointer (some ⟨g, 0, none⟩) := rfl
  simp [execOp, ho, Instr.loadAt, e, Instr.sureAddr, hrun]

theorem sim_nilck (x : Operand) (ho : o.op = .nilCheck x) {y : AO} (hc : compX x = some y) (hd : ∀ i, o.dst = some i → i < z.nt)
    (h : kNil K s (ev s.r y)) (hs : SRel z γ w lam s a) : o.wp P a w (Nx z o.dst K) Qx := by
  have hr := rel_x hs hc
  generalize ev s.r y = v at h hr
  generalize hu : a.eval x = u at hr
  unfold kNil at h
  split at h
  · have := hr.ok rfl
    cases this
    exact nx_val (by simp [execOp, ho, hu]) h hs hr hd
  · rcases hr with hr | ⟨d, o', e, h1, rfl⟩ | hr
    · cases hr
    · exact nx_val (by simp [execOp, ho, hu]) h hs (.inr (.inl ⟨d, o', e, h1, rfl⟩)) hd
    · cases hr
  · have := hr.ok rfl
    cases this
    exact nx_val (by simp [execOp, ho, hu]) h hs hr hd
  · have := hr.ok rfl
    cases this
    exact nx_val (by simp [execOp, ho, hu]) h hs hr hd
  · have := hr.ok rfl
    cases this
    exact nx_val (by simp [execOp, ho, hu]) h hs hr hd
  · have := hr.ok rfl
    cases this
    exact nx_val (by simp [execOp, ho, hu]) h hs hr hd
  · have := hr.ok rfl
    cases this
    exact nx_val (by simp [execOp, ho, hu]) h hs hr hd
  · have := hr.ok rfl
    cases this
    exact nx_val (by simp [execOp, ho, hu]) h hs hr hd
  · exact h.elim

theorem bytes_beq (x y : ByteArray) : (x.toList == y.toList) = (x.data.toList == y.data.toList) := by
  rw [ByteArray.toList_eq, ByteArray.toList_eq]
end
end Go.Am
