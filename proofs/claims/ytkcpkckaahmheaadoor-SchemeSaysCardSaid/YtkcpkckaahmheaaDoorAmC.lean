/- The abstract machine: code, calls; monotony; what a call comes to is what its body comes to. -/
import Derived.Test.YtkcpkckaahmheaaDoorAmV
namespace Go.Am

inductive AR where
  | t (i : Nat)
  | cell (i : Nat) (n : Option Nat)
  deriving Inhabited

structure AF where
  body : AC
  res : List AR
  ownR : Bool := false
  trunc : Bool := true
  nt : Nat
  deriving Inhabited

/-- A range over a function: its parameters; what assigns them; its body. -/
structure AB where
  ps : List Nat
  asg : AC
  bdy : AC
  deriving Inhabited

inductive Fd where
  | code (af : AF)
  | codeF (af : AF)
  | prim (p : List V → Option V)
  | body (ab : AB)

abbrev AP := Nat → Nat → Option Fd

def noLoc : V → V
  | .loc _ _ => .undef
  | v => v

def locOf (i : Nat) : V → V
  | .loc d o => if d = i then .loc d o else .undef
  | _ => .undef

/-- At a round's begin all is forgotten but for what is named. -/
def forget (keep locs : List Nat) (s : St) : St :=
  { s with
    r := fun i => if i ∈ keep then noLoc (s.r i) else if i ∈ locs then locOf i (s.r i) else .undef
    l := fun d => if d ∈ locs then s.l d else none }

def thenA (k : St → Prop) (Q : AX → St → Prop) : AX → St → Prop
  | .normal, s => k s
  | .exit id, s => Q (.exit id) s
  | .ret, s => Q .ret s
def condA (ka kb : St → Prop) (s : St) : V → Prop
  | .bool c => (c = true → ka s) ∧ (c = false → kb s)
  | _ => False
def blockA (id : Nat) (Q : AX → St → Prop) : AX → St → Prop
  | .normal, s => Q .normal s
  | .exit j, s => if j = id then Q .normal s else Q (.exit j) s
  | .ret, s => Q .ret s

/-- The least that is closed under rounds. -/
def lfpA (F : (St → Prop) → St → Prop) (s : St) : Prop := ∀ Y : St → Prop, (∀ s, F Y s → Y s) → Y s

/-- What a round sees of its activation's registers. -/
def capV (v : V) : V := if v.isLoc = true then .undef else v
def capR (kp : List Nat) (r : Nat → V) : List (Nat × V) := kp.map fun i => (i, capV (r i))
def regF : List (Nat × V) → Nat → V
  | [], _ => .undef
  | (j, v) :: l, i => if i = j then v else regF l i
def startB : List Nat → List V → (Nat → V) → Nat → V
  | p :: ps, a :: as, r => startB ps as (put r p a)
  | _, _, r => r

/-- The jump that a round has left. -/
def peA (Q : AX → St → Prop) (s : St) : Option (Option Nat) → Prop
  | none => Q .normal s
  | some none => Q .ret s
  | some (some id) => Q (.exit id) s

def rfEnd (r : Nat) (Q : AX → St → Prop) (s : St) (h : List Ob) : Option Ob → Prop
  | some (.loop key regs st pe) => st ≠ 1 ∧ peA Q { s with h := h.set r (.loop key regs 3 pe) } pe
  | _ => False

def kRf (X : CallH) (bs : List Nat) (key : Nat) (kp fs : List Nat) (Q : AX → St → Prop) (s : St) : V → Prop
  | .fn f cap => fs.contains f = true ∧ X f 0 bs (.yld s.h.length :: cap) (s.h ++ [.loop key (capR kp s.r) 0 none]) (fun _ h => rfEnd s.h.length Q s h h[s.h.length]?)
  | _ => False

def wpA (X : CallH) (bs : List Nat) : AC → (AX → St → Prop) → St → Prop
  | .skip, Q, s => Q .normal s
  | .reg l, Q, s => wpL X bs l (Q .normal) s
  | .seq a b, Q, s => wpA X bs a (thenA (wpA X bs b Q) Q) s
  | .cond c a b, Q, s => condA (wpA X bs a Q) (wpA X bs b Q) s (ev s.r c)
  | .block id b, Q, s => wpA X bs b (blockA id Q) s
  | .loop keep locs b, Q, s => lfpA (fun Y s => wpA X bs b (thenA Y Q) (forget keep locs s)) s
  | .rfunc g key kp fs, Q, s => kRf X bs key kp fs Q s (ev s.r g)
  | .exit id, Q, s => Q (.exit id) s
  | .ret, Q, s => Q .ret s

def resV (s : St) : List AR → Option (List V)
  | [] => some []
  | .t i :: rs => (resV s rs).map (s.r i :: ·)
  | .cell i n :: rs => (loadV s (s.r i) n).bind fun v => (resV s rs).map (v :: ·)

def oneOf : List V → V
  | [v] => v
  | vs => .tup vs

def endK (trunc : Bool) (n : Nat) (Q : V → List Ob → Prop) (h : List Ob) (v : V) : Prop :=
  match trunc with
  | true => v.under n = true ∧ Q v (h.take n)
  | false => Q v h

def finish (ownR trunc : Bool) (n : Nat) (Q : V → List Ob → Prop) (h : List Ob) (vs : List V) : Prop :=
  okVals vs = true ∧ endK trunc n Q h (if ownR = true then oneOf vs else (oneOf vs).demote)

def finO (ownR trunc : Bool) (n : Nat) (Q : V → List Ob → Prop) (h : List Ob) : Option (List V) → Prop
  | some vs => finish ownR trunc n Q h vs
  | none => False

def retK (res : List AR) (ownR trunc : Bool) (n : Nat) (Q : V → List Ob → Prop) : AX → St → Prop
  | .exit _, _ => False
  | .normal, s => finO ownR trunc n Q s.h (resV s res)
  | .ret, s => finO ownR trunc n Q s.h (resV s res)

/-- What is handed back as a value: rows that might be turned are left to no one. -/
inductive Frz (n : Nat) (h : List Ob) : V → V → Prop
  | same (v : V) : Frz n h v v
  | msl (r off len cap z : Nat) (cs xs : List V) (hr : n ≤ r) (hc : h[r]? = some (.box cs)) (hz : 0 < z) (hl : xs.length = len) (hb : off + len * z ≤ cs.length)
      (hx : ∀ (i : Nat) (x : V), xs[i]? = some x → Frz n h (oneV ((cs.drop (off + i * z)).take z)) x) : Frz n h (.msl r off len cap z) (.sl .frozen xs)
  | vec (r ver off len z z' : Nat) (cs xs : List V) (hr : n ≤ r) (hc : h[r]? = some (.vec ver z' cs)) (hz : 0 < z) (hl : xs.length = len) (hb : off + len * z ≤ cs.length)
      (hx : ∀ (i : Nat) (x : V), xs[i]? = some x → Frz n h (oneV ((cs.drop (off + i * z)).take z)) x) : Frz n h (.vec r ver off len z) (.sl .frozen xs)
  | sl (t : Tag) (xs ys : List V) (hl : ys.length = xs.length) (hx : ∀ (i : Nat) (x y : V), xs[i]? = some x → ys[i]? = some y → Frz n h x y) : Frz n h (.sl t xs) (.sl .frozen ys)
  | agg (cs ds : List V) (hl : ds.length = cs.length) (hx : ∀ (i : Nat) (x y : V), cs[i]? = some x → ds[i]? = some y → Frz n h x y) : Frz n h (.agg cs) (.agg ds)
  | tup (cs ds : List V) (hl : ds.length = cs.length) (hx : ∀ (i : Nat) (x y : V), cs[i]? = some x → ds[i]? = some y → Frz n h x y) : Frz n h (.tup cs) (.tup ds)

def finF (n : Nat) (Q : V → List Ob → Prop) (h : List Ob) : Option (List V) → Prop
  | some vs => okVals vs = true ∧ ∃ v, Frz n h (oneOf vs) v ∧ v.demote.under n = true ∧ Q v.demote (h.take n)
  | none => False

def retF (res : List AR) (n : Nat) (Q : V → List Ob → Prop) : AX → St → Prop
  | .exit _, _ => False
  | .normal, s => finF n Q s.h (resV s res)
  | .ret, s => finF n Q s.h (resV s res)

def startR (args : List V) : Nat → V := fun i => args.getD i .undef

def primK (Q : V → List Ob → Prop) (h : List Ob) : Option V → Prop
  | some v => Q v h
  | none => False

/-- A round's end. -/
def rndE (r st : Nat) (pe : Option (Option Nat)) (b : Bool) (Q : V → List Ob → Prop) (h : List Ob) : Option Ob → Prop
  | some (.loop key regs 1 none) => Q (.bool b) (h.set r (.loop key regs st pe))
  | _ => False

def rndP (r : Nat) (Q : V → List Ob → Prop) : AX → St → Prop
  | .normal, s => rndE r 0 none true Q s.h s.h[r]?
  | .ret, s => rndE r 2 (some none) false Q s.h s.h[r]?
  | .exit id, s => rndE r 2 (some (some id)) false Q s.h s.h[r]?

def asgP (k : St → Prop) : AX → St → Prop
  | .normal, s => k s
  | .exit _, _ => False
  | .ret, _ => False

def rndO (X : CallH) (r : Nat) (bs : List Nat) (bdy : AC) (Q : V → List Ob → Prop) (s : St) : Option Ob → Prop
  | some (.loop key regs 0 none) => wpA X bs bdy (rndP r Q) { s with h := s.h.set r (.loop key regs 1 none) }
  | _ => False

def rnd (X : CallH) (r : Nat) (bs : List Nat) (bdy : AC) (Q : V → List Ob → Prop) (s : St) : Prop := rndO X r bs bdy Q s s.h[r]?

def yldB (X : CallH) (r : Nat) (bs : List Nat) (args : List V) (h : List Ob) (Q : V → List Ob → Prop) (regs : List (Nat × V)) : Option Fd → Prop
  | some (.body ab) => args.length = ab.ps.length ∧ wpA X bs ab.asg (asgP (rnd X r bs ab.bdy Q)) { r := startB ab.ps args (regF regs), l := fun _ => none, h := h }
  | _ => False

def yldA (ap : AP) (X : CallH) (r : Nat) (bs : List Nat) (args : List V) (h : List Ob) (Q : V → List Ob → Prop) : Option Ob → Prop
  | some (.loop key regs 0 none) => yldB X r bs args h Q regs (ap key 77)
  | _ => False

def bodyA (ap : AP) (X : CallH) : CallH := fun f vr bs args h Q =>
  if vr = 1000001 then yldA ap X f bs args h Q h[f]? else
  match ap f vr with
  | some (.body _) => False
  | none => False
  | some (.prim p) => primK Q h (p args)
  | some (.codeF af) => args.length ≤ af.nt ∧ wpA X (h.length :: bs) af.body (retF af.res h.length Q) { r := startR args, l := fun _ => none, h := h }
  | some (.code af) => args.length ≤ af.nt ∧ wpA X (if af.trunc then h.length :: bs else bs) af.body (retK af.res af.ownR af.trunc h.length Q) { r := startR args, l := fun _ => none, h := h }

/-- What a call comes to: the least that is closed under bodies. -/
def CallA (ap : AP) : CallH := fun f vr bs args h Q =>
  ∀ X : CallH, (∀ f vr bs args h Q, bodyA ap X f vr bs args h Q → X f vr bs args h Q) → X f vr bs args h Q

section mono
variable {X X' : CallH} {bs : List Nat}

def HLe (X X' : CallH) : Prop := ∀ f vr bs args h (Q Q' : V → List Ob → Prop), (∀ v h, Q v h → Q' v h) → X f vr bs args h Q → X' f vr bs args h Q'

theorem wpOp_mono (hX : HLe X X') {d : Option Nat} {o : AOp} {s : St} {K K' : V → St → Prop} (hk : ∀ v s, K v s → K' v s) (h : wpOp X bs d o s K) : wpOp X' bs d o s K' := by
  have some_ : ∀ o, kSome K s o → kSome K' s o := fun o h => by cases o <;> simp only [kSome] at * <;> first | exact hk _ _ h | exact h
  have new_ : ∀ z hp, kNew z d K s hp → kNew z d K' s hp := fun z hp h => by
    cases hp <;> simp only [kNew] at *
    · cases d <;> simp only [kAlloc] at * <;> first | exact ⟨h.1, hk _ _ h.2⟩ | exact h
    · exact hk _ _ h
  have store_ : ∀ xs a, kStore bs xs K s a → kStore bs xs K' s a := fun xs a h => by
    unfold kStore at *
    split at h
    · unfold kLoc at *; split at h <;> first | exact ⟨h.1, hk _ _ h.2⟩ | exact h
    · unfold kBox at *; split at h <;> first | exact ⟨h.1, h.2.1, hk _ _ h.2.2⟩ | exact h
    · unfold kVec at *; split at h <;> first | exact ⟨h.1, h.2.1, h.2.2.1, hk _ _ h.2.2.2⟩ | exact h
    · exact h
  have app_ : ∀ sz x y, kApp sz K s x y → kApp sz K' s x y := fun sz x y h => by
    unfold kApp at *
    split at h
    · exact hk _ _ h
    · refine ⟨h.1, h.2.1, ?_⟩
      have h := h.2.2
      unfold kTag at *
      split at h
      · exact h
      · exact hk _ _ h
      · unfold kGrow at *; split at h <;> first | exact ⟨h.1, h.2.1, hk _ _ h.2.2⟩ | exact h
    · exact h
  cases o <;> simp only [wpOp] at h ⊢
  case mov => exact hk _ _ h
  case pick => unfold kPick at *; split at h <;> first | exact hk _ _ h | exact h
  case alloc => exact new_ _ _ h
  case box => exact ⟨h.1, h.2.1, new_ _ _ h.2.2⟩
  case store => exact ⟨h.1, h.2.1, store_ _ _ h.2.2⟩
  case storeL => exact ⟨h.1, h.2.1, h.2.2.1, store_ _ _ h.2.2.2⟩
  case loadX => exact ⟨h.1, some_ _ h.2⟩
  case storeX => exact ⟨h.1, h.2.1, h.2.2.1, store_ _ _ h.2.2.2⟩
  case nilck => unfold kNil at *; split at h <;> first | exact hk _ _ h | exact h
  case eqnil => unfold kBool at *; split at h <;> first | exact hk _ _ h | exact h
  case nilsl => unfold kNilS at *; split at h <;> first | exact ⟨hk _ _ h.1, hk _ _ h.2⟩ | exact hk _ _ h | exact h
  case mkif => exact ⟨h.1, hk _ _ h.2⟩
  case mkfn => exact ⟨h.1, hk _ _ h.2⟩
  case mkmet => exact ⟨h.1, hk _ _ h.2⟩
  case mkmap => exact hk _ _ h
  case fbox => exact ⟨h.1, h.2.1, hk _ _ h.2.2⟩
  case mkarr => unfold kMakeM at *; split at h <;> first | exact ⟨h.1, h.2.1, h.2.2.1, hk _ _ h.2.2.2⟩ | exact h
  case mkslice => unfold kMake at *; split at h <;> first | exact ⟨h.1, h.2.1, h.2.2.1, hk _ _ h.2.2.2⟩ | exact h
  case mapset =>
    refine ⟨h.1, h.2.1, ?_⟩
    have h := h.2.2
    unfold kSet at *
    split at h
    · unfold kSet1 at *
      split at h
      · unfold kSet2 at *; split at h <;> first | exact ⟨h.1, hk _ _ h.2⟩ | exact h
      · exact h
    · exact h
  case gload => exact hk _ _ h
  case range =>
    unfold kRange at *
    split at h
    · exact hk _ _ h
    · unfold kRange1 at *; split at h <;> first | exact hk _ _ h | exact h
    · exact h
  case next =>
    unfold kNext at *
    split at h
    · unfold kNext1 at *
      split at h
      · exact hk _ _ h
      · unfold kNext2 at *
        split at h
        · exact ⟨h.1, h.2.1, h.2.2.1, fun g => hk _ _ (h.2.2.2.1 g), fun i k v b g1 g2 g3 => hk _ _ (h.2.2.2.2 i k v b g1 g2 g3)⟩
        · exact h
      · exact h
    · exact h
  case delete =>
    refine ⟨h.1, ?_⟩
    have h := h.2
    unfold kDel at *
    split at h
    · exact hk _ _ h
    · unfold kDel1 at *
      split at h
      · unfold kDel2 at *; split at h <;> first | exact hk _ _ h | exact h
      · exact h
    · exact h
  case call =>
    refine ⟨h.1, ?_⟩
    have h := h.2
    unfold kCall at *
    split at h
    · exact hX _ _ _ _ _ _ _ (fun _ _ h => hk _ _ h) h
    · exact hX _ _ _ _ _ _ _ (fun _ _ h => hk _ _ h) h
    · exact hX _ _ _ _ _ _ _ (fun _ _ h => hk _ _ h) h
    · exact h
  case callK =>
    refine ⟨h.1, ?_⟩
    have h := h.2
    unfold kCall at *
    split at h
    · exact hX _ _ _ _ _ _ _ (fun _ _ h => ⟨h.1, hk _ _ h.2⟩) h
    · exact hX _ _ _ _ _ _ _ (fun _ _ h => ⟨h.1, hk _ _ h.2⟩) h
    · exact hX _ _ _ _ _ _ _ (fun _ _ h => ⟨h.1, hk _ _ h.2⟩) h
    · exact h
  case append => exact app_ _ _ _ h
  case appE => exact ⟨h.1, h.2.1, app_ _ _ _ h.2.2⟩
  case bslV => unfold kBslV at *; split at h <;> first | exact hk _ _ h | exact h
  case mkvec => unfold kMakeV at *; split at h <;> first | exact ⟨h.1, h.2.1, h.2.2.1, hk _ _ h.2.2.2⟩ | exact h
  case appV =>
    unfold kAppV at *
    split at h
    · exact hk _ _ h
    · exact ⟨h.1, h.2.1, hk _ _ h.2.2⟩
    · exact hk _ _ h
    · refine ⟨h.1, h.2.1, h.2.2.1, ?_⟩
      have h := h.2.2.2
      unfold kAppV1 at *
      split at h
      · exact ⟨h.1, h.2.1, h.2.2.1, h.2.2.2.1, hk _ _ h.2.2.2.2⟩
      · exact h
    · exact h
  case copyM =>
    unfold kCopyM at *
    split at h
    · exact hk _ _ h
    · refine ⟨h.1, h.2.1, h.2.2.1, ?_⟩
      have h := h.2.2.2
      unfold kBox at *; split at h <;> first | exact ⟨h.1, h.2.1, hk _ _ h.2.2⟩ | exact h
    · refine ⟨h.1, h.2.1, h.2.2.1, ?_⟩
      have h := h.2.2.2
      unfold kVec at *; split at h <;> first | exact ⟨h.1, h.2.1, h.2.2.1, hk _ _ h.2.2.2⟩ | exact h
    · exact h
  case clearM =>
    unfold kClearM at *
    split at h
    · exact hk _ _ h
    · refine ⟨h.1, ?_⟩
      have h := h.2
      unfold kBox at *; split at h <;> first | exact ⟨h.1, h.2.1, hk _ _ h.2.2⟩ | exact h
    · refine ⟨h.1, ?_⟩
      have h := h.2
      unfold kVec at *; split at h <;> first | exact ⟨h.1, h.2.1, h.2.2.1, hk _ _ h.2.2.2⟩ | exact h
    · exact h
  case bslM => unfold kBslM at *; split at h <;> first | exact hk _ _ h | exact h
  case appm =>
    unfold kAppm at *
    split at h
    · exact hk _ _ h
    · refine ⟨h.1, h.2.1, ?_⟩
      have h := h.2.2
      unfold kAppn at *
      split at h
      · exact hk _ _ h
      · exact fun c g1 => hk _ _ (h c g1)
    · refine ⟨h.1, h.2.1, h.2.2.1, h.2.2.2.1, ?_⟩
      have h := h.2.2.2.2
      unfold kAppm1 at *
      split at h
      · split at h
        · rename_i hc
          rw [if_pos hc]
          exact ⟨h.1, h.2.1, hk _ _ h.2.2⟩
        · rename_i hc
          rw [if_neg hc]
          exact ⟨h.1, h.2.1, fun c g1 => hk _ _ (h.2.2 c g1)⟩
      · exact h
    · exact h
  all_goals exact some_ _ h

theorem wpL_mono (hX : HLe X X') : ∀ {l : List Ins} {K K' : St → Prop} {s : St}, (∀ s, K s → K' s) → wpL X bs l K s → wpL X' bs l K' s := by
  intro l
  induction l with
  | nil => intro K K' s hk h; simp only [wpL] at *; exact hk _ h
  | cons i is ih =>
    intro K K' s hk h
    simp only [wpL] at *
    split at h
    · exact wpOp_mono hX (fun v s h => by simp only [contL] at *; exact ih hk h) h
    · generalize s.r _ = v at h
      unfold guardL at *
      split at h
      · exact ⟨fun e => wpOp_mono hX (fun v s h => by simp only [contL] at *; exact ih hk h) (h.1 e), fun e => ih hk (h.2 e)⟩
      · exact ih hk h
      · exact h

theorem kRf_mono (hX : HLe X X') {key : Nat} {kp fs : List Nat} {Q Q' : AX → St → Prop} {s : St} {v : V} (hq : ∀ e s, Q e s → Q' e s) (h : kRf X bs key kp fs Q s v) : kRf X' bs key kp fs Q' s v := by
  unfold kRf at *
  split at h
  · refine ⟨h.1, hX _ _ _ _ _ _ _ (fun _ h' h => ?_) h.2⟩
    unfold rfEnd at *
    split at h
    · refine ⟨h.1, ?_⟩
      have h := h.2
      unfold peA at *
      split at h <;> exact hq _ _ h
    · exact h
  · exact h

theorem wpA_mono (hX : HLe X X') : ∀ {c : AC} {Q Q' : AX → St → Prop} {s : St}, (∀ e s, Q e s → Q' e s) → wpA X bs c Q s → wpA X' bs c Q' s := by
  intro c
  induction c with
  | skip => intro Q Q' s hq h; simp only [wpA] at *; exact hq _ _ h
  | reg l => intro Q Q' s hq h; simp only [wpA] at *; exact wpL_mono hX (hq _) h
  | seq a b iha ihb =>
    intro Q Q' s hq h
    simp only [wpA] at *
    refine iha (fun e s h => ?_) h
    cases e <;> simp only [thenA] at * <;> first | exact ihb hq h | exact hq _ _ h
  | cond c a b iha ihb =>
    intro Q Q' s hq h
    simp only [wpA] at *
    generalize ev s.r c = v at h
    unfold condA at *
    split at h
    · exact ⟨fun e => iha hq (h.1 e), fun e => ihb hq (h.2 e)⟩
    · exact h
  | block id b ih =>
    intro Q Q' s hq h
    simp only [wpA] at *
    refine ih (fun e s h => ?_) h
    cases e <;> simp only [blockA] at *
    · exact hq _ _ h
    · split at h
      · rw [if_pos ‹_›]; exact hq _ _ h
      · rw [if_neg ‹_›]; exact hq _ _ h
    · exact hq _ _ h
  | loop keep locs b ih =>
    intro Q Q' s hq h
    simp only [wpA, lfpA] at *
    intro Y hY
    refine h Y fun s h => hY s (ih (fun e s h => ?_) h)
    cases e <;> simp only [thenA] at * <;> first | exact h | exact hq _ _ h
  | rfunc g key kp fs => intro Q Q' s hq h; simp only [wpA] at *; exact kRf_mono hX hq h
  | exit id => intro Q Q' s hq h; simp only [wpA] at *; exact hq _ _ h
  | ret => intro Q Q' s hq h; simp only [wpA] at *; exact hq _ _ h

theorem finish_mono {ownR trunc : Bool} {n : Nat} {Q Q' : V → List Ob → Prop} {h : List Ob} {vs : List V} (hq : ∀ v h, Q v h → Q' v h) (hf : finish ownR trunc n Q h vs) : finish ownR trunc n Q' h vs := by
  unfold finish endK at *
  refine ⟨hf.1, ?_⟩
  have h2 := hf.2
  cases trunc
  · exact hq _ _ h2
  · exact ⟨h2.1, hq _ _ h2.2⟩

theorem retK_mono {res : List AR} {ownR trunc : Bool} {n : Nat} {Q Q' : V → List Ob → Prop} (hq : ∀ v h, Q v h → Q' v h) : ∀ e s, retK res ownR trunc n Q e s → retK res ownR trunc n Q' e s := by
  intro e s h
  have fin : ∀ o, finO ownR trunc n Q s.h o → finO ownR trunc n Q' s.h o := fun o h => by cases o <;> simp only [finO] at * <;> first | exact h | exact finish_mono hq h
  cases e <;> simp only [retK] at * <;> first | exact h | exact fin _ h

theorem retF_mono {res : List AR} {n : Nat} {Q Q' : V → List Ob → Prop} (hq : ∀ v h, Q v h → Q' v h) : ∀ e s, retF res n Q e s → retF res n Q' e s := by
  intro e s h
  have fin : ∀ o, finF n Q s.h o → finF n Q' s.h o := fun o h => by
    cases o <;> simp only [finF] at *
    obtain ⟨h1, v, h2, h3, h4⟩ := h
    exact ⟨h1, v, h2, h3, hq _ _ h4⟩
  cases e <;> simp only [retF] at * <;> first | exact h | exact fin _ h

theorem yldA_mono {ap : AP} (hX : HLe X X') {r : Nat} {args : List V} {h : List Ob} {Q Q' : V → List Ob → Prop} {o : Option Ob} (hq : ∀ v h, Q v h → Q' v h)
    (hb : yldA ap X r bs args h Q o) : yldA ap X' r bs args h Q' o := by
  unfold yldA at *
  split at hb
  · unfold yldB at *
    split at hb
    · refine ⟨hb.1, wpA_mono hX (fun e s h => ?_) hb.2⟩
      cases e <;> simp only [asgP] at * <;> first | exact h | skip
      unfold rnd rndO at *
      split at h
      · refine wpA_mono hX (fun e s h => ?_) h
        cases e <;> simp only [rndP] at * <;> unfold rndE at * <;> split at h <;> first | exact hq _ _ h | exact h
      · exact h
    · exact hb
  · exact hb

theorem bodyA_mono {ap : AP} (hX : HLe X X') {f vr : Nat} {args : List V} {h : List Ob} {Q Q' : V → List Ob → Prop} (hq : ∀ v h, Q v h → Q' v h)
    (hb : bodyA ap X f vr bs args h Q) : bodyA ap X' f vr bs args h Q' := by
  unfold bodyA at *
  split at hb
  · rename_i hv
    rw [if_pos hv]
    exact yldA_mono hX hq hb
  rename_i hv
  rw [if_neg hv]
  split at hb
  · exact hb
  · exact hb
  · unfold primK at *; split at hb <;> first | exact hq _ _ hb | exact hb
  · exact ⟨hb.1, wpA_mono hX (retF_mono hq) hb.2⟩
  · exact ⟨hb.1, wpA_mono hX (retK_mono hq) hb.2⟩
end mono

theorem CallA.mono {ap : AP} {f vr : Nat} {bs : List Nat} {args : List V} {h : List Ob} {Q Q' : V → List Ob → Prop} (hc : CallA ap f vr bs args h Q)
    (hq : ∀ v h, Q v h → Q' v h) : CallA ap f vr bs args h Q' := by
  refine hc (fun f vr bs args h Q => ∀ Q' : V → List Ob → Prop, (∀ v h, Q v h → Q' v h) → CallA ap f vr bs args h Q') ?_ Q' hq
  intro f vr bs args h Q hb Q' hq X hX
  refine hX _ _ _ _ _ _ (bodyA_mono ?_ hq hb)
  intro f vr bs args h Q Q' hq hx
  exact hx Q' hq X hX

theorem CallA.hle (ap : AP) : HLe (CallA ap) (CallA ap) := fun _ _ _ _ _ _ _ hq hc => hc.mono hq

theorem CallA.intro {ap : AP} {f vr : Nat} {bs : List Nat} {args : List V} {h : List Ob} {Q : V → List Ob → Prop} (hb : bodyA ap (CallA ap) f vr bs args h Q) :
    CallA ap f vr bs args h Q := by
  intro X hX
  refine hX _ _ _ _ _ _ (bodyA_mono ?_ (fun _ _ h => h) hb)
  intro f vr bs args h Q Q' hq hc
  exact (hc.mono hq) X hX

theorem CallA.code {ap : AP} {f vr : Nat} {af : AF} (hf : ap f vr = some (.code af)) {bs : List Nat} {args : List V} {h : List Ob} {Q : V → List Ob → Prop} (hn : args.length ≤ af.nt)
    (hb : wpA (CallA ap) (if af.trunc then h.length :: bs else bs) af.body (retK af.res af.ownR af.trunc h.length Q) { r := startR args, l := fun _ => none, h := h }) (hv : vr ≠ 1000001 := by decide) : CallA ap f vr bs args h Q := by
  refine CallA.intro ?_
  unfold bodyA
  rw [if_neg hv, hf]
  exact ⟨hn, hb⟩

theorem CallA.codeF {ap : AP} {f vr : Nat} {af : AF} (hf : ap f vr = some (.codeF af)) {bs : List Nat} {args : List V} {h : List Ob} {Q : V → List Ob → Prop} (hn : args.length ≤ af.nt)
    (hb : wpA (CallA ap) (h.length :: bs) af.body (retF af.res h.length Q) { r := startR args, l := fun _ => none, h := h }) (hv : vr ≠ 1000001 := by decide) : CallA ap f vr bs args h Q := by
  refine CallA.intro ?_
  unfold bodyA
  rw [if_neg hv, hf]
  exact ⟨hn, hb⟩

theorem CallA.prim {ap : AP} {f vr : Nat} {p : List V → Option V} (hf : ap f vr = some (.prim p)) {bs : List Nat} {args : List V} {h : List Ob} {Q : V → List Ob → Prop} {v : V}
    (hp : p args = some v) (hq : Q v h) (hv : vr ≠ 1000001 := by decide) : CallA ap f vr bs args h Q := by
  refine CallA.intro ?_
  unfold bodyA
  rw [if_neg hv, hf]
  simp only [hp, primK]
  exact hq

/-- A round. -/
theorem CallA.yld {ap : AP} {r : Nat} {bs : List Nat} {args : List V} {h : List Ob} {Q : V → List Ob → Prop} {key : Nat} {regs : List (Nat × V)} {ab : AB} (ho : h[r]? = some (.loop key regs 0 none)) (hf : ap key 77 = some (.body ab)) (hn : args.length = ab.ps.length)
    (hb : wpA (CallA ap) bs ab.asg (asgP (rnd (CallA ap) r bs ab.bdy Q)) { r := startB ab.ps args (regF regs), l := fun _ => none, h := h }) : CallA ap r 1000001 bs args h Q := by
  refine CallA.intro ?_
  unfold bodyA
  rw [if_pos rfl, ho]
  simp only [yldA, hf, yldB]
  exact ⟨hn, hb⟩

/-- A loop: its round, behind which it stands again. -/
theorem wpA_loop {X : CallH} {bs : List Nat} (hX : HLe X X) {keep locs : List Nat} {b : AC} {Q : AX → St → Prop} {s : St}
    (h : wpA X bs b (thenA (wpA X bs (.loop keep locs b) Q) Q) (forget keep locs s)) : wpA X bs (.loop keep locs b) Q s := by
  simp only [wpA, lfpA]
  intro Y hY
  refine hY s (wpA_mono hX ?_ h)
  intro e s h
  cases e <;> simp only [thenA] at *
  · simp only [wpA, lfpA] at h; exact h Y hY
  · exact h
  · exact h

end Go.Am
