/- The abstract machine's state against an activation's; what stays when it goes on. -/
import Derived.Test.YtkcpkckaahmheaaDoorAmR
import GoSem.ClaimData
namespace Go.Am

structure MapRel (γ : Gh) (w : World) (es : List (V × V)) (bo : List Nat) (ents : Array MapEntry) : Prop where
  size : ents.size = es.length
  rel : ∀ (i : Nat) (x : V × V) (e : MapEntry), es[i]? = some x → ents[i]? = some e → RelV γ w x.1 e.key ∧ (∃ kk, isKey kk x.1 = true) ∧ RelV γ w x.2 e.val ∧ x.2.isLoc = false
  len : bo.length = es.length
  born : ∀ (i : Nat) (e : MapEntry), ents[i]? = some e → bo[i]? = some e.born

/-- A loop's state, its jump. -/
def stOf : Nat → LoopState
  | 0 => .ready
  | 1 => .busy
  | 2 => .done
  | _ => .exhausted
def peOf : Option (Option Nat) → Option Code
  | none => none
  | some none => some .ret
  | some (some id) => some (.exit id)

/-- A range over a function: its record. -/
structure LoopRel (γ : Gh) (w : World) (key : Nat) (regs : List (Nat × V)) (st : Nat) (pe : Option (Option Nat)) (lp : Loop) : Prop where
  code : γ.bd key = some (lp.params, lp.assign, lp.body, lp.tmps.size)
  st : lp.state = stOf st
  pe : lp.pending = peOf pe
  regs : ∀ x ∈ regs, x.2 = .undef ∨ RelV γ w x.2 (lp.tmps.getD x.1 undef)

def Ob.isLoop : Ob → Bool
  | .loop _ _ _ _ => true
  | _ => false

def ObRel (γ : Gh) (w : World) (r : Nat) : Ob → Prop
  | .box cs => γ.kd r = false ∧ γ.prot (γ.rho r) = 0 ∧ ∃ arr e, w.heap[γ.rho r]? = some (.cells arr e (0, 0)) ∧ PreRel γ w cs arr
  | .fam k z => γ.kd r = true ∧ γ.ff r = k ∧ 0 < z ∧ k ≤ γ.fc r ∧ γ.fc r ≤ maxLen ∧ γ.prot (γ.rho r) = k * z ∧ ∃ arr e, w.heap[γ.rho r]? = some (.cells arr e (0, 0)) ∧ arr.size = γ.fc r * z
  | .vec ver z cs => γ.kd r = true ∧ γ.ff r = ver ∧ 0 < z ∧ γ.fc r ≤ maxLen ∧ γ.prot (γ.rho r) = 0 ∧ ∃ arr e, w.heap[γ.rho r]? = some (.cells arr e (0, 0)) ∧ arr.size = γ.fc r * z ∧ PreRel γ w cs arr
  | .map es bo ck => γ.kd r = false ∧ γ.prot (γ.rho r) = 0 ∧ ∃ ents, w.heap[γ.rho r]? = some (.map ents ck) ∧ MapRel γ w es bo ents
  | .iter m since seen last => γ.kd r = false ∧ γ.prot (γ.rho r) = 0 ∧ (∀ q, m = some q → q < γ.n ∧ γ.kd q = false) ∧ w.heap[γ.rho r]? = some (.mapIter (m.map γ.rho) since seen.toArray last)
  | .loop key regs st pe => γ.kd r = false ∧ γ.prot (γ.rho r) = 0 ∧ ∃ lp, w.heap[γ.rho r]? = some (.loop lp) ∧ LoopRel γ w key regs st pe lp

structure HRel (γ : Gh) (w : World) (h : List Ob) : Prop where
  n : γ.n = h.length
  inj : ∀ r r', r < γ.n → r' < γ.n → γ.rho r = γ.rho r' → r = r'
  obj : ∀ r o, h[r]? = some o → ObRel γ w r o
  far : ∀ b, w.heap.size ≤ b → γ.prot b = 0

structure LRel (γ : Gh) (w : World) (lam : Nat → Nat) (l : Nat → Option (List V)) : Prop where
  blk : ∀ d cs, l d = some cs → γ.prot (lam d) = 0 ∧ (∀ r, r < γ.n → γ.rho r ≠ lam d) ∧ ∃ arr e, w.heap[lam d]? = some (.cells arr e (0, 0)) ∧ CellsRel γ w cs arr
  inj : ∀ d d', l d ≠ none → l d' ≠ none → lam d = lam d' → d = d'

def RelR (γ : Gh) (w : World) (lam : Nat → Nat) (l : Nat → Option (List V)) (v : V) (c : Value) : Prop :=
  v = .undef ∨ (∃ d off, v = .loc d off ∧ l d ≠ none ∧ c = .pointer (some ⟨lam d, off, none⟩)) ∨ RelV γ w v c

structure Ev (γ : Gh) (w : World) (γ' : Gh) (w' : World) : Prop where
  le : Le γ w γ' w'
  old : ∀ r, r < γ.n → γ'.rho r = γ.rho r ∨ w.heap.size ≤ γ'.rho r
  new : ∀ r, γ.n ≤ r → r < γ'.n → w.heap.size ≤ γ'.rho r
  size : w.heap.size ≤ w'.heap.size
  heap : ∀ b, b < w.heap.size → (∀ r, r < γ.n → γ.rho r ≠ b) → w'.heap[b]? = w.heap[b]? ∧ γ'.prot b = γ.prot b
  os : w'.os = w.os
  tape : w'.tape = w.tape
  out : w'.output = w.output
  lps : ∀ (b : Nat) (lp : Loop), w.heap[b]? = some (.loop lp) → ∃ lp', w'.heap[b]? = some (.loop lp')

theorem Le.refl (γ : Gh) (w : World) : Le γ w γ w :=
  ⟨Nat.le_refl _, fun _ _ => rfl, fun _ _ _ => rfl, fun _ _ _ => ⟨Nat.le_refl _, fun _ => ⟨rfl, rfl⟩⟩, fun _ => Nat.le_refl _, fun _ _ _ => rfl, rfl, rfl⟩

theorem Le.trans {γ γ₁ γ₂ : Gh} {w w₁ w₂ : World} (h : Le γ w γ₁ w₁) (k : Le γ₁ w₁ γ₂ w₂) : Le γ w γ₂ w₂ where
  n := Nat.le_trans h.n k.n
  kd r hr := (k.kd r (Nat.lt_of_lt_of_le hr h.n)).trans (h.kd r hr)
  box r hr hk := (k.box r (Nat.lt_of_lt_of_le hr h.n) ((h.kd r hr).trans hk)).trans (h.box r hr hk)
  fam r hr hk := by
    obtain ⟨a1, a2⟩ := h.fam r hr hk
    obtain ⟨b1, b2⟩ := k.fam r (Nat.lt_of_lt_of_le hr h.n) ((h.kd r hr).trans hk)
    refine ⟨Nat.le_trans a1 b1, fun e => ?_⟩
    have e1 : γ₁.ff r = γ.ff r := by omega
    have e2 : γ₂.ff r = γ₁.ff r := by omega
    exact ⟨(b2 e2).1.trans (a2 e1).1, (b2 e2).2.trans (a2 e1).2⟩
  prot b := Nat.le_trans (h.prot b) (k.prot b)
  cells b o ho := (k.cells b o (Nat.lt_of_lt_of_le ho (h.prot b))).trans (h.cells b o ho)
  tk := k.tk.trans h.tk
  bd := k.bd.trans h.bd

theorem Ev.refl (γ : Gh) (w : World) : Ev γ w γ w :=
  ⟨Le.refl γ w, fun _ _ => .inl rfl, fun r h1 h2 => by omega, Nat.le_refl _, fun _ _ _ => ⟨rfl, rfl⟩, rfl, rfl, rfl, fun _ lp h => ⟨lp, h⟩⟩

theorem Ev.apart {γ γ' : Gh} {w w' : World} (h : Ev γ w γ' w') {b : Nat} (hb : b < w.heap.size) (hr : ∀ r, r < γ.n → γ.rho r ≠ b) : ∀ r, r < γ'.n → γ'.rho r ≠ b := by
  intro r hr' e
  rcases Nat.lt_or_ge r γ.n with hlt | hge
  · rcases h.old r hlt with h1 | h1
    · exact hr r hlt (h1 ▸ e)
    · omega
  · have := h.new r hge hr'
    omega

theorem Ev.trans {γ γ₁ γ₂ : Gh} {w w₁ w₂ : World} (h : Ev γ w γ₁ w₁) (k : Ev γ₁ w₁ γ₂ w₂) : Ev γ w γ₂ w₂ where
  le := h.le.trans k.le
  old r hr := by
    rcases k.old r (Nat.lt_of_lt_of_le hr h.le.n) with h1 | h1
    · rcases h.old r hr with h2 | h2
      · exact .inl (h1.trans h2)
      · exact .inr (h1 ▸ h2)
    · exact .inr (Nat.le_trans h.size h1)
  new r hr hr' := by
    rcases Nat.lt_or_ge r γ₁.n with hlt | hge
    · have h0 := h.new r hr hlt
      rcases k.old r hlt with h1 | h1
      · exact h1 ▸ h0
      · exact Nat.le_trans h.size h1
    · exact Nat.le_trans h.size (k.new r hge hr')
  size := Nat.le_trans h.size k.size
  heap b hb hr := by
    obtain ⟨a1, a2⟩ := h.heap b hb hr
    obtain ⟨b1, b2⟩ := k.heap b (Nat.lt_of_lt_of_le hb h.size) (h.apart hb hr)
    exact ⟨b1.trans a1, b2.trans a2⟩
  os := k.os.trans h.os
  tape := k.tape.trans h.tape
  out := k.out.trans h.out
  lps b lp hb := by
    obtain ⟨lp', h1⟩ := h.lps b lp hb
    exact k.lps b lp' h1

def obUnder (b : Nat) : Ob → Bool
  | .box cs => underL b cs
  | .fam _ _ => true
  | .vec _ _ cs => underL b cs
  | .map es _ _ => es.all fun e => e.2.under b
  | .iter m _ _ _ => match m with
    | some q => decide (q < b)
    | none => true
  | .loop _ regs _ _ => regs.all fun x => x.2.under b

def LowOk (bs : List Nat) (h : List Ob) : Prop := ∀ b ∈ bs, b ≤ h.length ∧ ∀ r o, r < b → h[r]? = some o → obUnder b o = true

/-- What an activation began with. -/
structure Start where
  g : Gh
  w : World
  bs : List Nat
  nt : Nat
  ro : Option Nat := none

/-- The marks of ranges over functions among an activation's deferred calls: their blocks hold none. -/
def MarksOk (n : Nat) (w : World) (ds : List Deferred) : Prop :=
  ds.Nodup ∧ ∀ d ∈ ds, ∃ r, d = { target := .collected r, args := #[] } ∧ n ≤ r ∧ w.heap[r]? = some (.deferred (some []))

theorem MarksOk.keep {n : Nat} {w w' : World} {ds : List Deferred} (h : MarksOk n w ds) (hk : ∀ b, n ≤ b → w.heap[b]? = some (.deferred (some [])) → w'.heap[b]? = w.heap[b]?) : MarksOk n w' ds :=
  ⟨h.1, fun d hd => by
    obtain ⟨r, h1, h2, h3⟩ := h.2 d hd
    exact ⟨r, h1, h2, (hk r h2 h3).trans h3⟩⟩

structure SRel (z : Start) (γ : Gh) (w : World) (lam : Nat → Nat) (s : St) (a : Act) : Prop where
  heap : HRel γ w s.h
  loc : LRel γ w lam s.l
  reg : ∀ i, RelR γ w lam s.l (s.r i) (a.tmps.getD i undef)
  marks : MarksOk z.w.heap.size w a.defers
  rnd : ∀ l, z.ro = some l → ∃ lp, w.heap[l]? = some (.loop lp)
  size : a.tmps.size = z.nt
  ev : Ev z.g z.w γ w
  lnew : ∀ d, s.l d ≠ none → z.w.heap.size ≤ lam d
  low : LowOk z.bs s.h

section
variable {γ γ' : Gh} {w w' : World} {lam : Nat → Nat} {l : Nat → Option (List V)}

theorem RelR.val {v : V} {c : Value} (h : RelR γ w lam l v c) (hl : v ≠ .undef) (hl' : ∀ d o, v ≠ .loc d o) : RelV γ w v c := by
  rcases h with h | ⟨d, o, h, _⟩ | h
  · exact absurd h hl
  · exact absurd h (hl' d o)
  · exact h

theorem RelR.ok {v : V} {c : Value} (h : RelR γ w lam l v c) (hl : v.isLoc = false) : RelV γ w v c :=
  h.val (fun e => by subst e; simp [V.isLoc] at hl) (fun d o e => by subst e; simp [V.isLoc] at hl)

theorem RelR.mono (hle : Le γ w γ' w') {v : V} {c : Value} (h : RelR γ w lam l v c) : RelR γ' w' lam l v c := by
  rcases h with h | h | h
  · exact .inl h
  · exact .inr (.inl h)
  · exact .inr (.inr (h.mono hle))

theorem MapRel.mono (hle : Le γ w γ' w') {es : List (V × V)} {bo : List Nat} {ents : Array MapEntry} (h : MapRel γ w es bo ents) : MapRel γ' w' es bo ents :=
  ⟨h.size, fun i x e hx he => by obtain ⟨a, b, c, d⟩ := h.rel i x e hx he; exact ⟨a.mono hle, b, c.mono hle, d⟩, h.len, h.born⟩

/-- What an activation's own variables hold stays, when something else goes on. -/
theorem LRel.ev (h : LRel γ w lam l) (he : Ev γ w γ' w') : LRel γ' w' lam l := by
  refine ⟨fun d cs hd => ?_, h.inj⟩
  obtain ⟨h1, h2, arr, e, h3, h4⟩ := h.blk d cs hd
  have hb : lam d < w.heap.size := by
    rcases Nat.lt_or_ge (lam d) w.heap.size with hlt | hge
    · exact hlt
    · rw [Array.getElem?_eq_none hge] at h3; cases h3
  obtain ⟨e1, e2⟩ := he.heap _ hb h2
  exact ⟨e2.trans h1, he.apart hb h2, arr, e, e1.trans h3, h4.mono he.le⟩

theorem HRel.apart {h : List Ob} (hh : HRel γ w h) {b : Nat} {x : Option (List Deferred)} (hb : w.heap[b]? = some (.deferred x)) : ∀ r, r < γ.n → γ.rho r ≠ b := by
  intro r hr e
  have hr' : r < h.length := hh.n ▸ hr
  have ho := hh.obj r _ (List.getElem?_eq_getElem hr')
  generalize h[r] = o at ho
  cases o with
  | box cs => obtain ⟨_, _, arr, t, h1, _⟩ := ho; rw [e, hb] at h1; cases h1
  | fam k z => obtain ⟨_, _, _, _, _, _, arr, t, h1, _⟩ := ho; rw [e, hb] at h1; cases h1
  | vec ver z cs => obtain ⟨_, _, _, _, _, arr, t, h1, _⟩ := ho; rw [e, hb] at h1; cases h1
  | map es bo ck => obtain ⟨_, _, ents, h1, _⟩ := ho; rw [e, hb] at h1; cases h1
  | iter m since seen last => obtain ⟨_, _, _, h1⟩ := ho; rw [e, hb] at h1; cases h1
  | loop key regs st pe => obtain ⟨_, _, lp, h1, _⟩ := ho; rw [e, hb] at h1; cases h1

theorem MarksOk.ev {n : Nat} {h : List Ob} {ds : List Deferred} (hm : MarksOk n w ds) (hh : HRel γ w h) (he : Ev γ w γ' w') : MarksOk n w' ds :=
  hm.keep fun b _ hb => (he.heap b (Array.getElem?_eq_some_iff.1 hb).1 (hh.apart hb)).1

theorem SRel.after {z : Start} {s : St} {a : Act} (h : SRel z γ w lam s a) (he : Ev γ w γ' w') {hp : List Ob} (hh : HRel γ' w' hp) (hlow : LowOk z.bs hp) :
    SRel z γ' w' lam { s with h := hp } a where
  heap := hh
  loc := h.loc.ev he
  reg i := (h.reg i).mono he.le
  marks := h.marks.ev h.heap he
  rnd l hl := by
    obtain ⟨lp, h1⟩ := h.rnd l hl
    exact he.lps l lp h1
  size := h.size
  ev := h.ev.trans he
  lnew := h.lnew
  low := hlow

theorem SRel.put {z : Start} {s : St} {a : Act} (h : SRel z γ w lam s a) {d : Option Nat} (hd : ∀ i, d = some i → i < z.nt) {v : V} {c : Value} (hv : RelR γ w lam s.l v c) :
    SRel z γ w lam (putD s d v) (a.put d c) := by
  cases d with
  | none => exact h
  | some d =>
    have hlt : d < a.tmps.size := h.size ▸ hd d rfl
    refine ⟨h.heap, h.loc, fun i => ?_, h.marks, h.rnd, ?_, h.ev, h.lnew, h.low⟩
    · by_cases e : i = d
      · subst e
        have e1 : (a.put (some i) c).tmps.getD i undef = c := by simp [Act.put, Array.getD, hlt]
        rw [e1]
        simpa [putD, Am.put] using hv
      · have := h.reg i
        have e1 : (a.put (some d) c).tmps.getD i undef = a.tmps.getD i undef := by
          simp only [Act.put, Array.getD_eq_getD_getElem?]
          rw [Array.getElem?_setIfInBounds_ne (Ne.symm e)]
        rw [e1]
        simpa [putD, Am.put, e] using this
    · simpa [Act.put] using h.size
end
end Go.Am
