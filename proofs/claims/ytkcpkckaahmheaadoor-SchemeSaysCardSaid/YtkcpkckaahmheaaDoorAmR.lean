/- The abstract machine against the memory: when a value stands for a tree, a heap for the abstract one. -/
import Derived.Test.YtkcpkckaahmheaaDoorAmP
import Derived.Calls
import Derived.Laws.Sem
import Derived.Laws.World
import Derived.Laws.Cells
import Derived.Laws.Rows
namespace Go.Am

/-- What is known of the memory beside it: how many objects are alive; how much of a block's head no one turns any more; where objects lie; how long a family is, and its room. -/
structure Gh where
  n : Nat
  prot : Nat → Nat
  rho : Nat → Nat
  kd : Nat → Bool
  ff : Nat → Nat
  fc : Nat → Nat
  tk : Nat → Addr
  bd : Nat → Option (Array Tmp × Code × Code × Nat)

def CellsAt (γ : Gh) (w : World) (b o : Nat) (c : Array Value) : Prop :=
  ∀ (j : Nat) (u : Value), c[j]? = some u → o + j < γ.prot b ∧ w.cell? ⟨b, o + j, none⟩ = some u

def TagOk (γ : Gh) (t : Tag) (a : Option Addr) (len cap : Nat) : Prop :=
  match t with
  | .frozen => True
  | .clip => cap = len
  | .fam r => r < γ.n ∧ γ.kd r = true ∧ len ≤ γ.ff r ∧ (len = γ.ff r → a = some ⟨γ.rho r, 0, none⟩ ∧ cap = γ.fc r)

inductive RelV (γ : Gh) (w : World) : V → Value → Prop
  | bool (b : Bool) : RelV γ w (.bool b) (.bool b)
  | int (k : IntKind) (n : Int) : RelV γ w (.int k n) (.int k n)
  | str (s : List UInt8) (b : ByteArray) (h : b.data.toList = s) : RelV γ w (.str s) (.string b)
  | sl (t : Tag) (xs : List V) (a : Option Addr) (cap : Nat) (c : Nat → Value) (z : Nat) (hcap : xs.length ≤ cap) (htag : TagOk γ t a xs.length cap)
      (hnil : a = none → cap = 0) (hspot : ∀ a', a = some a' → a'.spot = none)
      (hv : ∀ (i : Nat) (x : V), xs[i]? = some x → RelV γ w x (c i)) (hz : ∀ (i : Nat) (x : V), xs[i]? = some x → (c i).cells.size = z ∧ x.isLoc = false)
      (hat : ∀ (i : Nat) a', i < xs.length → a = some a' → CellsAt γ w a'.block (a'.off + i * z) (c i).cells) : RelV γ w (.sl t xs) (.slice a xs.length cap)
  | ptr (r off : Nat) (h : r < γ.n) (hk : γ.kd r = false) : RelV γ w (.ptr r off) (.pointer (some ⟨γ.rho r, off, none⟩))
  | elp (e : V) (off : Nat) (c : Value) (b o : Nat) (he : RelV γ w e c) (hl : e.isLoc = false) (hat : CellsAt γ w b o c.cells) : RelV γ w (.elp e off) (.pointer (some ⟨b, o + off, none⟩))
  | nilp : RelV γ w .nilp (.pointer none)
  | mapn : RelV γ w (.map none) (.map none)
  | map (r : Nat) (h : r < γ.n) (hk : γ.kd r = false) : RelV γ w (.map (some r)) (.map (some (γ.rho r)))
  | fn (f : Nat) (cap : List V) (vs : Array Value) (hs : vs.size = cap.length) (hv : ∀ (i : Nat) (x : V) (u : Value), cap[i]? = some x → vs[i]? = some u → RelV γ w x u) (hl : okVals cap = true) : RelV γ w (.fn f cap) (.func (.func f) #[] vs)
  | nilfn : RelV γ w .nilfn .nilFunc
  | iface (t : Nat) (v : V) (c : Value) (h : RelV γ w v c) (hl : v.isLoc = false) : RelV γ w (.iface t v) (.iface t c)
  | nili : RelV γ w .nili .nilIface
  | agg (cs : List V) (vs : Array Value) (hs : vs.size = cs.length) (hv : ∀ (i : Nat) (x : V) (u : Value), cs[i]? = some x → vs[i]? = some u → RelV γ w x u) (ho : ∀ (i : Nat) (u : Value), vs[i]? = some u → u.oneCell' = true) : RelV γ w (.agg cs) (.agg vs)
  | tup (cs : List V) (vs : Array Value) (hs : vs.size = cs.length) (hv : ∀ (i : Nat) (x : V) (u : Value), cs[i]? = some x → vs[i]? = some u → RelV γ w x u) : RelV γ w (.tup cs) (.tuple vs)
  | tok (g : Nat) : RelV γ w (.tok g) (.pointer (some (γ.tk g)))
  | sent (g t : Nat) (c : Value) (hp : 0 < γ.prot g) (hc : w.cell? ⟨g, 0, none⟩ = some (.iface t c)) : RelV γ w (.sent g) (.iface t c)
  | msl (r off len cap z c : Nat) (h : r < γ.n) (hk : γ.kd r = false) (hl : len ≤ c) (he : len ≤ cap → c = cap) : RelV γ w (.msl r off len cap z) (.slice (some ⟨γ.rho r, off, none⟩) len c)
  | mfn (f : Nat) (xs : List V) (vs : Array Value) (hs : vs.size = xs.length) (hv : ∀ (i : Nat) (x : V) (u : Value), xs[i]? = some x → vs[i]? = some u → RelV γ w x u) (hl : okVals xs = true) : RelV γ w (.mfn f xs) (.func (.func f) vs #[])
  | vec (r ver off len z b o c : Nat) (h : r < γ.n) (hk : γ.kd r = true) (hv : ver ≤ γ.ff r) (hl : len ≤ c) (he : ver = γ.ff r → b = γ.rho r ∧ o = off ∧ (off = 0 → c ≤ γ.fc r)) : RelV γ w (.vec r ver off len z) (.slice (some ⟨b, o, none⟩) len c)
  | vptr (r ver off b o : Nat) (h : r < γ.n) (hk : γ.kd r = true) (hv : ver ≤ γ.ff r) (he : ver = γ.ff r → b = γ.rho r ∧ o = off) : RelV γ w (.vptr r ver off) (.pointer (some ⟨b, o, none⟩))
  | yld (r : Nat) (h : r < γ.n) (hk : γ.kd r = false) : RelV γ w (.yld r) (.func (.yield (γ.rho r)) #[] #[])

def CellsRel (γ : Gh) (w : World) (cs : List V) (arr : Array Value) : Prop :=
  arr.size = cs.length ∧ ∀ (i : Nat) (x : V) (u : Value), cs[i]? = some x → arr[i]? = some u → RelV γ w x u ∧ u.oneCell' = true

structure Le (γ : Gh) (w : World) (γ' : Gh) (w' : World) : Prop where
  n : γ.n ≤ γ'.n
  kd : ∀ r, r < γ.n → γ'.kd r = γ.kd r
  box : ∀ r, r < γ.n → γ.kd r = false → γ'.rho r = γ.rho r
  fam : ∀ r, r < γ.n → γ.kd r = true → γ.ff r ≤ γ'.ff r ∧ (γ'.ff r = γ.ff r → γ'.rho r = γ.rho r ∧ γ'.fc r = γ.fc r)
  prot : ∀ b, γ.prot b ≤ γ'.prot b
  cells : ∀ b o, o < γ.prot b → w'.cell? ⟨b, o, none⟩ = w.cell? ⟨b, o, none⟩
  tk : γ'.tk = γ.tk
  bd : γ'.bd = γ.bd

section
variable {γ γ' : Gh} {w w' : World}

theorem CellsAt.mono (hle : Le γ w γ' w') {b o : Nat} {c : Array Value} (h : CellsAt γ w b o c) : CellsAt γ' w' b o c := by
  intro j u hj
  obtain ⟨h1, h2⟩ := h j u hj
  exact ⟨Nat.lt_of_lt_of_le h1 (hle.prot b), (hle.cells b _ h1).trans h2⟩

theorem TagOk.mono (hle : Le γ w γ' w') {t : Tag} {a : Option Addr} {len cap : Nat} (h : TagOk γ t a len cap) : TagOk γ' t a len cap := by
  cases t with
  | frozen => trivial
  | clip => exact h
  | fam r =>
    obtain ⟨h1, h2, h3, h4⟩ := h
    obtain ⟨hf, he⟩ := hle.fam r h1 h2
    refine ⟨Nat.lt_of_lt_of_le h1 hle.n, (hle.kd r h1).trans h2, Nat.le_trans h3 hf, fun hl => ?_⟩
    have e : γ'.ff r = γ.ff r := Nat.le_antisymm (hl ▸ h3) hf
    obtain ⟨e1, e2⟩ := he e
    rw [e1, e2]
    exact h4 (hl.trans e)

theorem RelV.mono (hle : Le γ w γ' w') {v : V} {c : Value} (h : RelV γ w v c) : RelV γ' w' v c := by
  induction h with
  | bool b => exact .bool b
  | int k n => exact .int k n
  | str s b h => exact .str s b h
  | sl t xs a cap c z hcap htag hnil hspot hv hz hat ih => exact .sl t xs a cap c z hcap (htag.mono hle) hnil hspot ih hz fun i a' hi ha => (hat i a' hi ha).mono hle
  | ptr r off h hk => rw [← hle.box r h hk]; exact .ptr r off (Nat.lt_of_lt_of_le h hle.n) ((hle.kd r h).trans hk)
  | elp e off c b o he hl hat ih => exact .elp e off c b o ih hl (hat.mono hle)
  | nilp => exact .nilp
  | mapn => exact .mapn
  | map r h hk => rw [← hle.box r h hk]; exact .map r (Nat.lt_of_lt_of_le h hle.n) ((hle.kd r h).trans hk)
  | fn f cap vs hs hv hl ih => exact .fn f cap vs hs ih hl
  | mfn f xs vs hs hv hl ih => exact .mfn f xs vs hs ih hl
  | nilfn => exact .nilfn
  | iface t v c h hl ih => exact .iface t v c ih hl
  | nili => exact .nili
  | agg cs vs hs hv ho ih => exact .agg cs vs hs ih ho
  | tup cs vs hs hv ih => exact .tup cs vs hs ih
  | tok g => rw [← hle.tk]; exact .tok g
  | sent g t c hp hc => exact .sent g t c (Nat.lt_of_lt_of_le hp (hle.prot g)) ((hle.cells g 0 hp).trans hc)
  | msl r off len cap z c h hk hl he => rw [← hle.box r h hk]; exact .msl r off len cap z c (Nat.lt_of_lt_of_le h hle.n) ((hle.kd r h).trans hk) hl he
  | vec r ver off len z b o c h hk hv hl he =>
    obtain ⟨f1, f2⟩ := hle.fam r h hk
    refine .vec r ver off len z b o c (Nat.lt_of_lt_of_le h hle.n) ((hle.kd r h).trans hk) (Nat.le_trans hv f1) hl fun e => ?_
    have e1 : γ'.ff r = γ.ff r := by omega
    obtain ⟨g1, g2⟩ := f2 e1
    rw [g1, g2]
    exact he (by omega)
  | vptr r ver off b o h hk hv he =>
    obtain ⟨f1, f2⟩ := hle.fam r h hk
    refine .vptr r ver off b o (Nat.lt_of_lt_of_le h hle.n) ((hle.kd r h).trans hk) (Nat.le_trans hv f1) fun e => ?_
    have e1 : γ'.ff r = γ.ff r := by omega
    rw [(f2 e1).1]
    exact he (by omega)
  | yld r h hk => rw [← hle.box r h hk]; exact .yld r (Nat.lt_of_lt_of_le h hle.n) ((hle.kd r h).trans hk)

theorem CellsRel.mono (hle : Le γ w γ' w') {cs : List V} {arr : Array Value} (h : CellsRel γ w cs arr) : CellsRel γ' w' cs arr :=
  ⟨h.1, fun i x u hx hu => ⟨(h.2 i x u hx hu).1.mono hle, (h.2 i x u hx hu).2⟩⟩

theorem RelV.one {v : V} {c : Value} (h : RelV γ w v c) (hl : v.isLoc = false) (ha : ∀ cs, v ≠ .agg cs) : c.oneCell' = true ∧ c.cells = #[c] ∧ v.cells = [v] := by
  cases h <;> first | exact ⟨rfl, rfl, rfl⟩ | exact absurd rfl (ha _) | (simp [V.isLoc] at hl)

theorem RelV.cells {v : V} {c : Value} (h : RelV γ w v c) (hl : v.isLoc = false) : CellsRel γ w v.cells c.cells := by
  by_cases ha : ∃ cs, v = .agg cs
  · obtain ⟨cs, rfl⟩ := ha
    cases h with
    | agg cs vs hs hv ho => exact ⟨hs, fun i x u hx hu => ⟨hv i x u hx hu, ho i u hu⟩⟩
  · obtain ⟨h1, h2, h3⟩ := h.one hl (fun cs e => ha ⟨cs, e⟩)
    rw [h2, h3]
    refine ⟨rfl, fun i x u hx hu => ?_⟩
    cases i with
    | zero => simp at hx hu; subst hx; subst hu; exact ⟨h, h1⟩
    | succ i => simp at hx

theorem CellsRel.agg {cs : List V} {arr : Array Value} (h : CellsRel γ w cs arr) : RelV γ w (.agg cs) (.agg arr) := by
  refine .agg cs arr h.1 (fun i x u hx hu => (h.2 i x u hx hu).1) fun i u hu => ?_
  have hi : i < cs.length := by rw [← h.1]; exact (Array.getElem?_eq_some_iff.1 hu).1
  exact (h.2 i cs[i] u (List.getElem?_eq_getElem hi) hu).2

theorem CellsRel.get {cs : List V} {arr : Array Value} (h : CellsRel γ w cs arr) {i : Nat} {x : V} (hx : cs[i]? = some x) : ∃ u, arr[i]? = some u ∧ RelV γ w x u ∧ u.oneCell' = true := by
  have hi : i < arr.size := by rw [h.1]; exact (List.getElem?_eq_some_iff.1 hx).1
  exact ⟨arr[i], Array.getElem?_eq_getElem hi, h.2 i x _ hx (Array.getElem?_eq_getElem hi)⟩

theorem CellsRel.take {cs : List V} {arr : Array Value} (h : CellsRel γ w cs arr) (off m : Nat) : CellsRel γ w ((cs.drop off).take m) (arr.extract off (off + m)) := by
  refine ⟨by simp [h.1]; omega, fun i x u hx hu => ?_⟩
  rw [List.getElem?_take, List.getElem?_drop] at hx
  rw [Array.getElem?_extract] at hu
  split at hx
  · split at hu
    · exact h.2 _ _ _ hx hu
    · cases hu
  · cases hx

theorem CellsRel.splice {cs xs : List V} {arr ys : Array Value} (h : CellsRel γ w cs arr) (hx : CellsRel γ w xs ys) (off : Nat) (hoff : off + xs.length ≤ cs.length) :
    CellsRel γ w (splice cs off xs) (arr.extract 0 off ++ ys ++ arr.extract (off + ys.size) arr.size) := by
  have e1 := h.1
  have e2 := hx.1
  refine ⟨by simp [Am.splice]; omega, fun i x u hi hu => ?_⟩
  unfold Am.splice at hi
  rw [List.getElem?_append] at hi
  rw [Array.getElem?_append] at hu
  have s1 : (cs.take off ++ xs).length = off + xs.length := by simp; omega
  have s2 : (arr.extract 0 off ++ ys).size = off + xs.length := by simp; omega
  rw [s1] at hi; rw [s2] at hu
  by_cases hlt : i < off + xs.length
  · rw [if_pos hlt] at hi hu
    rw [List.getElem?_append] at hi
    rw [Array.getElem?_append] at hu
    have t1 : (cs.take off).length = off := by simp; omega
    have t2 : (arr.extract 0 off).size = off := by simp; omega
    rw [t1] at hi; rw [t2] at hu
    by_cases hlt2 : i < off
    · rw [if_pos hlt2] at hi hu
      rw [List.getElem?_take, if_pos hlt2] at hi
      rw [Array.getElem?_extract] at hu
      split at hu
      · simp at hu; exact h.2 _ _ _ hi hu
      · cases hu
    · rw [if_neg hlt2] at hi hu
      exact hx.2 _ _ _ hi hu
  · rw [if_neg hlt] at hi hu
    rw [List.getElem?_drop] at hi
    rw [Array.getElem?_extract] at hu
    split at hu
    · rw [e2] at hu; exact h.2 _ _ _ hi hu
    · cases hu

/-- The first cells of a block are as told; there may be more. -/
def PreRel (γ : Gh) (w : World) (cs : List V) (arr : Array Value) : Prop :=
  cs.length ≤ arr.size ∧ ∀ (i : Nat) (x : V) (u : Value), cs[i]? = some x → arr[i]? = some u → RelV γ w x u ∧ u.oneCell' = true

theorem CellsRel.pre {cs : List V} {arr : Array Value} (h : CellsRel γ w cs arr) : PreRel γ w cs arr := ⟨by rw [h.1]; exact Nat.le_refl _, h.2⟩

theorem PreRel.mono (hle : Le γ w γ' w') {cs : List V} {arr : Array Value} (h : PreRel γ w cs arr) : PreRel γ' w' cs arr :=
  ⟨h.1, fun i x u hx hu => ⟨(h.2 i x u hx hu).1.mono hle, (h.2 i x u hx hu).2⟩⟩

theorem PreRel.cut {cs : List V} {arr : Array Value} (h : PreRel γ w cs arr) : CellsRel γ w cs (arr.extract 0 cs.length) := by
  have h1 := h.1
  refine ⟨by simp; omega, fun i x u hx hu => h.2 i x u hx ?_⟩
  rw [Array.getElem?_extract] at hu
  split at hu
  · simpa using hu
  · cases hu

theorem PreRel.get {cs : List V} {arr : Array Value} (h : PreRel γ w cs arr) {i : Nat} {x : V} (hx : cs[i]? = some x) : ∃ u, arr[i]? = some u ∧ RelV γ w x u ∧ u.oneCell' = true := by
  have hi : i < arr.size := Nat.lt_of_lt_of_le (List.getElem?_eq_some_iff.1 hx).1 h.1
  exact ⟨arr[i], Array.getElem?_eq_getElem hi, h.2 i x _ hx (Array.getElem?_eq_getElem hi)⟩

theorem PreRel.take {cs : List V} {arr : Array Value} (h : PreRel γ w cs arr) (off m : Nat) (hm : off + m ≤ cs.length) : CellsRel γ w ((cs.drop off).take m) (arr.extract off (off + m)) := by
  have h1 := h.1
  refine ⟨by simp; omega, fun i x u hx hu => ?_⟩
  rw [List.getElem?_take, List.getElem?_drop] at hx
  rw [Array.getElem?_extract] at hu
  split at hx
  · split at hu
    · exact h.2 _ _ _ hx hu
    · cases hu
  · cases hx

/-- Of related cells: what is selected is related. -/
theorem CellsRel.sel {cs : List V} {arr : Array Value} (h : CellsRel γ w cs arr) {off : Nat} {n : Option Nat} {v : V} (hs : sel cs off n = some v) :
    (n = none ∧ ∃ u, arr[off]? = some u ∧ RelV γ w v u ∧ u.oneCell' = true) ∨ (∃ m, n = some m ∧ off + m ≤ arr.size ∧ RelV γ w v (.agg (arr.extract off (off + m)))) := by
  cases n with
  | none => exact .inl ⟨rfl, h.get hs⟩
  | some m =>
    simp only [Am.sel] at hs
    split at hs
    · cases hs
      exact .inr ⟨m, rfl, by have := h.1; omega, (h.take off m).agg⟩
    · cases hs

theorem RelV.demote {v : V} {c : Value} (h : RelV γ w v c) : RelV γ w v.demote c := by
  have loc : ∀ v : V, v.demote.isLoc = v.isLoc := fun v => by cases v <;> rfl
  have dem : ∀ (l : List V) (i : Nat) (x : V), (demoteL l)[i]? = some x → ∃ y, l[i]? = some y ∧ x = y.demote := fun l i x hx => by
    rw [demoteL_eq, List.getElem?_map] at hx
    cases hy : l[i]? with
    | none => rw [hy] at hx; cases hx
    | some y => rw [hy] at hx; exact ⟨y, rfl, by simpa using hx.symm⟩
  induction h with
  | bool b => exact .bool b
  | int k n => exact .int k n
  | str s b h => exact .str s b h
  | sl t xs a cap c z hcap htag hnil hspot hv hz hat ih =>
    have el : (demoteL xs).length = xs.length := by simp [demoteL_eq]
    simp only [V.demote]
    rw [← el]
    refine .sl .frozen (demoteL xs) a cap c z (by rw [el]; exact hcap) trivial hnil hspot (fun i x hx => ?_) (fun i x hx => ?_) (fun i a' hi ha => hat i a' (by rw [el] at hi; exact hi) ha)
    · obtain ⟨y, hy, rfl⟩ := dem xs i x hx; exact ih i y hy
    · obtain ⟨y, hy, rfl⟩ := dem xs i x hx; exact ⟨(hz i y hy).1, (loc y).trans (hz i y hy).2⟩
  | ptr r off h hk => exact .ptr r off h hk
  | elp e off c b o he hl hat ih => exact .elp e off c b o he hl hat
  | nilp => exact .nilp
  | mapn => exact .mapn
  | map r h hk => exact .map r h hk
  | fn f cap vs hs hv hl ih => exact .fn f cap vs hs hv hl
  | mfn f xs vs hs hv hl ih => exact .mfn f xs vs hs hv hl
  | nilfn => exact .nilfn
  | iface t v c h hl ih => exact .iface t v.demote c ih ((loc v).trans hl)
  | nili => exact .nili
  | agg cs vs hs hv ho ih =>
    refine .agg (demoteL cs) vs (by simp [demoteL_eq, hs]) (fun i x u hx hu => ?_) ho
    obtain ⟨y, hy, rfl⟩ := dem cs i x hx
    exact ih i y u hy hu
  | tup cs vs hs hv ih =>
    refine .tup (demoteL cs) vs (by simp [demoteL_eq, hs]) fun i x u hx hu => ?_
    obtain ⟨y, hy, rfl⟩ := dem cs i x hx
    exact ih i y u hy hu
  | tok g => exact .tok g
  | sent g t c hp hc => exact .sent g t c hp hc
  | msl r off len cap z c h hk hl he => exact .msl r off len cap z c h hk hl he
  | vec r ver off len z b o c h hk hv hl he => exact .vec r ver off len z b o c h hk hv hl he
  | vptr r ver off b o h hk hv he => exact .vptr r ver off b o h hk hv he
  | yld r h hk => exact .yld r h hk

theorem isLoc_demote (v : V) : v.demote.isLoc = v.isLoc := by cases v <;> rfl
end
end Go.Am
