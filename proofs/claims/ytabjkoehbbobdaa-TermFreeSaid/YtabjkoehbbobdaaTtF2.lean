/- Terms as values; maps of names that are counted; a term is gone through: on the abstract machine. -/
import Derived.Test.YtabjkoehbbobdaaTtF
import Derived.Test.YtabjkoehbbobdaaAmL
namespace Go.Tt
open Go.Am Go.Proofs
set_option maxRecDepth 100000

/- How long rows of names are. -/
mutual
def shT : Tm → Bool
  | .mk _ _ _ _ l a b => shL l && shA a && shB b && decide (b.names.length ≤ 10)
def shL : Tms → Bool
  | .nil => true
  | .cons t l => shT t && shL l
def shA : Alts → Bool
  | .nil => true
  | .cons _ v t l => decide (v.length ≤ 10) && shT t && shA l
def shB : Binds → Bool
  | .nil => true
  | .cons _ _ t l => shT t && shB l
end

/- Values. -/
mutual
def tmV : Tm → V
  | .mk k s n ty l a b => .agg ([.int .i64 k, .str s, .int .i64 n] ++ (tyV ty).cells ++ [.sl .frozen (tmVs l), .sl .frozen (alVs a), .sl .frozen (biVs b)])
def tmVs : Tms → List V
  | .nil => []
  | .cons t l => tmV t :: tmVs l
def alVs : Alts → List V
  | .nil => []
  | .cons c v t l => .agg ([.str c, .sl .frozen (v.map .str)] ++ (tmV t).cells) :: alVs l
def biVs : Binds → List V
  | .nil => []
  | .cons n ty t l => .agg ([.str n] ++ (tyV ty).cells ++ (tmV t).cells) :: biVs l
end

theorem tm_mk (k : Int) (s : Nm) (n k' : Int) (n' : Nm) (l' : List Ty) (l : Tms) (a : Alts) (b : Binds) : tmV (.mk k s n (.mk k' n' l') l a b) =
    .agg [.int .i64 k, .str s, .int .i64 n, .int .i64 k', .str n', .sl .frozen (tyVs l'), .sl .frozen (tmVs l), .sl .frozen (alVs a), .sl .frozen (biVs b)] := by simp [tmV, tyV]

@[simp] theorem tm_cells (t : Tm) : (tmV t).cells.length = 9 := by cases t; simp [tmV]
@[simp] theorem tm_loc (t : Tm) : (tmV t).isLoc = false := by cases t; simp [tmV]
theorem tm_agg (t : Tm) : V.agg (tmV t).cells = tmV t := by cases t; simp [tmV]
theorem tm_take (t : Tm) : (tmV t).cells.take 9 = (tmV t).cells := List.take_of_length_le (Nat.le_of_eq (tm_cells t))
theorem tm_sel (t : Tm) : sel (tmV t).cells 0 (some 9) = some (tmV t) := by rw [sel_many _ _ _ (by rw [tm_cells]; omega), List.drop_zero, tm_take, tm_agg]

theorem dem_strs' (l : List Nm) : demoteL (l.map V.str) = l.map V.str := by induction l <;> simp_all [demoteL, V.demote]
theorem under_strs' (m : Nat) (l : List Nm) : underL m (l.map V.str) = true := by induction l <;> simp_all [underL, V.under]
theorem dem_ty_cells (t : Ty) : demoteL (tyV t).cells = (tyV t).cells := by cases t; simp [tyV, demoteL, V.demote, demote_tys]
theorem under_ty_cells (m : Nat) (t : Ty) : underL m (tyV t).cells = true := by cases t; simp [tyV, under_tys]
theorem demL_app (a b : List V) : demoteL (a ++ b) = demoteL a ++ demoteL b := by simp [demoteL_eq]
theorem undL_app (m : Nat) (a b : List V) : underL m (a ++ b) = (underL m a && underL m b) := by simp [underL_eq]

mutual
theorem demote_tm : ∀ t : Tm, (tmV t).demote = tmV t
  | .mk k s n ty l a b => by
    obtain ⟨k', n', l'⟩ := ty
    simp [tm_mk, demote_tys, demote_tms l, demote_als a, demote_bis b]
theorem demote_tms : ∀ l : Tms, demoteL (tmVs l) = tmVs l
  | .nil => rfl
  | .cons t l => by simp [tmVs, demote_tm t, demote_tms l]
theorem demote_als : ∀ l : Alts, demoteL (alVs l) = alVs l
  | .nil => rfl
  | .cons c v t l => by
    have := demote_tm t
    obtain ⟨k, s, n, ⟨k', n', l'⟩, l2, a2, b2⟩ := t
    simp only [tm_mk, V.demote, V.agg.injEq] at this
    simp [alVs, tm_mk, dem_strs', this, demote_als l]
    simpa [demote_tys] using this
theorem demote_bis : ∀ l : Binds, demoteL (biVs l) = biVs l
  | .nil => rfl
  | .cons n ty t l => by
    have := demote_tm t
    obtain ⟨k, s, n, ⟨k', n', l'⟩, l2, a2, b2⟩ := t
    obtain ⟨k1, n1, l1⟩ := ty
    simp only [tm_mk, V.demote, V.agg.injEq] at this
    simp [biVs, tm_mk, tyV, demote_tys, this, demote_bis l]
    simpa [demote_tys] using this
end
mutual
theorem under_tm (m : Nat) : ∀ t : Tm, (tmV t).under m = true
  | .mk k s n ty l a b => by
    obtain ⟨k', n', l'⟩ := ty
    simp [tm_mk, under_tys, under_tms m l, under_als m a, under_bis m b]
theorem under_tms (m : Nat) : ∀ l : Tms, underL m (tmVs l) = true
  | .nil => rfl
  | .cons t l => by simp [tmVs, under_tm m t, under_tms m l]
theorem under_als (m : Nat) : ∀ l : Alts, underL m (alVs l) = true
  | .nil => rfl
  | .cons c v t l => by
    have := under_tm m t
    obtain ⟨k, s, n, ⟨k', n', l'⟩, l2, a2, b2⟩ := t
    simp only [tm_mk, V.under] at this
    simp [alVs, tm_mk, under_strs', under_als m l]
    simpa [under_tys] using this
theorem under_bis (m : Nat) : ∀ l : Binds, underL m (biVs l) = true
  | .nil => rfl
  | .cons n ty t l => by
    have := under_tm m t
    obtain ⟨k, s, n, ⟨k', n', l'⟩, l2, a2, b2⟩ := t
    obtain ⟨k1, n1, l1⟩ := ty
    simp only [tm_mk, V.under] at this
    simp [biVs, tm_mk, tyV, under_tys, under_bis m l]
    simpa [under_tys] using this
end

/-- Of a row that goes on from a place. -/
theorem drop_cons {α : Type} {xs ys : List α} {i : Nat} {y : α} (h : xs.drop i = y :: ys) : xs[i]? = some y ∧ xs.drop (i + 1) = ys ∧ i < xs.length := by
  have h1 : (xs.drop i)[0]? = some y := by rw [h]; rfl
  rw [List.getElem?_drop] at h1
  refine ⟨by simpa using h1, ?_, (List.getElem?_eq_some_iff.1 h1).1⟩
  rw [← List.drop_drop, h]; rfl
theorem drop_nil' {α : Type} {xs : List α} {i : Nat} (h : xs.drop i = []) : xs.length ≤ i := by simpa using h

/- Maps from names. -/
abbrev GL := List (Nm × V)
def gEn (l : GL) : List (V × V) := l.map fun p => (.str p.1, p.2)
def gO (l : GL) : Ob := .map (gEn l) (List.range l.length) l.length
def lkG : GL → Nm → Option V
  | [], _ => none
  | p :: l, x => if p.1 = x then some p.2 else lkG l x
def stG : GL → Nm → V → GL
  | [], x, v => [(x, v)]
  | p :: l, x, v => if p.1 = x then (x, v) :: l else p :: stG l x v

theorem lk_find (l : GL) (x : Nm) : findE (.str x) (gEn l) = some (lkG l x) := by
  induction l with
  | nil => rfl
  | cons p l ih =>
    simp only [gEn, List.map_cons, findE, keyEq, lkG] at ih ⊢
    by_cases h : p.1 = x
    · have : (x == p.1) = true := by simp [h]
      simp [this, h]
    · have : (x == p.1) = false := by simp; exact fun e => h e.symm
      simp [this, h, ih]
theorem st_set (l : GL) (x : Nm) (v : V) : setE (.str x) v (gEn l) = some (gEn (stG l x v)) := by
  induction l with
  | nil => rfl
  | cons p l ih =>
    simp only [gEn, List.map_cons, setE, keyEq, stG] at ih ⊢
    by_cases h : p.1 = x
    · have : (x == p.1) = true := by simp [h]
      simp [this, h]
    · have : (x == p.1) = false := by simp; exact fun e => h e.symm
      simp [this, h, ih]
theorem st_len (l : GL) (x : Nm) (v : V) : (stG l x v).length = l.length ∨ (stG l x v).length = l.length + 1 := by
  induction l with
  | nil => exact .inr rfl
  | cons p l ih =>
    simp only [stG]
    split
    · exact .inl rfl
    · simpa using ih
theorem st_ob (l : GL) (x : Nm) (v : V) : setOb (gEn l).length (List.range l.length) l.length (gEn (stG l x v)) = gO (stG l x v) := by
  unfold setOb gO
  rcases st_len l x v with h | h
  · have : (gEn (stG l x v)).length = (gEn l).length := by simp [gEn, h]
    rw [if_pos this, h]
  · have : (gEn (stG l x v)).length ≠ (gEn l).length := by simp [gEn, h]
    rw [if_neg this, h, List.range_succ]
theorem st_lk (l : GL) (x : Nm) (v : V) (y : Nm) : lkG (stG l x v) y = if y = x then some v else lkG l y := by
  induction l with
  | nil => simp only [stG, lkG]; by_cases h : x = y <;> simp [h, eq_comm]
  | cons p l ih =>
    simp only [stG, lkG]
    by_cases h : p.1 = x
    · rw [if_pos h]
      simp only [lkG]
      by_cases h2 : x = y
      · simp [h2]
      · rw [if_neg h2, if_neg (fun e => h2 e.symm), if_neg (fun e => h2 (h.symm.trans e))]
    · rw [if_neg h]
      simp only [lkG, ih]
      by_cases h2 : p.1 = y
      · rw [if_pos h2, if_pos h2]
        rw [if_neg (fun e => h (h2.trans e))]
      · rw [if_neg h2, if_neg h2]

/-- It counts; it holds. -/
def MI (F : Nm → Int) (l : GL) : Prop := ∀ y, lkG l y = some (.int .i64 (F y)) ∨ (lkG l y = none ∧ F y = 0)
def MB (o : List Nm) (l : GL) : Prop := ∀ y, lkG l y = if y ∈ o then some (.bool true) else none

theorem MI.look {F : Nm → Int} {l : GL} (h : MI F l) (x : Nm) : okV false (.int .i64 0) (lkG l x) = .int .i64 (F x) := by
  rcases h x with h | ⟨h, h0⟩ <;> rw [h] <;> simp [okV, *]
theorem MB.look {o : List Nm} {l : GL} (h : MB o l) (x : Nm) : okV false (.bool false) (lkG l x) = .bool (decide (x ∈ o)) := by
  rw [h x]
  by_cases hx : x ∈ o <;> simp [hx, okV]
theorem MI.set {F : Nm → Int} {l : GL} (h : MI F l) (x : Nm) (n : Int) : MI (fun y => if y = x then n else F y) (stG l x (.int .i64 n)) := by
  intro y
  rw [st_lk]
  by_cases e : y = x
  · simp [e]
  · simpa [e] using h y
theorem MB.set {o : List Nm} {l : GL} (h : MB o l) (x : Nm) : MB (o ++ [x]) (stG l x (.bool true)) := by
  intro y
  rw [st_lk, h y]
  by_cases e : y = x <;> simp [e]

def OutOk (pf : Nat) (tg : Tag) (o : List Nm) (h : List Ob) : Prop := (tg = .clip ∧ o = []) ∨ ∃ r, tg = .fam r ∧ pf ≤ r + 2 ∧ h[r]? = some (.fam o.length 1)

/-- What going through a term has at hand. -/
structure Stt (pf b s : Nat) (F : Nm → Int) (o : List Nm) (h : List Ob) : Prop where
  ne : b ≠ s
  lo : pf ≤ b + 2 ∧ pf ≤ s + 2
  pf : ∃ tg, h[pf]? = some (.box [.map (some b), .map (some s), .sl tg (o.map .str)]) ∧ OutOk pf tg o h
  bm : ∃ l, h[b]? = some (gO l) ∧ MI F l
  sm : ∃ l, h[s]? = some (gO l) ∧ MB o l

def Fr (pf : Nat) (h h' : List Ob) : Prop := h.length ≤ h'.length ∧ (∀ (q : Nat) (cs : List V), q ≠ pf → h[q]? = some (.box cs) → h'[q]? = some (.box cs)) ∧ ∀ q, q + 2 < pf → h'[q]? = h[q]?
theorem Fr.refl (pf : Nat) (h : List Ob) : Fr pf h h := ⟨Nat.le_refl _, fun _ _ _ h => h, fun _ _ => rfl⟩
theorem Fr.trans {pf : Nat} {h h1 h2 : List Ob} (a : Fr pf h h1) (b : Fr pf h1 h2) : Fr pf h h2 := ⟨Nat.le_trans a.1 b.1, fun q cs hq h => b.2.1 q cs hq (a.2.1 q cs hq h), fun q hq => (b.2.2 q hq).trans (a.2.2 q hq)⟩

theorem set_ne' {h : List Ob} {a b : Nat} {x y : Ob} (hb : h[b]? = some y) (hne : a ≠ b) : (h.set a x)[b]? = some y := by rw [List.getElem?_set_ne hne]; exact hb

/-- A count is turned. -/
theorem Stt.bound {pf b s : Nat} {F : Nm → Int} {o : List Nm} {h : List Ob} (st : Stt pf b s F o h) {l : GL} (hb : h[b]? = some (gO l)) (x : Nm) (n : Int) (hm : MI F l) :
    Stt pf b s (fun y => if y = x then n else F y) o (h.set b (gO (stG l x (.int .i64 n)))) ∧ Fr pf h (h.set b (gO (stG l x (.int .i64 n)))) := by
  obtain ⟨ne, lo, ⟨tg, hp, ho⟩, _, ⟨l2, hs, hs2⟩⟩ := st
  have hlt : b < h.length := (List.getElem?_eq_some_iff.1 hb).1
  have nb : ∀ {q : Nat} {cs : List V}, h[q]? = some (.box cs) → b ≠ q := fun hq e => by subst e; rw [hb] at hq; cases hq
  refine ⟨⟨ne, lo, ⟨tg, set_ne' hp (nb hp), ?_⟩, ⟨_, by rw [List.getElem?_set_self hlt], hm.set x n⟩, ⟨l2, set_ne' hs ne, hs2⟩⟩, by simp, fun q cs _ hq => set_ne' hq (nb hq), fun q hq => List.getElem?_set_ne (by omega)⟩
  rcases ho with ho | ⟨r, hr1, hr0, hr2⟩
  · exact .inl ho
  · exact .inr ⟨r, hr1, hr0, set_ne' hr2 (fun e => by subst e; rw [hb] at hr2; cases hr2)⟩

end Go.Tt
