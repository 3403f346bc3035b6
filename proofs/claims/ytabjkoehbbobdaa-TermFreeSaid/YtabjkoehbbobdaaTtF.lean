/- Terms' free variables: what hides a name; what is gone through again; plain law. -/
import Derived.Test.YtabjkoehbbobdaaTtMd
namespace Go.Tt
open Go.Am Go.Proofs
set_option maxRecDepth 100000

abbrev Nm := List UInt8

mutual
inductive Tm where
  | mk (k : Int) (s : Nm) (n : Int) (ty : Ty) (l : Tms) (a : Alts) (b : Binds)
inductive Tms where
  | nil
  | cons (t : Tm) (l : Tms)
inductive Alts where
  | nil
  | cons (c : Nm) (v : List Nm) (t : Tm) (l : Alts)
inductive Binds where
  | nil
  | cons (n : Nm) (ty : Ty) (t : Tm) (l : Binds)
end

def inc : (Nm → Int) → List Nm → Nm → Int
  | F, [] => F
  | F, x :: l => inc (fun y => if y = x then F y + 1 else F y) l

def Binds.names : Binds → List Nm
  | .nil => []
  | .cons n _ _ l => n :: l.names

/-- Names but _. -/
def boundV (l : List Nm) : List Nm := l.filter fun v => v != [95]

def addN (F : Nm → Int) (s : Nm) (o : List Nm) : List Nm := if F s = 0 ∧ s ∉ o then o ++ [s] else o

mutual
def frT : Tm → (Nm → Int) → List Nm → List Nm
  | .mk k s _ _ l a b, F, o =>
    if k = 1 then addN F s o
    else if k = 6 then frL l (inc F [s]) o
    else if k = 9 then frL l (inc F b.names) (frB b (inc F b.names) o)
    else frA a F (frL l F o)
def frL : Tms → (Nm → Int) → List Nm → List Nm
  | .nil, _, o => o
  | .cons t l, F, o => frL l F (frT t F o)
def frA : Alts → (Nm → Int) → List Nm → List Nm
  | .nil, _, o => o
  | .cons _ v t l, F, o => frA l F (frT t (inc F (boundV v)) o)
def frB : Binds → (Nm → Int) → List Nm → List Nm
  | .nil, _, o => o
  | .cons _ _ t l, F, o => frB l F (frT t F o)
end

/-- Of two rows of counts: the second hides x, and is else the first. -/
def Hide (x : Nm) (F G : Nm → Int) : Prop := (∀ y, y ≠ x → G y = F y) ∧ 0 < G x

theorem Hide.inc {x : Nm} : ∀ {l : List Nm} {F G : Nm → Int}, Hide x F G → Hide x (inc F l) (inc G l)
  | [], _, _, h => h
  | z :: l, F, G, h => by
    refine Hide.inc (l := l) ⟨fun y hy => ?_, ?_⟩
    · simp only [h.1 y hy]
    · have := h.2
      simp only
      split <;> omega

theorem hide_add {x : Nm} {F G : Nm → Int} (h : Hide x F G) (s : Nm) (o : List Nm) : addN G s (o.filter (· != x)) = (addN F s o).filter (· != x) := by
  unfold addN
  by_cases hs : s = x
  · subst hs
    have : ¬ (G s = 0 ∧ s ∉ o.filter (· != s)) := fun g => by have := h.2; omega
    rw [if_neg this]
    split <;> simp
  · have e : (G s = 0 ∧ s ∉ o.filter (· != x)) ↔ (F s = 0 ∧ s ∉ o) := by
      rw [h.1 s hs]
      simp [hs]
    by_cases g : F s = 0 ∧ s ∉ o
    · rw [if_pos g, if_pos (e.2 g)]
      simp [hs]
    · rw [if_neg g, if_neg (fun g' => g (e.1 g'))]

mutual
theorem hideT (x : Nm) : ∀ (t : Tm) {F G : Nm → Int} (o : List Nm), Hide x F G → frT t G (o.filter (· != x)) = (frT t F o).filter (· != x)
  | .mk k s n ty l a b, F, G, o, h => by
    unfold frT
    split
    · exact hide_add h s o
    · split
      · exact hideL x l o h.inc
      · split
        · rw [hideB x b o h.inc]
          exact hideL x l _ h.inc
        · rw [hideL x l o h]
          exact hideA x a _ h
theorem hideL (x : Nm) : ∀ (t : Tms) {F G : Nm → Int} (o : List Nm), Hide x F G → frL t G (o.filter (· != x)) = (frL t F o).filter (· != x)
  | .nil, _, _, _, _ => by simp only [frL]
  | .cons t l, F, G, o, h => by
    simp only [frL]
    rw [hideT x t o h]
    exact hideL x l _ h
theorem hideA (x : Nm) : ∀ (t : Alts) {F G : Nm → Int} (o : List Nm), Hide x F G → frA t G (o.filter (· != x)) = (frA t F o).filter (· != x)
  | .nil, _, _, _, _ => by simp only [frA]
  | .cons c v t l, F, G, o, h => by
    simp only [frA]
    rw [hideT x t o h.inc]
    exact hideA x l _ h
theorem hideB (x : Nm) : ∀ (t : Binds) {F G : Nm → Int} (o : List Nm), Hide x F G → frB t G (o.filter (· != x)) = (frB t F o).filter (· != x)
  | .nil, _, _, _, _ => by simp only [frB]
  | .cons n ty t l, F, G, o, h => by
    simp only [frB]
    rw [hideT x t o h]
    exact hideB x l _ h
end

theorem add_mono (F : Nm → Int) (s : Nm) (o : List Nm) : ∀ y ∈ o, y ∈ addN F s o := by
  intro y hy
  unfold addN
  split
  · simp [hy]
  · exact hy

mutual
theorem monoT : ∀ (t : Tm) (F : Nm → Int) (o : List Nm), ∀ y ∈ o, y ∈ frT t F o
  | .mk k s n ty l a b, F, o, y, hy => by
    unfold frT
    split
    · exact add_mono F s o y hy
    · split
      · exact monoL l _ o y hy
      · split
        · exact monoL l _ _ y (monoB b _ o y hy)
        · exact monoA a _ _ y (monoL l _ o y hy)
theorem monoL : ∀ (t : Tms) (F : Nm → Int) (o : List Nm), ∀ y ∈ o, y ∈ frL t F o
  | .nil, _, _, _, hy => by simp only [frL]; exact hy
  | .cons t l, F, o, y, hy => by simp only [frL]; exact monoL l F _ y (monoT t F o y hy)
theorem monoA : ∀ (t : Alts) (F : Nm → Int) (o : List Nm), ∀ y ∈ o, y ∈ frA t F o
  | .nil, _, _, _, hy => by simp only [frA]; exact hy
  | .cons c v t l, F, o, y, hy => by simp only [frA]; exact monoA l F _ y (monoT t _ o y hy)
theorem monoB : ∀ (t : Binds) (F : Nm → Int) (o : List Nm), ∀ y ∈ o, y ∈ frB t F o
  | .nil, _, _, _, hy => by simp only [frB]; exact hy
  | .cons n ty t l, F, o, y, hy => by simp only [frB]; exact monoB l F _ y (monoT t F o y hy)
end

mutual
theorem idemT : ∀ (t : Tm) (F : Nm → Int) (o p : List Nm), (∀ y ∈ frT t F o, y ∈ p) → frT t F p = p
  | .mk k s n ty l a b, F, o, p, h => by
    unfold frT at h ⊢
    split at h
    · rename_i hk
      rw [if_pos hk]
      unfold addN at h ⊢
      by_cases g : F s = 0 ∧ s ∉ p
      · rw [if_pos g]
        exfalso
        by_cases g2 : s ∈ o
        · exact g.2 (h s (by rw [if_neg (fun q => q.2 g2)]; exact g2))
        · exact g.2 (h s (by rw [if_pos ⟨g.1, g2⟩]; simp))
      · rw [if_neg g]
    · rename_i hk
      rw [if_neg hk]
      split at h
      · rename_i hk2
        rw [if_pos hk2]
        exact idemL l _ o p h
      · rename_i hk2
        rw [if_neg hk2]
        split at h
        · rename_i hk3
          rw [if_pos hk3, idemB b _ o p fun y hy => h y (monoL l _ _ y hy)]
          exact idemL l _ _ p h
        · rename_i hk3
          rw [if_neg hk3, idemL l _ o p fun y hy => h y (monoA a _ _ y hy)]
          exact idemA a _ _ p h
theorem idemL : ∀ (t : Tms) (F : Nm → Int) (o p : List Nm), (∀ y ∈ frL t F o, y ∈ p) → frL t F p = p
  | .nil, _, _, _, _ => by simp only [frL]
  | .cons t l, F, o, p, h => by
    simp only [frL] at h ⊢
    rw [idemT t F o p fun y hy => h y (monoL l F _ y hy)]
    exact idemL l F _ p h
theorem idemA : ∀ (t : Alts) (F : Nm → Int) (o p : List Nm), (∀ y ∈ frA t F o, y ∈ p) → frA t F p = p
  | .nil, _, _, _, _ => by simp only [frA]
  | .cons c v t l, F, o, p, h => by
    simp only [frA] at h ⊢
    rw [idemT t _ o p fun y hy => h y (monoA l F _ y hy)]
    exact idemA l F _ p h
theorem idemB : ∀ (t : Binds) (F : Nm → Int) (o p : List Nm), (∀ y ∈ frB t F o, y ∈ p) → frB t F p = p
  | .nil, _, _, _, _ => by simp only [frB]
  | .cons n ty t l, F, o, p, h => by
    simp only [frB] at h ⊢
    rw [idemT t F o p fun y hy => h y (monoB l F _ y hy)]
    exact idemB l F _ p h
end

/- No variable has a certain name; rows of variables are short. -/
mutual
def okTm (q : Nm) : Tm → Bool
  | .mk _ s _ _ l a b => s != q && okTms q l && okAlts q a && okBinds q b
def okTms (q : Nm) : Tms → Bool
  | .nil => true
  | .cons t l => okTm q t && okTms q l
def okAlts (q : Nm) : Alts → Bool
  | .nil => true
  | .cons _ v t l => decide (v.length ≤ 10) && okTm q t && okAlts q l
def okBinds (q : Nm) : Binds → Bool
  | .nil => true
  | .cons _ _ t l => okTm q t && okBinds q l
end

mutual
theorem consT (q : Nm) : ∀ (t : Tm) (F : Nm → Int) (o : List Nm), okTm q t = true → frT t F (q :: o) = q :: frT t F o
  | .mk k s n ty l a b, F, o, h => by
    simp only [okTm, Bool.and_eq_true, bne_iff_ne, ne_eq] at h
    obtain ⟨⟨⟨h1, h2⟩, h3⟩, h4⟩ := h
    unfold frT
    split
    · unfold addN
      by_cases g : F s = 0 ∧ s ∉ o
      · rw [if_pos g, if_pos ⟨g.1, by simp [h1, g.2]⟩]; rfl
      · rw [if_neg g, if_neg (fun g' => g ⟨g'.1, fun m => g'.2 (by simp [m])⟩)]
    · split
      · exact consL q l _ o h2
      · split
        · rw [consB q b _ o h4]; exact consL q l _ _ h2
        · rw [consL q l _ o h2]; exact consA q a _ _ h3
theorem consL (q : Nm) : ∀ (t : Tms) (F : Nm → Int) (o : List Nm), okTms q t = true → frL t F (q :: o) = q :: frL t F o
  | .nil, _, _, _ => by simp only [frL]
  | .cons t l, F, o, h => by
    simp only [okTms, Bool.and_eq_true] at h
    simp only [frL]
    rw [consT q t F o h.1]
    exact consL q l F _ h.2
theorem consA (q : Nm) : ∀ (t : Alts) (F : Nm → Int) (o : List Nm), okAlts q t = true → frA t F (q :: o) = q :: frA t F o
  | .nil, _, _, _ => by simp only [frA]
  | .cons c v t l, F, o, h => by
    simp only [okAlts, Bool.and_eq_true] at h
    simp only [frA]
    rw [consT q t _ o h.1.2]
    exact consA q l F _ h.2
theorem consB (q : Nm) : ∀ (t : Binds) (F : Nm → Int) (o : List Nm), okBinds q t = true → frB t F (q :: o) = q :: frB t F o
  | .nil, _, _, _ => by simp only [frB]
  | .cons n ty t l, F, o, h => by
    simp only [okBinds, Bool.and_eq_true] at h
    simp only [frB]
    rw [consT q t F o h.1]
    exact consB q l F _ h.2
end

/- How many terms a term is made of. -/
mutual
def szT : Tm → Nat
  | .mk _ _ _ _ l a b => 1 + szL l + szA a + szB b
def szL : Tms → Nat
  | .nil => 0
  | .cons t l => szT t + szL l
def szA : Alts → Nat
  | .nil => 0
  | .cons _ _ t l => szT t + szA l
def szB : Binds → Nat
  | .nil => 0
  | .cons _ _ t l => szT t + szB l
end

theorem szT_pos : ∀ t : Tm, 0 < szT t
  | .mk _ _ _ _ _ _ _ => by simp only [szT]; omega

/-- The law: what a lambda, a let, an alternative binds. -/
theorem free_law (t : Tm) (x q : Nm) (hx : x ≠ [95]) (hxq : x ≠ q) (hq : okTm q t = true) :
    frL (.cons t .nil) (inc (fun _ => 0) [x]) [] = (frT t (fun _ => 0) []).filter (· != x) ∧
    frL (.cons t .nil) (inc (fun _ => 0) [x]) (frT t (inc (fun _ => 0) [x]) []) = (frT t (fun _ => 0) []).filter (· != x) ∧
    frT t (inc (fun _ => 0) (boundV [[95], x])) [q] = q :: (frT t (fun _ => 0) []).filter (· != x) := by
  have hh : Hide x (fun _ => 0) (inc (fun _ => 0) [x]) := by
    refine ⟨fun y hy => by simp [inc, hy], by simp [inc]⟩
  have h1 := hideT x t [] hh
  simp only [List.filter_nil] at h1
  have hb : boundV [[95], x] = [x] := by simp [boundV, hx]
  refine ⟨by simp only [frL]; exact h1, ?_, ?_⟩
  · simp only [frL]
    rw [idemT t _ [] _ (fun y hy => hy)]
    exact h1
  · rw [hb, consT q t _ [] hq, h1]

end Go.Tt
