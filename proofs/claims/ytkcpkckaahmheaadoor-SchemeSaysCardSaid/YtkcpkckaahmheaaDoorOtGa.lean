/- The order of types is one of all. -/
import Derived.Test.YtkcpkckaahmheaaDoorOtS2
import Derived.Test.YtkcpkckaahmheaaDoorOtK

namespace Go.Ot
open Go.Am Go.Proofs
set_option maxRecDepth 100000

/-- Of three: first to second, second to third, first to third. -/
def TR (x y z : Int) : Prop :=
  (-1 ≤ x ∧ x ≤ 1) ∧ (-1 ≤ y ∧ y ≤ 1) ∧ (-1 ≤ z ∧ z ≤ 1) ∧ (x ≤ 0 → y ≤ 0 → z ≤ 0) ∧ (0 ≤ x → 0 ≤ y → 0 ≤ z) ∧ (x < 0 → y ≤ 0 → z < 0) ∧ (x ≤ 0 → y < 0 → z < 0) ∧ (0 < x → 0 ≤ y → 0 < z) ∧ (0 ≤ x → 0 < y → 0 < z)

def or2 (x y : Int) : Int := if x = 0 then y else x

theorem TR.or {x y z x' y' z' : Int} (h : TR x y z) (h' : TR x' y' z') : TR (or2 x x') (or2 y y') (or2 z z') := by
  unfold TR or2 at *
  split <;> split <;> split <;> omega

theorem cmpI_cases (a b : Int) : cmpI a b = -1 ∧ a < b ∨ cmpI a b = 0 ∧ a = b ∨ cmpI a b = 1 ∧ b < a := by
  unfold cmpI
  split
  · exact .inl ⟨rfl, ‹_›⟩
  · split
    · exact .inr (.inr ⟨rfl, ‹_›⟩)
    · exact .inr (.inl ⟨rfl, by omega⟩)

theorem cmpI_tr (a b c : Int) : TR (cmpI a b) (cmpI b c) (cmpI a c) := by
  have h1 := cmpI_cases a b
  have h2 := cmpI_cases b c
  have h3 := cmpI_cases a c
  generalize cmpI a b = x at *
  generalize cmpI b c = y at *
  generalize cmpI a c = z at *
  unfold TR
  refine ⟨by omega, by omega, by omega, by omega, by omega, by omega, by omega, by omega, by omega⟩

theorem cmpI_anti (a b : Int) : cmpI b a = - cmpI a b := by
  have h1 := cmpI_cases a b
  have h2 := cmpI_cases b a
  omega

theorem or2_anti {x y x' y' : Int} (h : x' = -x) (h' : y' = -y) : or2 x' y' = - or2 x y := by
  unfold or2
  split <;> split <;> omega

theorem or2_range {x y : Int} (h : -1 ≤ x ∧ x ≤ 1) (h' : -1 ≤ y ∧ y ≤ 1) : -1 ≤ or2 x y ∧ or2 x y ≤ 1 := by
  unfold or2
  split <;> omega

theorem cmpI_range (a b : Int) : -1 ≤ cmpI a b ∧ cmpI a b ≤ 1 := by
  have := cmpI_cases a b
  omega

theorem bytes_cons (x y : UInt8) (a b : List UInt8) : Lib.compareBytes (x :: a) (y :: b) = or2 (cmpI x.toNat y.toNat) (Lib.compareBytes a b) := by
  have h := cmpI_cases x.toNat y.toNat
  simp only [Lib.compareBytes, or2, UInt8.lt_iff_toNat_lt]
  rcases h with ⟨h1, h2⟩ | ⟨h1, h2⟩ | ⟨h1, h2⟩
  · rw [if_pos (by omega), h1]; rfl
  · rw [if_neg (by omega), if_neg (by omega), h1]; rfl
  · rw [if_neg (by omega), if_pos (by omega), h1]; rfl

theorem bytes_range : ∀ a b : List UInt8, -1 ≤ Lib.compareBytes a b ∧ Lib.compareBytes a b ≤ 1
  | [], [] => by simp [Lib.compareBytes]
  | [], _ :: _ => by simp [Lib.compareBytes]
  | _ :: _, [] => by simp [Lib.compareBytes]
  | x :: a, y :: b => by rw [bytes_cons]; exact or2_range (cmpI_range _ _) (bytes_range a b)

theorem bytes_anti : ∀ a b : List UInt8, Lib.compareBytes b a = - Lib.compareBytes a b
  | [], [] => by simp [Lib.compareBytes]
  | [], _ :: _ => by simp [Lib.compareBytes]
  | _ :: _, [] => by simp [Lib.compareBytes]
  | x :: a, y :: b => by rw [bytes_cons, bytes_cons]; exact or2_anti (cmpI_anti _ _) (bytes_anti a b)

theorem tr_lo {y : Int} (h : -1 ≤ y ∧ y ≤ 1) : TR (-1) y (-1) := by unfold TR; omega
theorem tr_hi {x : Int} (h : -1 ≤ x ∧ x ≤ 1) : TR x 1 1 := by unfold TR; omega
theorem tr_mid {z : Int} (h : -1 ≤ z ∧ z ≤ 1) : TR 1 (-1) z := by unfold TR; omega
theorem tr_0 : TR 0 0 0 := by unfold TR; omega
theorem tr_l : TR 0 (-1) (-1) := by unfold TR; omega
theorem tr_r : TR 1 0 1 := by unfold TR; omega
theorem tr_u : TR (-1) 1 0 := by unfold TR; omega

theorem bytes_tr : ∀ a b c : List UInt8, TR (Lib.compareBytes a b) (Lib.compareBytes b c) (Lib.compareBytes a c)
  | [], [], [] => tr_0
  | [], [], _ :: _ => tr_l
  | [], _ :: _, [] => tr_u
  | [], y :: b, z :: c => tr_lo (bytes_range (y :: b) (z :: c))
  | _ :: _, [], [] => tr_r
  | x :: a, [], z :: c => tr_mid (bytes_range (x :: a) (z :: c))
  | x :: a, y :: b, [] => tr_hi (bytes_range (x :: a) (y :: b))
  | x :: a, y :: b, z :: c => by
    rw [bytes_cons, bytes_cons, bytes_cons]
    exact (cmpI_tr _ _ _).or (bytes_tr a b c)

theorem cmpT_or (k k' : Int) (n n' : List UInt8) (l l' : List Ty) : cmpT (.mk k n l) (.mk k' n' l') = or2 (cmpI k k') (or2 (Lib.compareBytes n n') (or2 (cmpI l.length l'.length) (cmpTs l l'))) := by
  simp only [cmpT, orL, or2]
  have e : ∀ d : Int, (if d = 0 then 0 else d) = d := fun d => by split <;> omega
  rw [e]

theorem cmpTs_cons (a b : Ty) (l m : List Ty) : cmpTs (a :: l) (b :: m) = or2 (cmpT a b) (cmpTs l m) := by
  simp only [cmpTs, or2]

mutual
theorem ty_range : ∀ a b : Ty, -1 ≤ cmpT a b ∧ cmpT a b ≤ 1
  | .mk k n l, .mk k' n' l' => by
    rw [cmpT_or]
    exact or2_range (cmpI_range _ _) (or2_range (bytes_range _ _) (or2_range (cmpI_range _ _) (tys_range l l')))
theorem tys_range : ∀ a b : List Ty, -1 ≤ cmpTs a b ∧ cmpTs a b ≤ 1
  | [], [] => by simp [cmpTs]
  | [], _ :: _ => by simp [cmpTs]
  | _ :: _, [] => by simp [cmpTs]
  | x :: a, y :: b => by rw [cmpTs_cons]; exact or2_range (ty_range x y) (tys_range a b)
end

mutual
theorem ty_anti : ∀ a b : Ty, cmpT b a = - cmpT a b
  | .mk k n l, .mk k' n' l' => by
    rw [cmpT_or, cmpT_or]
    exact or2_anti (cmpI_anti _ _) (or2_anti (bytes_anti _ _) (or2_anti (cmpI_anti _ _) (tys_anti l l')))
theorem tys_anti : ∀ a b : List Ty, cmpTs b a = - cmpTs a b
  | [], [] => by simp [cmpTs]
  | [], _ :: _ => by simp [cmpTs]
  | _ :: _, [] => by simp [cmpTs]
  | x :: a, y :: b => by rw [cmpTs_cons, cmpTs_cons]; exact or2_anti (ty_anti x y) (tys_anti a b)
end

theorem nil_cons (y : Ty) (b : List Ty) : cmpTs [] (y :: b) = -1 := by simp [cmpTs]
theorem cons_nil (y : Ty) (b : List Ty) : cmpTs (y :: b) [] = 1 := by simp [cmpTs]
theorem nil_nil : cmpTs [] [] = 0 := by simp [cmpTs]

mutual
theorem ty_tr : ∀ a b c : Ty, TR (cmpT a b) (cmpT b c) (cmpT a c)
  | .mk k n l, .mk k' n' l', .mk k'' n'' l'' => by
    rw [cmpT_or, cmpT_or, cmpT_or]
    exact (cmpI_tr _ _ _).or ((bytes_tr _ _ _).or ((cmpI_tr _ _ _).or (tys_tr l l' l'')))
theorem tys_tr : ∀ a b c : List Ty, TR (cmpTs a b) (cmpTs b c) (cmpTs a c)
  | [], [], [] => by rw [nil_nil]; exact tr_0
  | [], [], _ :: _ => by rw [nil_nil, nil_cons]; exact tr_l
  | [], _ :: _, [] => by rw [nil_nil, nil_cons, cons_nil]; exact tr_u
  | [], y :: b, z :: c => by rw [nil_cons, nil_cons]; exact tr_lo (tys_range (y :: b) (z :: c))
  | _ :: _, [], [] => by rw [nil_nil, cons_nil]; exact tr_r
  | x :: a, [], z :: c => by rw [cons_nil, nil_cons]; exact tr_mid (tys_range (x :: a) (z :: c))
  | x :: a, y :: b, [] => by rw [cons_nil, cons_nil]; exact tr_hi (tys_range (x :: a) (y :: b))
  | x :: a, y :: b, z :: c => by
    rw [cmpTs_cons, cmpTs_cons, cmpTs_cons]
    exact (ty_tr x y z).or (tys_tr a b c)
end

theorem ty_refl (a : Ty) : cmpT a a = 0 := by
  have := ty_anti a a
  omega

end Go.Ot

namespace Go.Ot
open Go.Am Go.Proofs
set_option maxRecDepth 100000

theorem or2_zero {x y : Int} (h : or2 x y = 0) : x = 0 ∧ y = 0 := by
  unfold or2 at h
  split at h <;> omega

theorem bytes_zero : ∀ a b : List UInt8, Lib.compareBytes a b = 0 → a = b
  | [], [], _ => rfl
  | [], _ :: _, h => by simp [Lib.compareBytes] at h
  | _ :: _, [], h => by simp [Lib.compareBytes] at h
  | x :: a, y :: b, h => by
    rw [bytes_cons] at h
    obtain ⟨h1, h2⟩ := or2_zero h
    have := cmpI_cases x.toNat y.toNat
    have hxy : x.toNat = y.toNat := by omega
    rw [UInt8.toNat_inj.1 hxy, bytes_zero a b h2]

mutual
theorem cmpT_zero : ∀ a b : Ty, cmpT a b = 0 → a = b
  | .mk k n l, .mk k' n' l', h => by
    rw [cmpT_or] at h
    obtain ⟨h1, h2⟩ := or2_zero h
    obtain ⟨h2, h3⟩ := or2_zero h2
    obtain ⟨_, h4⟩ := or2_zero h3
    have := cmpI_cases k k'
    rw [bytes_zero n n' h2, cmpTs_zero l l' h4, show k = k' by omega]
theorem cmpTs_zero : ∀ a b : List Ty, cmpTs a b = 0 → a = b
  | [], [], _ => rfl
  | [], _ :: _, h => by simp [cmpTs] at h
  | _ :: _, [], h => by simp [cmpTs] at h
  | x :: a, y :: b, h => by
    rw [cmpTs_cons] at h
    obtain ⟨h1, h2⟩ := or2_zero h
    rw [cmpT_zero x y h1, cmpTs_zero a b h2]
end

end Go.Ot

namespace Go.Ot
open Go.Am Go.Proofs
set_option maxRecDepth 100000

/-- The order of two parts. -/
def cmpP (p q : Nam × Ty) : Int := or2 (Lib.compareBytes p.1 q.1) (cmpT p.2 q.2)

theorem cmpP_anti (p q : Nam × Ty) : cmpP q p = - cmpP p q := or2_anti (bytes_anti _ _) (ty_anti _ _)
theorem cmpP_refl (p : Nam × Ty) : cmpP p p = 0 := by have := cmpP_anti p p; omega
theorem cmpP_tr (p q r : Nam × Ty) : TR (cmpP p q) (cmpP q r) (cmpP p r) := TR.or (bytes_tr _ _ _) (ty_tr _ _ _)
theorem cmpP_zero {p q : Nam × Ty} (h : cmpP p q = 0) : p = q := by
  obtain ⟨h1, h2⟩ := or2_zero h
  exact Prod.ext (bytes_zero _ _ h1) (cmpT_zero _ _ h2)

def leP (p q : Nam × Ty) : Prop := cmpP p q ≤ 0
def ltP (p q : Nam × Ty) : Prop := cmpP p q < 0
theorem leP_trans {p q r : Nam × Ty} (h1 : leP p q) (h2 : leP q r) : leP p r := by
  have := cmpP_tr p q r
  unfold TR at this
  unfold leP at *
  omega
theorem ltP_trans {p q r : Nam × Ty} (h1 : ltP p q) (h2 : leP q r) : ltP p r := by
  have := cmpP_tr p q r
  unfold TR at this
  unfold leP ltP at *
  omega
theorem ltP_le {p q : Nam × Ty} (h : ltP p q) : leP p q := by unfold leP ltP at *; omega
theorem not_lt {p q : Nam × Ty} (h : ¬ ltP p q) : leP q p := by
  have := cmpP_anti p q
  unfold leP ltP at *
  omega

/-- A row's cells. -/
def rowP (ps : En) : List V := ps.flatMap fun p => (paV p).cells
theorem rowP_nil : rowP [] = [] := rfl
theorem rowP_app (a b : En) : rowP (a ++ b) = rowP a ++ rowP b := by simp [rowP]
theorem rowP_cons (p : Nam × Ty) (b : En) : rowP (p :: b) = (paV p).cells ++ rowP b := by simp [rowP]
theorem rowP_len (ps : En) : (rowP ps).length = ps.length * 4 := by
  induction ps with
  | nil => rfl
  | cons p ps ih => rw [rowP_cons, List.length_append, pa_cells, ih, List.length_cons]; omega

theorem rowP_at (a : En) (x : Nam × Ty) (b : En) : sel (rowP (a ++ x :: b)) (a.length * 4) (some 4) = some (paV x) := by
  have hl := rowP_len (a ++ x :: b)
  simp only [List.length_append, List.length_cons] at hl
  simp only [sel]
  rw [if_pos (by omega)]
  rw [rowP_app, rowP_cons, List.drop_append_of_le_length (by rw [rowP_len]; omega), List.drop_of_length_le (by rw [rowP_len]; omega), List.nil_append, List.take_append_of_le_length (by rw [pa_cells]; omega), pa_take, pa_agg]

theorem rowP_put (a : En) (x : Nam × Ty) (b : En) (p : Nam × Ty) : splice (rowP (a ++ x :: b)) (a.length * 4) (paV p).cells = rowP (a ++ p :: b) := by
  have e1 : (rowP a).length = a.length * 4 := rowP_len a
  unfold splice
  rw [rowP_app, rowP_cons, pa_cells, List.take_append_of_le_length (by omega), List.take_of_length_le (by omega), rowP_app, rowP_cons, List.append_assoc]
  congr 1
  congr 1
  rw [List.drop_append, List.drop_of_length_le (by omega), List.nil_append, List.drop_append, List.drop_of_length_le (by rw [pa_cells]; omega), List.nil_append, pa_cells]
  have : a.length * 4 + 4 - (rowP a).length - 4 = 0 := by omega
  rw [this, List.drop_zero]

section
variable {bs : List Nat} {h : List Ob} {Q : V → List Ob → Prop}

theorem okP (r : Nat) (p : Nam × Ty) : okStore bs r (paV p).cells := fun b _ _ => by
  obtain ⟨c, k, n, l⟩ := p
  simp [paV, tyV, under_tys]

theorem or2L (a b : Int) (hq : Q (.int .i64 (or2 a b)) h) : CallA ap 68 0 bs [.sl .frozen [.int .i64 a, .int .i64 b]] h Q := by
  refine CallA.code (af := ac68) rfl (Nat.le_of_ble_eq_true rfl) ?_
  simp [ac68]
  refine wpA_loop (CallA.hle ap) ?_
  simp [forget, noLoc]
  refine condA_split (fun h1 => ?_) fun h1 => ?_
  · simp at h1
    simp
    simpa [or2, h1] using hq
  simp at h1
  simp [w1]
  refine wpA_loop (CallA.hle ap) ?_
  simp [forget, noLoc]
  refine condA_split (fun h2 => ?_) fun h2 => ?_
  · simp at h2
    simp
    simpa [or2, h1] using hq
  simp at h2
  simp [w2]
  refine wpA_loop (CallA.hle ap) ?_
  simp [forget, noLoc]
  simpa [or2, h1, h2] using hq

theorem pa_n0 (p : Nam × Ty) (hh : 0 < (paV p).cells.length) : (paV p).cells[0] = .str p.1 := rfl

theorem compareP (p q : Nam × Ty) (hp : okT p.2 = true) (hq2 : okT q.2 = true) (hq : Q (.int .i64 (cmpP p q)) h) : CallA ap 40 0 bs [paV p, paV q] h Q := by
  refine CallA.code (af := ac40) rfl (Nat.le_of_ble_eq_true rfl) ?_
  simp [ac40, pa_cells, pa_loc, pa_n0]
  refine cmp36 _ _ ?_
  simp [pa_cells, pa_tail, ty_agg, demote_ty]
  refine cmp11 _ p.2 q.2 (Nat.le_refl _) hp hq2 _ _ _ ?_
  simp
  refine or2L _ _ ?_
  simp
  exact hq

theorem set_same {α : Type} {l : List α} {r : Nat} {o : α} (hh : l[r]? = some o) : l.set r o = l := by
  apply List.ext_getElem?
  intro i
  rw [List.getElem?_set]
  split
  · rename_i e
    subst e
    rw [hh, if_pos (List.getElem?_eq_some_iff.1 hh).1]
  · rfl

theorem pair_mid {A B : En} {x : Nam × Ty} (h1 : (A ++ B).Pairwise leP) (h2 : ∀ b ∈ B, ltP x b) (h3 : ∀ a ∈ A, leP a x) : (A ++ x :: B).Pairwise leP := by
  rw [List.pairwise_append] at h1 ⊢
  refine ⟨h1.1, List.pairwise_cons.2 ⟨fun b hb => ltP_le (h2 b hb), h1.2.1⟩, fun a ha b hb => ?_⟩
  rcases List.mem_cons.1 hb with rfl | hb
  · exact h3 a ha
  · exact h1.2.2 a ha b hb

theorem below_last {A : En} {x y : Nam × Ty} (h1 : (A ++ [y]).Pairwise leP) (h2 : leP y x) : ∀ a ∈ A ++ [y], leP a x := by
  intro a ha
  rw [List.pairwise_append] at h1
  rcases List.mem_append.1 ha with ha | ha
  · exact leP_trans (h1.2.2 a ha y (by simp)) h2
  · rw [List.mem_singleton] at ha; subst ha; exact h2

/-- Moved down to where it belongs: one by one. -/
theorem insertP {r ver n : Nat} (hn : n ≤ 1000) (hr : r < h.length) (ps : En) (hps : ps.length = n) (hh : h[r]? = some (.vec ver 4 (rowP ps))) (hok : ∀ p ∈ ps, okT p.2 = true)
    (hq : ∀ qs : En, qs.Perm ps → qs.Pairwise leP → Q (.tup []) (h.set r (.vec ver 4 (rowP qs)))) :
    CallA ap 82 0 bs [.vec r ver 0 n 4, .int .i64 0, .int .i64 n, .fn 40 []] h Q := by
  refine CallA.code (af := ac82) rfl (Nat.le_of_ble_eq_true rfl) ?_
  simp [ac82, w1]
  obtain ⟨I, hI⟩ : ∃ I : Nat → St → Prop, ∀ m s, I m s ↔ (∃ (i : Nat) (L C : En), (i + m = n + 1 ∧ 1 ≤ i) ∧ s.r 0 = .vec r ver 0 n 4 ∧ s.r 1 = .int .i64 0 ∧ s.r 2 = .int .i64 n ∧ s.r 3 = .fn 40 [] ∧ s.r 8 = .int .i64 i ∧
    s.h = h.set r (.vec ver 4 (rowP (L ++ C))) ∧ (L ++ C).Perm ps ∧ L.Pairwise leP ∧ (L.length = i ∨ n ≤ i ∧ C = [])) := ⟨_, fun _ _ => Iff.rfl⟩
  have start : ∃ L C : En, L ++ C = ps ∧ L.Pairwise leP ∧ (L.length = 1 ∨ n ≤ 1 ∧ C = []) := by
    cases ps with
    | nil => exact ⟨[], [], rfl, by simp, .inr ⟨by simp at hps; omega, rfl⟩⟩
    | cons p ps => exact ⟨[p], ps, rfl, by simp, .inl rfl⟩
  obtain ⟨L0, C0, e0, hp0, hl0⟩ := start
  have ehh : h = h.set r (.vec ver 4 (rowP (L0 ++ C0))) := by rw [e0]; exact (set_same hh).symm
  refine loop_ind (CallA.hle ap) I ?_ (n := n) ((hI _ _).2 ⟨1, L0, C0, ⟨by omega, by omega⟩, by simp, by simp, by simp, by simp, by simp, by simpa using ehh, by rw [e0], hp0, hl0⟩)
  rintro m ⟨rr, lo, h'⟩ hs
  obtain ⟨i, L, C, ⟨hm, hi1⟩, r0, r1, r2, r3, r8, rfl, hperm, hsort, hlen⟩ := (hI _ _).1 hs
  simp only at r0 r1 r2 r3 r8
  have hwi : IntKind.wrap .i64 ((i : Int) + 1) = ((i + 1 : Nat) : Int) := by rw [wrap64 (by omega) (by omega)]; omega
  simp [forget, noLoc, r2, r8]
  refine condA_dec (fun d1 => ?_) fun d1 => ?_
  · have hin : i < n := by omega
    have hLi : L.length = i := by rcases hlen with hlen | hlen <;> omega
    have htot : L.length + C.length = n := by have := hperm.length_eq; rw [List.length_append] at this; omega
    obtain ⟨c, C', rfl⟩ : ∃ c C', C = c :: C' := by
      cases C with
      | nil => simp at htot; omega
      | cons c C' => exact ⟨c, C', rfl⟩
    simp [r8]
    obtain ⟨I2, hI2⟩ : ∃ I2 : Nat → St → Prop, ∀ m s, I2 m s ↔ (∃ (A : En) (x : Nam × Ty) (B : En), m = A.length ∧ s.r 0 = .vec r ver 0 n 4 ∧ s.r 1 = .int .i64 0 ∧ s.r 2 = .int .i64 n ∧ s.r 3 = .fn 40 [] ∧ s.r 8 = .int .i64 i ∧ s.r 9 = .int .i64 A.length ∧
      s.h = h.set r (.vec ver 4 (rowP (A ++ x :: (B ++ C')))) ∧ (A ++ B).Pairwise leP ∧ (∀ b ∈ B, ltP x b) ∧ A.length + B.length = i ∧ (A ++ x :: (B ++ C')).Perm ps) := ⟨_, fun _ _ => Iff.rfl⟩
    refine loop_ind (CallA.hle ap) I2 ?_ (n := L.length) ((hI2 _ _).2 ⟨L, c, [], rfl, by simp [r0], by simp [r1], by simp [r2], by simp [r3], by simp [r8], by simp [hLi], by simp, by simpa using hsort, by simp, by simpa using hLi, by simpa using hperm⟩)
    rintro m2 ⟨rr2, lo2, h2⟩ hs2
    obtain ⟨A, x, B, hm2, r0, r1, r2, r3, r8, r9, rfl, hAB, hxB, hlenA, hperm2⟩ := (hI2 _ _).1 hs2
    simp only at r0 r1 r2 r3 r8 r9
    have hokx : okT x.2 = true := hok x (hperm2.mem_iff.1 (by simp))
    have fin : (∀ a ∈ A, leP a x) → ∀ (rr' : Nat → V) (lo' : Nat → Option (List V)) (h' : List Ob), rr' 0 = .vec r ver 0 n 4 → rr' 1 = .int .i64 0 → rr' 2 = .int .i64 n → rr' 3 = .fn 40 [] → rr' 8 = .int .i64 ((i : Int) + 1) →
        h' = h.set r (.vec ver 4 (rowP (A ++ x :: (B ++ C')))) → Again I m ⟨rr', lo', h'⟩ := fun ha rr' lo' h' e0 e1 e2 e3 e8 eh =>
      ⟨m - 1, by omega, (hI _ _).2 ⟨i + 1, A ++ x :: B, C', ⟨by omega, by omega⟩, e0, e1, e2, e3, e8.trans (by simp), by rw [eh]; simp, by simpa using hperm2, pair_mid hAB hxB ha, .inl (by simp; omega)⟩⟩
    rcases List.eq_nil_or_concat A with rfl | ⟨A', y, rfl⟩
    · simp [forget, noLoc, r1, r8, r9, hwi]
      exact fin (by simp) _ _ _ (by simp [r0]) (by simp [r1]) (by simp [r2]) (by simp [r3]) (by simp) (by simp)
    · have hoky : okT y.2 = true := hok y (hperm2.mem_iff.1 (by simp))
      have hA1 : (0 : Int) < (A'.length : Int) + 1 := by omega
      have hwj : IntKind.wrap .i64 (A'.length : Int) = (A'.length : Int) := wrap64 (by omega) (by simp at hlenA; omega)
      have hlen1 : A'.length + 1 < n := by simp at hlenA; omega
      have hlen2 : A'.length < n := by omega
      have eA : A' ++ [y] ++ x :: (B ++ C') = A' ++ y :: (x :: (B ++ C')) := by simp
      have s1 := rowP_at (A' ++ [y]) x (B ++ C')
      have s2 := rowP_at A' y (x :: (B ++ C'))
      rw [← eA] at s2
      simp at s1 s2
      have i1 : iaddrV 4 (.vec r ver 0 n 4) (.int .i64 ((A'.length : Int) + 1)) = some (.vptr r ver ((A'.length + 1) * 4)) := by
        simp only [iaddrV]
        have : ((A'.length : Int) + 1).toNat = A'.length + 1 := by omega
        rw [this, if_pos ⟨by omega, hlen1, trivial⟩]
        simp
      have i2 : iaddrV 4 (.vec r ver 0 n 4) (.int .i64 (A'.length : Int)) = some (.vptr r ver (A'.length * 4)) := by
        simp only [iaddrV]
        rw [Int.toNat_natCast, if_pos ⟨by omega, hlen2, trivial⟩]
        simp
      simp [forget, noLoc, r0, r1, r3, r9, hA1, hwj, i1, i2, hr, s1, s2, loadV, cellsAt, pa_loc, pa_demote]
      refine compareP x y hokx hoky ?_
      simp
      refine condA_dec (fun d2 => ?_) fun d2 => ?_
      · simp [r0, r9, hwj, i1, i2, hr, s1, s2, loadV, cellsAt, pa_loc, pa_cells, okP]
        have p1 := rowP_put (A' ++ [y]) x (B ++ C') y
        have p2 := rowP_put A' y (y :: (B ++ C')) x
        simp at p1 p2
        rw [p1, p2, rowP_len, rowP_len]
        refine ⟨by simp; omega, by simp; omega, ?_⟩
        have hpr : (A' ++ x :: (y :: B ++ C')).Perm ps := by
          have : (A' ++ y :: (x :: (B ++ C'))).Perm ps := by simpa using hperm2
          refine List.Perm.trans (List.Perm.append_left A' ?_) this
          exact List.Perm.swap _ _ _
        refine ⟨A'.length, by simp at hm2; omega, (hI2 _ _).2 ⟨A', x, y :: B, rfl, by simp [r0], by simp [r1], by simp [r2], by simp [r3], by simp [r8], by simp, by simp, by simpa using hAB, ?_, by simp at hlenA ⊢; omega, hpr⟩⟩
        intro b hb
        rcases List.mem_cons.1 hb with rfl | hb
        · exact d2
        · exact hxB b hb
      · simp [r8, hwi]
        exact fin (by simpa using below_last (A := A') (y := y) (by simpa using (List.pairwise_append.1 hAB).1) (not_lt d2)) _ _ _ (by simp [r0]) (by simp [r1]) (by simp [r2]) (by simp [r3]) (by simp) (by simp)
  · simp
    have hC : C = [] := by
      rcases hlen with hlen | hlen
      · have := hperm.length_eq; rw [List.length_append] at this; exact List.length_eq_zero_iff.1 (by omega)
      · exact hlen.2
    subst hC
    simpa using hq L (by simpa using hperm) hsort

end

end Go.Ot
