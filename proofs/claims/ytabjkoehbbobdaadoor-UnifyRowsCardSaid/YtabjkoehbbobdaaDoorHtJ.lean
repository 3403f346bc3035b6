/- A row of variables, each one with the next: plain law. -/
import Derived.Test.YtabjkoehbbobdaaDoorHtY9
import Derived.Test.YtabjkoehbbobdaaDoorHtX5
namespace Go.Ht
open Go.Am Go.Proofs

def nm (i : Nat) : Nam := [118, UInt8.ofNat (97 + i)]
theorem nm_inj {i j : Nat} (hi : i ≤ 21) (hj : j ≤ 21) (h : nm i = nm j) : i = j := by
  simp only [nm, List.cons.injEq, and_true, true_and] at h
  have := congrArg UInt8.toNat h
  simp only [UInt8.toNat_ofNat'] at this
  omega
def names (n : Nat) : List Nam := (List.range (n + 1)).map nm
theorem names_nodup {n : Nat} (hn : n ≤ 20) : (names n).Nodup := by
  refine List.nodup_iff_pairwise_ne.2 ?_
  refine List.pairwise_map.2 ?_
  refine List.Pairwise.imp_of_mem (R := (· ≠ ·)) (fun {a b} ha hb hab e => hab ?_) List.nodup_range
  rw [List.mem_range] at ha hb
  exact nm_inj (by omega) (by omega) e
theorem mem_names {n : Nat} {x : Nam} : x ∈ names n ↔ ∃ i, i ≤ n ∧ x = nm i := by
  simp only [names, List.mem_map, List.mem_range]
  exact ⟨fun ⟨i, h1, h2⟩ => ⟨i, by omega, h2.symm⟩, fun ⟨i, h1, h2⟩ => ⟨i, by omega, h2.symm⟩⟩
theorem nm_len {n : Nat} {x : Nam} (h : x ∈ names n) : x.length = 2 := by
  obtain ⟨i, _, rfl⟩ := mem_names.1 h; rfl

def rowP (w : List Bool) (i : Nat) : Ty × Ty := if w.getD i false then (var (nm (i + 1)), var (nm i)) else (var (nm i), var (nm (i + 1)))
def row (w : List Bool) (n : Nat) : List (Ty × Ty) := (List.range n).map (rowP w)

theorem hat_v (θ : Nam → Ty) (x : Nam) : hat θ (var x) = θ x := hat_var θ x []

theorem row_same {w : List Bool} {n : Nat} {θ : Nam → Ty} : (∀ p ∈ row w n, hat θ p.1 = hat θ p.2) ↔ ∀ i, i < n → θ (nm i) = θ (nm (i + 1)) := by
  have each : ∀ i, hat θ (rowP w i).1 = hat θ (rowP w i).2 ↔ θ (nm i) = θ (nm (i + 1)) := fun i => by
    unfold rowP
    split <;> simp only [hat_v]
    exact eq_comm
  constructor
  · intro h i hi
    exact (each i).1 (h _ (List.mem_map.2 ⟨i, List.mem_range.2 hi, rfl⟩))
  · intro h p hp
    obtain ⟨i, hi, rfl⟩ := List.mem_map.1 hp
    exact (each i).2 (h i (List.mem_range.1 hi))

theorem all_same {θ : Nam → Ty} {n : Nat} (h : ∀ i, i < n → θ (nm i) = θ (nm (i + 1))) : ∀ i, i ≤ n → θ (nm i) = θ (nm 0)
  | 0, _ => rfl
  | i + 1, hi => by rw [← h i (by omega)]; exact all_same h i (by omega)

/-- All the row's variables are this type. -/
def toOne (n : Nat) (t : Ty) (x : Nam) : Ty := if x ∈ names n then t else var x
theorem toOne_nm {n : Nat} {t : Ty} {i : Nat} (hi : i ≤ n) : toOne n t (nm i) = t := if_pos (mem_names.2 ⟨i, hi, rfl⟩)
theorem toOne_out {n : Nat} {t : Ty} {x : Nam} (hx : x ∉ names n) : toOne n t x = var x := if_neg hx

theorem row_one (w : List Bool) (n : Nat) (t : Ty) : ∀ p ∈ row w n, hat (toOne n t) p.1 = hat (toOne n t) p.2 :=
  row_same.2 fun i hi => by rw [toOne_nm (by omega), toOne_nm (by omega)]

theorem row_ok {A : List Nam} {w : List Bool} {n : Nat} {f : En} (hn : n ≤ 20) (h : FoL A [] (row w n) f) :
    f.length = n ∧ (∀ x, x ∉ names n → look f x = none) ∧ ∃ y, y ∈ names n ∧ ∀ i, i ≤ n → sge f (nm i) = var y := by
  have hab : Absorb (toOne n (var (nm 0))) (sge f) := h.most _ (abs_nil _) (row_one w n _)
  have hs := all_same (row_same.1 h.same)
  have isV : ∀ (u : Ty) (z : Nam), hat (toOne n (var (nm 0))) u = var z → fine u = true → ∃ y, u = var y ∧ toOne n (var (nm 0)) y = var z := by
    intro ⟨k, m, l⟩ z hu hf
    by_cases hk : k = 1
    · subst hk
      rw [hat_var] at hu
      exact ⟨m, by rw [fine_var' hf]; rfl, hu⟩
    · rw [hat_mk _ hk] at hu
      simp only [var, Ty.mk.injEq] at hu
      exact absurd hu.1 hk
  have hfine : ∀ x, fine (sge f x) = true := sge_fine h.fit.s.ok
  -- what is out of the row is not bound
  have hout : ∀ x, x ∉ names n → look f x = none := by
    intro x hx
    cases hl : look f x with
    | none => rfl
    | some u =>
      exfalso
      have h1 := hab x
      rw [toOne_out hx, sge_some hl] at h1
      obtain ⟨y, rfl, hy⟩ := isV u x h1 (by have := hfine x; rwa [sge_some hl] at this)
      have hyx : y = x := by
        by_cases hm : y ∈ names n
        · rw [toOne, if_pos hm] at hy
          simp only [var, Ty.mk.injEq, true_and, and_true] at hy
          exact absurd (hy ▸ mem_names.2 ⟨0, by omega, rfl⟩) hx
        · rw [toOne_out hm] at hy
          simpa [var] using hy
      subst hyx
      have := h.fit.s.out y _ hl y (by simp [var, occ])
      rw [hl] at this
      cases this
  have h0 := hab (nm 0)
  rw [toOne_nm (by omega)] at h0
  obtain ⟨y, hy, hy2⟩ := isV _ _ h0 (hfine _)
  have hyn : y ∈ names n := by
    refine Classical.byContradiction fun hm => ?_
    rw [toOne_out hm] at hy2
    simp only [var, Ty.mk.injEq, true_and, and_true] at hy2
    exact hm (hy2 ▸ mem_names.2 ⟨0, by omega, rfl⟩)
  have hall : ∀ i, i ≤ n → sge f (nm i) = var y := fun i hi => (hs i hi).trans hy
  refine ⟨?_, hout, y, hyn, hall⟩
  have hyy : look f y = none := by
    have h1 := h.fit.s.norm (var (nm 0)) y
    rw [hat_v, hy] at h1
    exact h1 (by simp [var, occ])
  have hp : (f.map (·.1)).Perm ((names n).erase y) := by
    refine (List.perm_ext_iff_of_nodup h.fit.s.ok.uniq ((names_nodup hn).erase y)).2 fun x => ?_
    rw [(names_nodup hn).mem_erase_iff]
    constructor
    · intro hx
      obtain ⟨⟨x', u⟩, hm, rfl⟩ := List.mem_map.1 hx
      have hl := mem_look h.fit.s.ok.uniq hm
      refine ⟨fun e => ?_, Classical.byContradiction fun hne => ?_⟩
      · simp only at e; rw [e, hyy] at hl; cases hl
      · rw [hout _ hne] at hl; cases hl
    · rintro ⟨hne, hm⟩
      refine Classical.byContradiction fun hx => ?_
      have hl : look f x = none := by
        cases hl : look f x with
        | none => rfl
        | some u => exact absurd (List.mem_map.2 ⟨(x, u), look_mem hl, rfl⟩) hx
      obtain ⟨i, hi, rfl⟩ := mem_names.1 hm
      have h1 := hall i hi
      rw [sge_none hl] at h1
      simp only [var, Ty.mk.injEq, true_and, and_true] at h1
      exact hne h1
  have := hp.length_eq
  rw [List.length_map, List.length_erase_of_mem hyn] at this
  simpa [names] using this

/-- With a type at its end, all are that type. -/
theorem row_end {A B : List Nam} {w : List Bool} {n : Nat} {f g : En} {t : Ty} (hn : n ≤ 20) (h : FoL A [] (row w n) f) (h' : FoL B [] (row w n ++ [(var (nm n), t)]) g) (ht : fine t = true) (hv : ∀ y, occ y t = true → y.length = 1) :
    ∀ i, i ≤ n → sge g (nm i) = t := by
  obtain ⟨_, hout, y, hy, hall⟩ := row_ok hn h
  have no : ∀ x, x ∈ names n → occ x t = false := fun x hx => by
    cases ho : occ x t with
    | false => rfl
    | true => have := hv x ho; rw [nm_len hx] at this; cases this
  have hat_t : hat (sge f) t = t := Norm.hat (fun x hx => hout x fun hm => by rw [no x hm] at hx; cases hx) ht
  have hne : t ≠ var y := fun e => by
    have := no y hy
    rw [e] at this
    simp [var, occ] at this
  have hu : Uni (sge f) (var (nm n)) t (.ok fun z => hat (one1 y t) (sge f z)) :=
    .bindL (by rw [hat_v]; exact hall n (Nat.le_refl _)) hat_t hne (no y hy)
  have e := (h.uni.app rfl (.cons hu .nil)).det h'.uni
  have e : (fun z => hat (one1 y t) (sge f z)) = sge g := Except.ok.inj e
  intro i hi
  rw [← e]
  simp only
  rw [hall i hi, hat_v, one1_self]

theorem row_found {w : List Bool} {n : Nat} {g : Nat} : ¬ FailL [] (row w n) g := fun h => h.none _ (abs_nil _) (row_one w n (var (nm 0)))
theorem row_found' {w : List Bool} {n : Nat} {g : Nat} {t : Ty} (ht : fine t = true) (hv : ∀ y, occ y t = true → y.length = 1) : ¬ FailL [] (row w n ++ [(var (nm n), t)]) g := fun h => by
  refine h.none (toOne n t) (abs_nil _) fun p hp => ?_
  rcases List.mem_append.1 hp with hp | hp
  · exact row_one w n t p hp
  · simp at hp
    subst hp
    simp only
    rw [hat_v, toOne_nm (Nat.le_refl _), hat_congr (η := var) t fun y hy => toOne_out fun hm => (by have := hv y hy; rw [nm_len hm] at this; cases this), hat_id t ht]

end Go.Ht
