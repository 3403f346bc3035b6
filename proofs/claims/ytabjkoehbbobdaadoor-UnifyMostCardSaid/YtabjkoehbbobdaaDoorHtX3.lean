/- Unification: what each step comes to; plain law. -/
import Derived.Test.YtabjkoehbbobdaaDoorHtX2
namespace Go.Ht
open Go.Am Go.Proofs
set_option maxRecDepth 100000

def good (V : List Nam) (t : Ty) : Prop := no4 t = true ∧ ∀ y, occ y t = true → y ∈ V
def U (V : List Nam) (f : En) : Nat := (V.filter fun x => (look f x).isNone).length

/-- Solved, and all within a few names. -/
structure Fit (V : List Nam) (f : En) : Prop where
  s : Solved f
  g : ∀ x u, look f x = some u → good V u
  len : f.length + U V f ≤ 1000

/-- Step by step, what making two types one comes to: what is found, or which error it is. -/
inductive Uni : (Nam → Ty) → Ty → Ty → Except Nat (Nam → Ty) → Prop
  | vv {θ a b x} : hat θ a = var x → hat θ b = var x → Uni θ a b (.ok θ)
  | bindL {θ a b x t} : hat θ a = var x → hat θ b = t → t ≠ var x → occ x t = false → Uni θ a b (.ok fun y => hat (one1 x t) (θ y))
  | occL {θ a b x t} : hat θ a = var x → hat θ b = t → t ≠ var x → occ x t = true → Uni θ a b (.error 1)
  | bindR {θ a b x t} : hat θ b = var x → hat θ a = t → (∀ y, t ≠ var y) → occ x t = false → Uni θ a b (.ok fun y => hat (one1 x t) (θ y))
  | occR {θ a b x t} : hat θ b = var x → hat θ a = t → (∀ y, t ≠ var y) → occ x t = true → Uni θ a b (.error 1)
  | head {θ a b k n l k' n' l'} : hat θ a = .mk k n l → hat θ b = .mk k' n' l' → k ≠ 1 → k' ≠ 1 → ¬ (k = k' ∧ n = n' ∧ l.length = l'.length) → Uni θ a b (.error 0)
  | a0 {θ a b k n} : hat θ a = .mk k n [] → hat θ b = .mk k n [] → k ≠ 1 → Uni θ a b (.ok θ)
  | a1 {θ a b k n p q r} : hat θ a = .mk k n [p] → hat θ b = .mk k n [q] → k ≠ 1 → Uni θ p q r → Uni θ a b r
  | a2 {θ a b k n p p' q q' θ' r} : hat θ a = .mk k n [p, p'] → hat θ b = .mk k n [q, q'] → k ≠ 1 → Uni θ p q (.ok θ') → Uni θ' p' q' r → Uni θ a b r
  | a2e {θ a b k n p p' q q' g} : hat θ a = .mk k n [p, p'] → hat θ b = .mk k n [q, q'] → k ≠ 1 → Uni θ p q (.error g) → Uni θ a b (.error g)

structure Fo (V : List Nam) (e : En) (a b : Ty) (f : En) : Prop where
  fit : Fit V f
  abs : Absorb (sge f) (sge e)
  same : hat (sge f) a = hat (sge f) b
  most : ∀ θ, Absorb θ (sge e) → hat θ a = hat θ b → Absorb θ (sge f)
  leU : U V f ≤ U V e
  less : sge f = sge e ∨ U V f < U V e
  uni : Uni (sge e) a b (.ok (sge f))

theorem good_hat {V : List Nam} {f : En} (hf : Fit V f) {t : Ty} (ht : good V t) : good V (hat (sge f) t) := by
  have each : ∀ y, occ y t = true → good V (sge f y) := fun y hy => by
    cases hx : look f y with
    | none => rw [sge_none hx]; exact ⟨rfl, fun z hz => by simp [var, occ] at hz; subst hz; exact ht.2 _ hy⟩
    | some u => rw [sge_some hx]; exact hf.g y u hx
  refine ⟨no4_hat t ht.1 fun y hy => (each y hy).1, fun z hz => ?_⟩
  obtain ⟨y, h1, h2⟩ := occ_hat t hz
  exact (each y h1).2 z h2

theorem sge_hat_fine {f : En} (hf : EnOk f) {t : Ty} (ht : fine t = true) : fine (hat (sge f) t) = true := fine_hat (sge_fine hf) ht

theorem fo_refl {V : List Nam} {f : En} {a b : Ty} (hf : Fit V f) (h : hat (sge f) a = hat (sge f) b) (hu : Uni (sge f) a b (.ok (sge f))) : Fo V f a b f :=
  ⟨hf, hf.s.self, h, fun _ h _ => h, Nat.le_refl _, .inl rfl, hu⟩

theorem bound_less {V : List Nam} {e f : En} {x : Nam} {t : Ty} (hV : x ∈ V) (hx : look e x = none) (h : Bound e x t f) : U V f < U V e := by
  have sub : ∀ y, (look f y).isNone = true → (look e y).isNone = true := fun y hy => by
    rw [h.at_ y] at hy
    split at hy
    · simp at hy
    · simpa using hy
  have e1 : V.filter (fun y => (look f y).isNone) = (V.filter fun y => (look e y).isNone).filter fun y => (look f y).isNone := by
    rw [List.filter_filter]
    refine List.filter_congr fun y _ => ?_
    cases hb : (look f y).isNone with
    | true => simp [sub y hb]
    | false => simp
  unfold U
  rw [e1]
  refine List.length_filter_lt_length_iff_exists.2 ⟨x, List.mem_filter.2 ⟨hV, by simp [hx]⟩, ?_⟩
  rw [h.at_ x]
  simp

/-- A variable is bound. -/
theorem fo_bind {V : List Nam} {e f : En} {a b : Ty} {x : Nam} {t : Ty} (he : Fit V e) (hx : look e x = none) (hV : x ∈ V) (ht : fine t = true) (hg : good V t) (hn : Norm e t) (ho : occ x t = false) (hb : Bound e x t f) (hl : f.length = e.length + 1)
    (hab : (hat (sge e) a = var x ∧ hat (sge e) b = t) ∨ (hat (sge e) b = var x ∧ hat (sge e) a = t)) (hu : Uni (sge e) a b (.ok fun y => hat (one1 x t) (sge e y))) : Fo V e a b f := by
  obtain ⟨h1, h2, h3, h4⟩ := bound_facts he.s hx ht hn ho hb
  have hless := bound_less hV hx hb
  have one : ∀ y, good V (one1 x t y) ∨ one1 x t y = var y := fun y => by
    unfold one1
    split
    · exact .inl hg
    · exact .inr rfl
  have fit : Fit V f := by
    refine ⟨h1, fun y u hy => ?_, by have := he.len; omega⟩
    rw [hb.at_ y] at hy
    split at hy
    · cases hy; exact hg
    · simp only [Option.map_eq_some_iff] at hy
      obtain ⟨v, hv, rfl⟩ := hy
      have hgv := he.g y v hv
      refine ⟨no4_hat v hgv.1 fun z _ => ?_, fun z hz => ?_⟩
      · rcases one z with h | h
        · exact h.1
        · rw [h]; rfl
      · obtain ⟨w, hw1, hw2⟩ := occ_hat v hz
        rcases one w with h | h
        · exact h.2 z hw2
        · rw [h] at hw2
          simp [var, occ] at hw2
          subst hw2
          exact hgv.2 _ hw1
  have key : ∀ θ, Absorb θ (sge e) → hat θ a = hat θ b → θ x = hat θ t := fun θ ha hh => by
    rw [← ha.hat a, ← ha.hat b] at hh
    rcases hab with ⟨e1, e2⟩ | ⟨e1, e2⟩
    · rw [e1, e2, var, hat_var] at hh; exact hh
    · rw [e1, e2, var, hat_var] at hh; exact hh.symm
  refine ⟨fit, h2, ?_, fun θ ha hh => h4 θ ha (key θ ha hh), Nat.le_of_lt hless, .inr hless, by have e1 : sge f = fun y => hat (one1 x t) (sge e y) := funext (hb.sge hx); rw [e1]; exact hu⟩
  rw [← h2.hat a, ← h2.hat b]
  rcases hab with ⟨e1, e2⟩ | ⟨e1, e2⟩
  · rw [e1, e2]; exact h3
  · rw [e1, e2]; exact h3.symm

/-- A variable stands in what it should be. -/
theorem none_occ {e : En} {a b : Ty} {x : Nam} {t : Ty} (ho : occ x t = true) (hne : t ≠ var x) (hf : fine t = true)
    (hab : (hat (sge e) a = var x ∧ hat (sge e) b = t) ∨ (hat (sge e) b = var x ∧ hat (sge e) a = t)) : NoneF e a b := by
  intro θ ha hh
  rw [← ha.hat a, ← ha.hat b] at hh
  have key : θ x = hat θ t := by
    rcases hab with ⟨e1, e2⟩ | ⟨e1, e2⟩
    · rw [e1, e2, var, hat_var] at hh; exact hh
    · rw [e1, e2, var, hat_var] at hh; exact hh.symm
  obtain ⟨k, n, l⟩ := t
  by_cases hk : k = 1
  · subst hk
    have := fine_var' hf
    subst this
    simp [occ] at ho
    subst ho
    exact hne rfl
  · exact occurs hk ho key

theorem hatL_length (θ : Nam → Ty) (l : List Ty) : (hatL θ l).length = l.length := apL_length _ l

theorem none_mk {e : En} {a b : Ty} {k k' : Int} {n n' : Nam} {l l' : List Ty} (h1 : hat (sge e) a = .mk k n l) (h2 : hat (sge e) b = .mk k' n' l') (hk : k ≠ 1) (hk' : k' ≠ 1) (hne : ¬ (k = k' ∧ n = n' ∧ l.length = l'.length)) : NoneF e a b := by
  intro θ ha hh
  rw [← ha.hat a, ← ha.hat b, h1, h2, hat_mk _ hk, hat_mk _ hk'] at hh
  simp only [Ty.mk.injEq] at hh
  exact hne ⟨hh.1, hh.2.1, by have := congrArg List.length hh.2.2; simpa [hatL_length] using this⟩

/-- Nothing makes the two one; and which of the two errors it is. -/
structure Fail (e : En) (a b : Ty) (g : Nat) : Prop where
  uni : Uni (sge e) a b (.error g)
  none : NoneF e a b
  occ : ∀ x, hat (sge e) a = var x ∨ hat (sge e) b = var x → g = 1
  head : ∀ k n l k' n' l', hat (sge e) a = .mk k n l → hat (sge e) b = .mk k' n' l' → k ≠ 1 → k' ≠ 1 → ¬ (k = k' ∧ n = n' ∧ l.length = l'.length) → g = 0

/-- Whatever makes the two one makes their parts one. -/
theorem parts_one {e : En} {a b : Ty} {k : Int} {n : Nam} {l l' : List Ty} (h1 : hat (sge e) a = .mk k n l) (h2 : hat (sge e) b = .mk k n l') (hk : k ≠ 1) {θ : Nam → Ty} (ha : Absorb θ (sge e)) : hat θ a = hat θ b ↔ hatL θ l = hatL θ l' := by
  rw [← ha.hat a, ← ha.hat b, h1, h2, hat_mk _ hk, hat_mk _ hk]
  simp

theorem hatL_1 (θ : Nam → Ty) (p : Ty) : hatL θ [p] = [hat θ p] := rfl
theorem hatL_2 (θ : Nam → Ty) (p q : Ty) : hatL θ [p, q] = [hat θ p, hat θ q] := rfl

theorem fo_1 {V : List Nam} {e f : En} {a b p q : Ty} {k : Int} {n : Nam} (h1 : hat (sge e) a = .mk k n [p]) (h2 : hat (sge e) b = .mk k n [q]) (hk : k ≠ 1) (hf : Fo V e p q f) : Fo V e a b f :=
  ⟨hf.fit, hf.abs, (parts_one h1 h2 hk hf.abs).2 (by rw [hatL_1, hatL_1, hf.same]), fun θ ha hh => hf.most θ ha (by have := (parts_one h1 h2 hk ha).1 hh; rw [hatL_1, hatL_1] at this; simpa using this), hf.leU, hf.less, .a1 h1 h2 hk hf.uni⟩

theorem none_1 {e : En} {a b p q : Ty} {k : Int} {n : Nam} (h1 : hat (sge e) a = .mk k n [p]) (h2 : hat (sge e) b = .mk k n [q]) (hk : k ≠ 1) (hf : NoneF e p q) : NoneF e a b :=
  fun θ ha hh => hf θ ha (by have := (parts_one h1 h2 hk ha).1 hh; rw [hatL_1, hatL_1] at this; simpa using this)

theorem fo_2 {V : List Nam} {e f g : En} {a b p q p' q' : Ty} {k : Int} {n : Nam} (h1 : hat (sge e) a = .mk k n [p, p']) (h2 : hat (sge e) b = .mk k n [q, q']) (hk : k ≠ 1) (hf : Fo V e p q f) (hg : Fo V f p' q' g) : Fo V e a b g := by
  have abs := hg.abs.trans hf.abs
  refine ⟨hg.fit, abs, (parts_one h1 h2 hk abs).2 ?_, fun θ ha hh => ?_, Nat.le_trans hg.leU hf.leU, ?_, .a2 h1 h2 hk hf.uni hg.uni⟩
  · have e1 : hat (sge g) p = hat (sge g) q := by rw [← hg.abs.hat p, ← hg.abs.hat q, hf.same]
    rw [hatL_2, hatL_2, e1, hg.same]
  · have := (parts_one h1 h2 hk ha).1 hh
    rw [hatL_2, hatL_2] at this
    simp at this
    exact hg.most θ (hf.most θ ha this.1) this.2
  · have h1 := hf.leU
    have h2 := hg.leU
    rcases hf.less with h | h
    · rcases hg.less with h' | h'
      · exact .inl (h'.trans h)
      · exact .inr (by omega)
    · exact .inr (by omega)

theorem none_21 {e : En} {a b p q p' q' : Ty} {k : Int} {n : Nam} (h1 : hat (sge e) a = .mk k n [p, p']) (h2 : hat (sge e) b = .mk k n [q, q']) (hk : k ≠ 1) (hf : NoneF e p q) : NoneF e a b :=
  fun θ ha hh => hf θ ha (by have := (parts_one h1 h2 hk ha).1 hh; rw [hatL_2, hatL_2] at this; simp at this; exact this.1)

theorem none_22 {V : List Nam} {e f : En} {a b p q p' q' : Ty} {k : Int} {n : Nam} (h1 : hat (sge e) a = .mk k n [p, p']) (h2 : hat (sge e) b = .mk k n [q, q']) (hk : k ≠ 1) (hf : Fo V e p q f) (hg : NoneF f p' q') : NoneF e a b :=
  fun θ ha hh => by
    have := (parts_one h1 h2 hk ha).1 hh
    rw [hatL_2, hatL_2] at this
    simp at this
    exact hg θ (hf.most θ ha this.1) this.2

end Go.Ht
