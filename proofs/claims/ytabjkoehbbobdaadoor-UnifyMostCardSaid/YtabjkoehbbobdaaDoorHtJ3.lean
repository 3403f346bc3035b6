/- A type without variables; types copied to a row of their own; a variable in some part's place: on the abstract machine. -/
import Derived.Test.YtabjkoehbbobdaaDoorHtX5
import Derived.Test.YtabjkoehbbobdaaDoorHtR8
namespace Go.Ht
open Go.Am Go.Proofs
set_option maxRecDepth 100000

structure Closed (t : Ty) : Prop where
  f : fine t = true
  n : no4 t = true
  o : ∀ y, occ y t = false

structure HoleOf (u v : Ty) : Prop where
  f : fine v = true
  n : no4 v = true
  o : ∀ y, occ y v = true → y = [104]
  e : ∃ w, hat (one1 [104] w) v = u

theorem Closed.self {u : Ty} (h : Closed u) (w : Ty) : hat (one1 [104] w) u = u := one1_norm h.f (h.o _)
theorem holeVar (u : Ty) : HoleOf u (.mk 1 [104] []) := ⟨rfl, rfl, fun y hy => (by simp [occ] at hy; first | exact hy | exact hy.symm), u, by rw [hat_var, one1_self]⟩
theorem holeSelf {u : Ty} (h : Closed u) : HoleOf u u := ⟨h.f, h.n, fun y hy => (by rw [h.o y] at hy; cases hy), u, h.self u⟩
theorem Closed.arg {k : Int} {n : Nam} {l : List Ty} (h : Closed (.mk k n l)) {a : Ty} (ha : a ∈ l) : Closed a := by
  have hk : k ≠ 1 := fun e => by subst e; have := h.o n; simp [occ] at this
  have h1 := h.f; have h2 := h.n
  simp only [fine, Bool.and_eq_true] at h1
  simp only [no4, Bool.and_eq_true] at h2
  refine ⟨fineL_mem h1.2 ha, no4L_mem h2.2 ha, fun y => ?_⟩
  have h3 := h.o y
  have : ∀ l : List Ty, occL y l = false → a ∈ l → occ y a = false := by
    intro l
    induction l with
    | nil => intro _ h; cases h
    | cons b l ih =>
      intro h1 h2
      simp only [occL, Bool.or_eq_false_iff] at h1
      rcases List.mem_cons.1 h2 with rfl | h2
      · exact h1.1
      · exact ih h1.2 h2
  exact this l (by simpa [occ, hk] using h3) ha
theorem Closed.ne {k : Int} {n : Nam} {l : List Ty} (h : Closed (.mk k n l)) : k ≠ 1 := fun e => by subst e; have := h.o n; simp [occ] at this

/-- A part of one is a hole of the one's part. -/
theorem holeArg {k : Int} {n : Nam} {p q : List Ty} {a b : Ty} (h : Closed (.mk k n (p ++ a :: q))) (hb : HoleOf a b) : HoleOf (.mk k n (p ++ a :: q)) (.mk k n (p ++ b :: q)) := by
  have hk := h.ne
  obtain ⟨w, hw⟩ := hb.e
  have h1 := h.f; have h2 := h.n
  simp only [fine, Bool.and_eq_true] at h1
  simp only [no4, Bool.and_eq_true] at h2
  have fL : ∀ p : List Ty, fineL (p ++ a :: q) = true → fineL (p ++ b :: q) = true := by
    intro p
    induction p with
    | nil => intro h; simp only [List.nil_append, fineL, Bool.and_eq_true] at h ⊢; exact ⟨hb.f, h.2⟩
    | cons x p ih => intro h; simp only [List.cons_append, fineL, Bool.and_eq_true] at h ⊢; exact ⟨h.1, ih h.2⟩
  have nL : ∀ p : List Ty, no4L (p ++ a :: q) = true → no4L (p ++ b :: q) = true := by
    intro p
    induction p with
    | nil => intro h; simp only [List.nil_append, no4L, Bool.and_eq_true] at h ⊢; exact ⟨hb.n, h.2⟩
    | cons x p ih => intro h; simp only [List.cons_append, no4L, Bool.and_eq_true] at h ⊢; exact ⟨h.1, ih h.2⟩
  have oL : ∀ p : List Ty, (∀ x ∈ p, Closed x) → (∀ x ∈ q, Closed x) → ∀ y, occL y (p ++ b :: q) = true → y = [104] := by
    intro p hp hq y hy
    have each : ∀ l : List Ty, occL y l = true → ∃ x ∈ l, occ y x = true := by
      intro l
      induction l with
      | nil => intro h; simp [occL] at h
      | cons x l ih =>
        intro h
        simp only [occL, Bool.or_eq_true] at h
        rcases h with h | h
        · exact ⟨x, by simp, h⟩
        · obtain ⟨z, h1, h2⟩ := ih h; exact ⟨z, by simp [h1], h2⟩
    obtain ⟨x, hx, ho⟩ := each _ hy
    rcases List.mem_append.1 hx with hx | hx
    · have := (hp x hx).o y; rw [this] at ho; cases ho
    · rcases List.mem_cons.1 hx with rfl | hx
      · exact hb.o y ho
      · have := (hq x hx).o y; rw [this] at ho; cases ho
  have hL : ∀ p : List Ty, (∀ x ∈ p, Closed x) → (∀ x ∈ q, Closed x) → hatL (one1 [104] w) (p ++ b :: q) = p ++ a :: q := by
    have keep : ∀ l : List Ty, (∀ x ∈ l, Closed x) → hatL (one1 [104] w) l = l := by
      intro l
      induction l with
      | nil => intro _; rfl
      | cons x l ih => intro h; rw [show hatL (one1 [104] w) (x :: l) = hat (one1 [104] w) x :: hatL (one1 [104] w) l from rfl, (h x (by simp)).self, ih fun y hy => h y (by simp [hy])]
    intro p hp hq
    induction p with
    | nil => rw [List.nil_append, show hatL (one1 [104] w) (b :: q) = hat (one1 [104] w) b :: hatL (one1 [104] w) q from rfl, hw, keep q hq]; rfl
    | cons x p ih => rw [List.cons_append, show hatL (one1 [104] w) (x :: (p ++ b :: q)) = hat (one1 [104] w) x :: hatL (one1 [104] w) (p ++ b :: q) from rfl, (hp x (by simp)).self, ih (fun y hy => hp y (by simp [hy]))]; rfl
  have hp : ∀ x ∈ p, Closed x := fun x hx => h.arg (by simp [hx])
  have hq : ∀ x ∈ q, Closed x := fun x hx => h.arg (by simp [hx])
  refine ⟨?_, ?_, fun y hy => oL p hp hq y (by simpa [occ, hk] using hy), w, by rw [hat_mk _ hk, hL p hp hq]⟩
  · simp only [fine, Bool.and_eq_true]
    refine ⟨⟨by simpa using h1.1.1, by simp [hk]⟩, fL p h1.2⟩
  · simp only [no4, Bool.and_eq_true]; exact ⟨h2.1, nL p h2.2⟩

theorem byClosed {e : En} {t : Ty} (ht : fine t = true) (hn : no4 t = true) (he : ∀ x u, look e x = some u → Closed u) (hall : ∀ y, occ y t = true → ∃ u, look e y = some u) : Closed (apT (look e) t) := by
  rw [ap_hat _ _ ht]
  have sgc : ∀ x u, look e x = some u → sg (look e) x = u := fun x u h => by simp [sg, h]
  refine ⟨?_, ?_, fun y => ?_⟩
  · rw [← ap_hat _ _ ht]; exact ap_fine _ (fun x u h => (he x u h).f) t ht
  · refine no4_hat t hn fun y hy => ?_
    obtain ⟨u, hu⟩ := hall y hy
    rw [sgc y u hu]; exact (he y u hu).n
  · cases ho : occ y (hat (sg (look e)) t) with
    | false => rfl
    | true =>
      obtain ⟨x, h1, h2⟩ := occ_hat t ho
      obtain ⟨u, hu⟩ := hall x h1
      rw [sgc x u hu, (he x u hu).o y] at h2
      cases h2

section
variable {bs : List Nat} {h : List Ob} {Q : V → List Ob → Prop}

theorem ty_uc' (m : Nat) (x : Ty) : underL m (tyV x).cells = true := by cases x; simp [tyV, under_tys]

theorem types45_1 (a : Ty) (hq : Q (.msl h.length 0 1 1 3) (h ++ [.box (tyV a).cells])) : CallA ap 45 1 bs [.sl .frozen [tyV a]] h Q := by
  refine CallA.code (af := ac45v1) rfl (Nat.le_of_ble_eq_true rfl) ?_
  obtain ⟨k, n, l⟩ := a
  simp [tyV] at hq
  simp [ac45v1, tyV]
  refine ⟨by simp [lim], ?_⟩
  refine wpA_loop (CallA.hle ap) ?_
  simp [forget, noLoc, locOf]
  refine ⟨by simp [lim], ?_⟩
  rw [k_appm_in _ _ _ _ _ _ _ (by simp)]
  simp [splice, okStore, w1, under_tys]
  refine wpA_loop (CallA.hle ap) ?_
  simp [forget, noLoc, locOf]
  exact hq

theorem types45_2 (a b : Ty) (hq : Q (.msl h.length 0 2 2 3) (h ++ [.box ((tyV a).cells ++ (tyV b).cells)])) : CallA ap 45 1 bs [.sl .frozen [tyV a, tyV b]] h Q := by
  refine CallA.code (af := ac45v1) rfl (Nat.le_of_ble_eq_true rfl) ?_
  obtain ⟨k, n, l⟩ := a
  obtain ⟨k', n', l'⟩ := b
  simp [tyV] at hq
  have z6 : (List.replicate 2 [V.int .i64 0, V.str [], V.sl .clip []]).flatten = [.int .i64 0, .str [], .sl .clip [], .int .i64 0, .str [], .sl .clip []] := rfl
  simp [ac45v1, tyV, z6]
  refine ⟨by simp [lim], ?_⟩
  refine wpA_loop (CallA.hle ap) ?_
  simp [forget, noLoc, locOf]
  refine ⟨by simp [lim], ?_⟩
  rw [k_appm_in _ _ _ _ _ _ _ (by simp)]
  simp [splice, okStore, w1, under_tys]
  refine wpA_loop (CallA.hle ap) ?_
  simp [forget, noLoc, locOf]
  refine ⟨by simp [lim], ?_⟩
  rw [k_appm_in _ _ _ _ _ _ _ (by simp)]
  simp [splice, okStore, w2, under_tys]
  refine wpA_loop (CallA.hle ap) ?_
  simp [forget, noLoc, locOf]
  exact hq

end
end Go.Ht
