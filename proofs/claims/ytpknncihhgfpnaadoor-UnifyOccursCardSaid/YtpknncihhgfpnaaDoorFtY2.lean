/- A variable is not one with a type that it stands in: the law on the abstract machine. -/
import Derived.Test.YtpknncihhgfpnaaDoorFtY1
namespace Go.Ft
open Go.Am Go.Proofs
set_option maxRecDepth 100000

def A4 : List Nam := [[97], [98], [99], [118]]
theorem Made.good4 {m : Nat} {t : Ty} (h : Made m t) : Go.Ft.good A4 t := ⟨h.no4, fun y hy => by
  have := h.good.2 y hy
  simp [abc] at this
  simp only [A4, List.mem_cons, List.not_mem_nil, or_false]
  rcases this with h | h | h <;> simp [h]⟩
theorem Made.noV {m : Nat} {t : Ty} (h : Made m t) : occ [118] t = false := by
  cases ho : occ [118] t with
  | false => rfl
  | true =>
    have := h.good.2 _ ho
    simp [abc] at this

def tV : Ty := .mk 1 [118] []
def tIn (t : Ty) : Ty := .mk 2 [80, 97, 105, 114] [t, tV]
def tF : Ty := .mk 3 [] [tI, tI]
def tW (t : Ty) : Ty := .mk 2 [80, 97, 105, 114] [t]

theorem good_tV : good A4 tV := ⟨rfl, fun y hy => by simp [tV, occ] at hy; subst hy; simp [A4]⟩
theorem good_tI4 : good A4 tI := ⟨rfl, fun y hy => by simp [tI, occ, occL] at hy⟩
theorem good_tF : good A4 tF := ⟨rfl, fun y hy => by simp [tF, tI, occ, occL] at hy⟩
theorem good_tIn {t : Ty} (h : good A4 t) : good A4 (tIn t) := ⟨by simp [tIn, no4, no4L, h.1, tV], fun y hy => by
  simp [tIn, occ, occL] at hy
  rcases hy with hy | hy
  · exact h.2 y hy
  · exact good_tV.2 y hy⟩
theorem good_tW {t : Ty} (h : good A4 t) : good A4 (tW t) := ⟨by simp [tW, no4, no4L, h.1], fun y hy => by
  simp [tW, occ, occL] at hy
  exact h.2 y hy⟩
theorem fine_tIn {t : Ty} (h : fine t = true) : fine (tIn t) = true := by simp [tIn, fine, fineL, h, tV]
theorem fine_tW {t : Ty} (h : fine t = true) : fine (tW t) = true := by simp [tW, fine, fineL, h]

theorem hat_tV (θ : Nam → Ty) : hat θ tV = θ [118] := by rw [tV, hat_var]
theorem hat0_tV : hat (sge []) tV = var [118] := by rw [hat_tV]; rfl

theorem in_occ (θ : Nam → Ty) (t : Ty) : hat θ tV ≠ hat θ (tIn t) := by
  rw [hat_tV]
  exact occurs (by decide) (by simp [occ, occL, tV])

theorem nil_len {A : List Nam} {f : En} (h : Fo A [] tV tV f) : f.length = 0 := by
  have hmost := h.most var (abs_nil _) rfl
  match f, h, hmost with
  | [], _, _ => rfl
  | (x, u) :: e, h, hmost =>
    exfalso
    have hy : look ((x, u) :: e) x = some u := by simp [look]
    have h1 := hmost x
    rw [sge_some hy] at h1
    have h2 := hat_id u (h.fit.s.ok.fine x u (look_mem hy))
    rw [h2] at h1
    subst h1
    have := h.fit.s.out x _ hy x (by simp [var, occ])
    rw [hy] at this
    cases this

theorem law6o (a : List Int) : CallA ap 6 0 [] [.sl .frozen (a.map (.int .i64))] [] fun v _ => v = .bool true := by
  refine CallA.code (af := ac6) rfl (Nat.le_of_ble_eq_true rfl) ?_
  simp [ac6]
  refine first8 ?_
  simp
  by_cases h1 : (60 : Int) < a.length
  · simp [h1]
  simp [h1, splice]
  refine made10 .frozen a 0 3 3 0 _ _ _ (by omega) (by omega) (by omega) (by omega) (by omega) rfl fun t i hi1 hi2 ht => ?_
  simp [splice, ty_take, ty_agg]
  generalize hH : [seqB .frozen a i] = H at *
  have gt := ht.good4
  have ft := ht.fine
  refine unify10 (A := A4) (a := tV) (b := tV) (by decide) good_tV rfl good_tV rfl (fun tl1 o1 f1 hr1 hf1 => ?_) (fun tl1 g1 hn1 => absurd rfl (hn1.none var (abs_nil _)))
  simp [splice, demote_ty]
  refine unify10 (A := A4) (a := tV) (b := tIn t) (by decide) good_tV rfl (good_tIn gt) (fine_tIn ft) (fun tl2 o2 f2 hr2 hf2 => absurd hf2.same (in_occ _ t)) (fun tl2 g2 hn2 => ?_)
  obtain rfl : g2 = 1 := hn2.occ [118] (.inl hat0_tV)
  simp [splice, demote_ty]
  refine unify10 (A := A4) (a := tIn t) (b := tV) (by decide) (good_tIn gt) (fine_tIn ft) good_tV rfl (fun tl3 o3 f3 hr3 hf3 => absurd hf3.same.symm (in_occ _ t)) (fun tl3 g3 hn3 => ?_)
  obtain rfl : g3 = 1 := hn3.occ [118] (.inr hat0_tV)
  simp [splice]
  refine unify10 (A := A4) (a := tI) (b := tF) (by decide) good_tI4 rfl good_tF rfl (fun tl4 o4 f4 hr4 hf4 => ?_) (fun tl4 g4 hn4 => ?_)
  · exfalso
    have := hf4.same
    rw [hat_tI, tF, hat_mk _ (by decide), tI] at this
    simp at this
  obtain rfl : g4 = 0 := hn4.head _ _ _ _ _ _ (hat_tI _) (by rw [tF, hat_mk _ (by decide)]) (by decide) (by decide) (by decide)
  simp [splice, demote_ty]
  refine unify10 (A := A4) (a := tIn t) (b := tW t) (by decide) (good_tIn gt) (fine_tIn ft) (good_tW gt) (fine_tW ft) (fun tl5 o5 f5 hr5 hf5 => ?_) (fun tl5 g5 hn5 => ?_)
  · exfalso
    have := hf5.same
    rw [tIn, tW, hat_mk _ (by decide), hat_mk _ (by decide), hatL_1, hatL_2] at this
    simp at this
  obtain rfl : g5 = 0 := hn5.head _ _ _ _ _ _ (by rw [tIn, hat_mk _ (by decide)]) (by rw [tW, hat_mk _ (by decide)]) (by decide) (by decide) (by rw [hatL_1, hatL_2]; simp)
  simp [splice, ty_take, ty_agg, demote_ty]
  refine unify10 (A := A4) (a := tV) (b := t) (by decide) good_tV rfl gt ft (fun tl6 o6 f6 hr6 hf6 => ?_) (fun tl6 g6 hn6 => ?_)
  · have hr := ((((hr1.up tl2).up tl3).up tl4).up tl5).up tl6
    simp only [List.append_assoc] at hr
    have hl := nil_len hf1
    simp [splice]
    refine len21 hr (by omega) ?_
    simp [hl]
    refine isS 1 (.inr rfl) ?_
    simp
    refine isS 1 (.inr rfl) ?_
    simp
    refine isS 0 (.inl rfl) ?_
    simp
    refine isS 0 (.inl rfl) ?_
    simp
  · exfalso
    refine hn6.none (one1 [118] t) (abs_nil _) ?_
    rw [hat_tV, one1_self, one1_norm ft ht.noV]

end Go.Ft
