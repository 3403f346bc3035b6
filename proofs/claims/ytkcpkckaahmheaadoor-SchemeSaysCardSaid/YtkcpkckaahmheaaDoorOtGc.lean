/- Rows of names that change where they lie: on the abstract machine. -/
import Derived.Test.YtkcpkckaahmheaaDoorOtS2
import Derived.Test.YtkcpkckaahmheaaDoorOtGb
import Derived.Test.YtkcpkckaahmheaaDoorOtR8

namespace Go.Ot
open Go.Am Go.Proofs
set_option maxRecDepth 100000

theorem vec_at1 {r ver n off i : Nat} {k : IntKind} {j : Int} (hj : j = (i : Int)) (hi : i < n) : iaddrV 1 (.vec r ver off n 1) (.int k j) = some (.vptr r ver (off + i)) := by
  subst hj
  simp only [iaddrV]
  rw [Int.toNat_natCast, if_pos ⟨by omega, hi, trivial⟩, Nat.mul_one]

def rowV (n0 ver : Nat) : List Nam → V
  | [] => .sl .clip []
  | a :: o => .vec n0 ver 0 (o.length + 1) 1
def rowH (h : List Ob) (ver : Nat) : List Nam → List Ob
  | [] => h
  | a :: o => h ++ [.vec ver 1 ((a :: o).map .str)]

@[simp high] theorem rowV_nl (n0 ver : Nat) (o : List Nam) : noLoc (rowV n0 ver o) = rowV n0 ver o := by cases o <;> rfl
@[simp] theorem rowV_il (n0 ver : Nat) (o : List Nam) : (rowV n0 ver o).isLoc = false := by cases o <;> rfl
@[simp] theorem nl_int (k : IntKind) (n : Int) : noLoc (.int k n) = .int k n := rfl
@[simp] theorem nl_vec (a b c d e : Nat) : noLoc (.vec a b c d e) = .vec a b c d e := rfl
@[simp] theorem nl_sl (t : Tag) (l : List V) : noLoc (.sl t l) = .sl t l := rfl
@[simp] theorem nl_undef : noLoc .undef = .undef := rfl
theorem rowH_take (h : List Ob) (ver : Nat) (o : List Nam) : (rowH h ver o).take h.length = h := by cases o <;> simp [rowH]

theorem tyVs_at (C : List Ty) (t : Ty) (B : List Ty) : (tyVs (C ++ t :: B))[C.length]? = some (tyV t) := by
  induction C with
  | nil => simp [tyVs]
  | cons c C ih => simpa [tyVs] using ih

section
variable {bs : List Nat} {h : List Ob} {Q : V → List Ob → Prop}

theorem contF (l : List Nam) (s : Nam) (hl : l.length < 1000000) (hq : ∀ b : Bool, (b = true ↔ s ∈ l) → Q (.bool b) h) : CallA ap 52 0 bs [.sl .frozen (l.map .str), .str s] h Q := by
  refine CallA.code (af := ac52) rfl (Nat.le_of_ble_eq_true rfl) ?_
  simp [ac52, dem_strs]
  refine CallA.code (af := ac76) rfl (Nat.le_of_ble_eq_true rfl) ?_
  simp [ac76]
  obtain ⟨I, hI⟩ : ∃ I : Nat → St → Prop, ∀ n σ, I n σ ↔ (∃ i : Nat, i + n = l.length ∧ (∀ j (hj : j < l.length), j < i → l[j] ≠ s) ∧ σ.r 0 = .sl .frozen (l.map .str) ∧ σ.r 1 = .str s ∧ σ.r 7 = .int .i64 l.length ∧ σ.r 8 = .int .i64 i ∧ σ.h = h) := ⟨_, fun _ _ => Iff.rfl⟩
  refine loop_ind (CallA.hle ap) I ?_ (n := l.length) ((hI _ _).2 ⟨0, by simp⟩)
  rintro n ⟨r, lo, h'⟩ hst
  obtain ⟨i, hin, hno, r0, r1, r7, r8, rfl⟩ := (hI _ _).1 hst
  simp only at r0 r1 r7 r8
  simp [forget, noLoc, r7, r8]
  refine condA_dec (fun c1 => ?_) fun c1 => ?_
  · have hi : i < l.length := by omega
    have hw : IntKind.wrap .i64 ((i : Int) + 1) = ((i + 1 : Nat) : Int) := by rw [wrap64 (by omega) (by omega)]; omega
    by_cases he : s = l[i]
    · have hb : (s == l[i]) = true := by simpa using he
      simp [r0, r1, r8, hi, hb]
      exact hq true ⟨fun _ => by rw [he]; exact List.getElem_mem hi, fun _ => rfl⟩
    · have hb : (s == l[i]) = false := by simpa using he
      simp [r0, r1, r8, hi, hb, hw]
      refine ⟨n - 1, by omega, (hI _ _).2 ⟨i + 1, by omega, fun j hj hji => ?_, by simp [r0, r1, r7]⟩⟩
      by_cases hji' : j = i
      · subst hji'; exact fun e => he e.symm
      · exact hno j hj (by omega)
  · simp
    refine hq false ⟨fun h => (by cases h), fun hm => ?_⟩
    obtain ⟨j, hj, e⟩ := List.getElem_of_mem hm
    exact absurd e (hno j hj (by omega))

theorem contW {q ver n : Nat} (l : List Nam) (hn : l.length = n) (s : Nam) (hl : n < 1000000) (hh : h[q]? = some (.vec ver 1 (l.map .str))) (hq : ∀ b : Bool, (b = true ↔ s ∈ l) → Q (.bool b) h) : CallA ap 52 0 bs [.vec q ver 0 n 1, .str s] h Q := by
  refine CallA.code (af := ac52) rfl (Nat.le_of_ble_eq_true rfl) ?_
  simp [ac52]
  refine CallA.code (af := ac76) rfl (Nat.le_of_ble_eq_true rfl) ?_
  simp [ac76]
  subst hn
  obtain ⟨I, hI⟩ : ∃ I : Nat → St → Prop, ∀ n σ, I n σ ↔ (∃ i : Nat, i + n = l.length ∧ (∀ j (hj : j < l.length), j < i → l[j] ≠ s) ∧ σ.r 0 = .vec q ver 0 l.length 1 ∧ σ.r 1 = .str s ∧ σ.r 7 = .int .i64 l.length ∧ σ.r 8 = .int .i64 i ∧ σ.h = h) := ⟨_, fun _ _ => Iff.rfl⟩
  refine loop_ind (CallA.hle ap) I ?_ (n := l.length) ((hI _ _).2 ⟨0, by simp⟩)
  rintro n ⟨r, lo, h'⟩ hst
  obtain ⟨i, hin, hno, r0, r1, r7, r8, rfl⟩ := (hI _ _).1 hst
  simp only at r0 r1 r7 r8
  simp [forget, noLoc, r7, r8]
  refine condA_dec (fun c1 => ?_) fun c1 => ?_
  · have hi : i < l.length := by omega
    have hw : IntKind.wrap .i64 ((i : Int) + 1) = ((i + 1 : Nat) : Int) := by rw [wrap64 (by omega) (by omega)]; omega
    have i1 : iaddrV 1 (.vec q ver 0 l.length 1) (.int .i64 (i : Int)) = some (.vptr q ver (0 + i)) := vec_at1 rfl hi
    by_cases he : s = l[i]
    · have hb : (s == l[i]) = true := by simpa using he
      simp [r0, r1, r8, hi, i1, hh, loadV, cellsAt, sel, hb]
      exact hq true ⟨fun _ => by rw [he]; exact List.getElem_mem hi, fun _ => rfl⟩
    · have hb : (s == l[i]) = false := by simpa using he
      simp [r0, r1, r8, hi, i1, hh, loadV, cellsAt, sel, hb, hw]
      refine ⟨n - 1, by omega, (hI _ _).2 ⟨i + 1, by omega, fun j hj hji => ?_, by simp [r0, r1, r7]⟩⟩
      by_cases hji' : j = i
      · subst hji'; exact fun e => he e.symm
      · exact hno j hj (by omega)
  · simp
    refine hq false ⟨fun h => (by cases h), fun hm => ?_⟩
    obtain ⟨j, hj, e⟩ := List.getElem_of_mem hm
    exact absurd e (hno j hj (by omega))

def FreeV (A : List Nam) (t : Ty) : Prop := ∀ (o : List Nam) (ver : Nat) (bs : List Nat) (h : List Ob) (Q : V → List Ob → Prop), o.Nodup → (∀ x ∈ o, x ∈ A) →
  (∀ ver', Q (rowV h.length ver' (varsT o t)) (rowH h ver' (varsT o t))) → CallA ap 88 0 bs [tyV t, .sl .frozen [], rowV h.length ver o] (rowH h ver o) Q

theorem okS (r : Nat) (x : Nam) : okStore bs r [.str x] := fun b _ _ => by simp

theorem freeV {A : List Nam} (hA : A.length ≤ 1000) : ∀ (m : Nat) (t : Ty), SizeOf.sizeOf t ≤ m → fine t = true → good A t → FreeV A t := by
  intro m
  induction m with
  | zero => intro t h; cases t; simp at h
  | succ m ih =>
    intro t hm ht hg o ver bs h Q hnd hsub hq
    have h4 := hg.1
    have hlen : o.length ≤ 1000 := Nat.le_trans (List.Nodup.length_le_of_subset hnd hsub) hA
    have hg0 := hg
    obtain ⟨k, n, l⟩ := t
    simp only [fine, Bool.and_eq_true, decide_eq_true_eq] at ht
    simp only [no4, Bool.and_eq_true, bne_iff_ne, ne_eq] at h4
    have each : k ≠ 1 → ∀ a ∈ l, FreeV A a := fun hk a ha => ih a (by have := List.sizeOf_lt_of_mem ha; simp at hm; omega) (fineL_mem ht.2 ha) (good_arg hk hg0 ha)
    have k4 : (k == 4) = false := by simpa using h4.1
    refine CallA.code (af := ac88) rfl (Nat.le_of_ble_eq_true rfl) ?_
    by_cases hk : k = 1
    · subst hk
      have hl : l = [] := by simpa using ht.1.2
      subst hl
      simp [ac88, tyV]
      refine contF [] n (by simp) fun b' hb' => ?_
      have : b' = false := by cases b' <;> simp_all
      subst this
      simp only [varsT, if_true] at hq
      cases o with
      | nil =>
        simp [rowV, rowH]
        refine contF [] n (by simp) fun b' hb' => ?_
        have : b' = false := by cases b' <;> simp_all
        subst this
        simp [lim]
        refine wpA_loop (CallA.hle ap) ?_
        simp [forget, tyVs]
        simpa [rowV, rowH] using hq 0
      | cons a o =>
        have hlim : o.length + 1 + 1 ≤ lim := by simp only [lim]; simp at hlen; omega
        have hlk : (h ++ [Ob.vec ver 1 (V.str a :: o.map .str)])[h.length]? = some (.vec ver 1 ((a :: o).map .str)) := by simp
        simp [rowV, rowH]
        refine contW (a :: o) (by simp) n (by simp at hlen; omega) hlk fun b hb => ?_
        cases b with
        | true =>
          rw [if_pos (hb.1 rfl)] at hq
          simp
          refine wpA_loop (CallA.hle ap) ?_
          simp [forget, tyVs]
          simpa [rowV, rowH] using hq ver
        | false =>
          have hn : ¬ n ∈ a :: o := fun h => by simpa using hb.2 h
          rw [if_neg hn] at hq
          have htk : List.take o.length (o.map V.str) = o.map .str := List.take_of_length_le (by simp)
          simp [hlim, okS, htk]
          refine wpA_loop (CallA.hle ap) ?_
          simp [forget, tyVs]
          simpa [rowV, rowH] using hq (ver + 1)
    · have hkb : (k == 1) = false := by simpa using hk
      simp only [varsT, if_neg hk] at hq
      have each := each hk
      simp [ac88, tyV, hkb, k4]
      match l, ht.1.1, each, hg0, hq with
      | [], _, _, _, hq =>
        simp only [varsTL] at hq
        refine wpA_loop (CallA.hle ap) ?_
        simp [forget, tyVs]
        exact hq ver
      | [a], _, each, _, hq =>
        refine wpA_loop (CallA.hle ap) ?_
        simp [forget, tyVs, splice, ty_take, ty_agg, demote_ty]
        refine each a (by simp) o ver _ _ _ hnd hsub fun ver' => ?_
        simp [w1]
        refine wpA_loop (CallA.hle ap) ?_
        simp [forget]
        exact hq ver'
      | [a, b], _, each, hg0, hq =>
        refine wpA_loop (CallA.hle ap) ?_
        simp [forget, tyVs, splice, ty_take, ty_agg, demote_ty]
        refine each a (by simp) o ver _ _ _ hnd hsub fun ver' => ?_
        simp [w1]
        refine wpA_loop (CallA.hle ap) ?_
        simp [forget, splice, ty_take, ty_agg, demote_ty]
        refine each b (by simp) (varsT o a) ver' _ _ _ (varsT_nodup a o hnd) (fun x hx => ((varsT_mem x a o).1 hx).elim (hsub x) (fun h => (good_arg hk hg0 (by simp : a ∈ [a, b])).2 x h)) fun ver'' => ?_
        simp [w2]
        refine wpA_loop (CallA.hle ap) ?_
        simp [forget]
        exact hq ver''

theorem varsV {A : List Nam} (hA : A.length ≤ 1000) (l : List Ty) (hl : l.length ≤ 1000) (hf : ∀ t ∈ l, fine t = true ∧ good A t) (hq : ∀ ver, Q (rowV h.length ver (varsTL [] l)) (rowH h ver (varsTL [] l))) : CallA ap 74 0 bs [.sl .frozen (tyVs l)] h Q := by
  refine CallA.code (af := ac74) rfl (Nat.le_of_ble_eq_true rfl) ?_
  simp [ac74]
  have app : ∀ (a b : List Ty) (o : List Nam), varsTL o (a ++ b) = varsTL (varsTL o a) b := by
    intro a
    induction a with
    | nil => intro b o; rfl
    | cons x a ih => intro b o; simp only [List.cons_append, varsTL]; exact ih b _
  have key : ∀ x (m : List Ty), (∀ t ∈ m, t ∈ l) → occL x m = true → x ∈ A := by
    intro x m
    induction m with
    | nil => intro _ h; simp [occL] at h
    | cons t m ih =>
      intro hm h
      simp only [occL, Bool.or_eq_true] at h
      rcases h with h | h
      · exact (hf t (hm t (by simp))).2.2 x h
      · exact ih (fun u hu => hm u (by simp [hu])) h
  have sub : ∀ m : List Ty, (∀ t ∈ m, t ∈ l) → ∀ x, x ∈ varsTL [] m → x ∈ A := by
    intro m hm x hx
    rcases (varsTL_mem x _ []).1 hx with hx | hx
    · cases hx
    · exact key x m hm hx
  obtain ⟨I, hI⟩ : ∃ I : Nat → St → Prop, ∀ n s, I n s ↔ (∃ (C B : List Ty) (ver : Nat), l = C ++ B ∧ n = B.length ∧ s.r 6 = .sl .frozen (tyVs l) ∧ s.r 7 = .int .i64 l.length ∧ s.r 8 = .int .i64 C.length ∧ s.r 3 = rowV h.length ver (varsTL [] C) ∧ s.h = rowH h ver (varsTL [] C)) := ⟨_, fun _ _ => Iff.rfl⟩
  refine loop_ind (CallA.hle ap) I ?_ (n := l.length) ((hI _ _).2 ⟨[], l, 0, by simp [varsTL, rowV, rowH]⟩)
  rintro n ⟨r, lo, h'⟩ hst
  obtain ⟨C, B, ver, e, hn, r6, r7, r8, r3, hh⟩ := (hI _ _).1 hst
  simp only at r6 r7 r8 r3 hh
  subst hh
  have hCB : C.length + B.length = l.length := by rw [e]; simp
  simp [forget, r7, r8]
  refine condA_dec (fun h1 => ?_) fun h1 => ?_
  · obtain ⟨t, B', rfl⟩ : ∃ t B', B = t :: B' := by
      cases B with
      | nil => simp at hCB; omega
      | cons t B' => exact ⟨t, B', rfl⟩
    have g1 : (tyVs l)[C.length]? = some (tyV t) := by
      rw [e]; exact tyVs_at C t B'
    have hw : IntKind.wrap .i64 ((C.length : Int) + 1) = (C.length : Int) + 1 := wrap64 (by omega) (by omega)
    obtain ⟨f1, f2⟩ := hf t (by rw [e]; simp)
    simp [r6, r8, r3, g1, splice, ty_take, ty_agg, demote_ty, ty_cells]
    refine freeV hA _ t (Nat.le_refl _) f1 f2 _ _ _ _ _ (varsTL_nodup _ _ (by simp)) (sub C fun u hu => by rw [e]; simp [hu]) fun ver' => ?_
    simp [r8, hw]
    refine ⟨B'.length, by simp at hn; omega, (hI _ _).2 ⟨C ++ [t], B', ver', by simpa using e, rfl, by simp [r6], by simp [r7], by simp, ?_, ?_⟩⟩
    · simp [app, varsTL]
    · simp [app, varsTL]
  · have : B = [] := List.length_eq_zero_iff.1 (by omega)
    subst this
    have e : l = C := by simpa using e
    subst e
    simp [r3]
    exact hq ver

theorem stands (t : Ty) (ps : En) (hl : ps.length ≤ 999) {A : List Nam} (hA : A.length ≤ 1000) (hf : ∀ u ∈ t :: ps.map (·.2), fine u = true ∧ good A u) (hq : ∀ g : List Ob, ∀ ver, Q (rowV (h ++ g).length ver (varsTL [] (t :: ps.map (·.2)))) (rowH (h ++ g) ver (varsTL [] (t :: ps.map (·.2))))) : CallA ap 49 0 bs [.sl .frozen (paVs ps), tyV t] h Q := by
  refine CallA.code (af := ac49) rfl (Nat.le_of_ble_eq_true rfl) ?_
  simp [ac49, ty_take, ty_agg, pas_length]
  obtain ⟨ts, hts⟩ : ∃ ts : List Ty, ts = ps.map (·.2) := ⟨_, rfl⟩
  have htl : ts.length = ps.length := by rw [hts]; simp
  rw [← hts] at hq hf
  obtain ⟨I, hI⟩ : ∃ I : Nat → St → Prop, ∀ n s, I n s ↔ (∃ i : Nat, i + n = ps.length ∧ s.r 10 = .sl .frozen (paVs ps) ∧ s.r 11 = .int .i64 ps.length ∧ s.r 12 = .int .i64 i ∧
    (i = 0 ∧ s.r 5 = .sl .clip [tyV t] ∧ s.h = h ∨ 0 < i ∧ s.r 5 = .sl (.fam h.length) (tyVs (t :: ts.take i)) ∧ s.h = h ++ [.fam (i + 1) 3])) := ⟨_, fun _ _ => Iff.rfl⟩
  refine loop_ind (CallA.hle ap) I ?_ (n := ps.length) ((hI _ _).2 ⟨0, by simp⟩)
  rintro n ⟨r, lo, h'⟩ hst
  obtain ⟨i, hin, r10, r11, r12, hor⟩ := (hI _ _).1 hst
  simp only at r10 r11 r12 hor
  simp [forget, noLoc, r11, r12]
  refine condA_dec (fun h1 => ?_) fun h1 => ?_
  · have hi : i < ps.length := by omega
    have g1 : (paVs ps)[i]? = some (paV ps[i]) := by simp [paVs, hi]
    have hw : IntKind.wrap .i64 ((i : Int) + 1) = ((i + 1 : Nat) : Int) := by rw [wrap64 (by omega) (by omega)]; omega
    have gi : ts[i]? = some ps[i].2 := by rw [hts]; simp [hi]
    have htk : ts.take (i + 1) = ts.take i ++ [ps[i].2] := by rw [List.take_add_one, gi]; rfl
    have hsn : tyVs (t :: ts.take i) ++ [tyV ps[i].2] = tyVs (t :: ts.take (i + 1)) := by rw [tyVs_snoc, htk]; rfl
    have hml : (tyVs (t :: ts.take i)).length = i + 1 := by rw [tyVs_len']; simp; omega
    rcases hor with ⟨h0, r5, rfl⟩ | ⟨hpos, r5, rfl⟩
    · subst h0
      have h10 : [tyV t, tyV ps[0].2] = tyVs (t :: ts.take 1) := by rw [htk]; simp [tyVs]
      simp [r10, r12, r5, g1, splice, pa_cells, pa_take, pa_tail, ty_agg, h10]
      exact ⟨fun v hv => tyVs_mem hv, by simp [lim], n - 1, by omega, (hI _ _).2 ⟨1, by omega, by simp [r10, r11, w1]⟩⟩
    · simp [r10, r12, r5, g1, splice, pa_cells, pa_take, pa_tail, ty_agg, hml, hsn]
      refine ⟨fun v hv => ?_, by simp only [lim]; omega, n - 1, by omega, (hI _ _).2 ⟨i + 1, by omega, by simp [r10, r11, hw]⟩⟩
      exact tyVs_mem hv
  · have hi : i = ps.length := by omega
    have hfull : ts.take i = ts := List.take_of_length_le (by omega)
    rcases hor with ⟨h0, r5, rfl⟩ | ⟨hpos, r5, rfl⟩
    · have : ts = [] := List.length_eq_zero_iff.1 (by omega)
      rw [this] at hq hf
      have e1 : [tyV t] = tyVs [t] := by simp [tyVs]
      simp [r5, demote_ty]
      rw [e1]
      refine varsV hA _ (by simp) hf fun ver => ?_
      simp
      simpa using hq [] ver
    · rw [hfull] at r5
      simp [r5, demote_tys]
      refine varsV hA _ (by simp; omega) hf fun ver => ?_
      simp
      simpa using hq [.fam (i + 1) 3] ver

end
end Go.Ot

namespace Go.Ot
open Go.Am Go.Proofs
set_option maxRecDepth 100000

section
variable {bs : List Nat} {h : List Ob} {Q : V → List Ob → Prop}

theorem apply_no : ∀ (m : Nat) (t : Ty), SizeOf.sizeOf t ≤ m → fine t = true → ∀ (bs : List Nat) (h : List Ob) (Q : V → List Ob → Prop), Q (tyV t) h → CallA ap 66 0 bs [.agg [.map none], tyV t] h Q := by
  intro m
  induction m with
  | zero => intro t h; cases t; simp at h
  | succ m ih =>
    intro t hm ht bs h Q hq
    obtain ⟨k, n, l⟩ := t
    simp only [fine, Bool.and_eq_true, decide_eq_true_eq] at ht
    have each : ∀ a ∈ l, ∀ (bs : List Nat) (h : List Ob) (Q : V → List Ob → Prop), Q (tyV a) h → CallA ap 66 0 bs [.agg [.map none], tyV a] h Q := fun a ha => ih a (by have := List.sizeOf_lt_of_mem ha; simp at hm; omega) (fineL_mem ht.2 ha)
    refine CallA.code (af := ac66) rfl (Nat.le_of_ble_eq_true rfl) ?_
    have start : ∀ b : Bool, (k == 1) = b → b = true ∨ b = false := fun b _ => by cases b <;> simp
    by_cases hk : k = 1
    · subst hk
      have hl : l = [] := by simpa using ht.1.2
      subst hl
      simp [ac66, tyV, splice]
      refine wpA_loop (CallA.hle ap) ?_
      simp [forget, noLoc, locOf, tyVs, splice]
      simpa [tyV, tyVs] using hq
    · have hk1 : (k == 1) = false := by simpa using hk
      simp [ac66, tyV, hk1, splice]
      match l, ht.1.1, each with
      | [], _, _ =>
        refine wpA_loop (CallA.hle ap) ?_
        simp [forget, noLoc, locOf, tyVs, splice]
        simpa [tyV, tyVs] using hq
      | [a], _, each =>
        refine wpA_loop (CallA.hle ap) ?_
        simp [forget, noLoc, locOf, tyVs, splice, ty_take, ty_agg, demote_ty]
        refine each a (by simp) _ _ _ ?_
        simp [w1, splice, lim]
        refine wpA_loop (CallA.hle ap) ?_
        simp [forget, noLoc, locOf, splice, demote_ty, under_ty]
        simpa [tyV, tyVs] using hq
      | [a, b], _, each =>
        refine wpA_loop (CallA.hle ap) ?_
        simp [forget, noLoc, locOf, tyVs, splice, ty_take, ty_agg, demote_ty]
        refine each a (by simp) _ _ _ ?_
        simp [w1, splice, lim]
        refine wpA_loop (CallA.hle ap) ?_
        simp [forget, noLoc, locOf, splice, ty_take, ty_agg, demote_ty]
        refine each b (by simp) _ _ _ ?_
        simp [w2, splice, lim]
        refine wpA_loop (CallA.hle ap) ?_
        simp [forget, noLoc, locOf, splice, demote_ty, under_ty]
        simpa [tyV, tyVs] using hq


/-- A context copied to a row that may be turned. -/
theorem predsV (ps : En) (hl : ps.length ≤ 1000) (hf : ∀ p ∈ ps, fine p.2 = true) (hq0 : ps = [] → Q (.sl .frozen []) h) (hq1 : ps ≠ [] → Q (.vec h.length (ps.length - 1) 0 ps.length 4) (h ++ [.vec (ps.length - 1) 4 (rowP ps)])) :
    CallA ap 38 1 bs [.agg [.map none], .sl .frozen (paVs ps)] h Q := by
  refine CallA.code (af := ac38v1) rfl (Nat.le_of_ble_eq_true rfl) ?_
  simp [ac38v1, pas_length]
  obtain ⟨I, hI⟩ : ∃ I : Nat → St → Prop, ∀ n s, I n s ↔ (∃ A B : En, ps = A ++ B ∧ n = B.length ∧ s.r 8 = .sl .frozen (paVs ps) ∧ s.r 9 = .int .i64 ps.length ∧ s.r 10 = .int .i64 A.length ∧ s.r 2 = .loc 2 0 ∧ s.l 2 = some [.map none] ∧
    (A = [] ∧ s.r 5 = .sl .clip [] ∧ s.h = h ∨ A ≠ [] ∧ s.r 5 = .vec h.length (A.length - 1) 0 A.length 4 ∧ s.h = h ++ [.vec (A.length - 1) 4 (rowP A)])) := ⟨_, fun _ _ => Iff.rfl⟩
  refine loop_ind (CallA.hle ap) I ?_ (n := ps.length) ((hI _ _).2 ⟨[], ps, by simp⟩)
  rintro n ⟨r, lo, h'⟩ hst
  obtain ⟨A, B, e, hn, r8, r9, r10, r2, l2, hor⟩ := (hI _ _).1 hst
  simp only at r8 r9 r10 r2 l2 hor
  have hAB : A.length + B.length = ps.length := by rw [e]; simp
  simp [forget, noLoc, locOf, r9, r10]
  refine condA_dec (fun d => ?_) fun d => ?_
  · obtain ⟨p, B', rfl⟩ : ∃ p B', B = p :: B' := by
      cases B with
      | nil => simp at hAB; omega
      | cons p B' => exact ⟨p, B', rfl⟩
    have hi : A.length < ps.length := by omega
    have g1 : (paVs ps)[A.length]? = some (paV p) := by rw [e]; simp [paVs]
    have hw : IntKind.wrap .i64 ((A.length : Int) + 1) = (A.length : Int) + 1 := wrap64 (by omega) (by omega)
    have hfi := hf p (by rw [e]; simp)
    have oks : ∀ b ∈ bs, True := fun _ _ => trivial
    obtain ⟨c, t⟩ := p
    obtain ⟨k, m, tl⟩ := t
    have hpv : V.agg (.str c :: (tyV (.mk k m tl)).cells) = paV (c, .mk k m tl) := rfl
    have hty : V.agg [.int .i64 k, .str m, .sl .frozen (tyVs tl)] = tyV (.mk k m tl) := by simp [tyV]
    have g2 : (paVs ps)[A.length]? = some (.agg [.str c, .int .i64 k, .str m, .sl .frozen (tyVs tl)]) := by rw [g1]; simp [paV, tyV]
    simp [r8, r10, r2, l2, g2, splice, demote_tys]
    rw [hty]
    refine apply_no _ _ (Nat.le_refl _) hfi _ _ _ ?_
    rcases hor with ⟨rfl, r5, rfl⟩ | ⟨hne, r5, rfl⟩
    · simp [r10, r5, splice, hpv, pa_cells, pa_loc, lim]
      refine ⟨B'.length, by simp at hn; omega, (hI _ _).2 ⟨[(c, .mk k m tl)], B', by simpa using e, rfl, by simp [r8], by simp [r9], by simp [w1], by simp [r2], by simp [l2], .inr ⟨by simp, by simp, ?_⟩⟩⟩
      simp [rowP]
    · have hA0 : 0 < A.length := List.length_pos_iff.2 hne
      have hA1 : A.length - 1 + 1 = A.length := by omega
      have hrl : (rowP A).length = A.length * 4 := rowP_len A
      have htk : (rowP A).take (A.length * 4) = rowP A := List.take_of_length_le (by omega)
      simp [r10, r5, splice, hpv, pa_cells, pa_loc, hrl, htk, okP, hA1]
      refine ⟨by simp only [lim]; omega, B'.length, by simp at hn; omega, (hI _ _).2 ⟨A ++ [(c, .mk k m tl)], B', by simpa using e, rfl, by simp [r8], by simp [r9], by simp [hw], by simp [r2], by simp [l2], .inr ⟨by simp, by simp, ?_⟩⟩⟩
      simp [rowP]
  · have : B = [] := List.length_eq_zero_iff.1 (by omega)
    subst this
    have e : ps = A := by simpa using e
    subst e
    simp
    rcases hor with ⟨h0, r5, rfl⟩ | ⟨hne, r5, rfl⟩
    · simp [r5]; exact hq0 h0
    · simp [r5]; exact hq1 hne

theorem clipV {r ver n : Nat} (hq : Q (.vec r ver 0 n 4) h) : CallA ap 41 0 bs [.vec r ver 0 n 4] h Q := by
  refine CallA.code (af := ac41) rfl (Nat.le_of_ble_eq_true rfl) ?_
  simp [ac41, sliceV, bnd]
  exact hq

theorem clip0 (hq : Q (.sl .clip []) h) : CallA ap 41 0 bs [.sl .frozen []] h Q := by
  refine CallA.code (af := ac41) rfl (Nat.le_of_ble_eq_true rfl) ?_
  simp [ac41, sliceV, bnd]
  exact hq

theorem compact0 (hq : Q (.sl .frozen []) h) : CallA ap 42 0 bs [.sl .frozen [], .fn 43 []] h Q := by
  refine CallA.code (af := ac42) rfl (Nat.le_of_ble_eq_true rfl) ?_
  simp [ac42]
  exact hq

theorem rowP_row (xs : En) (i : Nat) (hi : i < xs.length) : oneV (((rowP xs).drop (i * 4)).take 4) = paV xs[i] := by
  have e : xs = xs.take i ++ xs[i] :: xs.drop (i + 1) := by simp
  have hl : (xs.take i).length = i := by simp; omega
  have h1 := rowP_at (xs.take i) xs[i] (xs.drop (i + 1))
  rw [← e, hl] at h1
  simp only [sel] at h1
  split at h1
  · simp only [Option.some.injEq] at h1
    have h2 : ((rowP xs).drop (i * 4)).take 4 = (paV xs[i]).cells := by
      have := congrArg V.cells h1
      simpa [V.cells] using this
    rw [h2]
    generalize xs[i] = p
    obtain ⟨c, k, n, l⟩ := p
    rfl
  · cases h1

theorem rowP_cut {xs : En} {cs : List V} (hl : xs.length * 4 ≤ cs.length) (ht : cs.take (xs.length * 4) = rowP xs) {i : Nat} (hi : i < xs.length) : oneV (((rowP xs).drop (i * 4)).take 4) = oneV ((cs.drop (0 + i * 4)).take 4) := by
  rw [← ht, List.drop_take, List.take_take, Nat.zero_add, Nat.min_eq_left (by omega)]

/-- A context in order: each part once. -/
theorem sortP (ps : En) (hl : ps.length < 20) (hf : ∀ p ∈ ps, fine p.2 = true) (hq : ∀ xs : En, xs.length ≤ ps.length → xs.Pairwise ltP → (∀ p, p ∈ xs ↔ p ∈ ps) → Q (.sl .frozen (paVs xs)) h) :
    CallA ap 9 0 bs [.sl .frozen (paVs ps)] h Q := by
  refine CallA.codeF (af := ac9) rfl (Nat.le_of_ble_eq_true rfl) ?_
  simp [ac9, pas_demote]
  refine predsV ps (by omega) hf (fun hps => ?_) fun hps => ?_
  · subst hps
    simp
    refine stable0 ?_
    simp
    refine compact0 ?_
    simp
    refine clip0 ?_
    simp
    exact ⟨.sl .clip [], .same _, by simp, by simpa [paVs] using hq [] (by simp) (by simp) (by simp)⟩
  · have hn0 : 0 < ps.length := List.length_pos_iff.2 hps
    have hlk : (h ++ [Ob.vec (ps.length - 1) 4 (rowP ps)])[h.length]? = some (.vec (ps.length - 1) 4 (rowP ps)) := by simp
    simp
    refine stableP hl (by simp) ps rfl hlk (fun p hp => fine_ok _ (hf p hp)) fun qs hperm hsort => ?_
    have hqn : qs.length = ps.length := hperm.length_eq
    simp
    refine compactP (ver := ps.length - 1) hn0 (by omega) (by simp) qs hqn (by simp) (fun p hp => fine_ok _ (hf p (hperm.mem_iff.1 hp))) hsort fun xs cs hxl hlt hmem hlen htake => ?_
    simp
    refine clipV ?_
    simp
    refine ⟨.sl .frozen (paVs xs), .vec _ _ _ _ _ 4 cs (paVs xs) (Nat.le_refl _) (by simp) (by omega) (pas_length xs) (by omega) (fun i x hx => ?_), by simp [pas_demote, pas_under], by simpa [pas_demote] using hq xs hxl hlt fun p => (hmem p).trans hperm.mem_iff⟩
    have hi : i < xs.length := by have := (List.getElem?_eq_some_iff.1 hx).1; rwa [pas_length] at this
    have hxe : x = paV xs[i] := by
      have : (paVs xs)[i]? = some (paV xs[i]) := by simp [paVs, hi]
      rw [this] at hx; exact (Option.some.inj hx).symm
    have hrow := rowP_row xs i hi
    rw [hxe, ← rowP_cut hlen htake hi, hrow]
    exact .same _

end

end Go.Ot
