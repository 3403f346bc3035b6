/- DeleteFunc, without; a scheme's free names, in order: on the abstract machine. -/
import Derived.Test.YtkcpkckaahmheaaDoorOtGc

namespace Go.Ot
open Go.Am Go.Proofs
set_option maxRecDepth 100000

theorem splice_at (A : List V) (g : V) (B xs : List V) (hx : xs.length = 1) : splice (A ++ g :: B) A.length xs = A ++ xs ++ B := by
  simp [splice, hx]

section
variable {bs : List Nat} {h : List Ob} {Q : V → List Ob → Prop}

theorem indexV {q ver : Nat} (L : List Nam) (hL : L.length ≤ 1000) (p : Nam → Bool) (F : Nat) (caps : List V) (hh : h[q]? = some (.vec ver 1 (L.map .str)))
    (hF : ∀ x, ∀ (bs : List Nat) (Q : V → List Ob → Prop), Q (.bool (p x)) h → CallA ap F 0 bs (.str x :: caps) h Q)
    (hq0 : (∀ a ∈ L, p a = false) → Q (.int .i64 (-1)) h) (hq1 : ∀ A x B, L = A ++ x :: B → (∀ a ∈ A, p a = false) → p x = true → Q (.int .i64 A.length) h) :
    CallA ap 87 0 bs [.vec q ver 0 L.length 1, .fn F caps] h Q := by
  refine CallA.code (af := ac87) rfl (Nat.le_of_ble_eq_true rfl) ?_
  simp [ac87]
  obtain ⟨I, hI⟩ : ∃ I : Nat → St → Prop, ∀ n σ, I n σ ↔ (∃ A B, L = A ++ B ∧ n = B.length ∧ (∀ a ∈ A, p a = false) ∧ σ.r 0 = .vec q ver 0 L.length 1 ∧ σ.r 1 = .fn F caps ∧ σ.r 7 = .int .i64 L.length ∧ σ.r 8 = .int .i64 A.length ∧ σ.h = h) := ⟨_, fun _ _ => Iff.rfl⟩
  refine loop_ind (CallA.hle ap) I ?_ (n := L.length) ((hI _ _).2 ⟨[], L, by simp⟩)
  rintro n ⟨r, lo, h'⟩ hst
  obtain ⟨A, B, e, hn, hno, r0, r1, r7, r8, rfl⟩ := (hI _ _).1 hst
  simp only at r0 r1 r7 r8
  have hAB : A.length + B.length = L.length := by rw [e]; simp
  simp [forget, noLoc, r7, r8]
  refine condA_dec (fun c1 => ?_) fun c1 => ?_
  · obtain ⟨x, B', rfl⟩ : ∃ x B', B = x :: B' := by
      cases B with
      | nil => simp at hAB; omega
      | cons x B' => exact ⟨x, B', rfl⟩
    have hw : IntKind.wrap .i64 ((A.length : Int) + 1) = (A.length : Int) + 1 := wrap64 (by omega) (by omega)
    have i1 : iaddrV 1 (.vec q ver 0 L.length 1) (.int .i64 (A.length : Int)) = some (.vptr q ver (0 + A.length)) := vec_at1 rfl (by omega)
    have g1 : (L.map V.str)[A.length]? = some (.str x) := by rw [e]; simp
    simp only [List.getElem?_map] at g1
    simp [r0, r1, r8, i1, hh, loadV, cellsAt, sel, g1]
    refine hF x _ _ ?_
    by_cases hp : p x = true
    · simp [hp]; exact hq1 A x B' e hno hp
    · have hp : p x = false := by simpa using hp
      simp [hp, r8, hw]
      refine ⟨B'.length, by simp at hn; omega, (hI _ _).2 ⟨A ++ [x], B', by simpa using e, rfl, fun a ha => ?_, by simp [r0], by simp [r1], by simp [r7], by simp, rfl⟩⟩
      rcases List.mem_append.1 ha with ha | ha
      · exact hno a ha
      · rw [List.mem_singleton] at ha; subst ha; exact hp
  · have : B = [] := List.length_eq_zero_iff.1 (by omega)
    subst this
    have e : L = A := by simpa using e
    subst e
    simp
    exact hq0 hno

/-- A row of names: those that stay. -/
theorem deleteV {q ver : Nat} (L : List Nam) (hL : L.length ≤ 1000) (p : Nam → Bool) (F : Nat) (caps : List V) (hr : q < h.length) (hh : h[q]? = some (.vec ver 1 (L.map .str)))
    (hF : ∀ x cs, ∀ (bs : List Nat) (Q : V → List Ob → Prop), Q (.bool (p x)) (h.set q (.vec ver 1 cs)) → CallA ap F 0 bs (.str x :: caps) (h.set q (.vec ver 1 cs)) Q)
    (hq : ∀ (M : List Nam) (cs : List V), M = L.filter (fun x => !p x) → M.length ≤ cs.length → cs.take M.length = M.map .str → Q (.vec q ver 0 M.length 1) (h.set q (.vec ver 1 cs))) :
    CallA ap 72 0 bs [.vec q ver 0 L.length 1, .fn F caps] h Q := by
  refine CallA.code (af := ac72) rfl (Nat.le_of_ble_eq_true rfl) ?_
  simp [ac72]
  have hF0 : ∀ x, ∀ (bs : List Nat) (Q : V → List Ob → Prop), Q (.bool (p x)) h → CallA ap F 0 bs (.str x :: caps) h Q := fun x bs Q hq' => by
    have := hF x (L.map .str) bs Q
    rw [set_same hh] at this
    exact this hq'
  refine indexV L hL p F caps hh hF0 (fun hno => ?_) fun A x B e hno hp => ?_
  · simp
    have := hq L (L.map .str) (by rw [eq_comm, List.filter_eq_self]; intro a ha; simp [hno a ha]) (by simp) (by rw [List.take_of_length_le (by simp)])
    rwa [set_same hh] at this
  have hAn : A.length + B.length + 1 = L.length := by rw [e]; simp; omega
  have hm1 : ((A.length : Int) == -1) = false := by simp
  have hw : IntKind.wrap .i64 ((A.length : Int) + 1) = (A.length : Int) + 1 := wrap64 (by omega) (by omega)
  simp [hm1, hw]
  obtain ⟨I, hI⟩ : ∃ I : Nat → St → Prop, ∀ n σ, I n σ ↔ (∃ (D X Z : List Nam) (H0 : List V), L = D ++ Z ∧ X = D.filter (fun x => !p x) ∧ n = Z.length ∧ 0 < H0.length ∧ X.length + H0.length + Z.length = L.length ∧ σ.r 0 = .vec q ver 0 L.length 1 ∧ σ.r 1 = .fn F caps ∧ σ.r 5 = .int .i64 X.length ∧ σ.r 6 = .int .i64 ((X.length + H0.length : Nat) : Int) ∧ σ.h = h.set q (.vec ver 1 (X.map .str ++ H0 ++ Z.map .str))) := ⟨_, fun _ _ => Iff.rfl⟩
  have hA : A.filter (fun x => !p x) = A := by rw [List.filter_eq_self]; intro a ha; simp [hno a ha]
  have eH : h = h.set q (.vec ver 1 (A.map V.str ++ [.str x] ++ B.map V.str)) := by
    have : A.map V.str ++ [V.str x] ++ B.map V.str = L.map .str := by rw [e]; simp
    rw [this, set_same hh]
  refine loop_ind (CallA.hle ap) I ?_ (n := B.length) ((hI _ _).2 ⟨A ++ [x], A, B, [.str x], by simpa using e, by simp [hA, hp], rfl, by simp, by simp; omega, by simp, by simp, by simp, by simp, eH⟩)
  rintro n ⟨r, lo, h'⟩ hst
  obtain ⟨D, X, Z, H0, eD, eX, hn, hH0, htot, r0, r1, r5, r6, rfl⟩ := (hI _ _).1 hst
  simp only at r0 r1 r5 r6
  simp [forget, noLoc, r0, r6]
  refine condA_dec (fun c1 => ?_) fun c1 => ?_
  · obtain ⟨z, Z', rfl⟩ : ∃ x B', Z = x :: B' := by
      cases Z with
      | nil => simp at htot; omega
      | cons x B' => exact ⟨x, B', rfl⟩
    have hXH : X.length + H0.length < L.length := by omega
    have hw6 : IntKind.wrap .i64 ((X.length : Int) + (H0.length : Int) + 1) = (X.length : Int) + (H0.length : Int) + 1 := wrap64 (by omega) (by omega)
    have hw5 : IntKind.wrap .i64 ((X.length : Int) + 1) = (X.length : Int) + 1 := wrap64 (by omega) (by omega)
    have i1 : iaddrV 1 (.vec q ver 0 L.length 1) (.int .i64 ((X.length : Int) + (H0.length : Int))) = some (.vptr q ver (0 + (X.length + H0.length))) := vec_at1 (by omega) (by omega)
    have i2 : iaddrV 1 (.vec q ver 0 L.length 1) (.int .i64 (X.length : Int)) = some (.vptr q ver (0 + X.length)) := vec_at1 rfl (by omega)
    have g1 : (X.map V.str ++ (H0 ++ V.str z :: Z'.map V.str))[X.length + H0.length]? = some (.str z) := by
      rw [List.getElem?_append_right (by simp), List.getElem?_append_right (by simp)]; simp
    simp [r0, r1, r6, i1, hr, loadV, cellsAt, sel]
    refine hF z _ _ _ ?_
    by_cases hp : p z = true
    · simp [hp, r6, hw6]
      refine ⟨Z'.length, by simp at hn; omega, (hI _ _).2 ⟨D ++ [z], X, Z', H0 ++ [.str z], by simpa using eD, by simp [eX, hp], rfl, by simp, by simp at htot ⊢; omega, by simp [r0], by simp [r1], by simp [r5], by simp [Int.add_assoc], by simp⟩⟩
    · have hp : p z = false := by simpa using hp
      obtain ⟨g, H1, rfl⟩ : ∃ g H1, H0 = g :: H1 := by
        cases H0 with
        | nil => simp at hH0
        | cons g H1 => exact ⟨g, H1, rfl⟩
      have hs : splice (X.map V.str ++ g :: (H1 ++ V.str z :: Z'.map V.str)) X.length [.str z] = X.map V.str ++ [.str z] ++ (H1 ++ V.str z :: Z'.map V.str) := by
        have := splice_at (X.map V.str) g (H1 ++ V.str z :: Z'.map V.str) [.str z] rfl
        simpa using this
      simp [Int.add_assoc] at hw6
      simp [hp, r0, r5, r6, hw5, i2, hr, okS, hs]
      refine ⟨Z'.length, by simp at hn; omega, (hI _ _).2 ⟨D ++ [z], X ++ [z], Z', H1 ++ [.str z], by simpa using eD, by simp [eX, hp], rfl, by simp, by simp at htot ⊢; omega, by simp [r0], by simp [r1], by simp, by have := htot; simp at this ⊢; rw [wrap64 (by omega) (by omega)]; omega, by simp⟩⟩
  · have : Z = [] := List.length_eq_zero_iff.1 (by omega)
    subst this
    have eD : L = D := by simpa using eD
    subst eD
    have hXn : X.length < L.length := by simp at htot; omega
    have hok0 : okStore bs q (List.replicate (L.length - X.length) (V.str [])) := fun b _ _ => by
      rw [underL_eq, List.all_eq_true]
      intro v hv
      rw [List.eq_of_mem_replicate hv]; rfl
    have sl1 : ∀ rr : Nat → V, rr 37 = .int .i64 (X.length : Int) → sliceV 1 rr (.vec q ver 0 L.length 1) (some (.t 37)) none none = some (.vec q ver X.length (L.length - X.length) 1) := fun rr e => by
      have c1 : X.length ≤ L.length := by omega
      by_cases c0 : X = []
      · subst c0; simp [sliceV, bnd, ev, e]
      · simp [sliceV, bnd, ev, e, c0, c1, hXn]
    have sl2 : ∀ rr : Nat → V, rr 40 = .int .i64 (X.length : Int) → sliceV 1 rr (.vec q ver 0 L.length 1) none (some (.t 40)) none = some (.vec q ver 0 X.length 1) := fun rr e => by
      have c1 : X.length ≤ L.length := by omega
      simp [sliceV, bnd, ev, e, c1]
    simp [r0, r5, sl1, sl2, hr]
    have hM : (X.map V.str ++ H0).length = L.length := by simp at htot ⊢; omega
    refine ⟨by simp at htot; omega, hok0, hq X _ eX ?_ ?_⟩
    · rw [splice_len' (by rw [hM, List.length_replicate]; omega), hM]; omega
    · rw [splice_tk (by rw [hM]; omega), List.take_append_of_le_length (by simp), List.take_of_length_le (by simp)]

theorem delete0 (F : Nat) (caps : List V) (hq : Q (.sl .frozen []) h) : CallA ap 72 0 bs [.sl .frozen [], .fn F caps] h Q := by
  refine CallA.code (af := ac72) rfl (Nat.le_of_ble_eq_true rfl) ?_
  simp [ac72]
  refine CallA.code (af := ac87) rfl (Nat.le_of_ble_eq_true rfl) ?_
  simp [ac87]
  refine wpA_loop (CallA.hle ap) ?_
  simp [forget, noLoc]
  exact hq

end
end Go.Ot

namespace Go.Ot
open Go.Am Go.Proofs
set_option maxRecDepth 100000

theorem frzS {n q ver : Nat} {h : List Ob} (M : List Nam) (cs : List V) (hr : n ≤ q) (hh : h[q]? = some (.vec ver 1 cs)) (hl : M.length ≤ cs.length) (ht : cs.take M.length = M.map .str) : Frz n h (.vec q ver 0 M.length 1) (.sl .frozen (M.map .str)) := by
  refine .vec _ _ _ _ _ 1 cs _ hr hh (by omega) (by simp) (by omega) fun i x hx => ?_
  have hi : i < M.length := by have := (List.getElem?_eq_some_iff.1 hx).1; simpa using this
  have hc : cs[i]? = some x := by rw [← hx, ← ht, List.getElem?_take, if_pos hi]
  have e : (cs.drop (0 + i * 1)).take 1 = [x] := by
    rw [Nat.zero_add, Nat.mul_one, List.take_one, List.head?_drop, hc]; rfl
  rw [e]
  exact .same _

theorem vars_in {A : List Nam} {l : List Ty} (hf : ∀ t ∈ l, fine t = true ∧ good A t) {x : Nam} (hx : x ∈ varsTL [] l) : x ∈ A := by
  have key : ∀ m : List Ty, (∀ t ∈ m, t ∈ l) → occL x m = true → x ∈ A := by
    intro m
    induction m with
    | nil => intro _ h; simp [occL] at h
    | cons t m ih =>
      intro hm h
      simp only [occL, Bool.or_eq_true] at h
      rcases h with h | h
      · exact (hf t (hm t (by simp))).2.2 x h
      · exact ih (fun u hu => hm u (by simp [hu])) h
  rcases (varsTL_mem x _ []).1 hx with h | h
  · cases h
  · exact key l (fun _ h => h) h

section
variable {bs : List Nat} {h : List Ob} {Q : V → List Ob → Prop}

theorem wo1 (N : List Nam) (hN : N.length < 1000000) (x : Nam) (q : Nat) (hg : h[q]? = some (.box [.sl .frozen (N.map .str)])) (hq : Q (.bool (decide (x ∈ N))) h) : CallA ap 73 0 bs [.str x, .ptr q 0] h Q := by
  refine CallA.code (af := ac73) rfl (Nat.le_of_ble_eq_true rfl) ?_
  simp [ac73, hg, dem_strs]
  refine contF N x hN fun b hb => ?_
  have : b = decide (x ∈ N) := by by_cases hx : x ∈ N <;> simp_all
  subst this
  simp
  exact hq

theorem withoutV {q ver : Nat} (L N : List Nam) (hL : L.length ≤ 1000) (hN : N.length < 1000000) (hr : q < h.length) (hh : h[q]? = some (.vec ver 1 (L.map .str)))
    (hq : ∀ (M : List Nam) (cs : List V), M = L.filter (fun x => !decide (x ∈ N)) → M.length ≤ cs.length → cs.take M.length = M.map .str → Q (.vec q ver 0 M.length 1) ((h ++ [Ob.box [V.sl .frozen (N.map .str)]]).set q (.vec ver 1 cs))) :
    CallA ap 48 0 bs [.vec q ver 0 L.length 1, .sl .frozen (N.map .str)] h Q := by
  refine CallA.code (af := ac48) rfl (Nat.le_of_ble_eq_true rfl) ?_
  simp [ac48]
  refine deleteV L hL (fun x => decide (x ∈ N)) _ _ (by simp; omega) (by rw [List.getElem?_append_left hr]; exact hh) (fun x cs bs Q' hq' => ?_) fun M cs e h1 h2 => ?_
  · refine wo1 N hN x _ ?_ hq'
    rw [List.getElem?_set_ne (by omega)]; simp
  · simp
    exact hq M cs e h1 h2

theorem without0 (N : List Nam) (hq : Q (.sl .frozen []) (h ++ [Ob.box [V.sl .frozen (N.map .str)]])) : CallA ap 48 0 bs [.sl .frozen [], .sl .frozen (N.map .str)] h Q := by
  refine CallA.code (af := ac48) rfl (Nat.le_of_ble_eq_true rfl) ?_
  simp [ac48]
  refine delete0 _ _ ?_
  simp
  exact hq

/-- What stands in a scheme and is not for all. -/
theorem freeC {A : List Nam} (hA : A.length ≤ 1000) (N : List Nam) (hN : N.length < 1000000) (t : Ty) (ps : En) (hl : ps.length ≤ 900) (hf : ∀ u ∈ t :: ps.map (·.2), fine u = true ∧ good A u)
    (hq : ∀ M : List Nam, M = (varsTL [] (t :: ps.map (·.2))).filter (fun x => !decide (x ∈ N)) → Q (.sl .frozen (M.map .str)) h) :
    CallA ap 19 0 bs [.agg ([.sl .frozen (N.map .str), .sl .frozen (paVs ps)] ++ (tyV t).cells)] h Q := by
  refine CallA.codeF (af := ac19) rfl (Nat.le_of_ble_eq_true rfl) ?_
  obtain ⟨k, nn, l⟩ := t
  simp [ac19, tyV, demote_tys, pas_demote]
  have e2 : V.agg [.int .i64 k, .str nn, .sl .frozen (tyVs l)] = tyV (.mk k nn l) := by simp [tyV]
  rw [e2]
  generalize hT : (Ty.mk k nn l) = t at *
  refine stands t ps (by omega) hA hf fun g ver => ?_
  have nd : (varsTL [] (t :: ps.map (·.2))).Nodup := varsTL_nodup _ _ (by simp)
  have hlen : (varsTL [] (t :: ps.map (·.2))).length ≤ 1000 := Nat.le_trans (List.Nodup.length_le_of_subset nd fun x hx => vars_in hf hx) hA
  revert hq hlen
  generalize varsTL [] (t :: ps.map (·.2)) = o
  intro hq hlen
  simp [dem_strs]
  cases o with
  | nil =>
    simp [rowV, rowH]
    refine without0 N ?_
    simp
    exact ⟨.sl .frozen [], .same _, by simp, by simpa using hq [] (by simp)⟩
  | cons a o =>
    simp [rowV, rowH]
    have hlk : (h ++ (g ++ [Ob.vec ver 1 (V.str a :: o.map V.str)]))[h.length + g.length]? = some (.vec ver 1 ((a :: o).map .str)) := by
      rw [← List.append_assoc, ← List.length_append]; simp
    refine withoutV (a :: o) N hlen hN (by simp) hlk fun M cs e h1 h2 => ?_
    simp
    refine ⟨.sl .frozen (M.map .str), frzS M cs (by omega) (by simp) h1 h2, by simp [dem_strs, under_strs], by simpa [dem_strs, List.take_set_of_le] using hq M e⟩

end
end Go.Ot
