/- A type without variables; a variable in some part's place: on the abstract machine. -/
import Derived.Test.YtabjkoehbbobdaaDoorHtJ3
namespace Go.Ht
open Go.Am Go.Proofs
set_option maxRecDepth 100000

section
variable {bs : List Nat} {h : List Ob} {Q : V → List Ob → Prop}

def eI : En := [([97], tI), ([98], tI), ([99], tI)]
theorem eI_int (x : Nam) (u : Ty) (h : look eI x = some u) : u = tI := by
  simp only [eI, look] at h
  split at h
  · cases h; rfl
  · split at h
    · cases h; rfl
    · split at h
      · cases h; rfl
      · cases h
theorem closed_tI : Closed tI := ⟨rfl, rfl, fun y => by simp [tI, occ, occL]⟩
theorem eI_closed (x : Nam) (u : Ty) (h : look eI x = some u) : Closed u := by rw [eI_int x u h]; exact closed_tI
theorem eI_all (y : Nam) (h : y ∈ abc) : ∃ u, look eI y = some u := by
  simp [abc] at h
  rcases h with rfl | rfl | rfl
  · exact ⟨tI, rfl⟩
  · exact ⟨tI, rfl⟩
  · exact ⟨tI, rfl⟩

theorem closed18 (tg : Tag) (l : List Int) (i : Int) (p : Nat) (hi1 : 0 ≤ i) (hi2 : i < 900000) (hp : h[p]? = some (seqB tg l i))
    (hq : ∀ (t : Ty) (j : Int), i ≤ j → j + 1 ≤ i + 8 → Closed t → szN t ≤ 7 → Q (tyV t) (h.set p (seqB tg l j))) : CallA ap 18 0 bs [.ptr p 0] h Q := by
  have p8 : (2 : Int) ^ (2 + 1) = 8 := by decide
  refine CallA.code (af := ac18) rfl (Nat.le_of_ble_eq_true rfl) ?_
  simp [ac18]
  refine made10 tg l p 2 2 i _ _ _ (by omega) (by omega) (by omega) (by omega) (by omega) hp fun t j hj1 hj2 ht => ?_
  simp [splice, ty_take, ty_agg]
  refine con32 _ [] .clip ?_
  simp [splice, ty_take, ty_agg, demote_ty]
  have e : [V.agg (.str [97] :: demoteL (tyV (.mk 2 [73, 110, 116] [])).cells), V.agg (.str [98] :: demoteL (tyV (.mk 2 [73, 110, 116] [])).cells), V.agg (.str [99] :: demoteL (tyV (.mk 2 [73, 110, 116] [])).cells)] = paVs eI := by
    simp [eI, paVs, paV, tI, tyV, tyVs, demoteL, V.demote]
  rw [e]
  refine refOk ht.fine _ _ _ eI (by simp [eI]) ?_
  simp [splice, ty_take, ty_agg, demote_ty, under_ty]
  have hc : Closed (apT (look eI) t) := byClosed ht.fine ht.good.1 eI_closed fun y hy => eI_all y (ht.good.2 y hy)
  have hz : szN (apT (look eI) t) ≤ 7 := by
    have h1 := ap_sz (look eI) 1 (Nat.le_refl _) (fun x u hx => by rw [eI_int x u hx]; decide) t ht.fine
    have h2 := ht.sz
    omega
  have := hq _ j hj1 (by omega) hc hz
  rwa [List.take_of_length_le (by simp)]

theorem get_app {H : List Ob} {t : List Ob} {p : Nat} {x : Ob} (h : H[p]? = some x) : (H ++ t)[p]? = some x := by
  rw [List.getElem?_append_left (List.getElem?_eq_some_iff.1 h).1]; exact h

theorem finTy {n : Nat} {H : List Ob} {v : Ty} {Q : V → List Ob → Prop} (hq : Q (tyV v) (H.take n)) : ∃ w, Frz n H (tyV v) w ∧ w.demote.under n = true ∧ Q w.demote (H.take n) := ⟨tyV v, .same _, by rw [demote_ty]; exact under_ty _ _, by rw [demote_ty]; exact hq⟩

theorem oneV_ty (v : Ty) : oneV (tyV v).cells = tyV v := by obtain ⟨k, n, l⟩ := v; rfl
theorem part_ty : ∀ (vs : List Ty) (i : Nat) (x : V), (tyVs vs)[i]? = some x → oneV ((((tyVs vs).flatMap V.cells).drop (i * 3)).take 3) = x
  | [], i, x, h => by simp [tyVs] at h
  | v :: vs, 0, x, h => by
    simp only [tyVs, List.getElem?_cons_zero, Option.some.injEq] at h
    subst h
    simp only [tyVs, List.flatMap_cons, Nat.zero_mul, List.drop_zero]
    rw [List.take_left' (ty_cells v), oneV_ty]
  | v :: vs, i + 1, x, h => by
    simp only [tyVs, List.getElem?_cons_succ] at h
    simp only [tyVs, List.flatMap_cons]
    rw [show (i + 1) * 3 = (tyV v).cells.length + i * 3 by rw [ty_cells]; omega, List.drop_append]
    simp only [Nat.add_sub_cancel_left]
    rw [List.drop_of_length_le (by omega), List.nil_append]
    exact part_ty vs i x h
theorem tyVs_len (vs : List Ty) : (tyVs vs).length = vs.length := by induction vs <;> simp_all [tyVs]
theorem cells_len (vs : List Ty) : ((tyVs vs).flatMap V.cells).length = vs.length * 3 := by
  induction vs with
  | nil => rfl
  | cons v vs ih => rw [tyVs, List.flatMap_cons, List.length_append, ih, ty_cells, List.length_cons]; omega
theorem finMsl {H0 : List Ob} {cs : List V} {k : Int} {nn : Nam} {N len c : Nat} (vs : List Ty) {Q : V → List Ob → Prop} (hN : H0.length = N) (hcs : cs = (tyVs vs).flatMap V.cells) (hlen : vs.length = len) (hq : Q (tyV (.mk k nn vs)) H0) :
    ∃ w, Frz N (H0 ++ [Ob.box cs]) (.agg [.int .i64 k, .str nn, .msl N 0 len c 3]) w ∧ w.demote.under N = true ∧ Q w.demote H0 := by
  subst hN hcs hlen
  refine ⟨tyV (.mk k nn vs), ?_, by rw [demote_ty]; exact under_ty _ _, by rw [demote_ty]; exact hq⟩
  simp only [tyV]
  refine .agg _ _ rfl fun i x y hx hy => ?_
  match i with
  | 0 => cases hx; cases hy; exact .same _
  | 1 => cases hx; cases hy; exact .same _
  | 2 =>
    cases hx; cases hy
    refine .msl _ _ _ _ _ ((tyVs vs).flatMap V.cells) _ (Nat.le_refl _) (by simp) (by omega) (tyVs_len vs) (by rw [cells_len]; omega) fun i x hx => ?_
    rw [Nat.zero_add, part_ty vs i x hx]
    exact .same _
  | i + 3 => simp at hx

def HoleS (t : Ty) : Prop := ∀ (bs : List Nat) (h : List Ob) (Q : V → List Ob → Prop) (tg : Tag) (l : List Int) (i : Int) (p : Nat), 0 ≤ i → i + 2 * szN t < 900000 → h[p]? = some (seqB tg l i) →
    (∀ (v : Ty) (j : Int), i ≤ j → j ≤ i + 2 * szN t → HoleOf t v → Q (tyV v) (h.set p (seqB tg l j))) → CallA ap 19 0 bs [tyV t, .ptr p 0] h Q

theorem hole19 : ∀ (m : Nat) (t : Ty), SizeOf.sizeOf t ≤ m → Closed t → HoleS t := by
  intro m
  induction m with
  | zero => intro t ht; exfalso; cases t; simp at ht
  | succ m ih =>
    rintro ⟨k, n, l⟩ hsz hc bs h Q tg s i p hi1 hi2 hp hq
    have hk := hc.ne
    have hpl : p < h.length := (List.getElem?_eq_some_iff.1 hp).1
    refine CallA.codeF (af := ac19) rfl (Nat.le_of_ble_eq_true rfl) ?_
    simp [ac19]
    refine next30 tg s i 4 p hp hi1 (by omega) (by omega) (by omega) fun c hc1 hc2 => ?_
    have hs0 : 0 < szN (.mk k n l) := szN_pos _
    simp [tyV]
    refine condA_dec (fun d1 => ?_) fun d1 => ?_
    · simp
      refine var31 _ ?_
      simp [splice]
      refine finTy (v := .mk 1 [104] []) ?_
      rw [List.take_of_length_le (by simp)]
      exact hq _ _ (by omega) (by omega) (holeVar _)
    · simp [splice]
      have h2 : l.length ≤ 2 := by have := hc.f; simp only [fine, Bool.and_eq_true, decide_eq_true_eq] at this; exact this.1.1
      match l, h2 with
      | [], _ =>
        simp [tyVs, splice]
        refine finTy (v := .mk k n []) ?_
        rw [List.take_of_length_le (by simp)]
        exact hq _ _ (by omega) (by omega) (holeSelf hc)
      | [a], _ =>
        simp [tyVs]
        refine next30 tg s (i + 1) 1 p (by simp [hpl]) (by omega) (by omega) (by omega) (by omega) fun c2 hc21 hc22 => ?_
        obtain rfl : c2 = 0 := by omega
        simp [demote_ty]
        refine types45_1 a ?_
        simp [splice, ty_take, ty_agg, demote_ty]
        have hz : szN (.mk k n [a]) = 1 + szN a := by simp [szN, szL, Nat.add_comm]
        refine ih a (by simp at hsz; omega) (hc.arg (by simp)) _ _ _ tg s (i + 1 + 1) p (by omega) (by omega) (get_app (by rw [List.getElem?_set_self hpl])) fun v j hj1 hj2 hv => ?_
        simp [splice, ty_take, ty_agg, demote_ty, hpl, okStore, ty_uc']
        refine finMsl [v] (by simp) (by rw [List.drop_of_length_le (by simp)]; simp [tyVs]) rfl ?_
        exact hq _ _ (by omega) (by omega) (holeArg (p := []) (q := []) hc hv)
      | [a, b], _ =>
        have hz : szN (.mk k n [a, b]) = 1 + szN a + szN b := by simp [szN, szL]; omega
        simp [tyVs]
        refine next30 tg s (i + 1) 2 p (by simp [hpl]) (by omega) (by omega) (by omega) (by omega) fun c2 hc21 hc22 => ?_
        have hc2' : c2 = 0 ∨ c2 = 1 := by omega
        rcases hc2' with rfl | rfl
        · simp [demote_ty]
          refine types45_2 a b ?_
          simp [splice, ty_take, ty_agg, demote_ty]
          refine ih a (by simp at hsz; omega) (hc.arg (by simp)) _ _ _ tg s (i + 1 + 1) p (by omega) (by omega) (get_app (by rw [List.getElem?_set_self hpl])) fun v j hj1 hj2 hv => ?_
          simp [splice, ty_take, ty_agg, demote_ty, hpl, okStore, ty_uc']
          refine finMsl [v, b] (by simp) (by simp [tyVs]) rfl ?_
          exact hq _ _ (by omega) (by omega) (holeArg (p := []) (q := [b]) hc hv)
        · simp [demote_ty]
          refine types45_2 a b ?_
          simp [splice, ty_take, ty_agg, demote_ty]
          refine ih b (by simp at hsz; omega) (hc.arg (by simp)) _ _ _ tg s (i + 1 + 1) p (by omega) (by omega) (get_app (by rw [List.getElem?_set_self hpl])) fun v j hj1 hj2 hv => ?_
          simp [splice, ty_take, ty_agg, demote_ty, hpl, okStore, ty_uc']
          refine finMsl [a, v] (by simp) (by simp [tyVs]) rfl ?_
          exact hq _ _ (by omega) (by omega) (holeArg (p := [a]) (q := []) hc hv)

end
end Go.Ht
