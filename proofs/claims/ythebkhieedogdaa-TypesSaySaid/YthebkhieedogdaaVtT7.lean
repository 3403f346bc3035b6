/- The law TypesSay on the abstract machine: its rounds. -/
import Derived.Test.YthebkhieedogdaaVtT6
import Derived.Test.YthebkhieedogdaaVtT3
import Derived.Test.YthebkhieedogdaaVtR0
namespace Go.Vt
open Go.Am Go.Proofs
set_option maxRecDepth 100000

def kY : List (Nat × V) := [(12, .ptr 2 0)]
def lpY : Ob := .loop (3 * 64) kY 0 none

/-- What lies in memory when so many parts have been handed out. -/
def SP (s1 s2 tb : Ob) (pre : List Ty) (h : List Ob) : Prop :=
  (pre = [] ∧ h = [s1, s2, .box [.sl .clip []], tb, lpY]) ∨
  (pre ≠ [] ∧ ∃ q c cs tl, h = s1 :: s2 :: .box [.msl (q + 5) 0 pre.length c 3] :: tb :: lpY :: tl ∧ tl[q]? = some (.box cs) ∧ pre.length ≤ c ∧ c * 3 ≤ cs.length ∧ RowC cs pre)

def blank : List V := [.int .i64 0, .str [], .sl .clip []]

theorem row_new (t : Ty) (xs : List V) : RowC ((tyV t).cells ++ xs) [t] := by
  unfold RowC
  rw [show ([t] : List Ty).length * 3 = (tyV t).cells.length by rw [ty_cells]; rfl, List.take_left]
  simp [tyVs]

theorem row_grow {cs : List V} {pre : List Ty} (hr : RowC cs pre) (t : Ty) (xs : List V) : RowC (splice (cs.take (pre.length * 3) ++ blank ++ xs) (pre.length * 3) (tyV t).cells) (pre ++ [t]) := by
  have h : RowC (cs.take (pre.length * 3) ++ blank ++ xs) pre := by
    have hl := hr.len
    unfold RowC
    rw [List.append_assoc, List.take_append_of_le_length (by simp; omega), List.take_take, Nat.min_self]
    exact hr
  exact h.put t

theorem row_in {cs : List V} {pre : List Ty} (hr : RowC cs pre) (t : Ty) : RowC (splice (splice cs (pre.length * 3) blank) (pre.length * 3) (tyV t).cells) (pre ++ [t]) := by
  have h : RowC (splice cs (pre.length * 3) blank) pre := by
    unfold RowC
    rw [splice_take' hr.len]
    exact hr
  exact h.put t

theorem flat_rep (m : Nat) : (List.replicate m blank).flatten.length = m * 3 := by simp [blank]

section
variable {h : List Ob} {Q : V → List Ob → Prop}

theorem roundS {s1 s2 tb : Ob} {t : Ty} (hs : sizeT t < 1000000) : RoundsR [0] 4 t (SP s1 s2 tb) := by
  intro pre u suf h Q hS hp hq
  have hlen : ((pre ++ u :: suf).length : Int) = sizeT t := by rw [hp, all_len]
  have hpl : pre.length < 1000000 := by simp at hlen; omega
  have e0 : h[4]? = some lpY := by
    rcases hS with ⟨_, rfl⟩ | ⟨_, q, c, cs, tl, rfl, _⟩ <;> rfl
  refine CallA.yld (key := 3 * 64) (regs := kY) (ab := ab3_0) e0 rfl rfl ?_
  rcases hS with ⟨rfl, rfl⟩ | ⟨hne, q, c, cs, tl, rfl, hb, hlc, hcl, hrow⟩
  · simp [ab3_0, lpY, kY, startB, splice, asgP, rnd, rndO, lim]
    intro c hc
    simp [okStore, underL, ty_uc, ty_take]
    refine hq _ (.inr ⟨by simp, 0, c, _, [_], rfl, rfl, by simpa using hc, ?_, row_new u _⟩)
    simp
    omega
  · have hql : q < tl.length := (List.getElem?_eq_some_iff.1 hb).1
    have hbE : tl[q] = .box cs := (List.getElem?_eq_some_iff.1 hb).2
    simp [ab3_0, lpY, kY, startB, splice, asgP, rnd, rndO, hql, hbE]
    refine ⟨by simp only [lim]; omega, ?_⟩
    by_cases hc : pre.length + 1 ≤ c
    · rw [k_appm_in _ _ _ _ _ _ _ (by simpa using hc)]
      simp
      refine ⟨by omega, by simp [okStore], ?_⟩
      have hsl : (splice cs (pre.length * 3) [.int .i64 0, .str [], .sl .clip []]).length = cs.length := splice_len (by simp; omega)
      have hlt : pre.length * 3 + 3 ≤ cs.length := by omega
      rw [List.getElem?_set_self hql]
      simp [hsl, ty_take, hlt, okStore]
      refine hq _ (.inr ⟨by simp, q, c, _, _, by simp [lpY, kY]; rfl, by simp [hql]; rfl, by simpa using hc, ?_, row_in hrow u⟩)
      rw [splice_len (by rw [splice_len (by simp [blank]; omega), ty_cells]; omega), splice_len (by simp [blank]; omega)]
      omega
    · rw [k_appm_out _ _ _ _ _ _ _ (by simpa using hc)]
      simp
      refine ⟨hlc, by omega, fun c' hc' => ?_⟩
      refine ⟨by omega, by simp [okStore], by simp [okStore], hq _ (.inr ⟨by simp, tl.length, c', _, _, by simp [lpY, kY]; rfl, by rw [List.getElem?_append_right (Nat.le_refl _), Nat.sub_self]; rfl, by simpa using hc', ?_, ?_⟩)⟩
      · rw [splice_len (by simp [ty_take]; omega)]
        simp
        omega
      · have := row_grow hrow u (List.replicate (c' - (pre.length + 1)) blank).flatten
        rw [ty_take]
        simpa [blank] using this

end

theorem typesSay (l m : List Int) (name : Nam) : CallA ap 3 0 [] [.sl .frozen (l.map (.int .i64)), .sl .frozen (m.map (.int .i64)), .str name] [] fun v _ => v = .bool true := by
  refine CallA.code (af := ac3) rfl (Nat.le_of_ble_eq_true rfl) ?_
  simp [ac3]
  refine first9 ?_
  by_cases hl : (100 : Int) < l.length
  · simp [hl]
  by_cases hm : (100 : Int) < m.length
  · simp [hl, hm]
  by_cases hn : (40 : Int) < name.length
  · simp [hl, hm, hn]
  simp [hl, hm, hn, splice]
  refine made10 .frozen l 0 4 4 0 _ _ _ (by omega) (by omega) (by omega) (by omega) (by omega) rfl fun t j hj1 hj2 ht => ?_
  simp [splice]
  refine made10 .frozen m 1 4 4 0 _ _ _ (by omega) (by omega) (by omega) (by omega) (by omega) rfl fun u j2 hj3 hj4 hu => ?_
  simp [splice, ty_take, ty_agg, demote_ty]
  have hok := ht.ok
  have hfi := ht.fine
  have hgo := ht.good
  have hsz : sizeT t ≤ 32 := by have := ht.size; have h5 : (2 : Int) ^ (4 + 1) = 32 := by decide
                                omega
  have hok2 := hu.ok
  have hfi2 := hu.fine
  have hgo2 := hu.good
  have hA : abc.length ≤ 1000 := by decide
  refine CallA.code (af := ac7) rfl (Nat.le_of_ble_eq_true rfl) ?_
  simp [ac7]
  refine CallA.code (af := ac27) rfl (Nat.le_of_ble_eq_true rfl) ?_
  simp [ac27, ty_take, ty_agg, demote_ty]
  refine walkR (roundS (s1 := seqB .frozen l j) (s2 := seqB .frozen m j2) (tb := .box (tyV t).cells) (t := t) (by omega)) _ t (Nat.le_refl _) hok [] [] _ _ (.inl ⟨rfl, rfl⟩) (by simp) fun h' hS => ?_
  have hne : allT t ≠ [] := by cases t; simp [allT]
  rcases hS with ⟨h1, _⟩ | ⟨_, q, c, cs, tl, rfl, hb, hlc, hcl, hrow⟩
  · exact absurd h1 hne
  have hal := all_len t
  simp only [List.nil_append] at hrow hlc ⊢
  have hV : ∀ (t u : Ty) (o : List Nam), fine t = true → good abc t → o.Nodup → (∀ x ∈ o, x ∈ abc) → ∀ z : List Nam, (varsB z o t).length ≤ 1000 := fun t u o h1 h2 h3 h4 z =>
    Nat.le_trans (List.Nodup.length_le_of_subset (varsB_nodup z t o h3) fun x hx => (varsB_sub z x t o hx).elim (h4 x) (h2.2 x)) hA
  have hVt := fun z => hV t t [] hfi hgo (by simp) (by simp) z
  have hVu := hV u t (varsB [] [] t) hfi2 hgo2 (varsB_nodup [] t [] (by simp)) (fun x hx => (varsB_sub [] x t [] hx).elim (by simp) (hgo.2 x)) []
  have eA : V.agg [.int .i64 4, .str [97], .sl .frozen [tyV t]] = allV [97] t := rfl
  have hbE : ∀ a b c d e : Ob, (a :: b :: c :: d :: e :: tl)[q + 5]? = some (.box cs) := fun _ _ _ _ _ => by simpa using hb
  have hnm : name.length ≤ 40 := by simp at hn; omega
  simp [lpY, kY, ty_take, ty_agg, demote_ty]
  refine vars9_two hA hfi hgo hfi2 hgo2 ?_
  simp [ty_take, ty_agg, demote_ty]
  refine vars41_two hA hfi hgo hfi2 hgo2 ?_
  simp [dem_strs]
  refine texts8 _ (by omega) ?_
  simp [demote_ty]
  rw [eA]
  refine vars9_all hA _ hfi hgo ?_
  simp [demote_ty]
  rw [eA]
  refine vars41_all hA _ hfi hgo ?_
  simp [dem_strs]
  refine texts8 _ (by have := hVt [[97]]; omega) ?_
  simp [ty_take, ty_agg, demote_ty]
  refine hasOk hfi ht.no4 _ _ _ _ ?_
  simp [ty_take, ty_agg, demote_ty]
  refine vars41_one hA hfi hgo ?_
  simp [dem_strs]
  refine has40 _ name (by have := hVt []; omega) fun b hb2 => ?_
  rw [varsB_nil] at hb2
  have hbo : b = occ name t := by
    have h1 := (varsT_mem name t []).symm.trans ⟨hb2.2, hb2.1⟩
    cases b <;> cases e : occ name t <;> simp_all
  subst hbo
  simp [ty_take, ty_agg, demote_ty]
  refine size9 _ t (Nat.le_refl _) hok (by omega) _ _ _ ?_
  simp [ty_take, ty_agg, demote_ty]
  refine size14 _ t (Nat.le_refl _) hok (by omega) _ _ _ ?_
  simp [ty_take, ty_agg, demote_ty]
  refine all16 _ t (Nat.le_refl _) hok (by omega) _ _ _ ?_
  simp [demote_tys]
  refine samesM (allT t) rfl (by omega) (hbE _ _ _ _ _) hrow (fun x hx => all_ok t x hok hx) ?_
  simp [ty_take, ty_agg, demote_ty]
  refine cmp11 _ t u (Nat.le_refl _) hok hok2 _ _ _ ?_
  simp [ty_take, ty_agg, demote_ty]
  refine cmp18 _ t u (Nat.le_refl _) hok hok2 _ _ _ ?_
  simp [ty_take, ty_agg, demote_ty]
  refine same12 t u hok hok2 ?_
  simp [ty_take, ty_agg, demote_ty]
  refine sameOk hok hok2 _ _ _ ?_
  simp
  have hbc : ((cmpT t u == 0) == beqT t u) = true := by
    by_cases he : t = u
    · subst he
      rw [ty_refl, (beqT_iff _ _).2 rfl]; rfl
    · have h1 : beqT t u = false := by simpa using fun e => he ((beqT_iff _ _).1 e)
      have h2 : (cmpT t u == 0) = false := by simpa using fun e => he (cmpT_zero _ _ e)
      rw [h1, h2]; rfl
  simp [hbc, ty_take, ty_agg, demote_ty]
  refine same12 t t hok hok ?_
  rw [ty_refl]
  simp

end Go.Vt
