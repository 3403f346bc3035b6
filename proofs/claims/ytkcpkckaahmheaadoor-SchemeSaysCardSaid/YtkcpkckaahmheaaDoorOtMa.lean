/- The law SchemeSorts on the abstract machine: its walk. -/
import Derived.Test.YtkcpkckaahmheaaDoorOtGd
import Derived.Test.YtkcpkckaahmheaaDoorOtHk

namespace Go.Ot
open Go.Am Go.Proofs
set_option maxRecDepth 100000
set_option maxHeartbeats 4000000

theorem any_of {ps : En} {x : Nam × Ty} (h : x ∈ ps) : ps.any (fun q => sameB q x) = true := List.any_eq_true.2 ⟨x, h, (sameB_iff x x).2 rfl⟩
theorem any_of' {ps : En} {x : Nam × Ty} (h : x ∈ ps) : ps.any (fun q => sameB x q) = true := List.any_eq_true.2 ⟨x, h, (sameB_iff x x).2 rfl⟩
theorem any_tk {α : Type} (f : α → Bool) (ps : List α) (i : Nat) (hi : i < ps.length) : (ps.take (i + 1)).any f = ((ps.take i).any f || f ps[i]) := by
  rw [List.take_add_one, List.any_append]
  simp [hi]

theorem pa_i {xs : En} {i : Nat} (hi : i < xs.length) {k : IntKind} {j : Int} (hj : j = (i : Int)) : iaddrV 4 (.sl .frozen (paVs xs)) (.int k j) = some (.elp (paV xs[i]) 0) := by
  subst hj
  simp only [iaddrV]
  rw [if_pos (by omega), Int.toNat_natCast]
  have : (paVs xs)[i]? = some (paV xs[i]) := by simp [paVs, hi]
  rw [this]
  simp [elemV, pa_cells]

theorem modcO {m : Int} (hm : 0 < m) (h3 : m < 1000) (n : Int) : ∃ k : Nat, (k : Int) < m ∧ (IntKind.wrap .i64 (n.tmod m + m)).tmod m = k := by
  have h1 : n.tmod m < m := Int.tmod_lt_of_pos n hm
  have h2 : -m < n.tmod m := Int.lt_tmod_of_pos n hm
  rw [wrap64 (by omega) (by omega)]
  have h4 := Int.tmod_lt_of_pos (n.tmod m + m) hm
  have h5 := Int.tmod_nonneg m (show 0 ≤ n.tmod m + m by omega)
  exact ⟨((n.tmod m + m).tmod m).toNat, by omega, by omega⟩

theorem pas_c4 {l : En} {v : V} (h : v ∈ paVs l) : v.cells.length = 4 := by
  simp only [paVs, List.mem_map] at h
  obtain ⟨y, -, rfl⟩ := h
  exact pa_cells y

theorem copyP {bs : List Nat} {h : List Ob} {Q : V → List Ob → Prop} (ps : En) (hl : ps.length ≤ 1000) (hq : Q (.sl (.fam h.length) (paVs ps)) (h ++ [.fam ps.length 4])) : CallA ap 12 0 bs [.sl .frozen (paVs ps)] h Q := by
  refine CallA.code (af := ac12) rfl (Nat.le_of_ble_eq_true rfl) ?_
  have c1 : (ps.length : Int) ≤ lim := by simp only [lim]; omega
  simp [ac12, pas_length, c1]
  obtain ⟨I, hI⟩ : ∃ I : Nat → St → Prop, ∀ m s, I m s ↔ (∃ k : Nat, k + m = ps.length ∧ s.r 0 = .sl .frozen (paVs ps) ∧ s.r 3 = .sl (.fam h.length) (paVs (ps.take k)) ∧ s.r 4 = .int .i64 k ∧ s.h = h ++ [.fam k 4]) := ⟨_, fun _ _ => Iff.rfl⟩
  refine loop_ind (CallA.hle ap) I ?_ (n := ps.length) ((hI _ _).2 ⟨0, by simp [paVs]⟩)
  rintro m ⟨r, lo, h'⟩ hs
  obtain ⟨k, hkm, r0, r3, r4, rfl⟩ := (hI _ _).1 hs
  simp only at r0 r3 r4
  simp [forget, noLoc, r0, r4, pas_length]
  refine condA_dec (fun d => ?_) fun d => ?_
  · have hk : k < ps.length := by omega
    have i1 := pa_i (k := .i64) (j := (k : Int)) hk rfl
    have hwk : IntKind.wrap .i64 ((k : Int) + 1) = ((k + 1 : Nat) : Int) := by rw [wrap64 (by omega) (by omega)]; omega
    have htk : paVs (ps.take (k + 1)) = paVs (ps.take k) ++ [paV ps[k]] := by
      show (ps.take (k + 1)).map paV = (ps.take k).map paV ++ [paV ps[k]]
      rw [List.take_add_one, List.getElem?_eq_getElem hk, List.map_append]; rfl
    have hml : (paVs (ps.take k)).length = k := by rw [pas_length]; simp; omega
    generalize ps[k] = x at *
    simp [r0, r3, r4, i1, hwk, pa_cells, pa_take, pa_agg, pa_loc, hml]
    refine ⟨fun v hv => hv.elim pas_c4 fun e => by rw [e]; exact pa_cells x, by simp only [lim]; omega, m - 1, by omega, (hI _ _).2 ⟨k + 1, by omega, by simp [r0, htk]⟩⟩
  · have : k = ps.length := by omega
    subst this
    rw [List.take_length] at r3
    simp [r3]
    exact hq

theorem schemeSorts (l : List Int) (k0 : Int) : CallA ap 3 0 [] [.sl .frozen (l.map (.int .i64)), .int .i64 k0] [] fun v _ => v = .bool true := by
  refine CallA.code (af := ac3) rfl (Nat.le_of_ble_eq_true rfl) ?_
  simp [ac3]
  refine firstO ?_
  simp
  by_cases hl : (60 : Int) < l.length
  · simp [hl]
  simp [hl, splice]
  refine predsM (h := [seqB .frozen l 0]) .frozen l 0 1 (by omega) 6 (by omega) 0 (by omega) (by omega) (by simp) fun ps j hj1 hj2 hlen hps => ?_
  have hfine : ∀ p ∈ ps, fine p.2 = true := fun p hp => (hps p hp).t.fine
  simp [pas_demote]
  refine sortP ps (by omega) hfine fun xs hxl0 hlt hmem => ?_
  have hfx : ∀ p ∈ xs, fine p.2 = true := fun p hp => hfine p ((hmem p).1 hp)
  have hxl : xs.length ≤ 6 := by omega
  simp
  generalize seqB .frozen l j = ob
  obtain ⟨I, hI⟩ : ∃ I : Nat → St → Prop, ∀ m s, I m s ↔ (∃ i : Nat, i + m = xs.length ∧ s.r 1 = .int .i64 k0 ∧ s.r 5 = .bool true ∧ s.r 6 = .sl .frozen (paVs ps) ∧ s.r 7 = .sl .frozen (paVs xs) ∧ s.r 8 = .int .i64 i ∧ s.h = [ob]) := ⟨_, fun _ _ => Iff.rfl⟩
  refine loop_ind (CallA.hle ap) I ?_ (n := xs.length) ((hI _ _).2 ⟨0, by simp⟩)
  rintro m ⟨r, lo, h'⟩ hs
  obtain ⟨i, him, r1, r5, r6, r7, r8, rfl⟩ := (hI _ _).1 hs
  simp only at r1 r5 r6 r7 r8
  simp [forget, noLoc, r7, r8, pas_length]
  refine condA_dec (fun d => ?_) fun d => ?_
  · have hi : i < xs.length := by omega
    have g1 : (paVs xs)[i]? = some (paV xs[i]) := by simp [paVs, hi]
    have hwi : IntKind.wrap .i64 ((i : Int) + 1) = ((i + 1 : Nat) : Int) := by rw [wrap64 (by omega) (by omega)]; omega
    simp
    obtain ⟨I2, hI2⟩ : ∃ I2 : Nat → St → Prop, ∀ m s, I2 m s ↔ (∃ k : Nat, k + m = ps.length ∧ s.r 1 = .int .i64 k0 ∧ s.r 5 = .bool true ∧ s.r 6 = .sl .frozen (paVs ps) ∧ s.r 7 = .sl .frozen (paVs xs) ∧ s.r 8 = .int .i64 i ∧ s.r 9 = .bool ((ps.take k).any fun q => sameB q xs[i]) ∧ s.r 10 = .int .i64 k ∧ s.h = [ob]) := ⟨_, fun _ _ => Iff.rfl⟩
    refine loop_ind (CallA.hle ap) I2 ?_ (n := ps.length) ((hI2 _ _).2 ⟨0, by simp [r1, r5, r6, r7, r8]⟩)
    rintro m2 ⟨rr, lo2, h2⟩ hs2
    obtain ⟨k, hkm, q1, q5, q6, q7, q8, q9, q10, rfl⟩ := (hI2 _ _).1 hs2
    simp only at q1 q5 q6 q7 q8 q9 q10
    simp [forget, noLoc, q6, q10, pas_length]
    refine condA_dec (fun d2 => ?_) fun d2 => ?_
    · have hk : k < ps.length := by omega
      have g2 : (paVs ps)[k]? = some (paV ps[k]) := by simp [paVs, hk]
      have hwk : IntKind.wrap .i64 ((k : Int) + 1) = ((k + 1 : Nat) : Int) := by rw [wrap64 (by omega) (by omega)]; omega
      have ht := any_tk (fun q => sameB q xs[i]) ps k hk
      have hfk := hfine _ (List.getElem_mem hk)
      have hfi := hfx _ (List.getElem_mem hi)
      cases hb : (ps.take k).any (fun q => sameB q xs[i]) with
      | true =>
        rw [hb] at q9 ht
        simp [q9, q10, hwk]
        exact ⟨m2 - 1, by omega, (hI2 _ _).2 ⟨k + 1, by omega, by simp [q1, q5, q6, q7, q8, ht]⟩⟩
      | false =>
        rw [hb] at q9 ht
        generalize xs[i] = x at *
        generalize ps[k] = y at *
        simp [q6, q7, q8, q9, q10, g1, g2, pa_cells, pa_take, pa_agg, pa_demote, pa_loc]
        refine pred2 y x hfk hfi ?_
        simp [q10, hwk]
        exact ⟨m2 - 1, by omega, (hI2 _ _).2 ⟨k + 1, by omega, by simp [q1, q5, q6, q7, q8, ht]⟩⟩
    · have hk : k = ps.length := by omega
      subst hk
      rw [List.take_length, any_of ((hmem _).1 (List.getElem_mem hi))] at q9
      have again : ∀ (rr' : Nat → V) (lo' : Nat → Option (List V)), rr' 1 = .int .i64 k0 → rr' 5 = .bool true → rr' 6 = .sl .frozen (paVs ps) → rr' 7 = .sl .frozen (paVs xs) → rr' 8 = .int .i64 ((i + 1 : Nat) : Int) → Again I m ⟨rr', lo', [ob]⟩ := fun rr' lo' e1 e5 e6 e7 e8 =>
        ⟨m - 1, by omega, (hI _ _).2 ⟨i + 1, by omega, e1, e5, e6, e7, e8, rfl⟩⟩
      rcases Nat.eq_zero_or_pos i with rfl | hpos
      · simp [q8, q9, w1]
        exact again _ _ (by simp [q1]) (by simp [q5]) (by simp [q6]) (by simp [q7]) (by simp)
      · obtain ⟨i', rfl⟩ : ∃ i', i = i' + 1 := ⟨i - 1, by omega⟩
        have hi' : i' < xs.length := by omega
        have g0 : (paVs xs)[i']? = some (paV xs[i']) := by simp [paVs, hi']
        have hwp : IntKind.wrap .i64 (i' : Int) = (i' : Int) := wrap64 (by omega) (by omega)
        have hps0 : (0 : Int) < (i' : Int) + 1 := by omega
        have i1 := pa_i (k := .i64) (j := (i' : Int) + 1) hi (by omega)
        have i0 := pa_i (k := .i64) (j := (i' : Int)) hi' rfl
        have hn := nb_ok ((List.pairwise_iff_getElem.1 hlt) i' (i' + 1) hi' hi (by omega))
        have hfi := hfx _ (List.getElem_mem hi)
        have hfi' := hfx _ (List.getElem_mem hi')
        generalize xs[i' + 1] = x at *
        generalize xs[i'] = y at *
        simp at q8 hwi
        by_cases he : x.1 = y.1
        · have hc := hn.2 he
          simp [q7, q8, q9, hwp, hps0, i0, i1, pa_cells, pa_n0, pa_tail, ty_agg, demote_ty, he, less_irr]
          refine cmp18 _ y.2 x.2 (Nat.le_refl _) (fine_ok _ hfi') (fine_ok _ hfi) _ _ _ ?_
          have hge : ¬ (0 : Int) ≤ cmpT y.2 x.2 := by omega
          simp [q8, hwi, hge]
          exact again _ _ (by simp [q1]) (by simp [q5]) (by simp [q6]) (by simp [q7]) (by simp)
        · have he' : (x.1 == y.1) = false := by simpa using he
          simp [q7, q8, q9, hwi, hwp, hps0, i0, i1, pa_cells, pa_n0, hn.1, he']
          exact again _ _ (by simp [q1]) (by simp [q5]) (by simp [q6]) (by simp [q7]) (by simp)
  · simp
    obtain ⟨I3, hI3⟩ : ∃ I3 : Nat → St → Prop, ∀ m s, I3 m s ↔ (∃ i : Nat, i + m = ps.length ∧ s.r 1 = .int .i64 k0 ∧ s.r 5 = .bool true ∧ s.r 6 = .sl .frozen (paVs ps) ∧ s.r 7 = .sl .frozen (paVs xs) ∧ s.r 11 = .int .i64 i ∧ s.h = [ob]) := ⟨_, fun _ _ => Iff.rfl⟩
    refine loop_ind (CallA.hle ap) I3 ?_ (n := ps.length) ((hI3 _ _).2 ⟨0, by simp [r1, r5, r6, r7]⟩)
    clear hs r1 r5 r6 r7 r8 d him
    rintro m3 ⟨r, lo, h3⟩ hs
    obtain ⟨i, him, r1, r5, r6, r7, r11, rfl⟩ := (hI3 _ _).1 hs
    simp only at r1 r5 r6 r7 r11
    simp [forget, noLoc, r6, r11, pas_length]
    refine condA_dec (fun d => ?_) fun d => ?_
    · have hi : i < ps.length := by omega
      have hwi : IntKind.wrap .i64 ((i : Int) + 1) = ((i + 1 : Nat) : Int) := by rw [wrap64 (by omega) (by omega)]; omega
      simp
      obtain ⟨I4, hI4⟩ : ∃ I4 : Nat → St → Prop, ∀ m s, I4 m s ↔ (∃ k : Nat, k + m = xs.length ∧ s.r 1 = .int .i64 k0 ∧ s.r 5 = .bool true ∧ s.r 6 = .sl .frozen (paVs ps) ∧ s.r 7 = .sl .frozen (paVs xs) ∧ s.r 11 = .int .i64 i ∧ s.r 12 = .bool ((xs.take k).any fun q => sameB ps[i] q) ∧ s.r 13 = .int .i64 k ∧ s.h = [ob]) := ⟨_, fun _ _ => Iff.rfl⟩
      refine loop_ind (CallA.hle ap) I4 ?_ (n := xs.length) ((hI4 _ _).2 ⟨0, by simp [r1, r5, r6, r7, r11]⟩)
      rintro m4 ⟨rr, lo4, h4⟩ hs4
      obtain ⟨k, hkm, q1, q5, q6, q7, q11, q12, q13, rfl⟩ := (hI4 _ _).1 hs4
      simp only at q1 q5 q6 q7 q11 q12 q13
      simp [forget, noLoc, q7, q13, pas_length]
      refine condA_dec (fun d2 => ?_) fun d2 => ?_
      · have hk : k < xs.length := by omega
        have i1 := pa_i (k := .i64) (j := (i : Int)) hi rfl
        have i2 := pa_i (k := .i64) (j := (k : Int)) hk rfl
        have hwk : IntKind.wrap .i64 ((k : Int) + 1) = ((k + 1 : Nat) : Int) := by rw [wrap64 (by omega) (by omega)]; omega
        have ht := any_tk (fun q => sameB ps[i] q) xs k hk
        have hfk := hfx _ (List.getElem_mem hk)
        have hfi := hfine _ (List.getElem_mem hi)
        cases hb : (xs.take k).any (fun q => sameB ps[i] q) with
        | true =>
          rw [hb] at q12 ht
          simp [q12, q13, hwk]
          exact ⟨m4 - 1, by omega, (hI4 _ _).2 ⟨k + 1, by omega, by simp [q1, q5, q6, q7, q11, ht]⟩⟩
        | false =>
          rw [hb] at q12 ht
          generalize xs[k] = x at *
          generalize ps[i] = y at *
          simp [q6, q7, q11, q12, q13, i1, i2, pa_cells, pa_take, pa_agg, pa_demote, pa_loc]
          refine pred2 y x hfi hfk ?_
          simp [q13, hwk]
          exact ⟨m4 - 1, by omega, (hI4 _ _).2 ⟨k + 1, by omega, by simp [q1, q5, q6, q7, q11, ht]⟩⟩
      · have hk : k = xs.length := by omega
        subst hk
        rw [List.take_length, any_of' ((hmem _).2 (List.getElem_mem hi))] at q12
        simp [q11, q12, hwi]
        exact ⟨m3 - 1, by omega, (hI3 _ _).2 ⟨i + 1, by omega, by simp [q1, q5, q6, q7]⟩⟩
    · simp [r6, pas_length]
      by_cases hp0 : ps = []
      · subst hp0
        simp [r5]
      have hpl : 0 < ps.length := List.length_pos_iff.2 hp0
      have hpe : ((ps.length : Int) == 0) = false := by simp; omega
      have hpe2 : ¬ (ps.length : Int) = 0 := by omega
      obtain ⟨k, hk, e⟩ := modcO (m := (ps.length : Int)) (by omega) (by omega) k0
      have hkn : k < ps.length := by omega
      have hlim : ps.length ≤ lim := by simp only [lim]; omega
      have hdr : (paVs ps).drop k = paVs (ps.drop k) := by simp [paVs, List.map_drop]
      have htk : (paVs ps).take k = paVs (ps.take k) := by simp [paVs, List.map_take]
      have sl1 : ∀ rr : Nat → V, rr 142 = .int .i64 (k : Int) → sliceV 4 rr (.sl .frozen (paVs ps)) (some (.t 142)) none none = some (.sl .frozen (paVs (ps.drop k))) := fun rr e => by
        have hle : k ≤ (paVs ps).length := by rw [pas_length]; omega
        have hc : ∀ x ∈ paVs ps, x.cells.length = 4 := fun x hx => pas_c4 hx
        simp only [sliceV, bnd, ev, e]
        simp
        refine ⟨⟨hle, .inr hc⟩, ?_⟩
        rw [← hdr]
        exact List.take_of_length_le (by simp)
      have sl2 : ∀ rr : Nat → V, rr 146 = .int .i64 (k : Int) → sliceV 4 rr (.sl .frozen (paVs ps)) none (some (.t 146)) none = some (.sl .frozen (paVs (ps.take k))) := fun rr e => by
        have hle : k ≤ (paVs ps).length := by rw [pas_length]; omega
        simp only [sliceV, bnd, ev, e]
        simp [hle, htk]
      have brem : ∀ a : Int, binV .rem (.int .i64 a) (.int .i64 (ps.length : Int)) = some (.int .i64 (a.tmod ps.length)) := fun a => by
        simp only [binV]; rw [if_pos ⟨trivial, hpe2⟩]
      simp [hpe, brem, mid3, rest3, r1, r6, pas_length, e, sl1, pas_demote]
      refine copyP (ps.drop k) (by simp; omega) ?_
      simp [r6, sl2]
      have hmt : ∀ p, p ∈ ps.drop k ++ ps.take k ↔ p ∈ ps := fun p => by
        rw [List.mem_append, or_comm, ← List.mem_append, List.take_append_drop]
      have hft : ∀ p ∈ ps.drop k ++ ps.take k, fine p.2 = true := fun p hp => hfine p ((hmt p).1 hp)
      have hlt2 : (ps.drop k ++ ps.take k).length < 20 := by simp; omega
      have fin : ∀ (h : List Ob) (bs : List Nat) (Q : V → List Ob → Prop), Q (.sl .frozen (paVs xs)) h → CallA ap 9 0 bs [.sl .frozen (paVs (ps.drop k ++ ps.take k))] h Q := fun h bs Q hQ =>
        sortP _ hlt2 hft fun ys _ hys hym => by
          have : ys = xs := uniqP hys hlt fun p => (hym p).trans ((hmt p).trans (hmem p).symm)
          rw [this]; exact hQ
      have hdl : (ps.drop k).length = ps.length - k := by simp
      cases hT : ps.take k with
      | nil =>
        rw [hT, List.append_nil] at fin
        have eN : paVs [] = [] := rfl
        simp [eN, r5, pas_demote]
        refine fin _ _ _ ?_
        simp [r7, pas_demote]
        refine preds2 xs (by omega) hfx ?_
        simp
      | cons t T =>
        rw [hT] at fin
        have eT : paVs (t :: T) = paV t :: paVs T := rfl
        have eA : paVs (ps.drop k) ++ paV t :: paVs T = paVs (ps.drop k ++ t :: T) := by simp [paVs]
        have hTl : T.length + 1 ≤ ps.length := by have := congrArg List.length hT; simp at this; omega
        simp [eT, pas_length, eA]
        refine ⟨fun v hv => pas_c4 hv, by simp only [lim]; omega, ?_⟩
        simp [r5, pas_demote]
        refine fin _ _ _ ?_
        simp [r7, pas_demote]
        refine preds2 xs (by omega) hfx ?_
        simp

end Go.Ot

namespace Go.Ot
open Go.Am Go.Proofs
set_option maxRecDepth 100000

theorem less_iff (a b : Nam) : Op.bytesLess a b = true ↔ Lib.compareBytes a b < 0 := by
  by_cases h : a = b
  · subst h
    rw [cmp_same]
    have : Op.bytesLess a a = false := by
      induction a with
      | nil => rfl
      | cons x a ih => simp [Op.bytesLess, ih]
    simp [this]
  · rw [less_cmp a b h]
    split <;> simp_all

section
variable {bs : List Nat} {h : List Ob} {Q : V → List Ob → Prop}

theorem beforeR (p q : Nam × Ty) (hp : okT p.2 = true) (hq2 : okT q.2 = true) (hq : ∀ b : Bool, (b = true ↔ ltP p q) → Q (.bool b) h) : CallA ap 64 0 bs [paV p, paV q] h Q := by
  refine CallA.code (af := ac64) rfl (Nat.le_of_ble_eq_true rfl) ?_
  obtain ⟨c, t⟩ := p
  obtain ⟨d, u⟩ := q
  have e1 : ∀ (c : Nam) (t : Ty), (paV (c, t)).cells = .str c :: (tyV t).cells := fun c t => rfl
  have hlt : ltP (c, t) (d, u) ↔ Op.bytesLess c d = true ∨ c = d ∧ cmpT t u < 0 := by
    rw [less_iff]
    unfold ltP cmpP or2
    simp only
    by_cases h0 : Lib.compareBytes c d = 0
    · have := bytes_zero _ _ h0
      subst this
      simp [h0]
    · have hne : c ≠ d := fun e => h0 (by subst e; exact cmp_same _)
      simp [h0, hne]
  simp [ac64, e1, ty_cells, pa_loc]
  cases hb : Op.bytesLess c d with
  | true =>
    simp
    exact hq true (by simp [hlt, hb])
  | false =>
    by_cases hcd : c = d
    · subst hcd
      simp [ty_take, ty_agg, ty_cells, demote_ty]
      refine cmp18 _ t u (Nat.le_refl _) hp hq2 _ _ _ ?_
      simp
      exact hq _ (by simp [hlt, hb])
    · have hcb : (c == d) = false := by simpa using hcd
      simp [hcb]
      exact hq false (by simp [hlt, hb, hcd])

theorem sort_ins {X Y : En} {p : Nam × Ty} (h : (X ++ Y).Pairwise ltP) (hX : ∀ x ∈ X, ltP x p) (hY : ∀ y ∈ Y, ltP p y) : (X ++ p :: Y).Pairwise ltP := by
  rw [List.pairwise_append] at h ⊢
  refine ⟨h.1, List.pairwise_cons.2 ⟨hY, h.2.1⟩, fun a ha b hb => ?_⟩
  rcases List.mem_cons.1 hb with rfl | hb
  · exact hX a ha
  · exact h.2.2 a ha b hb

/-- The reference's order. -/
theorem sortR (ps : En) (hl : ps.length ≤ 100) (hf : ∀ p ∈ ps, fine p.2 = true) (hq : ∀ xs : En, xs.length ≤ ps.length → xs.Pairwise ltP → (∀ p, p ∈ xs ↔ p ∈ ps) → Q (.sl .frozen (paVs xs)) h) :
    CallA ap 33 0 bs [.sl .frozen (paVs ps)] h Q := by
  refine CallA.code (af := ac33) rfl (Nat.le_of_ble_eq_true rfl) ?_
  simp [ac33]
  obtain ⟨I, hI⟩ : ∃ I : Nat → St → Prop, ∀ n s, I n s ↔ (∃ (A B xs : En) (tg : Tag) (g : List Ob), ps = A ++ B ∧ n = B.length ∧ s.r 0 = .sl .frozen (paVs ps) ∧ s.r 3 = .sl tg (paVs xs) ∧ s.r 4 = .int .i64 A.length ∧ s.h = h ++ g ∧ xs.length ≤ A.length ∧ xs.Pairwise ltP ∧ (∀ p, p ∈ xs ↔ p ∈ A)) := ⟨_, fun _ _ => Iff.rfl⟩
  refine loop_ind (CallA.hle ap) I ?_ (n := ps.length) ((hI _ _).2 ⟨[], ps, [], .clip, [], by simp [paVs]⟩)
  rintro n ⟨r, lo, h'⟩ hst
  obtain ⟨A, B, xs, tg, g, e, hn, r0, r3, r4, rfl, hxl, hxs, hxm⟩ := (hI _ _).1 hst
  simp only at r0 r3 r4
  have hAB : A.length + B.length = ps.length := by rw [e]; simp
  simp [forget, noLoc, r0, r4, pas_length]
  refine condA_dec (fun d => ?_) fun d => ?_
  rotate_left
  · have : B = [] := List.length_eq_zero_iff.1 (by omega)
    subst this
    have e : ps = A := by simpa using e
    subst e
    simp [r3, pas_demote, pas_under]
    exact hq xs hxl hxs hxm
  obtain ⟨p, B', rfl⟩ : ∃ p B', B = p :: B' := by
    cases B with
    | nil => simp at hAB; omega
    | cons p B' => exact ⟨p, B', rfl⟩
  have hpl : A.length + 1 + B'.length = ps.length := by simp at hAB; omega
  have g1 : (paVs ps)[A.length]? = some (paV p) := by rw [e]; simp [paVs]
  have hw : IntKind.wrap .i64 ((A.length : Int) + 1) = (A.length : Int) + 1 := wrap64 (by omega) (by omega)
  have hfp : okT p.2 = true := fine_ok _ (hf p (by rw [e]; simp))
  have hfx : ∀ x ∈ xs, fine x.2 = true := fun x hx => hf x (by rw [e]; exact List.mem_append.2 (.inl ((hxm x).1 hx)))
  simp
  obtain ⟨K, hK⟩ : ∃ K : Nat → St → Prop, ∀ n s, K n s ↔ (∃ (X Y : En), xs = X ++ Y ∧ n = Y.length ∧ s.r 0 = .sl .frozen (paVs ps) ∧ s.r 3 = .sl tg (paVs xs) ∧ s.r 4 = .int .i64 A.length ∧ s.r 5 = .int .i64 X.length ∧ s.h = h ++ g ∧ (∀ x ∈ X, ltP x p)) := ⟨_, fun _ _ => Iff.rfl⟩
  refine loop_ind (CallA.hle ap) K ?_ (n := xs.length) ((hK _ _).2 ⟨[], xs, by simp [r0, r3, r4]⟩)
  clear hst r0 r3 r4 r lo d
  rintro n2 ⟨r, lo, h'⟩ hst
  obtain ⟨X, Y, eX, hn2, r0, r3, r4, r5, rfl, hX⟩ := (hK _ _).1 hst
  simp only at r0 r3 r4 r5
  have hXY : X.length + Y.length = xs.length := by rw [eX]; simp
  have hw5 : IntKind.wrap .i64 ((X.length : Int) + 1) = (X.length : Int) + 1 := wrap64 (by omega) (by omega)
  have fin : ∀ (tg' : Tag) (g' : List Ob) (zs : En) (s : St), s.r 0 = .sl .frozen (paVs ps) → s.r 3 = .sl tg' (paVs zs) → s.r 4 = .int .i64 ((A.length : Int) + 1) → s.h = h ++ g' → zs.length ≤ xs.length + 1 → zs.Pairwise ltP → (∀ x, x ∈ zs ↔ x ∈ xs ∨ x = p) → I B'.length s := fun tg' g' zs s q0 q3 q4 qh q5 q6 q7 =>
    (hI _ _).2 ⟨A ++ [p], B', zs, tg', g', by simpa using e, rfl, q0, q3, by simpa using q4, qh, by simp; omega, q6, fun x => by rw [q7, hxm]; simp⟩
  have nlt : B'.length < n := by simp at hn; omega
  have pas_app : paVs xs = paVs X ++ paVs Y := by rw [eX]; simp [paVs]
  have sl1 : ∀ rr : Nat → V, rr 46 = .int .i64 (X.length : Int) → sliceV 4 rr (.sl tg (paVs xs)) none (some (.t 46)) none = some (.sl (if X.length = xs.length then tg else .frozen) (paVs X)) := fun rr e => by
    have c1 : X.length ≤ xs.length := by omega
    have c2 : (paVs xs).take X.length = paVs X := by rw [pas_app, List.take_left' (pas_length X)]
    simp [sliceV, bnd, ev, e, pas_length, c1, c2]
  have sl2 : ∀ rr : Nat → V, rr 57 = .int .i64 (X.length : Int) → sliceV 4 rr (.sl tg (paVs xs)) (some (.t 57)) none none = some (.sl (if X.length = 0 then tg else .frozen) (paVs Y)) := fun rr e => by
    have c1 : X.length ≤ xs.length := by omega
    have c2 : ((paVs xs).drop X.length).take (xs.length - X.length) = paVs Y := by rw [pas_app, List.drop_left' (pas_length X), List.take_of_length_le (by rw [pas_length]; omega)]
    have c4 : ∀ v ∈ paVs xs, v.cells.length = 4 := fun v hv => pas_mem hv
    have c5 : (X = [] ∨ ∀ v ∈ paVs xs, v.cells.length = 4) := .inr c4
    simp [sliceV, bnd, ev, e, pas_length, c1, c2, c5]
  have hsn : paVs X ++ [paV p] = paVs (X ++ [p]) := by simp [paVs]
  simp [forget, noLoc, r3, r5, pas_length]
  cases Y with
  | nil =>
    have hlt : ¬ X.length < xs.length := by simp at hXY; omega
    simp [hlt, r3, r5, pas_length, sl1, pas_demote]
    refine copyP X (by omega) ?_
    simp [r0, r3, r4, r5, sl2, g1, pa_cells, pa_take, pa_agg, pa_loc, pas_length, hsn]
    refine ⟨fun v hv => pas_mem hv, by simp only [lim]; omega, ?_⟩
    have ep : paVs [] = [] := rfl
    simp [ep, r4, hw]
    refine ⟨B'.length, nlt, fin (.fam (h.length + g.length)) (g ++ [.fam (X.length + 1) 4]) (X ++ [p]) _ (by simp [r0]) (by simp) (by simp) (by simp) (by simp at hXY ⊢; omega) (sort_ins (Y := []) (by rw [← eX]; exact hxs) hX (by simp)) fun x => by rw [eX]; simp⟩
  | cons y Y' =>
    have hlt : X.length < xs.length := by simp at hXY; omega
    have g2 : (paVs xs)[X.length]? = some (paV y) := by rw [pas_app]; simp [paVs]
    have g3 : ∀ hh : X.length < (paVs xs).length, (paVs xs)[X.length]'hh = paV y := fun hh => by
      rw [List.getElem?_eq_getElem hh] at g2; exact Option.some.inj g2
    have hfy : fine y.2 = true := hfx y (by rw [eX]; simp)
    simp [hlt, r0, r3, r4, r5, g1, g2, pa_cells, pa_take, pa_agg, pa_demote, pa_loc]
    refine beforeR y p (fine_ok _ hfy) hfp fun b hb => ?_
    cases b with
    | true =>
      simp [r5, hw5]
      refine ⟨Y'.length, by simp at hn2; omega, (hK _ _).2 ⟨X ++ [y], Y', by simpa using eX, rfl, by simp [r0], by simp [r3], by simp [r4], by simp, rfl, fun x hx => ?_⟩⟩
      rcases List.mem_append.1 hx with hx | hx
      · exact hX x hx
      · rw [List.mem_singleton] at hx; subst hx; exact hb.1 rfl
    | false =>
      simp [hlt, r0, r3, r4, r5, g1, g3, pa_cells, pa_take, pa_agg, pa_demote, pa_loc, pas_length]
      refine pred2 y p hfy (hf p (by rw [e]; simp)) ?_
      cases hsb : sameB y p with
      | true =>
        have hyp : y = p := (sameB_iff y p).1 hsb
        simp [r4, hw]
        refine ⟨B'.length, nlt, fin tg g xs _ (by simp [r0]) (by simp [r3]) (by simp) (by simp) (by omega) hxs fun x => ⟨.inl, fun h => h.elim id fun e => ?_⟩⟩
        rw [e, ← hyp, eX]; simp
      | false =>
        have hpy : ltP p y := lt_of (not_lt fun hh => by simpa using hb.2 hh) fun h0 => by
          have := cmpP_zero h0
          rw [(sameB_iff y p).2 this] at hsb; cases hsb
        simp [r3, r5, sl1, pas_demote]
        refine copyP X (by omega) ?_
        simp [r0, r3, r4, r5, sl2, g1, pa_cells, pa_take, pa_agg, pa_loc, pas_length, hsn]
        refine ⟨fun v hv => pas_mem hv, by simp only [lim]; omega, ?_⟩
        have ec : paVs (y :: Y') = paV y :: paVs Y' := rfl
        have el : X.length + 1 + (Y'.length + 1) ≤ lim := by simp only [lim]; simp at hXY; omega
        have hse : paVs (X ++ [p]) ++ paV y :: paVs Y' = paVs (X ++ p :: y :: Y') := by simp [paVs]
        simp [ec, r4, hw, pas_length, el, hse]
        refine ⟨?_, B'.length, nlt, fin (.fam (h.length + g.length)) (g ++ [.fam (X.length + 1 + (Y'.length + 1)) 4]) (X ++ p :: y :: Y') _ (by simp [r0]) (by simp) (by simp) (by simp) (by simp at hXY ⊢; omega) (sort_ins (by rw [← eX]; exact hxs) hX fun z hz => ?_) fun x => ?_⟩
        · intro v hv
          exact pas_mem hv
        · rcases List.mem_cons.1 hz with rfl | hz
          · exact hpy
          · rw [eX, List.pairwise_append, List.pairwise_cons] at hxs
            exact ltP_trans hpy (ltP_le (hxs.2.1.1 z hz))
        · rw [eX]; simp
          constructor
          · rintro (h1 | h1 | h1 | h1) <;> simp [h1]
          · rintro ((h1 | h1 | h1) | h1) <;> simp [h1]

end
end Go.Ot
