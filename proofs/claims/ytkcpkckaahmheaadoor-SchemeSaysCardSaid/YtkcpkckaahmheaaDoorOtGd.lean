/- A scheme's plain form: on the abstract machine. -/
import Derived.Test.YtkcpkckaahmheaaDoorOtHe
import Derived.Test.YtkcpkckaahmheaaDoorOtGa
import Derived.Test.YtkcpkckaahmheaaDoorOtGc
import Derived.Test.YtkcpkckaahmheaaDoorAmI

namespace Go.Ot
open Go.Am Go.Proofs
set_option maxRecDepth 100000

theorem nm_inj : ∀ i, i < 26 → ∀ j, j < 26 → nm i = nm j → i = j := by decide

/-- The first names that are not among others. -/
def names (F : List Nam) (m : Nat) : List Nam := ((List.range m).filter (fun i => !decide (nm i ∈ F))).map nm

theorem nm_nodup {p : Nat → Bool} {m : Nat} (hm : m ≤ 26) : (((List.range m).filter p).map nm).Nodup := by
  have key : ∀ l : List Nat, l.Nodup → (∀ i ∈ l, i < 26) → (l.map nm).Nodup := by
    intro l
    induction l with
    | nil => intro _ _; simp
    | cons i l ih =>
      intro hn hl
      rw [List.nodup_cons] at hn
      rw [List.map_cons, List.nodup_cons]
      refine ⟨fun hm => ?_, ih hn.2 fun j hj => hl j (List.mem_cons_of_mem _ hj)⟩
      obtain ⟨j, hj, e⟩ := List.mem_map.1 hm
      have := nm_inj j (hl j (List.mem_cons_of_mem _ hj)) i (hl i (by simp)) e
      exact hn.1 (this ▸ hj)
  refine key _ (List.Pairwise.filter _ List.nodup_range) fun i hi => ?_
  have := List.mem_range.1 (List.mem_filter.1 hi).1
  omega

theorem names_nodup (F : List Nam) {m : Nat} (hm : m ≤ 26) : (names F m).Nodup := nm_nodup hm
theorem names_not {F : List Nam} {m : Nat} {x : Nam} (h : x ∈ names F m) : x ∉ F := by
  obtain ⟨i, hi, rfl⟩ := List.mem_map.1 h
  simpa using (List.mem_filter.1 hi).2
theorem names_one {F : List Nam} {m : Nat} {x : Nam} (h : x ∈ names F m) : ∃ i, i < m ∧ x = nm i := by
  obtain ⟨i, hi, rfl⟩ := List.mem_map.1 h
  exact ⟨i, List.mem_range.1 (List.mem_filter.1 hi).1, rfl⟩

theorem names_count (F : List Nam) {m : Nat} (hm : m ≤ 26) : m ≤ (names F m).length + F.length := by
  have h1 : (((List.range m).filter (fun i => decide (nm i ∈ F))).map nm).length ≤ F.length := by
    refine List.Nodup.length_le_of_subset (nm_nodup hm) fun x hx => ?_
    obtain ⟨i, hi, rfl⟩ := List.mem_map.1 hx
    simpa using (List.mem_filter.1 hi).2
  have h2 : ∀ (l : List Nat) (p : Nat → Bool), (l.filter (fun i => !p i)).length + (l.filter p).length = l.length := by
    intro l p
    induction l with
    | nil => rfl
    | cons a l ih => cases hp : p a <;> simp [hp] <;> omega
  have h3 := h2 (List.range m) (fun i => decide (nm i ∈ F))
  simp only [names, List.length_map, List.length_range] at *
  omega

theorem names_next (F : List Nam) (m : Nat) : names F (m + 1) = names F m ++ (if nm m ∈ F then [] else [nm m]) := by
  simp only [names, List.range_succ, List.filter_append, List.map_append]
  congr 1
  by_cases h : nm m ∈ F <;> simp [h]

section
variable {bs : List Nat} {h : List Ob} {Q : V → List Ob → Prop}

theorem canonC {A : List Nam} (hA : A.length ≤ 12) (N : List Nam) (hN : N.length < 1000000) (t : Ty) (ps : En) (hl : ps.length < 20) (hf : ∀ u ∈ t :: ps.map (·.2), fine u = true ∧ good A u)
    (hq : ∀ (xs : En) (L F R : List Nam) (ys : En) (m : Nat), xs.length ≤ ps.length → xs.Pairwise ltP → (∀ p, p ∈ xs ↔ p ∈ ps) → L = (varsTL [] (t :: xs.map (·.2))).filter (fun x => decide (x ∈ N)) →
      F = (varsTL [] (t :: ps.map (·.2))).filter (fun x => !decide (x ∈ N)) → m ≤ 26 → R = names F m → R.length = L.length →
      ys.length ≤ ps.length → ys.Pairwise ltP → (∀ p, p ∈ ys ↔ p ∈ mapE (look (zipE L R)) ps) →
      Q (.agg ([.sl .frozen (R.map .str), .sl .frozen (paVs ys)] ++ (tyV (apT (look (zipE L R)) t)).cells)) h) :
    CallA ap 16 0 bs [.agg ([.sl .frozen (N.map .str), .sl .frozen (paVs ps)] ++ (tyV t).cells)] h Q := by
  refine CallA.code (af := ac16) rfl (Nat.le_of_ble_eq_true rfl) ?_
  have hA' : A.length ≤ 1000 := by omega
  have hfp : ∀ p ∈ ps, fine p.2 = true := fun p hp => (hf p.2 (by simp; exact .inr ⟨p.1, hp⟩)).1
  have hft : fine t = true := (hf _ (by simp)).1
  obtain ⟨k, nn, l⟩ := t
  have e2 : V.agg ([.sl .frozen (N.map .str), .sl .frozen (paVs ps)] ++ (tyV (.mk k nn l)).cells) = .agg [.sl .frozen (N.map .str), .sl .frozen (paVs ps), .int .i64 k, .str nn, .sl .frozen (tyVs l)] := by simp [tyV]
  simp [ac16, tyV, demote_tys, pas_demote, dem_strs]
  rw [← e2]
  refine orderC hA' N hN (.mk k nn l) ps hl hf fun xs hxl hxs hxm L hL => ?_
  simp [demote_tys, pas_demote, dem_strs]
  rw [← e2]
  refine freeC hA' N hN (.mk k nn l) ps (by omega) hf fun F hF => ?_
  have hfx : ∀ u ∈ (.mk k nn l) :: xs.map (·.2), fine u = true ∧ good A u := fun u hu => by
    rcases List.mem_cons.1 hu with rfl | hu
    · exact hf _ (by simp)
    · obtain ⟨p, hp, rfl⟩ := List.mem_map.1 hu
      exact hf p.2 (List.mem_cons_of_mem _ (List.mem_map_of_mem ((hxm p).1 hp)))
  have hLn : L.Nodup := by rw [hL]; exact List.Pairwise.filter _ (varsTL_nodup _ _ (by simp))
  have hFn : F.Nodup := by rw [hF]; exact List.Pairwise.filter _ (varsTL_nodup _ _ (by simp))
  have hLl : L.length ≤ 12 := Nat.le_trans (List.Nodup.length_le_of_subset hLn fun x hx => vars_in hfx (by rw [hL] at hx; exact (List.mem_filter.1 hx).1)) hA
  have hFl : F.length ≤ 12 := Nat.le_trans (List.Nodup.length_le_of_subset hFn fun x hx => vars_in hf (by rw [hF] at hx; exact (List.mem_filter.1 hx).1)) hA
  simp
  obtain ⟨I, hI⟩ : ∃ I : Nat → St → Prop, ∀ n s, I n s ↔ (∃ i : Nat, i + n = 26 ∧ s.r 3 = .sl .frozen (L.map .str) ∧ s.r 4 = .sl .frozen (F.map .str) ∧ s.r 6 = .int .i64 i ∧ s.r 1 = .loc 1 0 ∧ s.r 2 = .loc 2 0 ∧
    s.l 1 = some [.sl .frozen (N.map .str), .sl .frozen (paVs ps), .int .i64 k, .str nn, .sl .frozen (tyVs l)] ∧ s.l 2 = some [.sl .clip [], .sl .clip [], .int .i64 0, .str [], .sl .clip []] ∧ (names F i).length ≤ L.length ∧
    (names F i = [] ∧ s.r 5 = .sl .clip [] ∧ s.h = h ∨ names F i ≠ [] ∧ s.r 5 = .sl (.fam h.length) ((names F i).map .str) ∧ s.h = h ++ [.fam (names F i).length 1])) := ⟨_, fun _ _ => Iff.rfl⟩
  refine loop_ind (CallA.hle ap) I ?_ (n := 26) ((hI _ _).2 ⟨0, by simp [names]⟩)
  rintro n ⟨r, lo, h'⟩ hst
  obtain ⟨i, hin, r3, r4, r6, r1, r2, l1, l2, hle, hor⟩ := (hI _ _).1 hst
  simp only at r3 r4 r6 r1 r2 l1 l2 hor
  have hcnt := names_count F (m := i) (by omega)
  have hnx := names_next F i
  obtain ⟨M, hM⟩ : ∃ M, M = names F i := ⟨_, rfl⟩
  rw [← hM] at hcnt hnx hle hor
  have hr5 : ∃ tg, r 5 = .sl tg (M.map .str) := by
    rcases hor with ⟨h0, r5, _⟩ | ⟨_, r5, _⟩
    · exact ⟨.clip, by rw [r5, h0]; rfl⟩
    · exact ⟨_, r5⟩
  obtain ⟨tg, r5'⟩ := hr5
  simp [forget, noLoc, locOf, r3, r5']
  refine condA_dec (fun c1 => ?_) fun c1 => ?_
  · have hi : i < 24 := by omega
    have hw : IntKind.wrap .i64 ((i : Int) + 1) = ((i + 1 : Nat) : Int) := by rw [wrap64 (by omega) (by omega)]; omega
    simp [r6]
    refine nameL i (by omega) ?_
    simp [r4, dem_strs]
    refine contF F (nm i) (by omega) fun b hb => ?_
    by_cases hm : nm i ∈ F
    · have : b = true := hb.2 hm
      subst this
      rw [if_pos hm, List.append_nil] at hnx
      simp [r6, hw]
      refine ⟨n - 1, by omega, (hI _ _).2 ⟨i + 1, by omega, by simp [r3], by simp [r4], by simp, by simp [r1], by simp [r2], by simp [l1], by simp [l2], by rw [hnx]; exact hle, ?_⟩⟩
      rw [hnx]
      rcases hor with ⟨h0, r5, rfl⟩ | ⟨hne, r5, rfl⟩
      · exact .inl ⟨h0, by simp [r5], rfl⟩
      · exact .inr ⟨hne, by simp [r5], rfl⟩
    · have : b = false := by cases b <;> simp_all
      subst this
      rw [if_neg hm] at hnx
      have hlen : (names F (i + 1)).length ≤ L.length := by rw [hnx]; simp; omega
      rcases hor with ⟨h0, r5, rfl⟩ | ⟨hne, r5, rfl⟩
      · rw [h0] at hnx
        simp [r5, r6, hw]
        exact ⟨by simp [lim], n - 1, by omega, (hI _ _).2 ⟨i + 1, by omega, by simp [r3], by simp [r4], by simp, by simp [r1], by simp [r2], by simp [l1], by simp [l2], hlen, .inr ⟨by rw [hnx]; simp, by rw [hnx]; simp, by rw [hnx]; simp⟩⟩⟩
      · simp [r5, r6, hw]
        refine ⟨fun v hv => ?_, by simp only [lim]; omega, n - 1, by omega, (hI _ _).2 ⟨i + 1, by omega, by simp [r3], by simp [r4], by simp, by simp [r1], by simp [r2], by simp [l1], by simp [l2], hlen, .inr ⟨by rw [hnx]; simp, by rw [hnx]; simp, by rw [hnx]; simp⟩⟩⟩
        rcases hv with ⟨x, _, rfl⟩ | rfl <;> rfl
  · have hlen : M.length = L.length := by omega
    have hap : ∀ x u, look (zipE L M) x = some u → fine u = true := fun x u hx => by
      obtain ⟨b, _, e⟩ := zipE_mem (look_mem hx)
      simp only at e
      rw [e]; rfl
    have hfm : ∀ p ∈ mapE (look (zipE L M)) ps, fine p.2 = true := fun p hp => by
      simp only [mapE, List.mem_map] at hp
      obtain ⟨q, hq', rfl⟩ := hp
      exact ap_fine _ hap _ (hfp q hq')
    have hml : (mapE (look (zipE L M)) ps).length = ps.length := mapE_len _ _
    have fin : ∀ ys : En, ys.length ≤ (mapE (look (zipE L M)) ps).length → ys.Pairwise ltP → (∀ p, p ∈ ys ↔ p ∈ mapE (look (zipE L M)) ps) → Q (.agg ([.sl .frozen (M.map .str), .sl .frozen (paVs ys)] ++ (tyV (apT (look (zipE L M)) (.mk k nn l))).cells)) h := fun ys h1 h2 h3 =>
      hq xs L F M ys i hxl hxs hxm hL hF (by omega) hM hlen (by omega) h2 h3
    generalize hT : apT (look (zipE L M)) (.mk k nn l) = T at fin
    simp [r1, r3, r5', l1, dem_strs, pas_demote, demote_tys]
    rw [← e2]
    refine renamedG N L M hlen.symm (by omega) hLn ps (by omega) hfp (.mk k nn l) hft _ rfl ?_
    rw [hT]
    obtain ⟨k', nn', l'⟩ := T
    simp [tyV, splice, pas_demote]
    refine sortP _ (by omega) hfm fun ys h1 h2 h3 => ?_
    have := fin ys h1 h2 h3
    rcases hor with ⟨h0, r5, rfl⟩ | ⟨hne, r5, rfl⟩
    · simp [r2, l2, splice, dem_strs, under_strs, pas_demote, pas_under, demote_tys, under_tys]
      simpa [tyV] using this
    · simp [r2, l2, splice, dem_strs, under_strs, pas_demote, pas_under, demote_tys, under_tys]
      simpa [tyV] using this

end
end Go.Ot

namespace Go.Ot
open Go.Am Go.Proofs
set_option maxRecDepth 100000

theorem less_cmp : ∀ a b : List UInt8, a ≠ b → Lib.compareBytes a b = if Op.bytesLess a b = true then -1 else 1
  | [], [], h => absurd rfl h
  | [], _ :: _, _ => by simp [Lib.compareBytes, Op.bytesLess]
  | _ :: _, [], _ => by simp [Lib.compareBytes, Op.bytesLess]
  | x :: a, y :: b, h => by
    have g1 : (x < y) = (x.toNat < y.toNat) := propext UInt8.lt_iff_toNat_lt
    have g2 : (y < x) = (y.toNat < x.toNat) := propext UInt8.lt_iff_toNat_lt
    have g3 : x = y ↔ x.toNat = y.toNat := UInt8.toNat_inj.symm
    by_cases h1 : x < y
    · simp [Lib.compareBytes, Op.bytesLess, h1]
    · by_cases h2 : y < x
      · have : ¬ x = y := by rw [g3]; rw [g2] at h2; omega
        simp [Lib.compareBytes, Op.bytesLess, h1, h2, this]
      · have hxy : x = y := by rw [g3]; rw [g1] at h1; rw [g2] at h2; omega
        subst hxy
        have := less_cmp a b fun e => h (by rw [e])
        simp [Lib.compareBytes, Op.bytesLess, this]

theorem cmp_same (a : List UInt8) : Lib.compareBytes a a = 0 := by
  induction a with
  | nil => rfl
  | cons x a ih => simp [Lib.compareBytes, ih]

section
variable {bs : List Nat} {h : List Ob} {Q : V → List Ob → Prop}

theorem sign38 (a b : Int) (hq : Q (.int .i64 (cmpI a b)) h) : CallA ap 45 0 bs [.int .i64 a, .int .i64 b] h Q := by
  refine CallA.code (af := ac45) rfl (Nat.le_of_ble_eq_true rfl) ?_
  simp [ac45]
  refine condA_dec (fun h1 => ?_) fun h1 => ?_
  · simp
    simpa [cmpI, h1] using hq
  · simp
    refine condA_dec (fun h2 => ?_) fun h2 => ?_
    · simp
      simpa [cmpI, h1, h2] using hq
    · simp
      simpa [cmpI, h1, h2] using hq

def CmpR (a b : Ty) : Prop := ∀ (bs : List Nat) (h : List Ob) (Q : V → List Ob → Prop), Q (.int .i64 (cmpT a b)) h → CallA ap 11 0 bs [tyV a, tyV b] h Q

/-- The loop over the arguments, when the heads are alike so far. -/
def cmpLoop : AC := .loop [5, 6] [2, 3] .skip

theorem cmpI_same (a : Int) : cmpI a a = 0 := by simp [cmpI]
theorem orL2 (x y : Int) : orL [0, 0, x, y] = if x = 0 then y else x := by
  have e : (if y = 0 then 0 else y) = y := by split <;> omega
  simp only [orL, if_true, e]
theorem cmpTs1 (a b : Ty) : cmpTs [a] [b] = cmpT a b := by
  simp only [cmpTs]; split <;> omega
theorem cmpTs2 (a b c d : Ty) : cmpTs [a, c] [b, d] = if cmpT a b = 0 then cmpT c d else cmpT a b := by
  rw [← cmpTs1 c d, cmpTs]

theorem cmp18 : ∀ (m : Nat) (a b : Ty), SizeOf.sizeOf a ≤ m → okT a = true → okT b = true → CmpR a b := by
  intro m
  induction m with
  | zero => intro a b h; cases a; simp at h
  | succ m ih =>
    intro a b hm ha hb bs h Q hq
    obtain ⟨k, n, l⟩ := a
    obtain ⟨k', n', l'⟩ := b
    obtain ⟨a1, a2⟩ := okT_len ha
    obtain ⟨b1, b2⟩ := okT_len hb
    have each : ∀ a ∈ l, ∀ b ∈ l', CmpR a b := fun a h1 b h2 => ih a b (by have := List.sizeOf_lt_of_mem h1; simp at hm; omega) (a2 a h1) (b2 b h2)
    refine CallA.code (af := ac11) rfl (Nat.le_of_ble_eq_true rfl) ?_
    simp [ac11, tyV]
    refine sign38 k k' ?_
    simp only [cmpT] at hq
    have hkk := cmpI_cases k k'
    by_cases hk : cmpI k k' = 0
    case neg =>
      have hz : (cmpI k k' == 0) = false := by simpa using hk
      simp only [orL, hk, if_false] at hq
      simp [hz]
      refine wpA_loop (CallA.hle ap) ?_
      match l with
      | [] => simp [forget, noLoc, locOf, tyVs]; exact hq
      | [_] => simp [forget, noLoc, locOf, tyVs, hz]; exact hq
      | [_, _] => simp [forget, noLoc, locOf, tyVs, hz]; exact hq
    rw [hk] at hq ⊢
    by_cases hn : n = n'
    case neg =>
      have hne : (n == n') = false := by simpa using hn
      have hc := less_cmp n n' hn
      by_cases hl : Op.bytesLess n n' = true
      · rw [if_pos hl] at hc
        simp only [orL, hc] at hq
        simp at hq
        simp [hne, hl]
        refine wpA_loop (CallA.hle ap) ?_
        match l with
        | [] => simp [forget, noLoc, locOf, tyVs]; exact hq
        | [_] => simp [forget, noLoc, locOf, tyVs]; exact hq
        | [_, _] => simp [forget, noLoc, locOf, tyVs]; exact hq
      · rw [if_neg hl] at hc
        simp only [orL, hc] at hq
        simp at hq hl
        simp [hne, hl]
        refine wpA_loop (CallA.hle ap) ?_
        match l with
        | [] => simp [forget, noLoc, locOf, tyVs]; exact hq
        | [_] => simp [forget, noLoc, locOf, tyVs]; exact hq
        | [_, _] => simp [forget, noLoc, locOf, tyVs]; exact hq
    subst hn
    rw [cmp_same] at hq
    simp
    refine sign38 l.length l'.length ?_
    rw [orL2] at hq
    match l, l', a1, b1, each, hq with
    | _ :: _ :: _ :: _, _, a1, _, _, _ => simp at a1
    | _, _ :: _ :: _ :: _, _, b1, _, _ => simp at b1
    | [], [], _, _, _, hq =>
      simp
      refine wpA_loop (CallA.hle ap) ?_
      simp [forget, noLoc, locOf, tyVs]
      exact hq
    | [], _ :: l', _, _, _, hq =>
      have hc : cmpI 0 ((l'.length : Int) + 1) = -1 := by unfold cmpI; rw [if_pos (by omega)]
      simp [hc] at hq ⊢
      refine wpA_loop (CallA.hle ap) ?_
      simp [forget, noLoc, locOf, tyVs]
      exact hq
    | [a], [], _, _, _, hq =>
      have hc : cmpI 1 0 = 1 := by decide
      simp [hc] at hq ⊢
      refine wpA_loop (CallA.hle ap) ?_
      simp [forget, noLoc, locOf, tyVs]
      exact hq
    | [a, a'], [], _, _, _, hq =>
      have hc : cmpI 2 0 = 1 := by decide
      simp [hc] at hq ⊢
      refine wpA_loop (CallA.hle ap) ?_
      simp [forget, noLoc, locOf, tyVs]
      exact hq
    | [a], [b, b'], _, _, _, hq =>
      have hc : cmpI 1 2 = -1 := by decide
      simp [hc] at hq ⊢
      refine wpA_loop (CallA.hle ap) ?_
      simp [forget, noLoc, locOf, tyVs]
      exact hq
    | [a, a'], [b], _, _, _, hq =>
      have hc : cmpI 2 1 = 1 := by decide
      simp [hc] at hq ⊢
      refine wpA_loop (CallA.hle ap) ?_
      simp [forget, noLoc, locOf, tyVs]
      exact hq
    | [a], [b], _, _, each, hq =>
      have hc : cmpI 1 1 = 0 := by decide
      simp [hc] at hq ⊢
      refine wpA_loop (CallA.hle ap) ?_
      simp [forget, noLoc, locOf, tyVs, ty_take, ty_agg, demote_ty]
      refine each a (by simp) b (by simp) _ _ _ ?_
      simp [w1]
      refine wpA_loop (CallA.hle ap) ?_
      simp [forget, noLoc, locOf]
      rw [cmpTs1] at hq
      exact hq
    | [a, a'], [b, b'], _, _, each, hq =>
      have hc : cmpI 2 2 = 0 := by decide
      simp [hc] at hq ⊢
      refine wpA_loop (CallA.hle ap) ?_
      simp [forget, noLoc, locOf, tyVs, ty_take, ty_agg, demote_ty]
      refine each a (by simp) b (by simp) _ _ _ ?_
      simp [w1]
      rw [cmpTs2] at hq
      refine wpA_loop (CallA.hle ap) ?_
      by_cases hz : cmpT a b = 0
      · rw [hz] at hq ⊢
        simp [forget, noLoc, locOf, ty_take, ty_agg, demote_ty]
        refine each a' (by simp) b' (by simp) _ _ _ ?_
        simp [w2]
        refine wpA_loop (CallA.hle ap) ?_
        simp [forget, noLoc, locOf]
        simpa using hq
      · have hzf : (cmpT a b == 0) = false := by simpa using hz
        simp [forget, noLoc, locOf, hzf]
        simpa [hz] using hq

end

end Go.Ot

namespace Go.Ot
open Go.Am Go.Proofs
set_option maxRecDepth 100000
set_option maxHeartbeats 4000000

/-- Rows in order, of the same parts, are the same. -/
theorem ltP_irr (p : Nam × Ty) : ¬ ltP p p := by unfold ltP; rw [cmpP_refl]; omega
theorem ltP_asym {p q : Nam × Ty} (h : ltP p q) : ¬ ltP q p := by have := cmpP_anti p q; unfold ltP at *; omega
theorem uniqP : ∀ {xs ys : En}, xs.Pairwise ltP → ys.Pairwise ltP → (∀ p, p ∈ xs ↔ p ∈ ys) → xs = ys
  | [], [], _, _, _ => rfl
  | [], y :: ys, _, _, h => by simpa using (h y).2 (by simp)
  | x :: xs, [], _, _, h => by simpa using (h x).1 (by simp)
  | x :: xs, y :: ys, h1, h2, h => by
    rw [List.pairwise_cons] at h1 h2
    have e : x = y := by
      rcases List.mem_cons.1 ((h x).1 (by simp)) with e | hx
      · exact e
      · rcases List.mem_cons.1 ((h y).2 (by simp)) with e | hy
        · exact e.symm
        · exact absurd (h2.1 x hx) (ltP_asym (h1.1 y hy))
    subst e
    have := uniqP h1.2 h2.2 fun p => by
      constructor
      · intro hp
        rcases List.mem_cons.1 ((h p).1 (by simp [hp])) with rfl | h3
        · exact absurd (h1.1 p hp) (ltP_irr p)
        · exact h3
      · intro hp
        rcases List.mem_cons.1 ((h p).2 (by simp [hp])) with rfl | h3
        · exact absurd (h2.1 p hp) (ltP_irr p)
        · exact h3
    rw [this]

def sameB (p q : Nam × Ty) : Bool := (p.1 == q.1) && beqT p.2 q.2
theorem sameB_iff (p q : Nam × Ty) : sameB p q = true ↔ p = q := by
  simp only [sameB, Bool.and_eq_true, beq_iff_eq, beqT_iff]
  exact ⟨fun h => Prod.ext h.1 h.2, fun h => by subst h; exact ⟨rfl, rfl⟩⟩

theorem less_irr : ∀ a : List UInt8, Op.bytesLess a a = false
  | [] => by simp [Op.bytesLess]
  | x :: a => by simp [Op.bytesLess, less_irr a]

/-- What the law asks of two neighbours. -/
theorem nb_ok {p q : Nam × Ty} (h : ltP p q) : Op.bytesLess q.1 p.1 = false ∧ (q.1 = p.1 → cmpT p.2 q.2 < 0) := by
  unfold ltP cmpP or2 at h
  by_cases e : p.1 = q.1
  · rw [e, cmp_same] at h
    rw [e]
    exact ⟨less_irr _, fun _ => by simpa using h⟩
  · refine ⟨?_, fun e' => absurd e'.symm e⟩
    have h1 := less_cmp p.1 q.1 e
    have h2 := less_cmp q.1 p.1 (Ne.symm e)
    have h3 := bytes_anti p.1 q.1
    cases hb : Op.bytesLess q.1 p.1 with
    | false => rfl
    | true =>
      rw [hb, if_pos rfl] at h2
      have h4 : Lib.compareBytes p.1 q.1 = 1 := by omega
      rw [h4] at h
      simp at h

section
variable {bs : List Nat} {h : List Ob} {Q : V → List Ob → Prop}

theorem pred2 (p q : Nam × Ty) (hf : fine p.2 = true) (hg : fine q.2 = true) (hq : Q (.bool (sameB p q)) h) : CallA ap 10 0 bs [paV p, paV q] h Q := by
  refine CallA.code (af := ac10) rfl (Nat.le_of_ble_eq_true rfl) ?_
  obtain ⟨c, k, m, tl⟩ := p
  obtain ⟨c', k', m', tl'⟩ := q
  have hty : V.agg [.int .i64 k, .str m, .sl .frozen (tyVs tl)] = tyV (.mk k m tl) := by simp [tyV]
  have hty' : V.agg [.int .i64 k', .str m', .sl .frozen (tyVs tl')] = tyV (.mk k' m' tl') := by simp [tyV]
  simp [ac10, paV, tyV]
  by_cases e : c = c'
  · simp [e, demote_tys]
    rw [hty, hty']
    refine sameOk (fine_ok _ hf) (fine_ok _ hg) _ _ _ ?_
    simp
    simpa [sameB, e] using hq
  · have e' : (c == c') = false := by simpa using e
    simp [e']
    simpa [sameB, e'] using hq

theorem preds2 (ps : En) (hl : ps.length ≤ 1000) (hf : ∀ p ∈ ps, fine p.2 = true) (hq : Q (.bool true) h) : CallA ap 13 0 bs [.sl .frozen (paVs ps), .sl .frozen (paVs ps)] h Q := by
  refine CallA.code (af := ac13) rfl (Nat.le_of_ble_eq_true rfl) ?_
  simp [ac13, pas_length]
  obtain ⟨I, hI⟩ : ∃ I : Nat → St → Prop, ∀ n s, I n s ↔ (∃ i : Nat, i + n = ps.length ∧ s.r 0 = .sl .frozen (paVs ps) ∧ s.r 1 = .sl .frozen (paVs ps) ∧ s.r 5 = .int .i64 i ∧ s.h = h) := ⟨_, fun _ _ => Iff.rfl⟩
  refine loop_ind (CallA.hle ap) I ?_ (n := ps.length) ((hI _ _).2 ⟨0, by simp⟩)
  rintro n ⟨r, lo, h'⟩ hst
  obtain ⟨i, hin, r0, r1, r5, rfl⟩ := (hI _ _).1 hst
  simp only at r0 r1 r5
  simp [forget, noLoc, r0, r5, pas_length]
  refine condA_dec (fun h1 => ?_) fun h1 => ?_
  · have hi : i < ps.length := by omega
    have g1 : (paVs ps)[i]? = some (paV ps[i]) := by simp [paVs, hi]
    have hw : IntKind.wrap .i64 ((i : Int) + 1) = ((i + 1 : Nat) : Int) := by rw [wrap64 (by omega) (by omega)]; omega
    have hfi := hf _ (List.getElem_mem hi)
    generalize ps[i] = p at *
    simp [r0, r1, r5, g1, pa_cells, pa_take, pa_agg, pa_demote, pa_loc]
    refine pred2 p p hfi hfi ?_
    rw [(sameB_iff p p).2 rfl]
    simp [r5, hw]
    exact ⟨n - 1, by omega, (hI _ _).2 ⟨i + 1, by omega, by simp [r0, r1]⟩⟩
  · simp
    exact hq

theorem itoaO (n : Int) (h1 : -9223372036854775808 ≤ n) (h2 : n < 9223372036854775808) (hq : Q (.str (Lib.itoa n)) h) : CallA ap 62 0 bs [.int .i64 n] h Q := by
  refine CallA.code (af := ac62) rfl (Nat.le_of_ble_eq_true rfl) ?_
  simp [ac62]
  refine CallA.code (af := ac81) rfl (Nat.le_of_ble_eq_true rfl) ?_
  simp [ac81]
  refine CallA.prim (p := itoaP) rfl (v := .str (Lib.itoa n)) ?_ ?_
  · simp only [itoaP]
    rw [if_pos ⟨h1, by omega⟩]
  · simpa using hq

theorem firstO (hq : Q (.bool true) h) : CallA ap 7 0 bs [] h Q := by
  refine CallA.code (af := ac7) rfl (Nat.le_of_ble_eq_true rfl) ?_
  simp [ac7]
  refine CallA.code (af := ac34) rfl (Nat.le_of_ble_eq_true rfl) ?_
  simp [ac34, w1]
  have e : Lib.itoa 1 = [49] := by simp [Lib.itoa, Lib.decDigits]
  refine itoaO 1 (by omega) (by omega) ?_
  have hb : (Utf8.encode 98).data.toList = [98] := by decide
  have ha : (Utf8.encode 97).data.toList = [97] := by decide
  have w98 : IntKind.wrap .i64 98 = 98 := wrap64 (by omega) (by omega)
  have w97 : IntKind.wrap .i64 97 = 97 := wrap64 (by omega) (by omega)
  have x98 : IntKind.wrap .i32 98 = 98 := by decide
  have x97 : IntKind.wrap .i32 97 = 97 := by decide
  simp [e, w98, x98, hb]
  refine CallA.code (af := ac34) rfl (Nat.le_of_ble_eq_true rfl) ?_
  simp [ac34, w97, x97, ha]
  refine CallA.code (af := ac34) rfl (Nat.le_of_ble_eq_true rfl) ?_
  simp [ac34, w97, x97, ha]
  exact hq

end

end Go.Ot
