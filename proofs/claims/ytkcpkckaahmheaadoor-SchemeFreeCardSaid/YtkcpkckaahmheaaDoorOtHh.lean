/- The law SchemeFree on the abstract machine. -/
import Derived.Test.YtkcpkckaahmheaaDoorOtGe
namespace Go.Ot
open Go.Am Go.Proofs
set_option maxRecDepth 100000
set_option maxHeartbeats 4000000

theorem schemeFree (l : List Int) (k0 : Int) : CallA ap 4 0 [] [.sl .frozen (l.map (.int .i64)), .int .i64 k0] [] fun v _ => v = .bool true := by
  refine CallA.code (af := ac4) rfl (Nat.le_of_ble_eq_true rfl) ?_
  simp [ac4]
  refine firstO ?_
  simp
  by_cases hl : (100 : Int) < l.length
  · simp [hl]
  simp [hl, splice]
  refine made10 .frozen l 0 4 4 0 _ [seqB .frozen l 0] _ (by omega) (by omega) (by omega) (by omega) (by decide) (by simp) fun t j _ _ hm => ?_
  have ht := hm.fine
  have hg := hm.good
  have hsz := hm.sz
  have hf : ∀ u ∈ [t], fine u = true ∧ good abc u := fun u hu => by rw [List.mem_singleton] at hu; subst hu; exact ⟨ht, hg⟩
  obtain ⟨q, hq1, hq2⟩ := modcO (m := 3) (by omega) (by omega) k0
  have hq3 : q < 3 := by omega
  obtain ⟨nt, hnt⟩ : ∃ nt : Nam, [V.str [97], V.str [98], V.str [99]][q]? = some (.str nt) := by
    match q, hq3 with
    | 0, _ => exact ⟨_, rfl⟩
    | 1, _ => exact ⟨_, rfl⟩
    | 2, _ => exact ⟨_, rfl⟩
  obtain ⟨k, nn, tl⟩ := t
  simp [tyV, splice, hq2, hnt, demote_tys]
  have e2 : V.agg [.int .i64 k, .str nn, .sl .frozen (tyVs tl)] = tyV (.mk k nn tl) := by simp [tyV]
  rw [e2]
  refine closeC (A := abc) (by simp [abc]) [nt] (by simp) (.mk k nn tl) [] (by simp) (by simpa using hf) fun N0 hN0 => ?_
  have ep : paVs [] = [] := rfl
  simp [tyV, splice, demote_tys, dem_strs, ep]
  have e3 : ∀ N : List Nam, V.agg [.sl .frozen (N.map .str), .sl .frozen [], .int .i64 k, .str nn, .sl .frozen (tyVs tl)] = .agg ([.sl .frozen (N.map .str), .sl .frozen (paVs [])] ++ (tyV (.mk k nn tl)).cells) := fun N => by simp [tyV, paVs]
  rw [e3]
  have hN0l : N0.length < 1000000 := by
    have := lenA (A := abc) (by simp [abc]) hf
    rw [hN0]
    exact Nat.lt_of_le_of_lt (List.length_filter_le _ _) (by simpa using Nat.lt_of_le_of_lt this (by omega))
  refine canonC (A := abc) (by simp [abc]) N0 hN0l (.mk k nn tl) [] (by simp) (by simpa using hf) fun xs L F R ys m _ _ hxs hL hF hm26 hR hRL _ _ hys => ?_
  have : xs = [] := List.eq_nil_iff_forall_not_mem.2 fun p hp => by simpa using (hxs p).1 hp
  subst this
  have : ys = [] := List.eq_nil_iff_forall_not_mem.2 fun p hp => by simpa [mapE] using (hys p).1 hp
  subst this
  have hLn : L.Nodup := by rw [hL]; exact List.Pairwise.filter _ (varsTL_nodup _ _ (by simp))
  have hft' := ren_fine (L := L) (R := R) ht
  have hgt' := ren_good hLn hRL.symm ht hg
  have hszt' := ren_sz hLn hRL.symm ht
  have law := fun f hf' => free_law ht nt (W := varsTL [] [.mk k nn tl]) (f := f) rfl (by simpa using hN0) (by simpa using hL) (by simpa using hF) hR hRL hf'
  have hRl : R.length ≤ 26 := by
    rw [hR]; simp only [names, List.length_map]
    exact Nat.le_trans (List.length_filter_le _ _) (by simp; exact hm26)
  obtain ⟨t', ht'⟩ : ∃ t', t' = apT (look (zipE L R)) (.mk k nn tl) := ⟨_, rfl⟩
  rw [← ht'] at hft' hgt' hszt' law ⊢
  clear hys hxs
  obtain ⟨k', nn', tl'⟩ := t'
  have e2' : V.agg [.int .i64 k', .str nn', .sl .frozen (tyVs tl')] = tyV (.mk k' nn' tl') := by simp [tyV]
  have e3' : ∀ N : List Nam, V.agg [.sl .frozen (N.map .str), .sl .frozen [], .int .i64 k', .str nn', .sl .frozen (tyVs tl')] = .agg ([.sl .frozen (N.map .str), .sl .frozen (paVs [])] ++ (tyV (.mk k' nn' tl')).cells) := fun N => by simp [tyV, paVs]
  simp [tyV, splice, demote_tys, ep]
  rw [e2]
  have e1 : [tyV (.mk k nn tl)] = tyVs [.mk k nn tl] := by simp [tyVs]
  rw [e1]
  refine vars23 (A := abc) (by simp [abc]) [.mk k nn tl] (by simp) hf ?_
  simp [dem_strs]
  have hWl := lenA (A := abc) (by simp [abc]) hf
  refine has40 _ nt (by omega) fun b hb => ?_
  simp [tyV, demote_tys, dem_strs]
  rw [e3']
  have hf' : ∀ u ∈ [Ty.mk k' nn' tl'], fine u = true ∧ good (abc ++ R) u := fun u hu => by rw [List.mem_singleton] at hu; subst hu; exact ⟨hft', hgt'⟩
  refine freeC (A := abc ++ R) (by simp [abc]; omega) R (by omega) (.mk k' nn' tl') [] (by simp) (by simpa using hf') fun f hfe => ?_
  have law := law f (by simpa using hfe)
  simp [tyV, ep]
  generalize seqB .frozen l j = ob
  have gR : ∀ i (h1 : i < R.length), (R.map V.str)[i]? = some (.str R[i]) := fun i h1 => by simp [h1]
  have hnR : b = true → ∀ i (h1 : i < R.length), (R[i] == nt) = false := fun hbt i h1 => by
    rcases law with ⟨_, _, _, h4⟩ | ⟨h1', _⟩
    · simp only [beq_eq_false_iff_ne, ne_eq]
      exact fun e => h4 (e ▸ List.getElem_mem h1)
    · exact absurd (hb.1 hbt) h1'
  obtain ⟨MR, hMR⟩ : ∃ M : List V, M = R.map .str := ⟨_, rfl⟩
  have hMRl : MR.length = R.length := by rw [hMR]; simp
  rw [← hMR] at gR ⊢
  obtain ⟨I, hI⟩ : ∃ I : Nat → St → Prop, ∀ n s, I n s ↔ (∃ i : Nat, i + n = R.length ∧ s.r 5 = .bool true ∧ s.r 7 = .str nt ∧ s.r 10 = .bool b ∧ s.r 11 = .sl .frozen (f.map .str) ∧ s.r 12 = .int .i64 i ∧ s.r 6 = .loc 6 0 ∧ s.r 8 = .loc 8 0 ∧ s.r 9 = .loc 9 0 ∧
    s.l 6 = some [.int .i64 k, .str nn, .sl .frozen (tyVs tl)] ∧ s.l 8 = some [.sl .frozen (N0.map .str), .sl .frozen [], .int .i64 k, .str nn, .sl .frozen (tyVs tl)] ∧ s.l 9 = some [.sl .frozen MR, .sl .frozen [], .int .i64 k', .str nn', .sl .frozen (tyVs tl')] ∧ s.h = [ob]) := ⟨_, fun _ _ => Iff.rfl⟩
  refine loop_ind (CallA.hle ap) I ?_ (n := R.length) ((hI _ _).2 ⟨0, by simp⟩)
  rintro n ⟨r, lo, h'⟩ hst
  obtain ⟨i, hin, r5, r7, r10, r11, r12, r6, r8, r9, l6, l8, l9, rfl⟩ := (hI _ _).1 hst
  simp only at r5 r7 r10 r11 r12 r6 r8 r9 l6 l8 l9
  simp [forget, noLoc, locOf, r12, r9, l9, hMRl]
  refine condA_dec (fun d => ?_) fun d => ?_
  · have hi : i < R.length := by omega
    have hw : IntKind.wrap .i64 ((i : Int) + 1) = ((i + 1 : Nat) : Int) := by rw [wrap64 (by omega) (by omega)]; omega
    cases b with
    | true =>
      have hne := hnR rfl i hi
      simp [r7, r10, r12, r9, l9, gR i hi, hne, hw]
      exact ⟨n - 1, by omega, (hI _ _).2 ⟨i + 1, by omega, by simp [r5, r7, r10, r11, r6, r8, r9, l6, l8, l9]⟩⟩
    | false =>
      simp [r10, r12, hw]
      exact ⟨n - 1, by omega, (hI _ _).2 ⟨i + 1, by omega, by simp [r5, r7, r10, r11, r6, r8, r9, l6, l8, l9]⟩⟩
  · simp [r5, r11, r8, l8, demote_tys, dem_strs]
    rw [e3]
    refine freeC (A := abc) (by simp [abc]) N0 hN0l (.mk k nn tl) [] (by simp) (by simpa using hf) fun F' hF' => ?_
    have hFF : F' = F := by rw [hF', hF]
    subst hFF
    have hz1 : szN (.mk k nn tl) < 1000000 := Nat.lt_of_lt_of_le hsz (by decide)
    have hz2 : szN (.mk k' nn' tl') < 1000000 := by rw [hszt']; exact hz1
    rcases law with ⟨hw1, hw2, hw3, hw4⟩ | ⟨hw1, hw2, hw3⟩
    · have hbt : b = true := hb.2 hw1
      subst hbt
      rw [hw3] at r11
      simp [r7, r10, r11, r9, l9, demote_tys, hw2, hw3]
      rw [e2']
      refine size33 _ _ (Nat.le_refl _) hft' hz2 _ _ _ ?_
      simp [r6, l6, demote_tys]
      rw [e2]
      refine size33 _ _ (Nat.le_refl _) ht hz1 _ _ _ ?_
      simp [hszt']
    · have hbf : b = false := by
        cases b with
        | false => rfl
        | true => exact absurd (hb.1 rfl) hw1
      subst hbf
      rw [hw3] at r11
      simp [r10, r11, r9, l9, demote_tys, hw2, hw3]
      rw [e2']
      refine size33 _ _ (Nat.le_refl _) hft' hz2 _ _ _ ?_
      simp [r6, l6, demote_tys]
      rw [e2]
      refine size33 _ _ (Nat.le_refl _) ht hz1 _ _ _ ?_
      simp [hszt']

end Go.Ot
