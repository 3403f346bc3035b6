/- The law TypesParts on the abstract machine: its walk. -/
import Derived.Test.YthebkhieedogdaaVtT3
namespace Go.Vt
open Go.Am Go.Proofs
set_option maxRecDepth 100000

theorem typesParts (l : List Int) : CallA ap 4 0 [] [.sl .frozen (l.map (.int .i64))] [] fun v _ => v = .bool true := by
  refine CallA.code (af := ac4) rfl (Nat.le_of_ble_eq_true rfl) ?_
  simp [ac4]
  refine first9 ?_
  by_cases hl : (100 : Int) < l.length
  · simp [hl, splice, okStore, underL]
  simp [hl, splice]
  refine made10 .frozen l 1 4 4 0 _ _ _ (by omega) (by omega) (by omega) (by omega) (by omega) rfl fun t j hj1 hj2 ht => ?_
  have hok := ht.ok
  have hfi := ht.fine
  have hgo := ht.good
  have hsz : sizeT t ≤ 32 := by have := ht.size; have h5 : (2 : Int) ^ (4 + 1) = 32 := by decide
                                omega
  have hA : abc.length ≤ 1000 := by decide
  simp [splice, ty_take, ty_agg, demote_ty, okStore, underL, ty_uc]
  refine CallA.code (af := ac7) rfl (Nat.le_of_ble_eq_true rfl) ?_
  simp [ac7]
  refine CallA.code (af := ac27) rfl (Nat.le_of_ble_eq_true rfl) ?_
  simp [ac27, ty_take, ty_agg, demote_ty]
  have e0 : [Ob.box [V.bool false], seqB Tag.frozen l j, Ob.box (tyV t).cells, Ob.box [V.int IntKind.i64 0], Ob.box [V.sl Tag.clip []], Ob.box (tyV t).cells, Ob.loop (4 * 64) kR 0 none] = YP (seqB .frozen l j) t 0 [] := by simp [YP, kR, seenOf]
  simp only [kR] at e0
  rw [show ([Ob.box [V.bool false], seqB Tag.frozen l j, Ob.box (tyV t).cells, Ob.box [V.int IntKind.i64 0], Ob.box [V.sl Tag.clip []], Ob.box (tyV t).cells, Ob.loop _ _ 0 none] : List Ob) = _ from e0]
  refine walk28 (round0 hA hok hfi hgo (by omega)) _ t (Nat.le_refl _) hok [] [] _ (by simp) ?_
  simp only [List.nil_append]
  have hS : seenOf [] (allT t) = varsT [] t := seen_all t [] hfi
  have hlen := all_len t
  obtain ⟨tg, tl, hY⟩ : ∃ tg tl, YP (seqB .frozen l j) t 0 (allT t) = [.box [.bool false], seqB .frozen l j, .box (tyV t).cells, .box [.int .i64 (sizeT t)], .box [.sl tg ((varsT [] t).map .str)], .box (tyV t).cells, .loop (4 * 64) kR 0 none] ++ tl := ⟨_, _, by simp only [YP, hS, hlen]; rfl⟩
  rw [hY]
  have hSl : (varsT [] t).length ≤ 1000 := Nat.le_trans (List.Nodup.length_le_of_subset (varsT_nodup t [] (by simp)) fun x hx => hgo.2 x (((varsT_mem x t []).1 hx).resolve_left (by simp))) hA
  have hSo : ∀ x ∈ varsT [] t, occ x t = true := fun x hx => ((varsT_mem x t []).1 hx).resolve_left (by simp)
  generalize hSS : varsT [] t = S at *
  obtain ⟨H, hH, f2, f3, f4, f0, f1, hHl⟩ : ∃ H : List Ob, H = [.box [.bool false], seqB .frozen l j, .box (tyV t).cells, .box [.int .i64 (sizeT t)], .box [.sl tg (S.map .str)], .box (tyV t).cells, .loop (4 * 64) kR 3 none] ++ tl ∧ H[2]? = some (.box (tyV t).cells) ∧ H[3]? = some (.box [.int .i64 (sizeT t)]) ∧ H[4]? = some (.box [.sl tg (S.map .str)]) ∧ H[0]? = some (.box [.bool false]) ∧ 4 < H.length ∧ 7 ≤ H.length := ⟨_, rfl, by simp⟩
  have g0 : ∀ m, (H ++ m)[0]? = some (.box [.bool false]) := fun m => by rw [List.getElem?_append_left (by omega)]; exact f0
  have g2 : ∀ m, (H ++ m)[2]? = some (.box (tyV t).cells) := fun m => by rw [List.getElem?_append_left (by omega)]; exact f2
  have g3 : ∀ m, (H ++ m)[3]? = some (.box [.int .i64 (sizeT t)]) := fun m => by rw [List.getElem?_append_left (by omega)]; exact f3
  have g4 : ∀ m, (H ++ m)[4]? = some (.box [.sl tg (S.map .str)]) := fun m => by rw [List.getElem?_append_left (by omega)]; exact f4
  have get : ∀ (m : List Ob) (i : Nat) (o : Ob), (H ++ m)[i]? = some o → ∀ h : i < (H ++ m).length, (H ++ m)[i] = o := fun m i o e h => (List.getElem?_eq_some_iff.1 e).2
  have k0 := fun m => get m 0 _ (g0 m)
  have k2 := fun m => get m 2 _ (g2 m)
  have k3 := fun m => get m 3 _ (g3 m)
  have k4 := fun m => get m 4 _ (g4 m)
  simp [kR]
  have hH' : Ob.box [V.bool false] :: seqB Tag.frozen l j :: Ob.box (tyV t).cells :: Ob.box [V.int IntKind.i64 (sizeT t)] :: Ob.box [V.sl tg (List.map V.str S)] :: Ob.box (tyV t).cells :: Ob.loop (4 * 64) [(5, V.ptr 3 0), (4, V.ptr 2 0), (2, V.ptr 0 0), (6, V.ptr 4 0)] 3 none :: tl = H := by rw [hH]; rfl
  rw [ty_take, ty_dc, ty_agg, hH']
  refine vars9 hA hfi hgo ?_
  rw [hSS]
  simp
  obtain ⟨I, hI⟩ : ∃ I : Nat → St → Prop, ∀ n s, I n s ↔ (∃ i : Nat, i + n = S.length ∧ s.h = H ∧ s.r 2 = .ptr 0 0 ∧ s.r 3 = .bool true ∧ s.r 4 = .ptr 2 0 ∧ s.r 5 = .ptr 3 0 ∧ s.r 6 = .ptr 4 0 ∧ s.r 8 = .sl .frozen (S.map .str) ∧ s.r 9 = .int .i64 i) := ⟨_, fun _ _ => Iff.rfl⟩
  refine loop_ind (CallA.hle ap) I ?_ (n := S.length) ((hI _ _).2 ⟨0, by simp⟩)
  rintro n ⟨r, lo, h'⟩ hst
  obtain ⟨i, hin, hh, r2, r3, r4, r5, r6, r8, r9⟩ := (hI _ _).1 hst
  simp only at hh r2 r3 r4 r5 r6 r8 r9
  subst h'
  simp [forget, noLoc, r8, r9]
  refine condA_dec (fun c1 => ?_) fun c1 => ?_
  · have hi : i < S.length := by omega
    have hw : IntKind.wrap .i64 ((i : Int) + 1) = ((i + 1 : Nat) : Int) := by rw [wrap64 (by omega) (by omega)]; omega
    simp [r4, r8, r9, hi, f2]
    rw [ty_take, ty_dc, ty_agg]
    refine hasOk hfi ht.no4 _ _ _ _ ?_
    rw [hSo _ (List.getElem_mem hi)]
    simp [r9, hw]
    exact ⟨n - 1, by omega, (hI _ _).2 ⟨i + 1, by omega, rfl, by simp [r2, r3, r4, r5, r6, r8]⟩⟩
  · simp [r4, splice, okStore, underL, g2]
    rw [ty_take, ty_dc, ty_agg]
    refine CallA.code (af := ac7) rfl (Nat.le_of_ble_eq_true rfl) ?_
    simp [ac7]
    refine CallA.code (af := ac27) rfl (Nat.le_of_ble_eq_true rfl) ?_
    simp [ac27, ty_take, ty_agg, demote_ty]
    refine walk_stop hok (h' := H ++ [.box [.int .i64 1], .box (tyV t).cells, .loop (4 * 64 + 1) [(10, .ptr H.length 0)] 2 (some (some 4))]) ?_ ?_
    · intro Q hq
      refine CallA.yld (key := 4 * 64 + 1) (regs := [(10, .ptr H.length 0)]) (ab := ab4_1) (by simp) rfl rfl ?_
      have s1 : ∀ x y z v : Ob, (H ++ [x, y, z]).set (H.length + 2) v = H ++ [x, y, v] := fun x y z v => by simp
      have s0 : ∀ x y z v : Ob, (H ++ [x, y, z]).set H.length v = H ++ [v, y, z] := fun x y z v => by simp
      simp [ab4_1, startB, splice, asgP, rnd, rndO, s1, s0, okStore, underL, w1]
      exact hq
    · have s1 : ∀ x y z v : Ob, (H ++ [x, y, z]).set (H.length + 2) v = H ++ [x, y, v] := fun x y z v => by simp
      simp [s1, g3, k2, r3, r4, r5]
      rw [ty_take, ty_dc, ty_agg]
      refine size9 _ t (Nat.le_refl _) hok (by omega) _ _ _ ?_
      simp [r6, r8, g3, g4, dem_strs]
      refine texts8 S (by omega) ?_
      simp [k2, r4]
      rw [ty_take, ty_dc, ty_agg]
      refine hasOk hfi ht.no4 _ _ _ _ ?_
      have hz : occ [122, 122] t = false := by
        cases e : occ [122, 122] t with
        | false => rfl
        | true => exact absurd (hgo.2 _ e) (by decide)
      rw [hz]
      simp [k0, splice, okStore, underL, r2]

end Go.Vt
