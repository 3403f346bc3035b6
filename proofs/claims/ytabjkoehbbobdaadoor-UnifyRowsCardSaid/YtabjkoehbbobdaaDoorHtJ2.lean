/- A row of variables, each one with the next: the law on the abstract machine. -/
import Derived.Test.YtabjkoehbbobdaaDoorHtJ
import Derived.Test.YtabjkoehbbobdaaDoorHtZ0
namespace Go.Ht
open Go.Am Go.Proofs
set_option maxRecDepth 100000

/-- All names that stand there. -/
def allN : List Nam := abc ++ (List.range 22).map nm
theorem good_nm {i : Nat} (hi : i ≤ 21) : good allN (var (nm i)) := ⟨rfl, fun y hy => by
  simp [var, occ] at hy; subst hy
  exact List.mem_append_right _ (List.mem_map.2 ⟨i, List.mem_range.2 (by omega), rfl⟩)⟩
theorem good_all {t : Ty} (h : good abc t) : good allN t := ⟨h.1, fun y hy => List.mem_append_left _ (h.2 y hy)⟩
theorem fine_vn (x : Nam) : fine (var x) = true := rfl
theorem okP_row {w : List Bool} {n : Nat} (hn : n ≤ 20) : ∀ p ∈ row w n, OkP allN p := by
  intro p hp
  obtain ⟨i, hi, rfl⟩ := List.mem_map.1 hp
  rw [List.mem_range] at hi
  unfold rowP
  split <;> exact ⟨good_nm (by omega), rfl, good_nm (by omega), rfl⟩

theorem wrap8 {n : Int} (h1 : 0 ≤ n) (h2 : n < 256) : IntKind.wrap .u8 n = n := by
  simp [IntKind.wrap, IntKind.bits, IntKind.signed]
  omega

/-- A row's pair as it is made. -/
def prC (x y : Nam) : V := .agg [.int .i64 1, .str x, .sl .clip [], .int .i64 1, .str y, .sl .clip []]
def rowC (w : List Bool) (i : Nat) : V := if w.getD i false then prC (nm (i + 1)) (nm i) else prC (nm i) (nm (i + 1))
def rowsC (w : List Bool) (n : Nat) : List V := (List.range n).map (rowC w)
theorem rowsC_len (w : List Bool) (n : Nat) : (rowsC w n).length = n := by simp [rowsC]
theorem prC_c (x y : Nam) : (prC x y).cells.length = 6 := rfl
theorem rowC_c (w : List Bool) (n : Nat) : ∀ v ∈ rowsC w n, v.cells.length = 6 := by
  intro v hv
  obtain ⟨i, _, rfl⟩ := List.mem_map.1 hv
  unfold rowC
  split <;> rfl
theorem prC_dem (x y : Nam) : (prC x y).demote = prV (var x, var y) := by simp [prC, prV, var, tyV, tyVs, V.demote, demoteL]
theorem rowsC_dem (w : List Bool) (n : Nat) : demoteL (rowsC w n) = prVs (row w n) := by
  rw [demoteL_eq, rowsC, List.map_map, prVs, row, List.map_map]
  refine List.map_congr_left fun i _ => ?_
  simp only [Function.comp, rowC, rowP]
  split <;> exact prC_dem _ _

theorem rep_0 {c c' z z' : Nat} {r : List Ob} {o : Option Nat} {f : En} (hr : RepS (.fam c z :: r) o f) : RepS (.fam c' z' :: r) o f := by
  rcases hr with h | ⟨q, rfl, hq⟩
  · exact .inl h
  · refine .inr ⟨q, rfl, ?_⟩
    cases q with
    | zero => simp [mapOb] at hq
    | succ q => simpa using hq

theorem law5 (n0 : Int) (w : List Bool) (a : List Int) : CallA ap 5 0 [] [.int .i64 n0, .sl .frozen (w.map .bool), .sl .frozen (a.map (.int .i64))] [] fun v _ => v = .bool true := by
  refine CallA.code (af := ac5) rfl (Nat.le_of_ble_eq_true rfl) ?_
  simp [ac5]
  refine first8 ?_
  simp
  refine number53 n0 20 (by omega) (by omega) ?_
  obtain ⟨hn0, hn1⟩ := num_bound (n := n0) (k := 20) (by omega)
  obtain ⟨m, hm⟩ : ∃ m : Nat, (m : Int) = num n0 20 + 1 := ⟨(num n0 20 + 1).toNat, by omega⟩
  have hw0 : IntKind.wrap .i64 (num n0 20 + 1) = (m : Int) := by rw [wrap64 (by omega) (by omega), hm]
  have hm1 : 1 ≤ m := by omega
  have hm2 : m ≤ 20 := by omega
  clear hn0 hn1 hm
  simp [hw0]
  by_cases c1 : w.length < m
  · simp [c1]
  by_cases c2 : (40 : Int) < a.length
  · simp [c1, c2]
  simp [c1, c2]
  obtain ⟨I, hI⟩ : ∃ I : Nat → St → Prop, ∀ n s, I n s ↔ (∃ i : Nat, i + n = m ∧ s.r 0 = .int .i64 m ∧ s.r 1 = .sl .frozen (w.map .bool) ∧ s.r 2 = .sl .frozen (a.map (.int .i64)) ∧ s.r 7 = .bool true ∧ s.r 9 = .int .i64 i ∧
    (i = 0 ∧ s.r 8 = .sl .clip [] ∧ s.h = [] ∨ 0 < i ∧ s.r 8 = .sl (.fam 0) (rowsC w i) ∧ s.h = [.fam i 6])) := ⟨_, fun _ _ => Iff.rfl⟩
  refine loop_ind (CallA.hle ap) I ?_ (n := m) ((hI _ _).2 ⟨0, by simp⟩)
  rintro n ⟨r, lo, h'⟩ hst
  obtain ⟨i, hin, r0, r1, r2, r7, r9, hor⟩ := (hI _ _).1 hst
  simp only at r0 r1 r2 r7 r9 hor
  simp [forget, noLoc, r0, r9]
  refine condA_dec (fun d1 => ?_) fun d1 => ?_
  · have hi : i < w.length := by omega
    have hx1 : IntKind.wrap .i64 (97 + (i : Int)) = 97 + i := wrap64 (by omega) (by omega)
    have hx2 : IntKind.wrap .i64 (97 + (i : Int) + 1) = 97 + i + 1 := wrap64 (by omega) (by omega)
    have hx3 : IntKind.wrap .u8 (97 + (i : Int)) = ((97 + i : Nat) : Int) := wrap8 (by omega) (by omega)
    have hx4 : IntKind.wrap .u8 (97 + (i : Int) + 1) = ((97 + (i + 1) : Nat) : Int) := wrap8 (by omega) (by omega)
    have hw1 : IntKind.wrap .i64 ((i : Int) + 1) = ((i + 1 : Nat) : Int) := by rw [wrap64 (by omega) (by omega)]; omega
    simp [r1, r9, hx1, hx2, hx3, hx4, bytesV, convV, splice, hi]
    have hrow : rowsC w (i + 1) = rowsC w i ++ [rowC w i] := by simp [rowsC, List.range_succ]
    have hn1 : [118, UInt8.ofNat (97 + (i : Int)).toNat] = nm i := by rw [nm, show (97 + (i : Int)).toNat = 97 + i by omega]
    have hn2 : [118, UInt8.ofNat (97 + ((i : Int) + 1)).toNat] = nm (i + 1) := by rw [nm, show (97 + ((i : Int) + 1)).toNat = 97 + (i + 1) by omega]
    have hlim : i + 1 ≤ lim := by simp only [lim]; omega
    have hset : ∀ x : Ob, List.set [Ob.fam i 6] 0 x = [x] := fun _ => rfl
    have hcc := rowC_c w (i + 1)
    rw [hrow] at hcc
    cases hb : w[i] with
    | true =>
      have hc : [V.agg [.int .i64 1, .str (nm (i + 1)), .sl .clip [], .int .i64 1, .str (nm i), .sl .clip []]] = [rowC w i] := by simp [rowC, prC, List.getD, hi, hb]
      simp [splice]
      rcases hor with ⟨h0, r8, rfl⟩ | ⟨hpos, r8, rfl⟩
      · simp only [hn1, hn2, hc]
        subst h0
        simp [r8, r9, hcc]
        exact ⟨by simp only [lim]; omega, n - 1, by omega, (hI _ _).2 ⟨1, by omega, by simp [r0, r1, r2, r7, rowsC, w1]⟩⟩
      · simp only [hn1, hn2, hc]
        simp [r8, r9, hw1, rowsC_len]
        refine ⟨fun v hv => hcc v (by simpa using hv), hlim, n - 1, by omega, (hI _ _).2 ⟨i + 1, by omega, by simp [r0, r1, r2, r7, hrow]⟩⟩
    | false =>
      have hc : [V.agg [.int .i64 1, .str (nm i), .sl .clip [], .int .i64 1, .str (nm (i + 1)), .sl .clip []]] = [rowC w i] := by simp [rowC, prC, List.getD, hi, hb]
      simp [splice]
      rcases hor with ⟨h0, r8, rfl⟩ | ⟨hpos, r8, rfl⟩
      · simp only [hn1, hn2, hc]
        subst h0
        simp [r8, r9, hcc]
        exact ⟨by simp only [lim]; omega, n - 1, by omega, (hI _ _).2 ⟨1, by omega, by simp [r0, r1, r2, r7, rowsC, w1]⟩⟩
      · simp only [hn1, hn2, hc]
        simp [r8, r9, hw1, rowsC_len]
        refine ⟨fun v hv => hcc v (by simpa using hv), hlim, n - 1, by omega, (hI _ _).2 ⟨i + 1, by omega, by simp [r0, r1, r2, r7, hrow]⟩⟩
  · obtain rfl : i = m := by omega
    rcases hor with ⟨h0, _, _⟩ | ⟨_, r8, rfl⟩
    · omega
    simp [r2, splice]
    refine made10 .frozen a 1 2 2 0 _ _ _ (by omega) (by omega) (by omega) (by omega) (by omega) rfl fun t j hj1 hj2 ht => ?_
    have hx1 : IntKind.wrap .i64 (97 + (i : Int)) = 97 + i := wrap64 (by omega) (by omega)
    have hx3 : IntKind.wrap .u8 (97 + (i : Int)) = ((97 + i : Nat) : Int) := wrap8 (by omega) (by omega)
    have hn1 : [118, UInt8.ofNat (97 + (i : Int)).toNat] = nm i := by rw [nm, show (97 + (i : Int)).toNat = 97 + i by omega]
    obtain ⟨k, nn, l⟩ := t
    simp [r0, r8, splice, hx1, hx3, bytesV, convV, hn1, tyV]
    rw [rowsC_dem]
    refine all16 (A := allN) (by decide) (row w i) (by simp [row]; omega) (okP_row hm2) (fun tl o f hr hf => ?_) (fun tl g hn => absurd hn row_found)
    simp [r8, splice]
    have hm := ht.fine
    have hg := good_all ht.good
    have hv : ∀ y, occ y (Ty.mk k nn l) = true → y.length = 1 := fun y hy => by
      have := ht.good.2 y hy
      simp [abc] at this
      rcases this with rfl | rfl | rfl <;> rfl
    have hdem : demoteL (rowsC w i ++ [V.agg [.int .i64 1, .str (nm i), .sl .clip [], .int .i64 k, .str nn, .sl .frozen (tyVs l)]]) = prVs (row w i ++ [(var (nm i), Ty.mk k nn l)]) := by
      rw [demoteL_eq, List.map_append, ← demoteL_eq, rowsC_dem]
      simp [prVs, prV, var, tyV, tyVs, V.demote, demoteL, demote_tys]
    refine ⟨fun v hv => ?_, by rw [rowsC_len]; simp only [lim]; omega, (rowsC_len w i).symm, ?_⟩
    · rcases hv with hv | rfl
      · exact rowC_c w i v hv
      · rfl
    rw [hdem]
    refine all16 (A := allN) (by decide) (row w i ++ [(var (nm i), Ty.mk k nn l)]) (by simp [row]; omega) (fun p hp => ?_) (fun tl2 o2 g hr2 hg2 => ?_) (fun tl g hn => absurd hn (row_found' hm hv))
    · rcases List.mem_append.1 hp with hp | hp
      · exact okP_row hm2 p hp
      · simp at hp; subst hp
        exact ⟨good_nm (by omega), rfl, hg, hm⟩
    simp only [List.cons_append, List.nil_append] at hr hr2
    have hr' := (rep_0 (c' := (rowsC w i).length + 1) (z' := 6) hr).up tl2
    simp only [List.cons_append] at hr'
    obtain ⟨hlen, _, y, hyn, hall⟩ := row_ok hm2 hf
    have hend := row_end hm2 hf hg2 hm hv
    simp [splice]
    refine len21 hr' (by omega) ?_
    simp [r0, hlen]
    refine applyR (t := var (nm i)) rfl hf.fit.s.ok hr' ?_
    simp [splice]
    have hone : tyV (hat (sge f) (var (nm i))) = .agg [.int .i64 1, .str y, .sl .frozen []] := by rw [hat_v, hall i (Nat.le_refl _)]; simp [var, tyV, tyVs]
    rw [hone]
    simp only [cells_agg]
    generalize hH : (Ob.fam ((rowsC w i).length + 1) 6 :: seqB Tag.frozen a j :: (tl ++ tl2)) = H at hr' hr2
    obtain ⟨I2, hI2⟩ : ∃ I : Nat → St → Prop, ∀ n s, I n s ↔ (∃ c : Nat, c + n = i + 1 ∧ s.r 0 = .int .i64 i ∧ s.r 7 = .bool true ∧ s.r 19 = .int .i64 c ∧ s.r 12 = .loc 12 0 ∧ s.r 14 = .loc 14 0 ∧ s.r 16 = .loc 16 0 ∧ s.r 18 = .loc 18 0 ∧
      s.l 12 = some [.int .i64 k, .str nn, .sl .frozen (tyVs l)] ∧ s.l 14 = some [.map o] ∧ s.l 16 = some [.map o2] ∧ s.l 18 = some [.int .i64 1, .str y, .sl .frozen []] ∧ s.h = H) := ⟨_, fun _ _ => Iff.rfl⟩
    clear hI hin hst hdem
    refine loop_ind (CallA.hle ap) I2 ?_ (n := i + 1) ((hI2 _ _).2 ⟨0, by simp [r0, r7]⟩)
    clear r0 r1 r2 r7 r8 r9
    rintro n ⟨r, lo, h'⟩ hst
    obtain ⟨c, hin, r0, r7, r19, r12, r14, r16, r18, l12, l14, l16, l18, rfl⟩ := (hI2 _ _).1 hst
    simp only at r0 r7 r19 r12 r14 r16 r18 l12 l14 l16 l18
    simp [forget, noLoc, locOf, r0, r19]
    refine condA_dec (fun d1 => ?_) fun d1 => ?_
    · have hx1 : IntKind.wrap .i64 (97 + (c : Int)) = 97 + c := wrap64 (by omega) (by omega)
      have hx3 : IntKind.wrap .u8 (97 + (c : Int)) = ((97 + c : Nat) : Int) := wrap8 (by omega) (by omega)
      have hn1 : [118, UInt8.ofNat (97 + (c : Int)).toNat] = nm c := by rw [nm, show (97 + (c : Int)).toNat = 97 + c by omega]
      have hw1 : IntKind.wrap .i64 ((c : Int) + 1) = ((c + 1 : Nat) : Int) := by rw [wrap64 (by omega) (by omega)]; omega
      simp [r19, r14, l14, splice, hx1, hx3, bytesV, convV]
      simp only [hn1]
      have hc : c ≤ i := by omega
      have e1 : ∀ x : Nam, V.agg [.int .i64 1, .str x, .sl .frozen []] = tyV (var x) := fun x => by simp [var, tyV, tyVs]
      have e2 : V.agg [.int .i64 k, .str nn, .sl .frozen (tyVs l)] = tyV (.mk k nn l) := by simp [tyV]
      have b1 : ∀ x : Ty, beqT x x = true := fun x => (beqT_iff _ _).2 rfl
      rw [e1]
      refine applyR (t := var (nm c)) rfl hf.fit.s.ok hr' ?_
      rw [hat_v, hall c hc]
      simp [r18, l18, demote_ty, demoteL, V.demote]
      rw [e1]
      refine sameOk (a := var y) (b := var y) rfl rfl _ _ _ ?_
      rw [b1]
      simp [r16, l16, demoteL, V.demote]
      rw [e1]
      refine applyR (t := var (nm c)) rfl hg2.fit.s.ok hr2 ?_
      rw [hat_v, hend c hc]
      simp [r12, l12, demote_ty, demoteL, V.demote, demote_tys]
      rw [e2]
      refine sameOk (fine_ok _ hm) (fine_ok _ hm) _ _ _ ?_
      rw [b1]
      simp [r19]
      exact ⟨n - 1, by omega, (hI2 _ _).2 ⟨c + 1, by omega, by simp [r0, r7, r12, r14, r16, r18, l12, l14, l16, l18, hw1]⟩⟩
    · simp [r7, r18, l18]

end Go.Ht
