/- Functions of many types, their parts, sizes, copies: on the abstract machine. -/
import Derived.Test.YtoachlegeiefaaaBtK
namespace Go.Bt
open Go.Am Go.Proofs
set_option maxRecDepth 100000

mutual
def sizeT : Ty → Int
  | .mk _ _ l => 1 + sizeTs l
def sizeTs : List Ty → Int
  | [] => 0
  | t :: l => sizeT t + sizeTs l
end

mutual
theorem sizeT_pos : ∀ t : Ty, 1 ≤ sizeT t
  | .mk _ _ l => by have := sizeTs_pos l; simp only [sizeT]; omega
theorem sizeTs_pos : ∀ l : List Ty, 0 ≤ sizeTs l
  | [] => by simp [sizeTs]
  | t :: l => by have := sizeT_pos t; have := sizeTs_pos l; simp only [sizeTs]; omega
end

theorem Made.size {m : Nat} {t : Ty} (h : Made m t) : sizeT t + 1 ≤ 2 ^ (m + 1) := by
  have pw : ∀ m : Nat, (1 : Int) ≤ 2 ^ m := fun m => by
    have : (0 : Int) < 2 ^ m := Int.pow_pos (by omega)
    omega
  induction h with
  | va m => have := pw m; simp [sizeT, sizeTs, Int.pow_succ]; omega
  | vb m => have := pw m; simp [sizeT, sizeTs, Int.pow_succ]; omega
  | vc m => have := pw m; simp [sizeT, sizeTs, Int.pow_succ]; omega
  | int m => have := pw m; simp [sizeT, sizeTs, Int.pow_succ]; omega
  | bool m => have := pw m; simp [sizeT, sizeTs, Int.pow_succ]; omega
  | list m t _ i => have := pw m; simp [sizeT, sizeTs, Int.pow_succ] at i ⊢; omega
  | pair m t u _ _ i j => have := pw m; simp [sizeT, sizeTs, Int.pow_succ] at i j ⊢; omega
  | fn m t u _ _ i j => have := pw m; simp [sizeT, sizeTs, Int.pow_succ] at i j ⊢; omega

/-- A function of many. -/
def funT : List Ty → Ty
  | [] => .mk 2 [85, 110, 105, 116] []
  | [t] => t
  | t :: u :: l => .mk 3 [] [t, funT (u :: l)]

def kindT : Ty → Int
  | .mk k _ _ => k

theorem funT_ok : ∀ l : List Ty, okTs l = true → okT (funT l) = true
  | [], _ => rfl
  | [t], h => by simpa [okTs, funT] using h
  | t :: u :: l, h => by
    simp only [okTs, Bool.and_eq_true] at h
    have := funT_ok (u :: l) (by simp [okTs, h.2])
    simp [funT, okT, okTs, h.1, this]

theorem funT_size : ∀ (l : List Ty) (t : Ty), sizeT (funT (l ++ [t])) = sizeTs (l ++ [t]) + l.length
  | [], t => by simp [funT, sizeTs]
  | [a], t => by simp [funT, sizeTs, sizeT]; omega
  | a :: b :: l, t => by
    have := funT_size (b :: l) t
    simp only [List.cons_append, List.length_cons, funT, sizeT, sizeTs] at this ⊢
    simp only [Int.natCast_add] at this ⊢
    omega

theorem sizeTs_append : ∀ l m : List Ty, sizeTs (l ++ m) = sizeTs l + sizeTs m
  | [], m => by simp [sizeTs]
  | t :: l, m => by simp only [List.cons_append, sizeTs, sizeTs_append l m]; omega

theorem okTs_iff {l : List Ty} : okTs l = true ↔ ∀ t ∈ l, okT t = true := by
  induction l with
  | nil => simp [okTs]
  | cons t l ih => simp [okTs, ih]

theorem tys_append : ∀ l m : List Ty, tyVs (l ++ m) = tyVs l ++ tyVs m
  | [], m => rfl
  | t :: l, m => by simp [tyVs, tys_append l m]
theorem tys_take : ∀ (l : List Ty) (i : Nat), (tyVs l).take i = tyVs (l.take i)
  | [], i => by simp [tyVs]
  | t :: l, 0 => by simp [tyVs]
  | t :: l, i + 1 => by simp [tyVs, tys_take l i]
theorem tys_cells {l : List Ty} {v : V} (h : v ∈ tyVs l) : v.cells.length = 3 := by
  induction l with
  | nil => simp [tyVs] at h
  | cons t l ih =>
    simp only [tyVs, List.mem_cons] at h
    rcases h with rfl | h
    · exact ty_cells t
    · exact ih h
theorem ty_uc (m : Nat) (x : Ty) : underL m (tyV x).cells = true := by cases x; simp [tyV, under_tys]
theorem ty_dc (x : Ty) : demoteL (tyV x).cells = (tyV x).cells := by cases x; simp [tyV, demote_tys]

section
variable {bs : List Nat} {h : List Ob} {Q : V → List Ob → Prop}

/-- What copies a type. -/
def CloneS (t : Ty) : Prop := ∀ (bs : List Nat) (h : List Ob) (Q : V → List Ob → Prop), Q (tyV t) h → CallA ap 31 0 bs [tyV t] h Q

theorem clone31 : ∀ (m : Nat) (t : Ty), SizeOf.sizeOf t ≤ m → okT t = true → CloneS t := by
  intro m
  induction m with
  | zero => intro t h; cases t; simp at h
  | succ m ih =>
    intro t hm ht bs h Q hq
    obtain ⟨k, n, l⟩ := t
    obtain ⟨l1, l2⟩ := okT_len ht
    have each : ∀ a ∈ l, CloneS a := fun a ha => ih a (by have := List.sizeOf_lt_of_mem ha; simp at hm; omega) (l2 a ha)
    refine CallA.code (af := ac31) rfl (Nat.le_of_ble_eq_true rfl) ?_
    simp [ac31, tyV, splice]
    match l, l1, each with
    | [], _, _ =>
      refine wpA_loop (CallA.hle ap) ?_
      simp [forget, noLoc, locOf, tyVs, splice]
      simpa [tyV, tyVs] using hq
    | [a], _, each =>
      refine wpA_loop (CallA.hle ap) ?_
      simp [forget, noLoc, locOf, tyVs, splice, ty_take, ty_agg, demote_ty]
      refine each a (by simp) _ _ _ ?_
      simp [w1, splice, lim]
      refine wpA_loop (CallA.hle ap) ?_
      simp [forget, noLoc, locOf, splice, demote_ty, under_ty]
      simpa [tyV, tyVs] using hq
    | [a, b], _, each =>
      refine wpA_loop (CallA.hle ap) ?_
      simp [forget, noLoc, locOf, tyVs, splice, ty_take, ty_agg, demote_ty]
      refine each a (by simp) _ _ _ ?_
      simp [w1, splice, lim]
      refine wpA_loop (CallA.hle ap) ?_
      simp [forget, noLoc, locOf, splice, ty_take, ty_agg, demote_ty]
      refine each b (by simp) _ _ _ ?_
      simp [w2, splice, lim]
      refine wpA_loop (CallA.hle ap) ?_
      simp [forget, noLoc, locOf, splice, demote_ty, under_ty]
      simpa [tyV, tyVs] using hq

theorem cloneOk {t : Ty} (h : okT t = true) : CloneS t := clone31 _ t (Nat.le_refl _) h

/-- What counts a type's parts. -/
def SizeS (t : Ty) : Prop := ∀ (bs : List Nat) (h : List Ob) (Q : V → List Ob → Prop), Q (.int .i64 (sizeT t)) h → CallA ap 9 0 bs [tyV t] h Q

theorem size9 : ∀ (m : Nat) (t : Ty), SizeOf.sizeOf t ≤ m → okT t = true → sizeT t < 1000000 → SizeS t := by
  intro m
  induction m with
  | zero => intro t h; cases t; simp at h
  | succ m ih =>
    intro t hm ht hs bs h Q hq
    obtain ⟨k, n, l⟩ := t
    obtain ⟨l1, l2⟩ := okT_len ht
    have each : ∀ a ∈ l, sizeT a < 1000000 → SizeS a := fun a ha => ih a (by have := List.sizeOf_lt_of_mem ha; simp at hm; omega) (l2 a ha)
    refine CallA.code (af := ac9) rfl (Nat.le_of_ble_eq_true rfl) ?_
    simp [ac9, tyV]
    match l, l1, each with
    | [], _, _ =>
      refine wpA_loop (CallA.hle ap) ?_
      simp [forget, noLoc, tyVs]
      simpa [sizeT, sizeTs] using hq
    | [a], _, each =>
      have pa := sizeT_pos a
      simp only [sizeT, sizeTs] at hs hq
      have ha : IntKind.wrap .i64 (1 + sizeT a) = 1 + sizeT a := wrap64 (by omega) (by omega)
      refine wpA_loop (CallA.hle ap) ?_
      simp [forget, noLoc, tyVs, splice, ty_take, ty_agg, demote_ty]
      refine each a (by simp) (by omega) _ _ _ ?_
      simp [w1, ha]
      refine wpA_loop (CallA.hle ap) ?_
      simp [forget, noLoc]
      simpa using hq
    | [a, b], _, each =>
      have pa := sizeT_pos a
      have pb := sizeT_pos b
      simp only [sizeT, sizeTs] at hs hq
      have ha : IntKind.wrap .i64 (1 + sizeT a) = 1 + sizeT a := wrap64 (by omega) (by omega)
      have hb : IntKind.wrap .i64 (1 + sizeT a + sizeT b) = 1 + sizeT a + sizeT b := wrap64 (by omega) (by omega)
      refine wpA_loop (CallA.hle ap) ?_
      simp [forget, noLoc, tyVs, splice, ty_take, ty_agg, demote_ty]
      refine each a (by simp) (by omega) _ _ _ ?_
      simp [w1, ha]
      refine wpA_loop (CallA.hle ap) ?_
      simp [forget, noLoc, splice, ty_take, ty_agg, demote_ty]
      refine each b (by simp) (by omega) _ _ _ ?_
      simp [w2, hb]
      refine wpA_loop (CallA.hle ap) ?_
      simp [forget, noLoc]
      have e : 1 + (sizeT a + (sizeT b + 0)) = 1 + sizeT a + sizeT b := by omega
      rw [e] at hq
      exact hq

theorem con8_0 (s : List UInt8) (tg : Tag) (hq : Q (tyV (.mk 2 s [])) h) : CallA ap 8 0 bs [.str s, .sl tg []] h Q := by
  refine CallA.code (af := ac8) rfl (Nat.le_of_ble_eq_true rfl) ?_
  simp [ac8]
  refine CallA.code (af := ac30) rfl (Nat.le_of_ble_eq_true rfl) ?_
  simp [ac30, splice]
  simpa [tyV, tyVs] using hq

theorem con8_1 (s : List UInt8) (t : Ty) (hq : Q (tyV (.mk 2 s [t])) h) : CallA ap 8 0 bs [.str s, .sl .frozen [tyV t]] h Q := by
  refine CallA.code (af := ac8) rfl (Nat.le_of_ble_eq_true rfl) ?_
  simp [ac8, demote_ty]
  refine CallA.code (af := ac30) rfl (Nat.le_of_ble_eq_true rfl) ?_
  simp [ac30, splice, demote_ty, under_ty, lim]
  simpa [tyV, tyVs] using hq

theorem fun10_0 (tg : Tag) (hq : Q (tyV (funT [])) h) : CallA ap 10 0 bs [.sl tg []] h Q := by
  refine CallA.code (af := ac10) rfl (Nat.le_of_ble_eq_true rfl) ?_
  simp [ac10]
  refine con8_0 _ _ ?_
  simp [splice, demote_ty, under_ty, ty_take, ty_agg]
  simpa [funT] using hq

theorem funT_cons (a : Ty) (l : List Ty) (hl : l ≠ []) : funT (a :: l) = .mk 3 [] [a, funT l] := by
  cases l with
  | nil => exact absurd rfl hl
  | cons b l => simp [funT]

theorem fun10 (l : List Ty) (hl : 0 < l.length) (hl2 : l.length < 1000000) (hq : Q (tyV (funT l)) h) : CallA ap 10 0 bs [.sl .frozen (tyVs l)] h Q := by
  refine CallA.code (af := ac10) rfl (Nat.le_of_ble_eq_true rfl) ?_
  have e0 : ((l.length : Int) == 0) = false := beq_eq_false_iff_ne.2 (by omega)
  have e1 : IntKind.wrap .i64 ((l.length : Int) - 1) = ((l.length - 1 : Nat) : Int) := by rw [wrap64 (by omega) (by omega)]; omega
  have e2 : IntKind.wrap .i64 ((l.length : Int) - 2) = (l.length : Int) - 2 := wrap64 (by omega) (by omega)
  have hlast : l.length - 1 < l.length := by omega
  have g : (tyVs l)[l.length - 1]? = some (tyV l[l.length - 1]) := by rw [tys_get]; simp [hlast]
  simp [ac10, splice, e0, e1, e2, g, ty_take, ty_agg]
  obtain ⟨I, hI⟩ : ∃ I : Nat → St → Prop, ∀ n s, I n s ↔ (∃ cs : List V, cs.length = 3 ∧ demoteL cs = (tyV (funT (l.drop n))).cells ∧ n < l.length ∧ s.r 0 = .sl .frozen (tyVs l) ∧ s.r 4 = .int .i64 ((n : Int) - 1) ∧ s.r 2 = .loc 2 0 ∧ s.r 3 = .loc 3 0 ∧
    s.l 2 = some [.int .i64 0, .str [], .sl .clip []] ∧ s.l 3 = some cs ∧ s.h = h) := ⟨_, fun _ _ => Iff.rfl⟩
  refine loop_ind (CallA.hle ap) I ?_ (n := l.length - 1) ((hI _ _).2 ?_)
  · rintro n ⟨r, lo, h'⟩ hs
    obtain ⟨cs, hc3, hcd, hn, r0, r4, r2, r3, l2, l3, rfl⟩ := (hI _ _).1 hs
    simp only at r0 r4 r2 r3 l2 l3
    have ct : cs.take 3 = cs := List.take_of_length_le (by omega)
    have cd : cs.drop 3 = [] := List.drop_eq_nil_of_le (by omega)
    simp [forget, noLoc, locOf, r4]
    refine condA_dec (fun h1 => ?_) fun h1 => ?_
    · have hn1 : n - 1 < l.length := by omega
      have e3 : ((n : Int) - 1).toNat = n - 1 := by omega
      have g : (tyVs l)[n - 1]? = some (tyV l[n - 1]) := by rw [tys_get]; simp [hn1]
      have hw : IntKind.wrap .i64 ((n : Int) - 1 - 1) = ((n - 1 : Nat) : Int) - 1 := by rw [wrap64 (by omega) (by omega)]; omega
      have ed : l.drop (n - 1) = l[n - 1] :: l.drop n := by
        rw [List.drop_eq_getElem_cons hn1]
        congr 2
        omega
      have hne : l.drop n ≠ [] := by simp; omega
      have hf : funT (l.drop (n - 1)) = .mk 3 [] [l[n - 1], funT (l.drop n)] := by rw [ed]; exact funT_cons _ _ hne
      simp [r0, r4, r3, l3, h1, e3, g, splice, ty_take, ty_agg, hw, ty_cells, ty_loc, hc3, ct, cd]
      refine ⟨n - 1, by omega, (hI _ _).2 ⟨[.int .i64 3, .str [], .sl .clip [tyV l[n - 1], .agg cs]], rfl, ?_, ?_⟩⟩
      · rw [hf]
        simp [tyV, tyVs, hcd, ty_agg, demote_ty]
      · simp [r0, r2, r3, l2]
        omega
    · have hn0 : n = 0 := by omega
      subst hn0
      simp [r2, r3, l2, l3, splice, hc3, ct, hcd, under_ty, ty_agg]
      simpa using hq
  · have ed : l.drop (l.length - 1) = [l[l.length - 1]] := by
      rw [List.drop_eq_getElem_cons hlast]
      congr 1
      exact List.drop_eq_nil_of_le (by omega)
    rw [ed]
    refine ⟨(tyV l[l.length - 1]).cells, ty_cells _, by simp [funT, ty_dc], ?_⟩
    simp
    exact ⟨by omega, by omega⟩

theorem parts11 (al : List Ty) (t : Ty) (hl : al.length < 100000) (ha : ∀ a ∈ al, okT a = true) (ht : okT t = true) (hk : kindT t ≠ 3) (hq : Q (.tup [.sl .frozen (tyVs al), tyV t]) h) :
    CallA ap 11 0 bs [tyV (funT (al ++ [t]))] h Q := by
  refine CallA.code (af := ac11) rfl (Nat.le_of_ble_eq_true rfl) ?_
  simp [ac11]
  obtain ⟨I, hI⟩ : ∃ I : Nat → St → Prop, ∀ n s, I n s ↔ (∃ i : Nat, i + n = al.length ∧ s.r 1 = .loc 1 0 ∧ s.r 3 = .loc 3 0 ∧ s.l 3 = some [.int .i64 0, .str [], .sl .clip []] ∧ s.l 1 = some (tyV (funT ((al ++ [t]).drop i))).cells ∧
    (i = 0 ∧ s.r 4 = .sl .clip [] ∧ s.h = h ∨ 0 < i ∧ s.r 4 = .sl (.fam h.length) (tyVs (al.take i)) ∧ s.h = h ++ [.fam i 3])) := ⟨_, fun _ _ => Iff.rfl⟩
  refine loop_ind (CallA.hle ap) I ?_ (n := al.length) ((hI _ _).2 ⟨0, by simp⟩)
  rintro n ⟨r, lo, h'⟩ hs
  obtain ⟨i, hin, r1, r3, l3, l1, hor⟩ := (hI _ _).1 hs
  simp only at r1 r3 l3 l1 hor
  by_cases hi : i < al.length
  · have ed : (al ++ [t]).drop i = al[i] :: (al ++ [t]).drop (i + 1) := by
      rw [List.drop_eq_getElem_cons (by simp; omega)]
      congr 1
      rw [List.getElem_append_left hi]
    have hne : (al ++ [t]).drop (i + 1) ≠ [] := by simp; omega
    rw [ed, funT_cons _ _ hne] at l1
    have htake : tyVs (al.take (i + 1)) = tyVs (al.take i) ++ [tyV al[i]] := by
      rw [List.take_add_one, tys_append]
      simp [hi, tyVs]
    have hok := ha _ (List.getElem_mem hi)
    generalize hu : funT ((al ++ [t]).drop (i + 1)) = u at *
    rcases hor with ⟨rfl, r4, rfl⟩ | ⟨h0, r4, rfl⟩
    · simp [forget, noLoc, locOf, r1, l1, r4, tyV, tyVs, ty_take, ty_agg, demote_ty]
      refine cloneOk hok _ _ _ ?_
      simp [r1, l1, tyV, tyVs, ty_take, ty_agg, splice, lim]
      refine ⟨n - 1, by omega, (hI _ _).2 ⟨1, ?_⟩⟩
      simp only [Nat.zero_add] at htake hu
      rw [hu, htake]
      simp [r1, r3, l3, tyVs]
      omega
    · have hall : ∀ v, v ∈ tyVs (al.take i) ∨ v = tyV al[i] → v.cells.length = 3 := by
        rintro v (hv | rfl)
        · exact tys_cells hv
        · exact ty_cells _
      have hmin : min i al.length = i := by omega
      simp [forget, noLoc, locOf, r1, l1, r4, tyV]
      simp [tyVs, ty_take, ty_agg, demote_ty]
      refine cloneOk hok _ _ _ ?_
      simp [r1, l1, tyV, tyVs, ty_take, ty_agg, splice, lim, hmin]
      refine ⟨fun v hv => hall v hv, by omega, ?_⟩
      refine ⟨n - 1, by omega, (hI _ _).2 ⟨i + 1, ?_⟩⟩
      rw [hu, htake]
      simp [r1, r3, l3]
      omega
  · have hi' : i = al.length := by omega
    subst hi'
    have ed : (al ++ [t]).drop al.length = [t] := by simp
    rw [ed] at l1
    simp only [funT] at l1
    obtain ⟨k, m, tl⟩ := t
    have hk3 : (k == 3) = false := by simpa [kindT] using hk
    have et : al.take al.length = al := List.take_length
    have hty : tyV (.mk k m tl) = .agg [.int .i64 k, .str m, .sl .frozen (tyVs tl)] := by simp [tyV]
    have hmid : ∀ (tg : Tag) (hh : List Ob), hh.take h.length = h → r 4 = .sl tg (tyVs al) → h' = hh → Q (.tup [.sl .frozen (tyVs al), tyV (.mk k m tl)]) (h'.take h.length) := fun tg hh h1 _ e => by rw [e, h1]; exact hq
    rcases hor with ⟨h0, r4, rfl⟩ | ⟨h0, r4, rfl⟩
    · have hnil : al = [] := List.eq_nil_of_length_eq_zero h0
      subst hnil
      simp [forget, noLoc, locOf, r1, l1, r4, tyV, hk3]
      rw [← hty]
      simp only [demote_tys, ← hty]
      refine cloneOk ht _ _ _ ?_
      simp [r3, l3, splice, ty_take, ty_agg, demote_ty, under_ty]
      simpa [tyVs] using hq
    · rw [et] at r4
      simp [forget, noLoc, locOf, r1, l1, r4, tyV, hk3]
      simp only [demote_tys, ← hty]
      refine cloneOk ht _ _ _ ?_
      simp [r3, l3, splice, ty_take, ty_agg, demote_ty, under_ty, demote_tys, under_tys]
      exact hq

end
end Go.Bt
