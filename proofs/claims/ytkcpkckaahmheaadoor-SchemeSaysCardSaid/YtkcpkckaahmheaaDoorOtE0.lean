/- Types within a few names: plain law. -/
import Derived.Test.YtkcpkckaahmheaaDoorOtV
import Derived.Lib.ItoaNum
import Derived.Test.YtkcpkckaahmheaaDoorOtK
import Derived.Test.YtkcpkckaahmheaaDoorAmL

namespace Go.Ot
open Go.Am Go.Proofs
set_option maxRecDepth 100000

mutual
def no4 : Ty → Bool
  | .mk k _ l => k != 4 && no4L l
def no4L : List Ty → Bool
  | [] => true
  | t :: l => no4 t && no4L l
end

theorem no4L_mem {l : List Ty} (h : no4L l = true) {t : Ty} (ht : t ∈ l) : no4 t = true := by
  induction l with
  | nil => simp at ht
  | cons a l ih =>
    simp only [no4L, Bool.and_eq_true] at h
    rcases List.mem_cons.1 ht with rfl | ht
    · exact h.1
    · exact ih h.2 ht

theorem Made.no4 {m : Nat} {t : Ty} (h : Made m t) : no4 t = true := by
  induction h <;> simp_all [Go.Ot.no4, no4L]

mutual
theorem no4_hat {θ : Nam → Ty} : ∀ t : Ty, no4 t = true → (∀ y, occ y t = true → no4 (θ y) = true) → no4 (hat θ t) = true
  | .mk k n l, h, hy => by
    by_cases hk : k = 1
    · subst hk
      rw [hat_var]
      exact hy n (by simp [occ])
    · rw [hat_mk _ hk]
      simp only [no4, Bool.and_eq_true] at h ⊢
      exact ⟨h.1, no4L_hat l h.2 fun y h1 => hy y (by simp [occ, hk, h1])⟩
theorem no4L_hat {θ : Nam → Ty} : ∀ l : List Ty, no4L l = true → (∀ y, occL y l = true → no4 (θ y) = true) → no4L (hatL θ l) = true
  | [], _, _ => rfl
  | t :: l, h, hy => by
    simp only [no4L, Bool.and_eq_true] at h
    have e : hatL θ (t :: l) = hat θ t :: hatL θ l := rfl
    rw [e]
    simp only [no4L, Bool.and_eq_true]
    exact ⟨no4_hat t h.1 fun y h1 => hy y (by simp [occL, h1]), no4L_hat l h.2 fun y h1 => hy y (by simp [occL, h1])⟩
end

def good (V : List Nam) (t : Ty) : Prop := no4 t = true ∧ ∀ y, occ y t = true → y ∈ V
theorem good_arg {A : List Nam} {k : Int} {n : Nam} {l : List Ty} (hk : k ≠ 1) (h : good A (.mk k n l)) {p : Ty} (hp : p ∈ l) : good A p := by
  have h1 := h.1
  simp only [no4, Bool.and_eq_true] at h1
  refine ⟨no4L_mem h1.2 hp, fun y hy => h.2 y ?_⟩
  simp only [occ, if_neg hk]
  clear h h1
  induction l with
  | nil => simp at hp
  | cons a l ih =>
    simp only [occL, Bool.or_eq_true]
    rcases List.mem_cons.1 hp with rfl | hp
    · exact .inl hy
    · exact .inr (ih hp)

def abc : List Nam := [[97], [98], [99]]

theorem Made.good {m : Nat} {t : Ty} (h : Made m t) : good abc t := by
  refine ⟨h.no4, ?_⟩
  induction h with
  | list m t _ i => intro y hy; simp [occ, occL] at hy; exact i y hy
  | pair m t u _ _ i j => intro y hy; simp [occ, occL] at hy; exact hy.elim (i y) (j y)
  | fn m t u _ _ i j => intro y hy; simp [occ, occL] at hy; exact hy.elim (i y) (j y)
  | _ => intro y hy; simp [occ, occL, abc] at hy ⊢ <;> simp [hy]


end Go.Ot

namespace Go.Ot
open Go.Am Go.Proofs

/-- What digits come to. -/
def valN (d : List UInt8) : Int := d.foldl (fun v b => 10 * v + ((b.toNat : Int) - 48)) 0
theorem valN_dec : ∀ (m u : Nat), u < 10 ^ m → valN (Lib.decDigits u) = u ∧ 1 ≤ (Lib.decDigits u).length ∧ (Lib.decDigits u).length ≤ max m 1 := by
  have dg : ∀ {k : Nat}, k < 10 → (UInt8.ofNat (48 + k)).toNat = 48 + k := fun h => by rw [UInt8.toNat_ofNat']; omega
  have snoc : ∀ (d : List UInt8) (b : UInt8), valN (d ++ [b]) = 10 * valN d + ((b.toNat : Int) - 48) := fun d b => by simp [valN, List.foldl_append]
  intro m
  induction m with
  | zero =>
    intro u h
    have : u = 0 := by simpa using h
    subst this
    rw [Lib.decDigits, dif_pos (by omega)]
    exact ⟨by simp [valN], by simp, by simp⟩
  | succ m ih =>
    intro u h
    rw [Lib.decDigits]
    split
    · rename_i h1
      refine ⟨?_, by simp, by simp <;> omega⟩
      simp only [valN, List.foldl_cons, List.foldl_nil, dg h1]; omega
    · rename_i h1
      have hm : m ≠ 0 := fun e => by subst e; simp at h; omega
      obtain ⟨g2, g3, g4⟩ := ih (u / 10) (by rw [Nat.pow_succ] at h; omega)
      exact ⟨by rw [snoc, g2, dg (by omega)]; omega, by simp, by simp; omega⟩

/-- The k-th new name. -/
def fr (k : Nat) : Nam := 63 :: Lib.itoa (k : Int)
theorem fr_eq (k : Nat) : fr k = 63 :: Lib.decDigits k := by rw [fr, Lib.itoa, if_neg (by omega)]; rfl
theorem fr_inj {i j : Nat} (hi : i < 10 ^ 6) (hj : j < 10 ^ 6) (h : fr i = fr j) : i = j := by
  rw [fr_eq, fr_eq] at h
  have h := (List.cons.inj h).2
  have a := (valN_dec 6 i hi).1
  have b := (valN_dec 6 j hj).1
  rw [h, b] at a
  omega
theorem fr_len {k : Nat} (h : k < 10 ^ 6) : 2 ≤ (fr k).length ∧ (fr k).length ≤ 7 := by
  obtain ⟨_, h1, h2⟩ := valN_dec 6 k h
  rw [fr_eq, List.length_cons]
  omega

def frs (k n : Nat) : List Nam := (List.range n).map fun i => fr (k + i)
theorem frs_len (k n : Nat) : (frs k n).length = n := by simp [frs]
theorem frs_get (k n i : Nat) (h : i < (frs k n).length) : (frs k n)[i] = fr (k + i) := by simp [frs]
theorem frs_nodup {k n : Nat} (h : k + n < 10 ^ 6) : (frs k n).Nodup := by
  refine List.nodup_iff_pairwise_ne.2 (List.pairwise_map.2 ?_)
  refine List.Pairwise.imp_of_mem (R := (· ≠ ·)) (fun {a b} ha hb hab e => hab ?_) List.nodup_range
  rw [List.mem_range] at ha hb
  have := fr_inj (by omega) (by omega) e
  omega

/-- Pairs of names and variables. -/
def zipE (A B : List Nam) : En := A.zipWith (fun a b => (a, var b)) B
theorem zipE_fst : ∀ {A B : List Nam}, A.length = B.length → (zipE A B).map (·.1) = A
  | [], [], _ => rfl
  | a :: A, b :: B, h => by
    have := zipE_fst (A := A) (B := B) (by simpa using h)
    simp only [zipE] at this
    simp only [zipE, List.zipWith_cons_cons, List.map_cons, this]
  | [], _ :: _, h => by simp at h
  | _ :: _, [], h => by simp at h
theorem zipE_len {A B : List Nam} (h : A.length = B.length) : (zipE A B).length = A.length := by simp [zipE, h]
theorem zipE_look : ∀ {A B : List Nam}, A.Nodup → A.length = B.length → ∀ (j : Nat) (h1 : j < A.length) (h2 : j < B.length), look (zipE A B) A[j] = some (var B[j])
  | a :: A, b :: B, hn, hl, 0, _, _ => by simp [zipE, look]
  | a :: A, b :: B, hn, hl, j + 1, h1, h2 => by
    have hn := List.nodup_cons.1 hn
    have ih := zipE_look hn.2 (by simpa using hl) j (by simpa using h1) (by simpa using h2)
    have hne : ¬ A[j]'(by simpa using h1) = a := fun e => hn.1 (e ▸ List.getElem_mem (by simpa using h1))
    simp only [zipE] at ih
    simp only [zipE, List.zipWith_cons_cons, look, List.getElem_cons_succ]
    first
      | (rw [if_neg hne]; exact ih)
      | (rw [if_neg (fun e => hne e.symm)]; exact ih)
  | [], _, _, _, j, h1, _ => by simp at h1
  | _ :: _, [], _, hl, j, _, _ => by simp at hl
theorem zipE_mem {A B : List Nam} {p : Nam × Ty} (h : p ∈ zipE A B) : ∃ b ∈ B, p.2 = var b := by
  induction A generalizing B with
  | nil => simp [zipE] at h
  | cons a A ih =>
    cases B with
    | nil => simp [zipE] at h
    | cons b B =>
      simp only [zipE, List.zipWith_cons_cons, List.mem_cons] at h
      rcases h with rfl | h
      · exact ⟨b, by simp, rfl⟩
      · obtain ⟨c, hc, e⟩ := ih h
        exact ⟨c, by simp [hc], e⟩

/-- There and back. -/
theorem back_ty {A B : List Nam} (hA : A.Nodup) (hB : B.Nodup) (hl : A.length = B.length) {t : Ty} (ht : fine t = true) (hv : ∀ y, occ y t = true → y ∈ A) : apT (look (zipE B A)) (apT (look (zipE A B)) t) = t := by
  have h1 : fine (apT (look (zipE A B)) t) = true := ap_fine _ (fun x u hx => by
    obtain ⟨b, _, e⟩ := zipE_mem (look_mem hx)
    simp only at e
    subst e
    rfl) t ht
  rw [ap_hat _ _ h1, ap_hat _ _ ht, hat_hat]
  rw [hat_congr (η := var) t fun y hy => ?_, hat_id t ht]
  obtain ⟨j, hj, rfl⟩ := List.getElem_of_mem (hv y hy)
  have e1 := zipE_look hA hl j hj (by omega)
  have e2 := zipE_look hB hl.symm j (by omega) hj
  have s1 : sg (look (zipE A B)) A[j] = var (B[j]'(by omega)) := by simp only [sg, e1, Option.getD_some]
  have s2 : sg (look (zipE B A)) (B[j]'(by omega)) = var A[j] := by simp only [sg, e2, Option.getD_some]
  rw [s1, var, hat_var, s2]

end Go.Ot

namespace Go.Ot
open Go.Am Go.Proofs
set_option maxRecDepth 100000

theorem dem_strs (l : List (List UInt8)) : demoteL (l.map V.str) = l.map V.str := by
  induction l <;> simp_all [demoteL, V.demote]

theorem under_strs (m : Nat) (l : List (List UInt8)) : underL m (l.map V.str) = true := by
  induction l <;> simp_all [underL, V.under]

section
variable {bs : List Nat} {h : List Ob} {Q : V → List Ob → Prop}

theorem place50 (l : List (List UInt8)) (s : List UInt8) (hl : l.length < 1000000) (hq : ∀ n : Int, (0 ≤ n ↔ s ∈ l) → Q (.int .i64 n) h) : CallA ap 54 0 bs [.sl .frozen (l.map .str), .str s] h Q := by
  refine CallA.code (af := ac54) rfl (Nat.le_of_ble_eq_true rfl) ?_
  simp [ac54]
  obtain ⟨I, hI⟩ : ∃ I : Nat → St → Prop, ∀ n σ, I n σ ↔ (∃ i : Nat, i + n = l.length ∧ (∀ j (hj : j < l.length), j < i → l[j] ≠ s) ∧ σ.r 0 = .sl .frozen (l.map .str) ∧ σ.r 1 = .str s ∧ σ.r 5 = .int .i64 i ∧ σ.h = h) := ⟨_, fun _ _ => Iff.rfl⟩
  refine loop_ind (CallA.hle ap) I ?_ (n := l.length) ((hI _ _).2 ⟨0, by simp⟩)
  rintro n ⟨r, lo, h'⟩ hst
  obtain ⟨i, hin, hno, r0, r1, r5, rfl⟩ := (hI _ _).1 hst
  simp only at r0 r1 r5
  simp [forget, noLoc, locOf, r0, r1, r5]
  refine condA_dec (fun c1 => ?_) fun c1 => ?_
  · have hi : i < l.length := by omega
    have hw : IntKind.wrap .i64 ((i : Int) + 1) = ((i + 1 : Nat) : Int) := by rw [wrap64 (by omega) (by omega)]; omega
    by_cases he : l[i] = s
    · have hb : (l[i] == s) = true := by simpa using he
      simp [r0, r1, r5, hi, hb]
      exact hq i ⟨fun _ => he ▸ List.getElem_mem hi, fun _ => by omega⟩
    · have hb : (l[i] == s) = false := by simpa using he
      simp [r0, r1, r5, hi, hb, hw]
      refine ⟨n - 1, by omega, (hI _ _).2 ⟨i + 1, by omega, fun j hj hji => ?_, by simp [r0, r1]⟩⟩
      by_cases hji' : j = i
      · subst hji'; exact he
      · exact hno j hj (by omega)
  · simp [r0, r1, r5]
    refine hq (-1) ⟨fun h => by omega, fun hm => ?_⟩
    obtain ⟨j, hj, e⟩ := List.getElem_of_mem hm
    exact absurd e (hno j hj (by omega))

theorem has40 (l : List (List UInt8)) (s : List UInt8) (hl : l.length < 1000000) (hq : ∀ b : Bool, (b = true ↔ s ∈ l) → Q (.bool b) h) : CallA ap 17 0 bs [.sl .frozen (l.map .str), .str s] h Q := by
  refine CallA.code (af := ac17) rfl (Nat.le_of_ble_eq_true rfl) ?_
  simp [ac17, dem_strs]
  refine place50 l s hl fun n hn => ?_
  simp
  exact hq _ (by simpa using hn)

theorem texts56 (l : List (List UInt8)) (hl : l.length < 1000000) (hq : Q (.sl (.fam h.length) (l.map .str)) (h ++ [.fam l.length 1])) : CallA ap 80 0 bs [.sl .frozen (l.map .str)] h Q := by
  refine CallA.code (af := ac80) rfl (Nat.le_of_ble_eq_true rfl) ?_
  simp [ac80]
  refine ⟨by simp only [lim]; omega, ?_⟩
  obtain ⟨I, hI⟩ : ∃ I : Nat → St → Prop, ∀ n σ, I n σ ↔ (∃ i : Nat, i + n = l.length ∧ σ.r 0 = .sl .frozen (l.map .str) ∧ σ.r 3 = .sl (.fam h.length) ((l.take i).map .str) ∧ σ.r 4 = .int .i64 i ∧ σ.h = h ++ [.fam i 1]) := ⟨_, fun _ _ => Iff.rfl⟩
  refine loop_ind (CallA.hle ap) I ?_ (n := l.length) ((hI _ _).2 ⟨0, by simp⟩)
  rintro n ⟨r, lo, h'⟩ hst
  obtain ⟨i, hin, r0, r3, r4, rfl⟩ := (hI _ _).1 hst
  simp only at r0 r3 r4
  simp [forget, noLoc, locOf, r0, r3, r4]
  refine condA_dec (fun c1 => ?_) fun c1 => ?_
  · have hi : i < l.length := by omega
    have hw : IntKind.wrap .i64 ((i : Int) + 1) = ((i + 1 : Nat) : Int) := by rw [wrap64 (by omega) (by omega)]; omega
    have hm : min i l.length = i := by omega
    simp [r0, r3, r4, hi, hw, splice, hm, lim]
    refine ⟨fun v hv => ?_, by omega, n - 1, by omega, (hI _ _).2 ⟨i + 1, by omega, ?_⟩⟩
    · rcases hv with hv | rfl
      · obtain ⟨x, _, rfl⟩ := List.mem_map.1 (List.mem_of_mem_take hv)
        rfl
      · rfl
    · have ht : List.take (i + 1) (l.map V.str) = List.take i (l.map V.str) ++ [V.str l[i]] := by
        have hi' : i < (l.map V.str).length := by simpa using hi
        rw [List.take_succ_eq_append_getElem hi']
        simp
      have hset : ∀ z, (h ++ [Ob.fam i 1]).set h.length z = h ++ [z] := fun z => by simp [List.set_append]
      simp [r0, ht, hset]
  · have hi : i = l.length := by omega
    subst hi
    simp [r0, r3, r4, dem_strs]
    exact hq

end
end Go.Ot

namespace Go.Ot
open Go.Am Go.Proofs
set_option maxRecDepth 100000

mutual
def varsT (o : List Nam) : Ty → List Nam
  | .mk k n l => if k = 1 then (if n ∈ o then o else o ++ [n]) else varsTL o l
def varsTL (o : List Nam) : List Ty → List Nam
  | [] => o
  | t :: l => varsTL (varsT o t) l
end

mutual
theorem varsT_mem (x : Nam) : ∀ (t : Ty) (o : List Nam), x ∈ varsT o t ↔ x ∈ o ∨ occ x t = true
  | .mk k n l, o => by
    by_cases hk : k = 1
    · subst hk
      simp only [varsT, occ, if_true]
      by_cases hn : n ∈ o
      · rw [if_pos hn]
        simp only [beq_iff_eq]
        exact ⟨.inl, fun h => h.elim id fun e => e ▸ hn⟩
      · rw [if_neg hn]
        simp only [List.mem_append, List.mem_singleton, beq_iff_eq]
        exact ⟨fun h => h.imp id Eq.symm, fun h => h.imp id Eq.symm⟩
    · simp only [varsT, occ, if_neg hk]
      exact varsTL_mem x l o
theorem varsTL_mem (x : Nam) : ∀ (l : List Ty) (o : List Nam), x ∈ varsTL o l ↔ x ∈ o ∨ occL x l = true
  | [], o => by simp [varsTL, occL]
  | t :: l, o => by
    simp only [varsTL, occL, Bool.or_eq_true, varsTL_mem x l, varsT_mem x t, or_assoc]
end

mutual
theorem varsT_nodup : ∀ (t : Ty) (o : List Nam), o.Nodup → (varsT o t).Nodup
  | .mk k n l, o, h => by
    by_cases hk : k = 1
    · subst hk
      simp only [varsT, if_true]
      split
      · exact h
      · rename_i hn
        exact List.nodup_append.2 ⟨h, by simp, fun a ha b hb => by simp at hb; subst hb; exact fun e => hn (e ▸ ha)⟩
    · simp only [varsT, if_neg hk]
      exact varsTL_nodup l o h
theorem varsTL_nodup : ∀ (l : List Ty) (o : List Nam), o.Nodup → (varsTL o l).Nodup
  | [], o, h => h
  | t :: l, o, h => varsTL_nodup l _ (varsT_nodup t o h)
end

section
variable {bs : List Nat} {h : List Ob} {Q : V → List Ob → Prop}

def VarsS (A : List Nam) (t : Ty) : Prop := ∀ (o : List Nam) (bs : List Nat) (h : List Ob) (Q : V → List Ob → Prop), o.Nodup → (∀ x ∈ o, x ∈ A) → Q (.sl .frozen ((varsT o t).map .str)) h → CallA ap 55 0 bs [.sl .frozen (o.map .str), .sl .frozen [], tyV t] h Q

theorem vars50 {A : List Nam} (hA : A.length ≤ 1000) : ∀ (m : Nat) (t : Ty), SizeOf.sizeOf t ≤ m → fine t = true → good A t → VarsS A t := by
  intro m
  induction m with
  | zero => intro t h; cases t; simp at h
  | succ m ih =>
    intro t hm ht hg o bs h Q hnd hsub hq
    have h4 := hg.1
    have hlen : o.length ≤ 1000 := Nat.le_trans (List.Nodup.length_le_of_subset hnd hsub) hA
    have hg0 := hg
    obtain ⟨k, n, l⟩ := t
    simp only [fine, Bool.and_eq_true, decide_eq_true_eq] at ht
    simp only [no4, Bool.and_eq_true, bne_iff_ne, ne_eq] at h4
    have each : k ≠ 1 → ∀ a ∈ l, VarsS A a := fun hk a ha => ih a (by have := List.sizeOf_lt_of_mem ha; simp at hm; omega) (fineL_mem ht.2 ha) (good_arg hk hg0 ha)
    have k4 : (k == 4) = false := by simpa using h4.1
    refine CallA.code (af := ac55) rfl (Nat.le_of_ble_eq_true rfl) ?_
    by_cases hk : k = 1
    · subst hk
      have hl : l = [] := by simpa using ht.1.2
      subst hl
      simp [ac55, tyV, dem_strs, splice, demote_tys]
      refine has40 o n (by omega) fun b hb => ?_
      simp only [varsT, if_true] at hq
      cases b with
      | true =>
        rw [if_pos (hb.1 rfl)] at hq
        simp [dem_strs]
        exact ⟨under_strs _ _, hq⟩
      | false =>
        have hn : ¬ n ∈ o := fun h => by simpa using hb.2 h
        rw [if_neg hn] at hq
        simp [dem_strs]
        refine has40 [] n (by simp) fun b' hb' => ?_
        have : b' = false := by cases b' <;> simp_all
        subst this
        simp [dem_strs]
        refine texts56 o (by omega) ?_
        simp [dem_strs, splice]
        refine ⟨fun v hv => ?_, by simp only [lim]; omega, ?_⟩
        · rcases hv with ⟨x, _, rfl⟩ | rfl <;> rfl
        · have e : List.map V.str o ++ [V.str n] = (o ++ [n]).map V.str := by simp
          rw [e, dem_strs]
          exact ⟨under_strs _ _, by simpa using hq⟩
    · have hkb : (k == 1) = false := by simpa using hk
      simp only [varsT, if_neg hk] at hq
      have each := each hk
      simp [ac55, tyV, hkb, k4, dem_strs, splice, demote_tys]
      match l, ht.1.1, each, hg0, hq with
      | [], _, _, _, hq =>
        refine wpA_loop (CallA.hle ap) ?_
        simp [forget, noLoc, locOf, tyVs, dem_strs]
        exact ⟨under_strs _ _, hq⟩
      | [a], _, each, _, hq =>
        refine wpA_loop (CallA.hle ap) ?_
        simp [forget, noLoc, locOf, tyVs, ty_sel, splice, ty_take, ty_agg, demote_ty, dem_strs]
        refine each a (by simp) o _ _ _ hnd hsub ?_
        simp [w1]
        refine wpA_loop (CallA.hle ap) ?_
        simp [forget, noLoc, locOf, dem_strs]
        exact ⟨under_strs _ _, hq⟩
      | [a, b], _, each, hg0, hq =>
        refine wpA_loop (CallA.hle ap) ?_
        simp [forget, noLoc, locOf, tyVs, ty_sel, splice, ty_take, ty_agg, demote_ty, dem_strs]
        refine each a (by simp) o _ _ _ hnd hsub ?_
        simp [w1]
        refine wpA_loop (CallA.hle ap) ?_
        simp [forget, noLoc, locOf, tyVs, ty_sel, splice, ty_take, ty_agg, demote_ty, dem_strs]
        refine each b (by simp) (varsT o a) _ _ _ (varsT_nodup a o hnd) (fun x hx => ((varsT_mem x a o).1 hx).elim (hsub x) (fun h => (good_arg hk hg0 (by simp : a ∈ [a, b])).2 x h)) ?_
        simp [w2]
        refine wpA_loop (CallA.hle ap) ?_
        simp [forget, noLoc, locOf, dem_strs]
        exact ⟨under_strs _ _, hq⟩

end
end Go.Ot

namespace Go.Ot
open Go.Am Go.Proofs
set_option maxRecDepth 100000

@[simp] theorem lk_s (s : St) (z : V) (n : List UInt8) (ok : Bool) (r : Nat) : lookV s .str z (.str n) ok (.map (some r)) = lookO z (.str n) ok s.h[r]? := rfl
@[simp] theorem lk_n (s : St) (z : V) (n : List UInt8) (ok : Bool) : lookV s .str z (.str n) ok (.map none) = some (okV ok z none) := rfl

def entE (e : En) : List (V × V) := e.map fun p => (.str p.1, tyV p.2)
/-- A map that only grew. -/
def mapOb (e : En) : Ob := .map (entE e) (List.range e.length) e.length

theorem ent_find (e : En) (x : List UInt8) : findE (.str x) (entE e) = some ((look e x).map tyV) := by
  induction e with
  | nil => rfl
  | cons p e ih =>
    simp only [entE, List.map_cons, findE, keyEq, look] at ih ⊢
    by_cases h : p.1 = x
    · have : (x == p.1) = true := by simp [h]
      simp [this, h]
    · have : (x == p.1) = false := by simp; exact fun e => h e.symm
      simp [this, h, ih]

theorem ent_set (e : En) (x : List UInt8) (t : Ty) (h : look e x = none) : setE (.str x) (tyV t) (entE e) = some (entE (e ++ [(x, t)])) := by
  induction e with
  | nil => rfl
  | cons p e ih =>
    simp only [look] at h
    split at h
    · cases h
    · rename_i hp
      have : (x == p.1) = false := by simp; exact fun e => hp e.symm
      simp only [entE, List.map_cons, List.cons_append, setE, keyEq, this] at ih ⊢
      simp [ih h]

theorem ob_set (e : En) (x : List UInt8) (t : Ty) : setOb (entE e).length (List.range e.length) e.length (entE (e ++ [(x, t)])) = mapOb (e ++ [(x, t)]) := by
  simp [setOb, mapOb, entE, List.range_succ]

theorem ty_ul (m : Nat) (t : Ty) : underL m [tyV t] = true := by simp [under_ty]

end Go.Ot
