/- The law PrinterUnlike on the abstract machine. -/
import Derived.Test.YtpknncihhgfpnaaAtU
namespace Go.At
open Go.Am Go.Proofs
set_option maxRecDepth 100000

def strV (l : List (List UInt8)) : List V := l.map V.str
theorem strV_demote (l : List (List UInt8)) : demoteL (strV l) = strV l := by rw [demoteL_eq]; simp [strV]
theorem strV_under (m : Nat) (l : List (List UInt8)) : underL m (strV l) = true := by rw [underL_eq]; simp [strV]
theorem strsV_map : ∀ l : List (List UInt8), strsV (strV l) = some l
  | [] => rfl
  | s :: l => by
    have := strsV_map l
    simp only [strV] at this
    simp [strV, strsV, this]
theorem strV_length (l : List (List UInt8)) : (strV l).length = l.length := by simp [strV]

section
variable {bs : List Nat} {h : List Ob} {Q : V → List Ob → Prop}

theorem preds38 (tg : Tag) (l : List Int) (p : Nat) (i : Int) (hi1 : 0 ≤ i) (hi2 : i < 800000) (hp : h[p]? = some (seqB tg l i))
    (hq : ∀ (ps : List (List UInt8 × Ty)) (j : Int), i ≤ j → j ≤ i + 7 → ps.length ≤ 3 → (∀ x ∈ ps, PrOk x) → Q (.sl .frozen (pVs ps)) (h.set p (seqB tg l j))) : CallA ap 52 0 bs [.ptr p 0, .int .i64 3, .int .i64 0] h Q := by
  refine CallA.code (af := ac52) rfl (Nat.le_of_ble_eq_true rfl) ?_
  have hpl : p < h.length := (List.getElem?_eq_some_iff.1 hp).1
  simp [ac52, w4]
  refine next30 tg l i 4 p hp hi1 (by omega) (by omega) (by omega) fun n hn1 hn2 => ?_
  simp
  obtain ⟨I, hI⟩ : ∃ I : Nat → St → Prop, ∀ n s, I n s ↔ (∃ (ps : List (List UInt8 × Ty)) (j : Int), s.r 0 = .ptr p 0 ∧ s.r 2 = .int .i64 0 ∧ s.r 8 = .int .i64 n ∧ ps.length + n ≤ 3 ∧ (∀ x ∈ ps, PrOk x) ∧ i ≤ j ∧ j ≤ i + 1 + 2 * ps.length ∧
    (ps = [] ∧ s.r 7 = .sl .clip [] ∧ s.h = h.set p (seqB tg l j) ∨ ps ≠ [] ∧ s.r 7 = .sl (.fam h.length) (pVs ps) ∧ s.h = h.set p (seqB tg l j) ++ [.fam ps.length 4])) := ⟨_, fun _ _ => Iff.rfl⟩
  refine loop_ind (CallA.hle ap) I ?_ (n := n.toNat) ((hI _ _).2 ⟨[], i + 1, by simp; omega⟩)
  rintro n ⟨r, lo, h'⟩ hs
  obtain ⟨ps, j, e0, e2, e8, hps, hok, hj1, hj2, hor⟩ := (hI _ _).1 hs
  simp only at e0 e2 e8 hor
  simp [forget, noLoc, e8]
  refine condA_dec (fun h1 => ?_) fun h1 => ?_
  · have hw : IntKind.wrap .i64 ((n : Int) - 1) = ((n - 1 : Nat) : Int) := by rw [wrap64 (by omega) (by omega)]; omega
    rcases hor with ⟨rfl, e7, rfl⟩ | ⟨hne, e7, rfl⟩
    · have hj3 : j ≤ i + 1 := by simpa using hj2
      have hps3 : n ≤ 3 := by simpa using hps
      simp [e0, e2, e7]
      refine pred56 tg l p j (by omega) (by omega) (by simp [hpl]) fun x k hk1 hk2 hx => ?_
      simp [e8, pV_cells, pV_loc, lim, hw]
      refine ⟨n - 1, by omega, (hI _ _).2 ⟨[x], k, ?_⟩⟩
      simp [e0, e2, pVs, hx]
      omega
    · have hlen := List.length_pos_iff.2 hne
      simp [e0, e2, e7]
      refine pred56 tg l p j (by omega) (by omega) (by rw [List.getElem?_append_left (by simpa using hpl)]; simp [hpl]) fun x k hk1 hk2 hx => ?_
      have hall : ∀ v, v ∈ pVs ps ∨ v = pV x → v.cells.length = 4 := by
        rintro v (hv | rfl)
        · simp only [pVs, List.mem_map] at hv
          obtain ⟨y, -, rfl⟩ := hv
          exact pV_cells y
        · exact pV_cells x
      have hset : (h.set p (seqB tg l j) ++ [Ob.fam ps.length 4]).set p (seqB tg l k) = h.set p (seqB tg l k) ++ [.fam ps.length 4] := by
        simp [hpl]
      rw [hset]
      simp [e8, pV_cells, pV_loc, lim, hw, pVs_length]
      refine ⟨fun v hv => hall v hv, by omega, ?_⟩
      refine ⟨n - 1, by omega, (hI _ _).2 ⟨ps ++ [x], k, ?_⟩⟩
      refine ⟨by simp [e0], by simp [e2], by simp, by simp; omega, ?_, by omega, by simp; omega, .inr ⟨by simp, by simp [pVs], ?_⟩⟩
      · intro y hy
        simp at hy
        rcases hy with hy | rfl
        · exact hok y hy
        · exact hx
      · simp
  · simp
    rcases hor with ⟨rfl, e7, rfl⟩ | ⟨hne, e7, rfl⟩
    · simp [e7]
      have hj3 : j ≤ i + 1 := by simpa using hj2
      have := hq [] j (by omega) (by omega) (by simp) (by simp)
      simpa [List.take_of_length_le, pVs] using this
    · simp [e7, pVs_demote, pVs_under]
      have := hq ps j (by omega) (by omega) (by omega) hok
      simpa [List.take_of_length_le, List.take_append] using this

theorem scheme14 (tg : Tag) (l : List Int) (p : Nat) (i : Int) (hi1 : 0 ≤ i) (hi2 : i < 1000) (hp : h[p]? = some (seqB tg l i))
    (hq : ∀ (vs : List (List UInt8)) (ps : List (List UInt8 × Ty)) (t : Ty) (j : Int), ps.length ≤ 3 → (∀ x ∈ ps, PrOk x) → Made 3 t → Q (schV .frozen (strV vs) .frozen (pVs ps) t) (h.set p (seqB tg l j))) : CallA ap 22 0 bs [.ptr p 0] h Q := by
  refine CallA.code (af := ac22) rfl (Nat.le_of_ble_eq_true rfl) ?_
  have hpl : p < h.length := (List.getElem?_eq_some_iff.1 hp).1
  simp [ac22]
  refine made10 tg l p 3 3 i _ _ _ (by omega) (by omega) (by omega) hi1 (by omega) hp fun t j hj1 hj2 ht => ?_
  simp [splice]
  refine preds38 tg l p j (by omega) (by omega) (by simp [hpl]) fun ps k hk1 hk2 hps hok => ?_
  simp [splice]
  obtain ⟨I, hI⟩ : ∃ I : Nat → St → Prop, ∀ n s, I n s ↔ (∃ (vs : List (List UInt8)) (i : Nat) (j : Int), i + n = 4 ∧ vs.length ≤ i ∧ 0 ≤ j ∧ j ≤ 5000 + i ∧ s.r 0 = .ptr p 0 ∧ s.r 5 = .sl .clip [.str [97], .str [98], .str [99], .str [100]] ∧ s.r 6 = .int .i64 i ∧ s.r 2 = .loc 2 0 ∧ s.r 3 = .loc 3 0 ∧
      s.l 2 = some [.sl .clip [], .sl .clip [], .int .i64 0, .str [], .sl .clip []] ∧
      (vs = [] ∧ s.l 3 = some (.sl .clip [] :: .sl .frozen (pVs ps) :: (tyV t).cells) ∧ s.h = h.set p (seqB tg l j) ∨ vs ≠ [] ∧ s.l 3 = some (.sl (.fam h.length) (strV vs) :: .sl .frozen (pVs ps) :: (tyV t).cells) ∧ s.h = h.set p (seqB tg l j) ++ [.fam vs.length 1])) := ⟨_, fun _ _ => Iff.rfl⟩
  refine loop_ind (CallA.hle ap) I ?_ (n := 4) ((hI _ _).2 ⟨[], 0, k, by simp; omega⟩)
  rintro n ⟨r, lo, h'⟩ hs
  obtain ⟨vs, i, j, hin, hvs, hj1, hj2, e0, e5, e6, e2, e3, l2, hor⟩ := (hI _ _).1 hs
  simp only at e0 e5 e6 e2 e3 l2 hor
  simp [forget, noLoc, locOf, e6]
  refine condA_dec (fun h1 => ?_) fun h1 => ?_
  · have hw : IntKind.wrap .i64 ((i : Int) + 1) = ((i + 1 : Nat) : Int) := by rw [wrap64 (by omega) (by omega)]; omega
    have hg : ∃ s, ([V.str [97], V.str [98], V.str [99], V.str [100]] : List V)[i]? = some (.str s) := by
      have : i = 0 ∨ i = 1 ∨ i = 2 ∨ i = 3 := by omega
      rcases this with rfl | rfl | rfl | rfl <;> exact ⟨_, rfl⟩
    obtain ⟨s, hg⟩ := hg
    rcases hor with ⟨rfl, l3, rfl⟩ | ⟨hne, l3, rfl⟩
    · simp [e0]
      refine next30 tg l j 3 p (by simp [hpl]) hj1 (by omega) (by omega) (by omega) fun u hu1 hu2 => ?_
      simp
      refine condA_dec (fun h2 => ?_) fun h2 => ?_
      · simp [e5, e6, e3, l3, hg, lim, splice, hw]
        refine ⟨n - 1, by omega, (hI _ _).2 ⟨[s], i + 1, j + 1, ?_⟩⟩
        simp [e0, e5, e2, e3, l2, strV]
        omega
      · simp [e6, hw]
        refine ⟨n - 1, by omega, (hI _ _).2 ⟨[], i + 1, j + 1, ?_⟩⟩
        simp [e0, e5, e2, e3, l2, l3]
        omega
    · simp [e0]
      refine next30 tg l j 3 p (by simp [List.getElem?_append, hpl]) hj1 (by omega) (by omega) (by omega) fun u hu1 hu2 => ?_
      simp
      have hset : (h.set p (seqB tg l j) ++ [Ob.fam vs.length 1]).set p (seqB tg l (j + 1)) = h.set p (seqB tg l (j + 1)) ++ [.fam vs.length 1] := by
        simp [hpl]
      rw [hset]
      refine condA_dec (fun h2 => ?_) fun h2 => ?_
      · have g : (h.set p (seqB tg l (j + 1)) ++ [Ob.fam vs.length 1])[h.length]? = some (.fam vs.length 1) := by simp
        have hall : ∀ v, v ∈ strV vs ∨ v = V.str s → v.cells.length = 1 := by
          rintro v (hv | rfl)
          · simp only [strV, List.mem_map] at hv
            obtain ⟨y, -, rfl⟩ := hv
            rfl
          · rfl
        simp [e5, e6, e3, l3, hg, lim, splice, hw, strV_length]
        refine ⟨fun v hv => hall v hv, by omega, ?_⟩
        refine ⟨n - 1, by omega, (hI _ _).2 ⟨vs ++ [s], i + 1, j + 1, ?_⟩⟩
        simp [e0, e5, e2, e3, l2, strV]
        omega
      · simp [e6, hw]
        refine ⟨n - 1, by omega, (hI _ _).2 ⟨vs, i + 1, j + 1, ?_⟩⟩
        simp [e0, e5, e2, e3, l2, l3, hne]
        omega
  · obtain ⟨a, b, c⟩ := t
    rcases hor with ⟨rfl, l3, rfl⟩ | ⟨hne, l3, rfl⟩
    · simp [e2, e3, l2, l3, splice, tyV, demote_tys, under_tys, pVs_demote, pVs_under]
      have := hq [] ps _ j hps hok ht
      simpa [List.take_of_length_le, schV, tyV, strV] using this
    · simp [e2, e3, l2, l3, splice, tyV, demote_tys, under_tys, pVs_demote, pVs_under, strV_demote, strV_under]
      have := hq vs ps _ j hps hok ht
      simpa [List.take_of_length_le, List.take_append, schV, tyV, strV] using this

theorem shP_len (p : List UInt8 × Ty) (hp : PrOk p) : (shP p).length ≤ 20 := by
  obtain ⟨c, t⟩ := p
  obtain ⟨hc, ht⟩ := hp
  have h1 := ht.len
  have h2 := argW_len t (showT t)
  simp only at hc h1
  have : c.length ≤ 4 := by rcases hc with rfl | rfl | rfl | rfl <;> decide
  simp only [shP, showPr, List.length_append, List.length_cons]
  simp at h1
  omega

theorem join_len (l : List (List UInt8 × Ty)) (hl : ∀ p ∈ l, PrOk p) (hn : l.length ≤ 3) : (Lib.join (l.map shP) [44, 32]).length ≤ 100 := by
  match l, hl, hn with
  | [], _, _ => simp [Lib.join]
  | [a], hl, _ =>
    have := shP_len a (hl a (by simp))
    simp [Lib.join_one]; omega
  | [a, b], hl, _ =>
    have := shP_len a (hl a (by simp))
    have := shP_len b (hl b (by simp))
    simp [Lib.join_cons, Lib.joinTail]; omega
  | [a, b, c], hl, _ =>
    have := shP_len a (hl a (by simp))
    have := shP_len b (hl b (by simp))
    have := shP_len c (hl c (by simp))
    simp [Lib.join_cons, Lib.joinTail]; omega
  | a :: b :: c :: d :: l, _, hn => simp at hn

theorem joined57 (l : List (List UInt8 × Ty)) (hl : ∀ p ∈ l, PrOk p) (hn : l.length ≤ 3) (hq : Q (.str (Lib.join (l.map shP) [44, 32])) h) : CallA ap 76 0 bs [.sl .frozen (pVs l), .str [44, 32], .fn 77 []] h Q := by
  refine CallA.code (af := ac76) rfl (Nat.le_of_ble_eq_true rfl) ?_
  simp [ac76, pVs_length]
  obtain ⟨I, hI⟩ : ∃ I : Nat → St → Prop, ∀ n s, I n s ↔ (∃ i : Nat, i + n = l.length ∧ s.r 1 = .str [44, 32] ∧ s.r 2 = .fn 77 [] ∧ s.r 10 = .sl .frozen (pVs l) ∧ s.r 11 = .int .i64 l.length ∧ s.r 12 = .int .i64 i ∧
    (i = 0 ∧ s.r 7 = .sl .clip [] ∧ s.h = h ∨ 0 < i ∧ s.r 7 = .sl (.fam h.length) (strV ((l.map shP).take i)) ∧ s.h = h ++ [.fam i 1])) := ⟨_, fun _ _ => Iff.rfl⟩
  refine loop_ind (CallA.hle ap) I ?_ (n := l.length) ((hI _ _).2 ⟨0, by simp⟩)
  rintro n ⟨r, lo, h'⟩ hs
  obtain ⟨i, hin, e1, e2, e10, e11, e12, hor⟩ := (hI _ _).1 hs
  simp only at e1 e2 e10 e11 e12 hor
  simp [forget, noLoc, e11, e12]
  refine condA_dec (fun h1 => ?_) fun h1 => ?_
  · have hi1 : i < l.length := by omega
    have g1 : (pVs l)[i]? = some (pV l[i]) := by simp [pVs, hi1]
    have hok := hl _ (List.getElem_mem hi1)
    have hsl := shP_len _ hok
    have hw : IntKind.wrap .i64 ((i : Int) + 1) = ((i + 1 : Nat) : Int) := by rw [wrap64 (by omega) (by omega)]; omega
    simp [e2, e10, e12, g1, pV_cells, pV_take, pV_agg, pV_loc, pV_demote, splice]
    refine pred58 _ _ hok.2.ok (by simpa [shP] using Nat.le_trans hsl (by omega)) ?_
    have htake : (l.map shP).take (i + 1) = (l.map shP).take i ++ [shP l[i]] := by rw [List.take_add_one]; simp [hi1]
    rcases hor with ⟨rfl, e7, rfl⟩ | ⟨hne, e7, rfl⟩
    · simp only [Nat.zero_add] at htake
      simp [e7, e12, lim, w1]
      refine ⟨n - 1, by omega, (hI _ _).2 ⟨1, ?_⟩⟩
      rw [htake]
      simp [e1, e2, e10, e11, strV, shP]
      omega
    · have hall : ∀ v, v ∈ strV ((l.map shP).take i) ∨ v = V.str (showPr l[i].1 l[i].2) → v.cells.length = 1 := by
        rintro v (hv | rfl)
        · simp only [strV, List.mem_map] at hv
          obtain ⟨y, -, rfl⟩ := hv
          rfl
        · rfl
      have hmin : min i l.length = i := by omega
      simp [e7, e12, lim, hw, strV_length, hmin]
      refine ⟨fun v hv => hall v hv, by omega, ?_⟩
      refine ⟨n - 1, by omega, (hI _ _).2 ⟨i + 1, ?_⟩⟩
      rw [htake]
      simp [e1, e2, e10, e11, strV, shP]
      omega
  · have hi1 : i = l.length := by omega
    subst hi1
    have hj := join_len l hl hn
    rcases hor with ⟨h0, e7, rfl⟩ | ⟨hne, e7, rfl⟩
    · have hnil : l = [] := List.eq_nil_of_length_eq_zero h0
      subst hnil
      simp [e1, e7]
      refine CallA.prim (p := joinP) (v := .str []) rfl (by simp [joinP, strsV, joinR, Lib.join, List.intercalate]) ?_
      simp
      simpa [Lib.join, List.intercalate] using hq
    · have et : (l.map shP).take l.length = l.map shP := List.take_of_length_le (by simp)
      rw [et] at e7
      simp [e1, e7, strV_demote]
      refine CallA.prim (p := joinP) (v := .str (Lib.join (l.map shP) [44, 32])) rfl ?_ ?_
      · simp only [joinP, strsV_map, joinR, strV_length, List.length_map]
        rw [if_pos ⟨by omega, by omega⟩]
      simp
      exact hq

theorem ctx43 (l : List (List UInt8 × Ty)) (hl : ∀ p ∈ l, PrOk p) (hn : l.length ≤ 3) (hq : Q (.str (ctxS l)) h) : CallA ap 57 0 bs [.sl .frozen (pVs l)] h Q := by
  refine CallA.code (af := ac57) rfl (Nat.le_of_ble_eq_true rfl) ?_
  have hj := join_len l hl hn
  simp [ac57, pVs_demote]
  refine joined57 l hl hn ?_
  match l, hl, hn with
  | [], _, _ =>
    simp [pVs_length]
    simpa [ctxS] using hq
  | [a], _, _ =>
    simp only [List.map_cons, List.map_nil, Lib.join_one] at hj ⊢
    have e' : (shP a).length + 4 ≤ 4611686018427387904 := by omega
    simp [pVs_length, e']
    simpa [ctxS] using hq
  | a :: b :: c, _, hn =>
    generalize hS : Lib.join (List.map shP (a :: b :: c)) [44, 32] = S at *
    have e1 : 1 + S.length ≤ 4611686018427387904 := by omega
    have e2 : S.length + 1 + 5 ≤ 4611686018427387904 := by omega
    have e3 : S.length + 1 + 1 + 1 + 1 + 1 + 1 ≤ 4611686018427387904 := by omega
    have e4 : ((c.length : Int) + 1 + 1 == 0) = false := by simp; omega
    have e5 : ((c.length : Int) + 1 + 1 == 1) = false := by simp; omega
    simp [pVs_length, e1, e2, e4, e5]
    simp only [ctxS, ← List.map_cons] at hq
    rw [hS] at hq
    exact hq

theorem ctx_len (l : List (List UInt8 × Ty)) (hl : ∀ p ∈ l, PrOk p) (hn : l.length ≤ 3) : (ctxS l).length ≤ 1000 := by
  have hj := join_len l hl hn
  match l, hl, hn with
  | [], _, _ => simp [ctxS]
  | [a], _, _ =>
    simp only [List.map_cons, List.map_nil, Lib.join_one] at hj
    simp [ctxS]; omega
  | a :: b :: c, _, _ =>
    simp only [List.map_cons] at hj
    simp [ctxS]; omega

end

theorem law4 (a b : List Int) : CallA ap 5 0 [] [.sl .frozen (a.map (.int .i64)), .sl .frozen (b.map (.int .i64))] [] fun v _ => v = .bool true := by
  refine CallA.code (af := ac5) rfl (Nat.le_of_ble_eq_true rfl) ?_
  simp [ac5]
  refine first13 ?_
  simp
  by_cases h1 : (80 : Int) < a.length
  · simp [h1]
  by_cases h2 : (80 : Int) < b.length
  · simp [h1, h2]
  simp [h1, h2, splice]
  refine made10 .frozen a 0 4 4 0 _ _ _ (by omega) (by omega) (by omega) (by omega) (by omega) (by simp [seqB]) fun t i hi1 hi2 ht => ?_
  simp [splice]
  refine made10 .frozen b 1 4 4 0 _ _ _ (by omega) (by omega) (by omega) (by omega) (by omega) (by simp [seqB]) fun u j hj1 hj2 hu => ?_
  simp [splice]
  refine scheme14 .frozen a 0 i (by omega) (by omega) rfl fun vs ps x i' hps hok hx => ?_
  have c5 : ∀ (vs ps : List V) (x : Ty), (schV .frozen vs .frozen ps x).cells.length = 5 := fun vs ps x => by simp [schV]
  have l5 : ∀ (vs ps : List V) (x : Ty), (schV .frozen vs .frozen ps x).isLoc = false := fun _ _ _ => rfl
  have t5 : ∀ (vs ps : List V) (x : Ty), (schV .frozen vs .frozen ps x).cells.take 5 = (schV .frozen vs .frozen ps x).cells := fun vs ps x => List.take_of_length_le (Nat.le_of_eq (c5 vs ps x))
  have dc : ∀ x : Ty, demoteL (tyV x).cells = (tyV x).cells := fun x => by cases x; simp [tyV, demote_tys]
  simp [splice, c5, l5]
  refine scheme14 .frozen b 1 j (by omega) (by omega) rfl fun vs' ps' y j' hps' hok' hy => ?_
  simp [splice, ty_take, ty_agg, c5, l5, demote_ty]
  have lt := ht.len
  have lu := hu.len
  have lx := hx.len
  have ly := hy.len
  refine showOk t ht.ok (by omega) _ _ _ ?_
  simp [ty_take, ty_agg, demote_ty]
  refine showOk u hu.ok (by omega) _ _ _ ?_
  simp [ty_take, ty_agg, demote_ty]
  refine sameOk ht.ok hu.ok _ _ _ ?_
  simp [ty_take, beq_show ht hu, schV, dc, pVs_demote]
  refine scheme17 [] (pVs ps) (ctxS ps) x hx.ok (by omega) (by have := ctx_len ps hok hps; omega) (pVs_demote ps) (fun bs h Q hq => ctx43 ps hok hps hq) ?_
  simp [ty_take, dc, pVs_demote]
  refine scheme17 [] (pVs ps') (ctxS ps') y hy.ok (by omega) (by have := ctx_len ps' hok' hps'; omega) (pVs_demote ps') (fun bs h Q hq => ctx43 ps' hok' hps' hq) ?_
  simp [ty_take, dc, pVs_demote]
  refine sames18 ps ps' x y (by omega) (fun p hp => (hok p hp).2.ok) (fun p hp => (hok' p hp).2.ok) hx.ok hy.ok ?_
  have hb := beq_scheme hok hok' (by omega) (by omega) hx hy
  simp [hb]

end Go.At
