/- The lexer's operators and marks, whichever list comes first: on the abstract machine. -/
import Derived.Test.YtjfflpknmhflfaaDoorUtLb
namespace Go.Ut
open Go.Am Go.Proofs
set_option maxRecDepth 100000

def OPS : List Bs := [[61, 61], [47, 61], [60, 61], [62, 61], [60], [62], [43], [45], [42]]
def MRK : List Bs := [[45, 62], [61, 62], [58, 58], [40], [41], [123], [125], [44], [59], [61], [92], [124]]
def stepS (p : Bs) (k : Int) (o : Int × Bs) (s : Bs) : Int × Bs := if o.2.length < s.length ∧ s.isPrefixOf p = true then (k, s) else o
def foldS (p : Bs) (k : Int) (L : List Bs) (o : Int × Bs) : Int × Bs := L.foldl (stepS p k) o
def signT (p : Bs) : Int × Bs := foldS p 6 MRK (foldS p 5 OPS (0, []))

def bt (p : Bs) (L : List Bs) : Bs := (foldS p 0 L (0, [])).2

theorem fold_bt (p : Bs) (k : Int) : ∀ (L : List Bs) (o : Int × Bs), foldS p k L o = if o.2.length < (bt p L).length then (k, bt p L) else o
  | [], o => by simp [foldS, bt]
  | s :: L, o => by
    have step : ∀ (k : Int) (o : Int × Bs), foldS p k (s :: L) o = foldS p k L (stepS p k o s) := fun k o => rfl
    have h1 := fold_bt p k L (stepS p k o s)
    have h2 := fold_bt p 0 L (stepS p 0 (0, []) s)
    have hb : bt p (s :: L) = (if (stepS p 0 (0, []) s).2.length < (bt p L).length then ((0 : Int), bt p L) else stepS p 0 (0, []) s).2 := by
      rw [← h2, ← step]
      rfl
    rw [step, h1, hb]
    generalize bt p L = B
    by_cases hs : s.isPrefixOf p = true
    · by_cases hl : o.2.length < s.length
      · have g0 : 0 < s.length := by omega
        by_cases hB : s.length < B.length
        · simp only [stepS, hs, hl, and_self, if_true, hB, List.length_nil, g0]
          rw [if_pos (by omega)]
        · simp only [stepS, hs, hl, and_self, if_true, hB, List.length_nil, g0, if_false]
      · by_cases g0 : 0 < s.length
        · by_cases hB : s.length < B.length
          · simp only [stepS, hs, hl, and_true, if_false, List.length_nil, g0, if_true, hB]
          · simp only [stepS, hs, hl, and_true, if_false, List.length_nil, g0, if_true, hB]
            rw [if_neg (by omega)]
        · simp only [stepS, hs, hl, and_true, if_false, List.length_nil, g0, false_and]
          by_cases hB : 0 < B.length
          · simp only [hB, if_true]
          · simp only [hB, if_false, List.length_nil]
            rw [if_neg (by omega), if_neg (by omega)]
    · have e1 : ∀ (k : Int) (o : Int × Bs), stepS p k o s = o := fun k o => by simp [stepS, hs]
      rw [e1, e1]
      by_cases hB : 0 < B.length
      · rw [if_pos (show ((0 : Int), ([] : Bs)).2.length < B.length from hB)]
      · rw [if_neg (show ¬ ((0 : Int), ([] : Bs)).2.length < B.length from hB), if_neg (by omega), if_neg (show ¬ o.2.length < ((0 : Int), ([] : Bs)).2.length by simp)]

theorem fold_mem (p : Bs) (k : Int) : ∀ (L : List Bs) (o : Int × Bs), foldS p k L o = o ∨ ((foldS p k L o).2 ∈ L ∧ (foldS p k L o).2 <+: p)
  | [], o => .inl rfl
  | s :: L, o => by
    have step : foldS p k (s :: L) o = foldS p k L (stepS p k o s) := rfl
    rw [step]
    rcases fold_mem p k L (stepS p k o s) with h | ⟨h1, h2⟩
    · rw [h]
      by_cases hc : o.2.length < s.length ∧ s.isPrefixOf p = true
      · rw [stepS, if_pos hc]
        exact .inr ⟨by simp, List.isPrefixOf_iff_prefix.1 hc.2⟩
      · rw [stepS, if_neg hc]
        exact .inl rfl
    · exact .inr ⟨List.mem_cons_of_mem _ h1, h2⟩

theorem ops_mrk : ∀ s ∈ OPS, s ∉ MRK := by decide

theorem fold_comm (p : Bs) : foldS p 5 OPS (foldS p 6 MRK (0, [])) = signT p := by
  unfold signT
  rw [fold_bt p 6 MRK (0, []), fold_bt p 5 OPS (0, []), fold_bt p 5 OPS, fold_bt p 6 MRK]
  have hA : bt p OPS = [] ∨ (bt p OPS ∈ OPS ∧ bt p OPS <+: p) := (fold_mem p 0 OPS (0, [])).imp (fun h => by rw [bt, h]) id
  have hB : bt p MRK = [] ∨ (bt p MRK ∈ MRK ∧ bt p MRK <+: p) := (fold_mem p 0 MRK (0, [])).imp (fun h => by rw [bt, h]) id
  have hne : (bt p OPS).length = (bt p MRK).length → (bt p OPS).length = 0 := fun e => by
    rcases hA with h | ⟨a1, a2⟩
    · rw [h]; rfl
    · rcases hB with h | ⟨b1, b2⟩
      · rw [e, h]; rfl
      · have : bt p OPS = bt p MRK := by
          rw [List.prefix_iff_eq_take.1 a2, List.prefix_iff_eq_take.1 b2, e]
        rw [this] at a1
        exact absurd b1 (ops_mrk _ a1)
  generalize bt p OPS = A at *
  generalize bt p MRK = B at *
  simp only [List.length_nil]
  by_cases h1 : 0 < A.length <;> by_cases h2 : 0 < B.length <;> simp only [h1, h2, if_true, if_false, List.length_nil]
  · by_cases h3 : A.length < B.length
    · rw [if_pos h3, if_neg (by omega)]
    · rw [if_neg h3, if_pos (by omega)]
  · rw [if_neg (by omega)]
  · rw [if_neg (by omega)]

/-- The loop over the words of one list. -/
def signLoop : AC := .loop [0, 5, 11, 18, 19, 20] [2, 4] (.seq (.reg [⟨(some 21), none, .bin .lss (.t 20) (.t 19)⟩])
 (.seq (.cond (.t 21) .skip
 (.exit 2))
 (.seq (.block 3 (.seq (.reg [⟨(some 22), none, .iaddr 1 (.t 18) (.t 20)⟩,
  ⟨(some 23), none, .load none (.t 22)⟩,
  ⟨(some 8), none, .mov (.t 23)⟩])
 (.seq (.reg [⟨(some 24), none, .mov (.t 8)⟩,
  ⟨(some 25), none, .len 0 (.t 24)⟩,
  ⟨(some 26), none, .faddr 2 (.t 4)⟩,
  ⟨(some 27), none, .load none (.t 26)⟩,
  ⟨(some 28), none, .len 0 (.t 27)⟩,
  ⟨(some 29), none, .bin .gtr (.t 25) (.t 28)⟩,
  ⟨(some 30), none, .mov (.t 29)⟩,
  ⟨(some 31), (some (30, true)), .mov (.t 0)⟩,
  ⟨(some 32), (some (30, true)), .mov (.t 0)⟩,
  ⟨(some 33), (some (30, true)), .len 1 (.t 32)⟩,
  ⟨(some 34), (some (30, true)), .bmin (.t 33) (.c (.int .i64 2))⟩,
  ⟨(some 35), (some (30, true)), .slice 1 (.t 31) none (some (.t 34)) none⟩,
  ⟨(some 36), (some (30, true)), .conv .text (.t 35)⟩,
  ⟨(some 37), (some (30, true)), .mov (.t 8)⟩,
  ⟨(some 38), (some (30, true)), .call 0 [] (.c (.fn 66 [])) [(.t 36), (.t 37)]⟩,
  ⟨(some 39), none, .pick (.t 30) (.t 38) (.c (.bool false))⟩])
 (.cond (.t 39) (.reg [⟨(some 40), none, .mov (.t 5)⟩,
  ⟨(some 41), none, .mov (.t 8)⟩,
  ⟨(some 42), none, .build [(.int .i64 0), (.int .i64 0), (.str []), (.int .i64 0)] [(0, 1, (.t 40)), (2, 1, (.t 41))]⟩,
  ⟨none, none, .store 4 (.t 4) (.t 42)⟩])
 .skip))))
 (.reg [⟨(some 43), none, .bin .add (.t 20) (.c (.int .i64 1))⟩,
  ⟨(some 20), none, .mov (.t 43)⟩]))))

def outC (o : Int × Bs) : List V := [.int .i64 o.1, .int .i64 0, .str o.2, .int .i64 0]

section
variable {bs : List Nat} {h : List Ob} {Q : V → List Ob → Prop}

theorem has66 (s t : Bs) (hq : Q (.bool (t.isPrefixOf s)) h) : CallA ap 66 0 bs [.str s, .str t] h Q := by
  refine CallA.code (af := ac66) rfl (Nat.le_of_ble_eq_true rfl) ?_
  simp [ac66]
  refine CallA.code (af := ac74) rfl (Nat.le_of_ble_eq_true rfl) ?_
  by_cases h1 : t.length ≤ s.length
  · have g1 : (t.length : Int) ≤ (s.length : Int) := by omega
    have e : (List.take t.length s == t) = t.isPrefixOf s := by
      rw [Bool.eq_iff_iff, beq_iff_eq, List.isPrefixOf_iff_prefix]
      exact ⟨fun h => ⟨s.drop t.length, by have := List.take_append_drop t.length s; rwa [h] at this⟩, fun ⟨r, h⟩ => by rw [← h]; simp⟩
    simp [ac74, g1, h1, sliceV, bnd, e]
    exact hq
  · have g1 : ¬ (t.length : Int) ≤ (s.length : Int) := by omega
    have e : t.isPrefixOf s = false := by
      cases e : t.isPrefixOf s with
      | false => rfl
      | true =>
        rw [List.isPrefixOf_iff_prefix] at e
        exact absurd e.length_le h1
    rw [e] at hq
    simp [ac74, g1, h1]
    exact hq

theorem sign_loop (b : Bs) (k : Int) (W : List Bs) (hW : W.length < 1000) (q : Nat) (o : Int × Bs) (c2 : List V) {Q' : AX → St → Prop} (σ : St) (s0 : σ.r 0 = .sl .frozen (bV b)) (s5 : σ.r 5 = .int .i64 k) (s11 : σ.r 11 = .ptr q 0) (s18 : σ.r 18 = .sl .frozen (W.map .str))
    (s19 : σ.r 19 = .int .i64 W.length) (s20 : σ.r 20 = .int .i64 0) (s2 : σ.r 2 = .loc 2 0) (s4 : σ.r 4 = .loc 4 0) (l2 : σ.l 2 = some c2) (l4 : σ.l 4 = some (outC o))
    (hQ : ∀ σ' : St, σ'.r 0 = .sl .frozen (bV b) → σ'.r 11 = .ptr q 0 → σ'.r 2 = .loc 2 0 → σ'.r 4 = .loc 4 0 → σ'.l 2 = some c2 → σ'.l 4 = some (outC (foldS (b.take 2) k W o)) → σ'.h = σ.h → Q' (.exit 2) σ') :
    wpA (CallA ap) bs signLoop Q' σ := by
  obtain ⟨I, hI⟩ : ∃ I : Nat → St → Prop, ∀ n s, I n s ↔ (∃ i : Nat, i + n = W.length ∧ s.r 0 = .sl .frozen (bV b) ∧ s.r 5 = .int .i64 k ∧ s.r 11 = .ptr q 0 ∧ s.r 18 = .sl .frozen (W.map .str) ∧ s.r 19 = .int .i64 W.length ∧ s.r 20 = .int .i64 i ∧ s.r 2 = .loc 2 0 ∧ s.r 4 = .loc 4 0 ∧ s.l 2 = some c2 ∧
    s.l 4 = some (outC (foldS (b.take 2) k (W.take i) o)) ∧ s.h = σ.h) := ⟨_, fun _ _ => Iff.rfl⟩
  refine loop_ind (CallA.hle ap) I ?_ (n := W.length) ((hI _ _).2 ⟨0, by simp, s0, s5, s11, s18, s19, by simpa using s20, s2, s4, l2, by simpa [foldS] using l4, rfl⟩)
  rintro n ⟨r, lo, h'⟩ hst
  obtain ⟨i, hin, r0, r5, r11, r18, r19, r20, r2, r4, m2, m4, hh⟩ := (hI _ _).1 hst
  simp only at r0 r5 r11 r18 r19 r20 r2 r4 m2 m4 hh
  subst hh
  by_cases hi : i < W.length
  · have hw : IntKind.wrap .i64 ((i : Int) + 1) = ((i + 1 : Nat) : Int) := by rw [wrapn (by omega) (by omega)]; omega
    have hnext : foldS (b.take 2) k (W.take (i + 1)) o = stepS (b.take 2) k (foldS (b.take 2) k (W.take i) o) W[i] := by
      show (W.take (i + 1)).foldl _ o = _
      rw [List.take_succ_eq_append_getElem hi, List.foldl_append]
      rfl
    generalize foldS (b.take 2) k (W.take i) o = u at m4 hnext
    simp [forget, noLoc, locOf, r0, r5, r11, r18, r19, r20, r2, r4, m2, m4, hi, outC]
    have hm : (if (2 : Int) < (b.length : Int) then (2 : Int) else (b.length : Int)) = ((min b.length 2 : Nat) : Int) := by split <;> omega
    have hm2 : min b.length 2 ≤ b.length := Nat.min_le_left _ _
    have hm3 : b.take (min b.length 2) = b.take 2 := by
      rcases Nat.le_total b.length 2 with h | h
      · rw [Nat.min_eq_left h, List.take_of_length_le h, List.take_of_length_le (Nat.le_refl _)]
      · rw [Nat.min_eq_right h]
    by_cases hlt : u.2.length < W[i].length
    · have glt : (u.2.length : Int) < (W[i].length : Int) := by omega
      simp only [hlt, decide_true]
      simp [r0, r5, r11, r18, r19, r20, r2, r4, m2, m4, minV, bV_len]
      rw [hm]
      simp [sliceV, bnd, bV_len, hm2, convV, bV_take, bV_text, r0]
      rw [hm3]
      refine has66 _ _ ?_
      cases e : W[i].isPrefixOf (b.take 2)
      · simp [r0, r5, r11, r18, r19, r20, r2, r4, m2, m4, hw]
        refine ⟨n - 1, by omega, (hI _ _).2 ⟨i + 1, by omega, ?_⟩⟩
        rw [hnext]
        simp [r0, r5, r11, r18, r19, r2, r4, m2, m4, stepS, e, outC]
      · simp [r0, r5, r11, r18, r19, r20, r2, r4, m2, m4, hw, splice, outC]
        refine ⟨n - 1, by omega, (hI _ _).2 ⟨i + 1, by omega, ?_⟩⟩
        rw [hnext]
        simp [r0, r5, r11, r18, r19, r2, r4, m2, m4, stepS, e, outC, hlt]
    · have glt : ¬ (u.2.length : Int) < (W[i].length : Int) := by omega
      simp only [hlt, decide_false]
      simp [r0, r5, r11, r18, r19, r20, r2, r4, m2, m4, hw]
      refine ⟨n - 1, by omega, (hI _ _).2 ⟨i + 1, by omega, ?_⟩⟩
      rw [hnext]
      simp [r0, r5, r11, r18, r19, r2, r4, m2, m4, stepS, outC, hlt]
  · have hi' : i = W.length := by omega
    subst hi'
    rw [List.take_of_length_le (Nat.le_refl _)] at m4
    simp [forget, noLoc, locOf, r0, r5, r11, r18, r19, r20, r2, r4, m2, m4]
    refine hQ _ ?_ ?_ ?_ ?_ ?_ ?_ rfl <;> simp [r0, r11, r2, r4, m2, m4]

def OPW : Bs := [61, 61, 32, 47, 61, 32, 60, 61, 32, 62, 61, 32, 60, 32, 62, 32, 43, 32, 45, 32, 42]
def MKW : Bs := [45, 62, 32, 61, 62, 32, 58, 58, 32, 40, 32, 41, 32, 123, 32, 125, 32, 44, 32, 59, 32, 61, 32, 92, 32, 124]
theorem seen_lt {seen : List Nat} (hnd : seen.Nodup) (hlt : ∀ i ∈ seen, i < 2) {x : Nat} (hx : x < 2) (hn : x ∉ seen) : seen.length < 2 := by
  have h1 : (x :: seen).Nodup := List.nodup_cons.2 ⟨hn, hnd⟩
  have h2 := List.Nodup.length_le_of_subset (l₂ := [0, 1]) h1 fun y hy => by
    have : y < 2 := (List.mem_cons.1 hy).elim (fun e => e ▸ hx) (hlt y)
    simp
    omega
  simp at h2
  omega
theorem opsP : fieldsP [.str OPW] = some (.sl .frozen (OPS.map .str)) := by kernel_rfl
theorem mrkP : fieldsP [.str MKW] = some (.sl .frozen (MRK.map .str)) := by kernel_rfl

theorem sign57 (b : Bs) (hb : b.length < 1000000) (hq : Q (.tup [tokV (signT (b.take 2)).1 0 (signT (b.take 2)).2 0, .bool ((signT (b.take 2)).2 != [])]) h) : CallA ap 57 0 bs [.sl .frozen (bV b)] h Q := by
  refine CallA.code (af := ac57) rfl (Nat.le_of_ble_eq_true rfl) ?_
  simp [ac57, setE, setOb, okStore, List.set_append, kSet, kSet1, kSet2, kRange, kRange1, keyEq]
  obtain ⟨p, hp⟩ : ∃ p, p = b.take 2 := ⟨_, rfl⟩
  rw [← hp] at hq
  obtain ⟨fo, hfo⟩ : ∃ fo : Int × Bs → Nat → Int × Bs, fo = fun o i => if i = 0 then foldS p 5 OPS o else foldS p 6 MRK o := ⟨_, rfl⟩
  obtain ⟨es, hes⟩ : ∃ es : List (V × V), es = [(.int .i64 5, .str OPW), (.int .i64 6, .str MKW)] := ⟨_, rfl⟩
  obtain ⟨I, hI⟩ : ∃ I : Nat → St → Prop, ∀ n s, I n s ↔ (∃ seen : List Nat, seen.length + n = 2 ∧ seen.Nodup ∧ (∀ i ∈ seen, i < 2) ∧ s.r 0 = .sl .frozen (bV b) ∧ s.r 11 = .ptr (h.length + 1) 0 ∧ s.r 2 = .loc 2 0 ∧ s.r 4 = .loc 4 0 ∧ s.l 2 = some [.int .i64 0, .int .i64 0, .str [], .int .i64 0] ∧
    s.l 4 = some (outC (seen.foldl fo (0, []))) ∧ s.h = h ++ [.map es [0, 1] 2, .iter (some h.length) 2 seen 2]) := ⟨_, fun _ _ => Iff.rfl⟩
  refine loop_ind (CallA.hle ap) I ?_ (n := 2) ((hI _ _).2 ⟨[], by simp [outC, hes, OPW, MKW]⟩)
  rintro n ⟨r, lo, h'⟩ hst
  obtain ⟨seen, hn, hnd, hlt, r0, r11, r2, r4, l2, l4, hh⟩ := (hI _ _).1 hst
  simp only at r0 r11 r2 r4 l2 l4 hh
  subst hh
  have gp : ∀ x y : Ob, (h ++ [x, y])[h.length]? = some x := fun x y => by simp
  have gq : ∀ x y : Ob, (h ++ [x, y])[h.length + 1]? = some y := fun x y => by simp
  have sq : ∀ x y z : Ob, (h ++ [x, y]).set (h.length + 1) z = h ++ [x, z] := fun x y z => by simp [List.set_append]
  simp [forget, noLoc, locOf, r0, r11, r2, r4, l2, l4]
  refine ⟨by simp [hes], by simp, by omega, fun hall => ?_, fun i k v bn h1 h2 h3 => ?_⟩
  · have hs : seen.foldl fo (0, []) = signT p := by
      obtain ⟨h0, h1⟩ : 0 ∈ seen ∧ 1 ∈ seen := ⟨hall 0 (by simp), hall 1 (by simp)⟩
      match seen, hn, hnd, h0, h1 with
      | [], _, _, h0, _ => cases h0
      | [a], _, _, h0, h1 => simp at h0 h1; omega
      | [a, b], _, hnd, h0, h1 =>
        simp at h0 h1 hnd
        rcases h0 with rfl | rfl
        · obtain rfl : b = 1 := by omega
          simp [hfo, signT]
        · obtain rfl : a = 1 := by omega
          simp only [List.foldl, hfo]
          exact fold_comm p
      | a :: b :: c :: l, hn, _, _, _ => simp at hn; omega
    rw [hs] at l4
    have he : ((signT p).2 != []) = !List.isEmpty (signT p).2 := by cases (signT p).2 <;> rfl
    simp [r0, r11, r2, r4, l2, l4, outC, splice]
    simpa [tokV, he] using hq
  · have hi : i = 0 ∨ i = 1 := by
      rcases i with _ | _ | i
      · exact .inl rfl
      · exact .inr rfl
      · simp [hes] at h1
    rcases hi with rfl | rfl
    · simp [hes] at h1 h2
      obtain ⟨rfl, rfl⟩ := h1
      subst h2
      simp [r0, r11, r2, r4, l2, l4, gp, gq, sq, entV, entV1, entV2, hes, bornE]
      refine CallA.prim (p := fieldsP) rfl opsP ?_
      simp
      refine sign_loop b 5 OPS (by decide) (h.length + 1) (seen.foldl fo (0, [])) [.int .i64 0, .int .i64 0, .str [], .int .i64 0] _ (by simp [r0]) (by simp) (by simp [r11]) (by simp) (by simp [OPS]) (by simp) (by simp [r2]) (by simp [r4]) (by simp [l2]) (by simp [l4]) fun σ' s0 s11 s2 s4 m2 m4 mh => ?_
      simp only at mh
      simp
      have hnot : 0 ∉ seen := h3
      have hsl := seen_lt hnd hlt (by decide) hnot
      refine ⟨n - 1, ?_, (hI _ _).2 ⟨seen ++ [0], ?_, ?_, ?_, s0, s11, s2, s4, m2, ?_, ?_⟩⟩
      · omega
      · simp; omega
      · exact List.nodup_append.2 ⟨hnd, by simp, fun x hx y hy => by simp at hy; subst hy; exact fun e => hnot (e ▸ hx)⟩
      · intro x hx
        rcases List.mem_append.1 hx with hx | hx
        · exact hlt x hx
        · simp at hx; omega
      · rw [m4, ← hp, List.foldl_append]
        simp [hfo]
      · rw [mh, hes]
    · simp [hes] at h1 h2
      obtain ⟨rfl, rfl⟩ := h1
      subst h2
      simp [r0, r11, r2, r4, l2, l4, gp, gq, sq, entV, entV1, entV2, hes, bornE]
      refine CallA.prim (p := fieldsP) rfl mrkP ?_
      simp
      refine sign_loop b 6 MRK (by decide) (h.length + 1) (seen.foldl fo (0, [])) [.int .i64 0, .int .i64 0, .str [], .int .i64 0] _ (by simp [r0]) (by simp) (by simp [r11]) (by simp) (by simp [MRK]) (by simp) (by simp [r2]) (by simp [r4]) (by simp [l2]) (by simp [l4]) fun σ' s0 s11 s2 s4 m2 m4 mh => ?_
      simp only at mh
      simp
      have hnot : 1 ∉ seen := h3
      have hsl := seen_lt hnd hlt (by decide) hnot
      refine ⟨n - 1, ?_, (hI _ _).2 ⟨seen ++ [1], ?_, ?_, ?_, s0, s11, s2, s4, m2, ?_, ?_⟩⟩
      · omega
      · simp; omega
      · exact List.nodup_append.2 ⟨hnd, by simp, fun x hx y hy => by simp at hy; subst hy; exact fun e => hnot (e ▸ hx)⟩
      · intro x hx
        rcases List.mem_append.1 hx with hx | hx
        · exact hlt x hx
        · simp at hx; omega
      · rw [m4, ← hp, List.foldl_append]
        simp [hfo]
      · rw [mh, hes]

end
end Go.Ut
