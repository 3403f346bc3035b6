/- A letter that is written is read as that letter; a number's digits as that number: the law on the abstract machine. -/
import Derived.Test.YtabjkoehbbobdaaDoorItO4
namespace Go.It
open Go.Am Go.Proofs
set_option maxRecDepth 1000000

theorem tmod15 (n : Int) (h : 0 ≤ n) : 0 ≤ n.tmod 1000000000000000 ∧ n.tmod 1000000000000000 < 1000000000000000 := ⟨Int.tmod_nonneg _ h, Int.tmod_lt_of_pos n (by omega)⟩

/-- A number's digits are read. -/
theorem number_back (n : Int) (h1 : 0 ≤ n) (h2 : n < 1000000000000000) : (∀ b ∈ Lib.itoa n, isD b) ∧ valD (Lib.itoa n) = n ∧ 1 ≤ (Lib.itoa n).length ∧ (Lib.itoa n).length ≤ 15 := by
  obtain ⟨g1, g2, g3, g4⟩ := digits_facts 15 n.toNat (by omega)
  have e : Lib.itoa n = Lib.decDigits n.toNat := by rw [Lib.itoa, if_neg (by omega)]
  rw [e]
  exact ⟨g1, by rw [g2]; omega, g3, by simpa using g4⟩

theorem lawB (c n : Int) (h1 : 0 ≤ c) (h2 : c < 256) (h3 : -9223372036854775808 ≤ n) (h4 : n < 9223372036854775808) : CallA ap 6 0 [] [.int .u8 c, .int .i64 n] [] fun v _ => v = .bool true := by
  refine CallA.code (af := ac6) rfl (Nat.le_of_ble_eq_true rfl) ?_
  simp [ac6]
  refine first23' ?_
  simp
  refine quote24 c h1 h2 ?_
  obtain ⟨m, rfl⟩ : ∃ m : Nat, c = m := ⟨c.toNat, by omega⟩
  have hlen : (letterT m).length ≤ lim := by
    have : (letterT m).length ≤ 4 := by
      unfold letterT
      split
      · simp
      · split
        · simp
        · split <;> simp
    simp only [lim]; omega
  have hb : (letterT (m : Int)).map (fun b => V.int .u8 (b.toNat : Int)) = byV (letterT m) := rfl
  simp [hlen, convV, hb, byV_dem]
  refine splitL m (by omega) fun k s p x y => ?_
  simp [splice]
  have w1 : n < 0 → IntKind.wrap .i64 (n + 1) = n + 1 := fun h => wr64 (by omega) (by omega)
  have w2 : n < 0 → IntKind.wrap .i64 (-(n + 1)) = -(n + 1) := fun h => wr64 (by omega) (by omega)
  have wm : IntKind.wrap .i64 (m : Int) = m := wr64 (by omega) (by omega)
  have part : ∀ k : Int, 0 ≤ k → k < 9223372036854775808 → ∃ j : Int, j = k.tmod 1000000000000000 ∧ 0 ≤ j ∧ j < 1000000000000000 := fun k hk _ => ⟨_, rfl, (tmod15 k hk).1, (tmod15 k hk).2⟩
  have txS : ∀ j : Int, txtS sShow j = Lib.itoa j := fun j => by simp [txtS]
  have txB : txtB sShow = true := by simp [txtB]
  by_cases c1 : (32 : Int) ≤ m
  · by_cases c2 : (m : Int) ≤ 126
    · have hw : want m = m := by unfold want; rw [if_pos (.inl (by omega))]
      simp [c1, c2, hw, wm]
      refine condA_dec (fun d1 => ?_) fun d1 => ?_
      · obtain ⟨j, hj, j1, j2⟩ := part (-(n + 1)) (by omega) (by omega)
        simp [w1 d1, w2 d1, ← hj]
        obtain ⟨f1, f2, f3, f4⟩ := number_back j j1 j2
        have hl : (Lib.itoa j).length ≤ lim := by simp only [lim]; omega
        have hbb : (Lib.itoa j).map (fun b => V.int .u8 (b.toNat : Int)) = byV (Lib.itoa j) := rfl
        refine text sShow j (by omega) (by omega) ?_
        simp [txS, txB, hl, convV, hbb, byV_dem]
        refine split24 (Lib.itoa j) f1 f3 f4 ?_
        simp [splice, f2]
      · obtain ⟨j, hj, j1, j2⟩ := part n (by omega) (by omega)
        simp [← hj]
        obtain ⟨f1, f2, f3, f4⟩ := number_back j j1 j2
        have hl : (Lib.itoa j).length ≤ lim := by simp only [lim]; omega
        have hbb : (Lib.itoa j).map (fun b => V.int .u8 (b.toNat : Int)) = byV (Lib.itoa j) := rfl
        refine text sShow j (by omega) (by omega) ?_
        simp [txS, txB, hl, convV, hbb, byV_dem]
        refine split24 (Lib.itoa j) f1 f3 f4 ?_
        simp [splice, f2]
    · have c3 : ((m : Int) == 10) = false := beq_false_of_ne (by omega)
      simp [c1, c2, c3]
      refine condA_dec (fun d1 => ?_) fun d1 => ?_
      · obtain ⟨j, hj, j1, j2⟩ := part (-(n + 1)) (by omega) (by omega)
        simp [w1 d1, w2 d1, ← hj]
        obtain ⟨f1, f2, f3, f4⟩ := number_back j j1 j2
        have hl : (Lib.itoa j).length ≤ lim := by simp only [lim]; omega
        have hbb : (Lib.itoa j).map (fun b => V.int .u8 (b.toNat : Int)) = byV (Lib.itoa j) := rfl
        refine text sShow j (by omega) (by omega) ?_
        simp [txS, txB, hl, convV, hbb, byV_dem]
        refine split24 (Lib.itoa j) f1 f3 f4 ?_
        simp [splice, f2]
      · obtain ⟨j, hj, j1, j2⟩ := part n (by omega) (by omega)
        simp [← hj]
        obtain ⟨f1, f2, f3, f4⟩ := number_back j j1 j2
        have hl : (Lib.itoa j).length ≤ lim := by simp only [lim]; omega
        have hbb : (Lib.itoa j).map (fun b => V.int .u8 (b.toNat : Int)) = byV (Lib.itoa j) := rfl
        refine text sShow j (by omega) (by omega) ?_
        simp [txS, txB, hl, convV, hbb, byV_dem]
        refine split24 (Lib.itoa j) f1 f3 f4 ?_
        simp [splice, f2]
  · by_cases c3 : m = 10
    · subst c3
      have hw : want 10 = 10 := rfl
      have w10 : IntKind.wrap .i64 10 = 10 := wr64 (by omega) (by omega)
      simp [hw, w10]
      refine condA_dec (fun d1 => ?_) fun d1 => ?_
      · obtain ⟨j, hj, j1, j2⟩ := part (-(n + 1)) (by omega) (by omega)
        simp [w1 d1, w2 d1, ← hj]
        obtain ⟨f1, f2, f3, f4⟩ := number_back j j1 j2
        have hl : (Lib.itoa j).length ≤ lim := by simp only [lim]; omega
        have hbb : (Lib.itoa j).map (fun b => V.int .u8 (b.toNat : Int)) = byV (Lib.itoa j) := rfl
        refine text sShow j (by omega) (by omega) ?_
        simp [txS, txB, hl, convV, hbb, byV_dem]
        refine split24 (Lib.itoa j) f1 f3 f4 ?_
        simp [splice, f2]
      · obtain ⟨j, hj, j1, j2⟩ := part n (by omega) (by omega)
        simp [← hj]
        obtain ⟨f1, f2, f3, f4⟩ := number_back j j1 j2
        have hl : (Lib.itoa j).length ≤ lim := by simp only [lim]; omega
        have hbb : (Lib.itoa j).map (fun b => V.int .u8 (b.toNat : Int)) = byV (Lib.itoa j) := rfl
        refine text sShow j (by omega) (by omega) ?_
        simp [txS, txB, hl, convV, hbb, byV_dem]
        refine split24 (Lib.itoa j) f1 f3 f4 ?_
        simp [splice, f2]
    · have c3' : ((m : Int) == 10) = false := beq_false_of_ne (by omega)
      simp [c1, c3']
      refine condA_dec (fun d1 => ?_) fun d1 => ?_
      · obtain ⟨j, hj, j1, j2⟩ := part (-(n + 1)) (by omega) (by omega)
        simp [w1 d1, w2 d1, ← hj]
        obtain ⟨f1, f2, f3, f4⟩ := number_back j j1 j2
        have hl : (Lib.itoa j).length ≤ lim := by simp only [lim]; omega
        have hbb : (Lib.itoa j).map (fun b => V.int .u8 (b.toNat : Int)) = byV (Lib.itoa j) := rfl
        refine text sShow j (by omega) (by omega) ?_
        simp [txS, txB, hl, convV, hbb, byV_dem]
        refine split24 (Lib.itoa j) f1 f3 f4 ?_
        simp [splice, f2]
      · obtain ⟨j, hj, j1, j2⟩ := part n (by omega) (by omega)
        simp [← hj]
        obtain ⟨f1, f2, f3, f4⟩ := number_back j j1 j2
        have hl : (Lib.itoa j).length ≤ lim := by simp only [lim]; omega
        have hbb : (Lib.itoa j).map (fun b => V.int .u8 (b.toNat : Int)) = byV (Lib.itoa j) := rfl
        refine text sShow j (by omega) (by omega) ?_
        simp [txS, txB, hl, convV, hbb, byV_dem]
        refine split24 (Lib.itoa j) f1 f3 f4 ?_
        simp [splice, f2]

end Go.It
