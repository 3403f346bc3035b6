/- Letters as they are written: on the abstract machine. -/
import Derived.Test.YtoachlegeiefaaaDoorEtTab
namespace Go.Et
open Go.Am Go.Proofs
set_option maxRecDepth 100000

theorem wr64 {n : Int} (h1 : -9223372036854775808 ≤ n) (h2 : n < 9223372036854775808) : IntKind.wrap .i64 n = n := by
  show (if (true && decide (n % 18446744073709551616 ≥ 9223372036854775808)) = true then n % 18446744073709551616 - 18446744073709551616 else n % 18446744073709551616) = n
  simp only [Bool.true_and, decide_eq_true_eq]
  split <;> omega
theorem wr32 {n : Int} (h1 : -2147483648 ≤ n) (h2 : n < 2147483648) : IntKind.wrap .i32 n = n := by
  show (if (true && decide (n % 4294967296 ≥ 2147483648)) = true then n % 4294967296 - 4294967296 else n % 4294967296) = n
  simp only [Bool.true_and, decide_eq_true_eq]
  split <;> omega
theorem wr8 (n : Int) : IntKind.wrap .u8 n = n % 256 := by
  show (if (false && decide (n % 256 ≥ 128)) = true then n % 256 - 256 else n % 256) = n % 256
  simp

theorem enc_small {n : Int} (h1 : 0 ≤ n) (h2 : n < 128) : (Utf8.encode n).data.toList = [UInt8.ofNat n.toNat] := by
  have hv : Utf8.valid n = true := by
    simp only [Utf8.valid, Bool.and_eq_true, Bool.or_eq_true, decide_eq_true_eq]
    omega
  have hc : n.toNat < 128 := by omega
  unfold Utf8.encode
  simp only [hv, if_true, hc]

def ch (c : Int) : UInt8 := UInt8.ofNat c.toNat
theorem ch_toNat {c : Int} (h1 : 0 ≤ c) (h2 : c < 256) : ((ch c).toNat : Int) = c := by
  simp only [ch, UInt8.toNat_ofNat']
  omega

def letterT (c : Int) : List UInt8 :=
  if c = 10 then [39, 92, 110, 39] else if c = 39 ∨ c = 92 then [39, 92, ch c, 39] else if 32 ≤ c ∧ c ≤ 126 then [39, ch c, 39] else [39, 63, 39]

section
variable {bs : List Nat} {h : List Ob} {Q : V → List Ob → Prop}

theorem letter45 (c : Int) (h1 : 0 ≤ c) (h2 : c < 256) (hq : Q (.str (letterT c)) h) : CallA ap 45 0 bs [.int .i64 c] h Q := by
  refine CallA.code (af := ac45) rfl (Nat.le_of_ble_eq_true rfl) ?_
  have w32 : IntKind.wrap .i32 c = c := wr32 (by omega) (by omega)
  have w8 : IntKind.wrap .u8 c = c := by rw [wr8]; omega
  unfold letterT at hq
  by_cases c1 : c = 10
  · subst c1
    simp [ac45]
    simpa using hq
  rw [if_neg c1] at hq
  have b1 : (c == 10) = false := by simpa using c1
  by_cases c2 : c = 39
  · subst c2
    have he := enc_small (n := 39) (by omega) (by omega)
    rw [if_pos (.inl rfl)] at hq
    simp [ac45, w32, he]
    exact hq
  have b2 : (c == 39) = false := by simpa using c2
  by_cases c3 : c = 92
  · subst c3
    have he := enc_small (n := 92) (by omega) (by omega)
    rw [if_pos (.inr rfl)] at hq
    simp [ac45, w32, he]
    exact hq
  have b3 : (c == 92) = false := by simpa using c3
  rw [if_neg (by omega)] at hq
  have d1 : (0 : Int) ≤ c := h1
  by_cases c4 : c ≤ 126
  · by_cases c5 : 32 ≤ c
    · have he := enc_small (n := c) (by omega) (by omega)
      rw [if_pos ⟨c5, c4⟩] at hq
      have n2 : (c != 39) = true := by simpa using c2
      have n3 : (c != 92) = true := by simpa using c3
      simp [ac45, w8, b1, b2, b3, d1, c4]
      refine CallA.code (af := ac59) rfl (Nat.le_of_ble_eq_true rfl) ?_
      simp [ac59, c4, c5, n2, n3, w32, he]
      exact hq
    · rw [if_neg (by omega)] at hq
      simp [ac45, w8, b1, b2, b3, d1, c4]
      refine CallA.code (af := ac59) rfl (Nat.le_of_ble_eq_true rfl) ?_
      simp [ac59, c5]
      exact hq
  · rw [if_neg (by omega)] at hq
    simp [ac45, b1, b2, b3, d1, c4]
    exact hq

theorem quote24 (c : Int) (h1 : 0 ≤ c) (h2 : c < 256) (hq : Q (.str (letterT c)) h) : CallA ap 24 0 bs [.int .u8 c] h Q := by
  refine CallA.code (af := ac24) rfl (Nat.le_of_ble_eq_true rfl) ?_
  simp [ac24, wr64 (n := c) (by omega) (by omega)]
  refine letter45 c h1 h2 ?_
  simp
  exact hq

theorem text25 (c x : Int) (h1 : 0 ≤ c) (h2 : c < 256) (hx : IntKind.wrap .u8 x = c) (hq : Q (.tup [.str (letterT c), .bool true]) h) : CallA ap 25 0 bs [.str [112, 114, 105, 109, 67, 104, 97, 114, 83, 104, 111, 119], .int .i64 x] h Q := by
  refine CallA.code (af := ac25) rfl (Nat.le_of_ble_eq_true rfl) ?_
  simp [ac25, hx]
  refine quote24 c h1 h2 ?_
  simp
  exact hq

theorem first23 (hq : Q (.bool true) h) : CallA ap 23 0 bs [] h Q := by
  refine CallA.code (af := ac23) rfl (Nat.le_of_ble_eq_true rfl) ?_
  simp [ac23]
  refine CallA.code (af := ac29) rfl (Nat.le_of_ble_eq_true rfl) ?_
  have : IntKind.wrap .i64 (1 + 2) = 3 := by rw [wr64 (by omega) (by omega)]; rfl
  simp [ac29]
  exact hq

theorem place61 (l : List (List UInt8)) (s : List UInt8) (hs : s ∉ l) (hl : l.length < 1000000) (hq : Q (.int .i64 (-1)) h) : CallA ap 61 0 bs [.sl .frozen (l.map .str), .str s] h Q := by
  refine CallA.code (af := ac61) rfl (Nat.le_of_ble_eq_true rfl) ?_
  simp [ac61]
  obtain ⟨I, hI⟩ : ∃ I : Nat → St → Prop, ∀ n σ, I n σ ↔ (∃ i : Nat, i + n = l.length ∧ σ.r 0 = .sl .frozen (l.map .str) ∧ σ.r 1 = .str s ∧ σ.r 5 = .int .i64 i ∧ σ.h = h) := ⟨_, fun _ _ => Iff.rfl⟩
  refine loop_ind (CallA.hle ap) I ?_ (n := l.length) ((hI _ _).2 ⟨0, by simp⟩)
  rintro n ⟨r, lo, h'⟩ hst
  obtain ⟨i, hin, r0, r1, r5, rfl⟩ := (hI _ _).1 hst
  simp only at r0 r1 r5
  simp [forget, noLoc, r0, r5]
  refine condA_dec (fun c1 => ?_) fun c1 => ?_
  · have hi : i < l.length := by omega
    have g1 : (l.map V.str)[i]? = some (.str l[i]) := by simp [hi]
    have hw : IntKind.wrap .i64 ((i : Int) + 1) = ((i + 1 : Nat) : Int) := by rw [wr64 (by omega) (by omega)]; omega
    have hb : (l[i] == s) = false := by
      simp only [beq_eq_false_iff_ne, ne_eq]
      exact fun e => hs (e ▸ List.getElem_mem hi)
    simp [r0, r1, r5, hi, hb, hw]
    exact ⟨n - 1, by omega, (hI _ _).2 ⟨i + 1, by omega, by simp [r0, r1]⟩⟩
  · simp
    exact hq

def words : List (List UInt8) := [[100, 97, 116, 97], [99, 108, 97, 115, 115], [105, 110, 115, 116, 97, 110, 99, 101], [119, 104, 101, 114, 101], [108, 101, 116], [105, 110], [99, 97, 115, 101], [111, 102], [105, 102], [116, 104, 101, 110], [101, 108, 115, 101], [100, 101, 114, 105, 118, 105, 110, 103]]

theorem reserved26 (s : List UInt8) (hs : s ∉ words) (hq : Q (.bool false) h) : CallA ap 26 0 bs [.str s] h Q := by
  refine CallA.code (af := ac26) rfl (Nat.le_of_ble_eq_true rfl) ?_
  simp [ac26]
  refine CallA.code (af := ac48) rfl (Nat.le_of_ble_eq_true rfl) ?_
  simp [ac48]
  refine CallA.code (af := ac47) rfl (Nat.le_of_ble_eq_true rfl) ?_
  simp [ac47]
  refine place61 words s hs (by decide) ?_
  simp
  exact hq

end

theorem lawT (c n : Int) (h1 : 0 ≤ c) (h2 : c < 256) : CallA ap 5 0 [] [.int .u8 c, .int .i64 n] [] fun v _ => v = .bool true := by
  refine CallA.code (af := ac5) rfl (Nat.le_of_ble_eq_true rfl) ?_
  simp [ac5]
  refine first23 ?_
  simp
  refine quote24 c h1 h2 ?_
  have m1 : -1000 < n.tmod 1000 := by have := Int.lt_tmod_of_pos n (b := 1000) (by decide); omega
  have m2 : n.tmod 1000 < 1000 := Int.tmod_lt_of_pos n (by decide)
  generalize hm : n.tmod 1000 = m at m1 m2
  have wc : IntKind.wrap .i64 c = c := wr64 (by omega) (by omega)
  have wm2 : IntKind.wrap .i64 (256 * m) = 256 * m := wr64 (by omega) (by omega)
  have wm3 : IntKind.wrap .i64 (c + 256 * m) = c + 256 * m := wr64 (by omega) (by omega)
  simp [wc]
  refine text25 c c h1 h2 (by rw [wr8]; omega) ?_
  simp [wc, hm, wm2, wm3]
  refine text25 c (c + 256 * m) h1 h2 (by rw [wr8]; omega) ?_
  simp
  unfold letterT
  have hch := ch_toNat h1 h2
  by_cases c1 : c = 10
  · subst c1
    simp
  have b1 : (c == 10) = false := by simpa using c1
  rw [if_neg c1]
  by_cases c2 : c = 39
  · subst c2
    simp [hch]
  have b2 : (c == 39) = false := by simpa using c2
  by_cases c3 : c = 92
  · subst c3
    simp [hch]
  have b3 : (c == 92) = false := by simpa using c3
  rw [if_neg (by omega)]
  by_cases c4 : 32 ≤ c ∧ c ≤ 126
  · rw [if_pos c4]
    have d1 := c4.1
    have d2 := c4.2
    simp [b1, b2, b3, d1, d2, hch]
    refine reserved26 [39, ch c, 39] (by simp [words]) ?_
    simp
  · rw [if_neg c4]
    by_cases c5 : 32 ≤ c
    · have c6 : ¬ c ≤ 126 := fun h => c4 ⟨c5, h⟩
      simp [b1, b2, b3, c5, c6]
    · simp [b1, b2, b3, c5]

end Go.Et
