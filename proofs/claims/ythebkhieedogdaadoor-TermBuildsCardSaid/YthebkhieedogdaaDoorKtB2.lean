/- The law TermBuilds on the abstract machine. -/
import Derived.Test.YthebkhieedogdaaDoorKtOv
namespace Go.Kt
open Go.Am Go.Proofs
set_option maxRecDepth 100000
set_option maxHeartbeats 8000000

theorem wr64 {n : Int} (h1 : -9223372036854775808 ≤ n) (h2 : n < 9223372036854775808) : IntKind.wrap .i64 n = n := by
  show (if (true && decide (n % 18446744073709551616 ≥ 9223372036854775808)) = true then n % 18446744073709551616 - 18446744073709551616 else n % 18446744073709551616) = n
  simp only [Bool.true_and, decide_eq_true_eq]
  split <;> omega

theorem mod_cases {m : Int} (hm : 0 < m) (h3 : m < 1000) (n : Int) : ∃ k : Nat, (k : Int) < m ∧ (IntKind.wrap .i64 (n.tmod m + m)).tmod m = k := by
  have h1 : n.tmod m < m := Int.tmod_lt_of_pos n hm
  have h2 : -m < n.tmod m := Int.lt_tmod_of_pos n hm
  rw [wr64 (by omega) (by omega)]
  have h4 := Int.tmod_lt_of_pos (n.tmod m + m) hm
  have h5 := Int.tmod_nonneg m (show 0 ≤ n.tmod m + m by omega)
  exact ⟨((n.tmod m + m).tmod m).toNat, by omega, by omega⟩

section
variable {bs : List Nat} {h : List Ob} {Q : V → List Ob → Prop}

def num (n k : Int) : Int := if n.tmod k < 0 then n.tmod k + k else n.tmod k

theorem num_bound {n k : Int} (hk : 0 < k) : 0 ≤ num n k ∧ num n k < k := by
  have h1 : n.tmod k < k := Int.tmod_lt_of_pos n hk
  have h2 : -k < n.tmod k := Int.lt_tmod_of_pos n hk
  unfold num
  split <;> omega

theorem numberB (n k : Int) (hk : 0 < k) (hk2 : k < 1000) (hq : Q (.int .i64 (num n k)) h) : CallA ap 35 0 bs [.int .i64 n, .int .i64 k] h Q := by
  refine CallA.code (af := ac35) rfl (Nat.le_of_ble_eq_true rfl) ?_
  have h0 : k ≠ 0 := by omega
  have h1 : n.tmod k < k := Int.tmod_lt_of_pos n hk
  have h2 : -k < n.tmod k := Int.lt_tmod_of_pos n hk
  simp [ac35, h0]
  refine condA_dec (fun h3 => ?_) fun h3 => ?_
  · simp
    rw [wr64 (by omega) (by omega)]
    simpa [num, h3] using hq
  · simp
    simpa [num, h3] using hq

/-- The seq's cells. -/
def seqB (t : Tag) (l : List Int) (i : Int) : Ob := .box [.sl t (l.map (.int .i64)), .int .i64 i]

theorem nextB (t : Tag) (l : List Int) (i k : Int) (p : Nat) (hp : h[p]? = some (seqB t l i)) (h1 : 0 ≤ i) (h2 : i < 1000000) (hk : 0 < k) (hk2 : k < 1000)
    (hq : ∀ n : Int, 0 ≤ n → n < k → Q (.int .i64 n) (h.set p (seqB t l (i + 1)))) : CallA ap 16 0 bs [.ptr p 0, .int .i64 k] h Q := by
  refine CallA.code (af := ac16) rfl (Nat.le_of_ble_eq_true rfl) ?_
  have hpl : p < h.length := (List.getElem?_eq_some_iff.1 hp).1
  simp [ac16, hp, seqB]
  have hi : IntKind.wrap .i64 (i + 1) = i + 1 := wr64 (by omega) (by omega)
  have fin : ∀ n : Int, Q (.int .i64 (num n k)) (h.set p (.box [.sl t (l.map (.int .i64)), .int .i64 (i + 1)])) := fun n => hq _ (num_bound hk).1 (num_bound hk).2
  refine condA_dec (fun h3 => ?_) fun h3 => ?_
  · have h4 : i.toNat < l.length := by omega
    simp [hp, seqB, h1, h4, splice, okStore, hi]
    refine numberB _ _ hk hk2 ?_
    simpa [List.take_of_length_le] using fin _
  · simp [hp, seqB, splice, okStore, hi]
    refine numberB _ _ hk hk2 ?_
    simpa [List.take_of_length_le] using fin _

def tvB (s : List UInt8) : V := .agg [.int .i64 1, .str s, .int .i64 0, .int .i64 0, .str [], .sl .frozen [], .sl .frozen [], .sl .frozen [], .sl .frozen []]
theorem tvarB (s : List UInt8) (hq : Q (tvB s) h) : CallA ap 14 0 bs [.str s] h Q := by
  refine CallA.code (af := ac14) rfl (Nat.le_of_ble_eq_true rfl) ?_
  simp [ac14, splice]
  exact hq

end

def hdA : AC → AC
  | .seq a _ => a
  | c => c
def tlA : Nat → AC → AC
  | 0, c => c
  | n + 1, .seq _ b => tlA n b
  | _, c => c
def r8B : AC := tlA 8 rest5
theorem spine : rest5 = .seq (hdA (tlA 0 rest5)) (.seq (hdA (tlA 1 rest5)) (.seq (hdA (tlA 2 rest5)) (.seq (hdA (tlA 3 rest5))
    (.seq (hdA (tlA 4 rest5)) (.seq (hdA (tlA 5 rest5)) (.seq (hdA (tlA 6 rest5)) (.seq (hdA (tlA 7 rest5)) r8B))))))) := by kernel_rfl

theorem conB (s : List UInt8) (bs : List Nat) (h : List Ob) (Q : V → List Ob → Prop) (hq : Q (.agg [.int .i64 2, .str s, .sl .frozen []]) h) : CallA ap 15 0 bs [.str s, .sl .frozen []] h Q := by
  refine CallA.code (af := ac15) rfl (Nat.le_of_ble_eq_true rfl) ?_
  simp [ac15, splice]
  exact hq

theorem w1 : IntKind.wrap .i64 1 = 1 := wr64 (by omega) (by omega)
theorem w2 : IntKind.wrap .i64 2 = 2 := wr64 (by omega) (by omega)
theorem w3 : IntKind.wrap .i64 3 = 3 := wr64 (by omega) (by omega)

theorem termBuilds (l : List Int) (n : Int) : CallA ap 5 0 [] [.sl .frozen (l.map (.int .i64)), .int .i64 n] [] fun v _ => v = .bool true := by
  refine CallA.code (af := ac5) rfl (Nat.le_of_ble_eq_true rfl) ?_
  simp [ac5]
  refine runsO ov_ok 3000 (v := .bool true) (h' := []) (by kernel_rfl) ?_
  simp
  by_cases hl : (100 : Int) < l.length
  · simp [hl]
  obtain ⟨k, hk, e⟩ := mod_cases (m := 4) (by decide) (by decide) n
  simp [hl, mid5, e]
  clear hl
  have hk' : k = 0 ∨ k = 1 ∨ k = 2 ∨ k = 3 := by omega
  clear hk e
  rcases hk' with rfl | rfl | rfl | rfl
  · refine restO_true ov_ok 3000 ?_
    as_aux_lemma => kernel_rfl
  · rw [spine]
    simp [hdA, tlA, rest5, splice]
    refine tvarB _ ?_
    simp [tvB, splice, sliceV, bnd]
    refine wpA_loop (CallA.hle ap) ?_
    simp [forget, noLoc, locOf]
    refine tvarB _ ?_
    simp [tvB, lim]
    refine nextB .frozen l 0 3 0 (by simp [seqB]) (by decide) (by decide) (by decide) (by decide) fun m hm1 hm2 => ?_
    have hm : m = 0 ∨ m = 1 ∨ m = 2 := by omega
    clear hm1 hm2
    rcases hm with rfl | rfl | rfl
    · simp [seqB]
      refine conB _ _ _ _ ?_
      simp [lim, w1]
      refine wpA_loop (CallA.hle ap) ?_
      simp [forget, noLoc, locOf]
      refine restO_true ov_ok 3000 ?_
      as_aux_lemma => kernel_rfl
    · simp [seqB]
      refine conB _ _ _ _ ?_
      simp [lim, w1]
      refine wpA_loop (CallA.hle ap) ?_
      simp [forget, noLoc, locOf]
      refine restO_true ov_ok 3000 ?_
      as_aux_lemma => kernel_rfl
    · simp [seqB]
      refine conB _ _ _ _ ?_
      simp [lim, w1]
      refine wpA_loop (CallA.hle ap) ?_
      simp [forget, noLoc, locOf]
      refine restO_true ov_ok 3000 ?_
      as_aux_lemma => kernel_rfl
  · rw [spine]
    simp [hdA, tlA, rest5, splice]
    refine tvarB _ ?_
    simp [tvB, splice, sliceV, bnd]
    refine wpA_loop (CallA.hle ap) ?_
    simp [forget, noLoc, locOf]
    refine tvarB _ ?_
    simp [tvB, lim]
    refine nextB .frozen l 0 3 0 (by simp [seqB]) (by decide) (by decide) (by decide) (by decide) fun m hm1 hm2 => ?_
    have hm : m = 0 ∨ m = 1 ∨ m = 2 := by omega
    clear hm1 hm2
    rcases hm with rfl | rfl | rfl
    · simp [seqB]
      refine conB _ _ _ _ ?_
      simp [lim, w1]
      refine wpA_loop (CallA.hle ap) ?_
      simp [forget, noLoc, locOf]
      refine tvarB _ ?_
      simp [tvB, lim]
      refine nextB .frozen l 1 3 0 (by simp [seqB]) (by decide) (by decide) (by decide) (by decide) fun m hm1 hm2 => ?_
      have hm : m = 0 ∨ m = 1 ∨ m = 2 := by omega
      clear hm1 hm2
      rcases hm with rfl | rfl | rfl
      · simp [seqB]
        refine conB _ _ _ _ ?_
        simp [lim, w2]
        refine wpA_loop (CallA.hle ap) ?_
        simp [forget, noLoc, locOf]
        refine restO_true ov_ok 3000 ?_
        as_aux_lemma => kernel_rfl
      · simp [seqB]
        refine conB _ _ _ _ ?_
        simp [lim, w2]
        refine wpA_loop (CallA.hle ap) ?_
        simp [forget, noLoc, locOf]
        refine restO_true ov_ok 3000 ?_
        as_aux_lemma => kernel_rfl
      · simp [seqB]
        refine conB _ _ _ _ ?_
        simp [lim, w2]
        refine wpA_loop (CallA.hle ap) ?_
        simp [forget, noLoc, locOf]
        refine restO_true ov_ok 3000 ?_
        as_aux_lemma => kernel_rfl
    · simp [seqB]
      refine conB _ _ _ _ ?_
      simp [lim, w1]
      refine wpA_loop (CallA.hle ap) ?_
      simp [forget, noLoc, locOf]
      refine tvarB _ ?_
      simp [tvB, lim]
      refine nextB .frozen l 1 3 0 (by simp [seqB]) (by decide) (by decide) (by decide) (by decide) fun m hm1 hm2 => ?_
      have hm : m = 0 ∨ m = 1 ∨ m = 2 := by omega
      clear hm1 hm2
      rcases hm with rfl | rfl | rfl
      · simp [seqB]
        refine conB _ _ _ _ ?_
        simp [lim, w2]
        refine wpA_loop (CallA.hle ap) ?_
        simp [forget, noLoc, locOf]
        refine restO_true ov_ok 3000 ?_
        as_aux_lemma => kernel_rfl
      · simp [seqB]
        refine conB _ _ _ _ ?_
        simp [lim, w2]
        refine wpA_loop (CallA.hle ap) ?_
        simp [forget, noLoc, locOf]
        refine restO_true ov_ok 3000 ?_
        as_aux_lemma => kernel_rfl
      · simp [seqB]
        refine conB _ _ _ _ ?_
        simp [lim, w2]
        refine wpA_loop (CallA.hle ap) ?_
        simp [forget, noLoc, locOf]
        refine restO_true ov_ok 3000 ?_
        as_aux_lemma => kernel_rfl
    · simp [seqB]
      refine conB _ _ _ _ ?_
      simp [lim, w1]
      refine wpA_loop (CallA.hle ap) ?_
      simp [forget, noLoc, locOf]
      refine tvarB _ ?_
      simp [tvB, lim]
      refine nextB .frozen l 1 3 0 (by simp [seqB]) (by decide) (by decide) (by decide) (by decide) fun m hm1 hm2 => ?_
      have hm : m = 0 ∨ m = 1 ∨ m = 2 := by omega
      clear hm1 hm2
      rcases hm with rfl | rfl | rfl
      · simp [seqB]
        refine conB _ _ _ _ ?_
        simp [lim, w2]
        refine wpA_loop (CallA.hle ap) ?_
        simp [forget, noLoc, locOf]
        refine restO_true ov_ok 3000 ?_
        as_aux_lemma => kernel_rfl
      · simp [seqB]
        refine conB _ _ _ _ ?_
        simp [lim, w2]
        refine wpA_loop (CallA.hle ap) ?_
        simp [forget, noLoc, locOf]
        refine restO_true ov_ok 3000 ?_
        as_aux_lemma => kernel_rfl
      · simp [seqB]
        refine conB _ _ _ _ ?_
        simp [lim, w2]
        refine wpA_loop (CallA.hle ap) ?_
        simp [forget, noLoc, locOf]
        refine restO_true ov_ok 3000 ?_
        as_aux_lemma => kernel_rfl
  · rw [spine]
    simp [hdA, tlA, rest5, splice]
    refine tvarB _ ?_
    simp [tvB, splice, sliceV, bnd]
    refine wpA_loop (CallA.hle ap) ?_
    simp [forget, noLoc, locOf]
    refine tvarB _ ?_
    simp [tvB, lim]
    refine nextB .frozen l 0 3 0 (by simp [seqB]) (by decide) (by decide) (by decide) (by decide) fun m hm1 hm2 => ?_
    have hm : m = 0 ∨ m = 1 ∨ m = 2 := by omega
    clear hm1 hm2
    rcases hm with rfl | rfl | rfl
    · simp [seqB]
      refine conB _ _ _ _ ?_
      simp [lim, w1]
      refine wpA_loop (CallA.hle ap) ?_
      simp [forget, noLoc, locOf]
      refine tvarB _ ?_
      simp [tvB, lim]
      refine nextB .frozen l 1 3 0 (by simp [seqB]) (by decide) (by decide) (by decide) (by decide) fun m hm1 hm2 => ?_
      have hm : m = 0 ∨ m = 1 ∨ m = 2 := by omega
      clear hm1 hm2
      rcases hm with rfl | rfl | rfl
      · simp [seqB]
        refine conB _ _ _ _ ?_
        simp [lim, w2]
        refine wpA_loop (CallA.hle ap) ?_
        simp [forget, noLoc, locOf]
        refine tvarB _ ?_
        simp [tvB, lim]
        refine nextB .frozen l 2 3 0 (by simp [seqB]) (by decide) (by decide) (by decide) (by decide) fun m hm1 hm2 => ?_
        have hm : m = 0 ∨ m = 1 ∨ m = 2 := by omega
        clear hm1 hm2
        rcases hm with rfl | rfl | rfl
        · simp [seqB]
          refine conB _ _ _ _ ?_
          simp [lim, w3]
          refine wpA_loop (CallA.hle ap) ?_
          simp [forget, noLoc, locOf]
          refine restO_true ov_ok 3000 ?_
          as_aux_lemma => kernel_rfl
        · simp [seqB]
          refine conB _ _ _ _ ?_
          simp [lim, w3]
          refine wpA_loop (CallA.hle ap) ?_
          simp [forget, noLoc, locOf]
          refine restO_true ov_ok 3000 ?_
          as_aux_lemma => kernel_rfl
        · simp [seqB]
          refine conB _ _ _ _ ?_
          simp [lim, w3]
          refine wpA_loop (CallA.hle ap) ?_
          simp [forget, noLoc, locOf]
          refine restO_true ov_ok 3000 ?_
          as_aux_lemma => kernel_rfl
      · simp [seqB]
        refine conB _ _ _ _ ?_
        simp [lim, w2]
        refine wpA_loop (CallA.hle ap) ?_
        simp [forget, noLoc, locOf]
        refine tvarB _ ?_
        simp [tvB, lim]
        refine nextB .frozen l 2 3 0 (by simp [seqB]) (by decide) (by decide) (by decide) (by decide) fun m hm1 hm2 => ?_
        have hm : m = 0 ∨ m = 1 ∨ m = 2 := by omega
        clear hm1 hm2
        rcases hm with rfl | rfl | rfl
        · simp [seqB]
          refine conB _ _ _ _ ?_
          simp [lim, w3]
          refine wpA_loop (CallA.hle ap) ?_
          simp [forget, noLoc, locOf]
          refine restO_true ov_ok 3000 ?_
          as_aux_lemma => kernel_rfl
        · simp [seqB]
          refine conB _ _ _ _ ?_
          simp [lim, w3]
          refine wpA_loop (CallA.hle ap) ?_
          simp [forget, noLoc, locOf]
          refine restO_true ov_ok 3000 ?_
          as_aux_lemma => kernel_rfl
        · simp [seqB]
          refine conB _ _ _ _ ?_
          simp [lim, w3]
          refine wpA_loop (CallA.hle ap) ?_
          simp [forget, noLoc, locOf]
          refine restO_true ov_ok 3000 ?_
          as_aux_lemma => kernel_rfl
      · simp [seqB]
        refine conB _ _ _ _ ?_
        simp [lim, w2]
        refine wpA_loop (CallA.hle ap) ?_
        simp [forget, noLoc, locOf]
        refine tvarB _ ?_
        simp [tvB, lim]
        refine nextB .frozen l 2 3 0 (by simp [seqB]) (by decide) (by decide) (by decide) (by decide) fun m hm1 hm2 => ?_
        have hm : m = 0 ∨ m = 1 ∨ m = 2 := by omega
        clear hm1 hm2
        rcases hm with rfl | rfl | rfl
        · simp [seqB]
          refine conB _ _ _ _ ?_
          simp [lim, w3]
          refine wpA_loop (CallA.hle ap) ?_
          simp [forget, noLoc, locOf]
          refine restO_true ov_ok 3000 ?_
          as_aux_lemma => kernel_rfl
        · simp [seqB]
          refine conB _ _ _ _ ?_
          simp [lim, w3]
          refine wpA_loop (CallA.hle ap) ?_
          simp [forget, noLoc, locOf]
          refine restO_true ov_ok 3000 ?_
          as_aux_lemma => kernel_rfl
        · simp [seqB]
          refine conB _ _ _ _ ?_
          simp [lim, w3]
          refine wpA_loop (CallA.hle ap) ?_
          simp [forget, noLoc, locOf]
          refine restO_true ov_ok 3000 ?_
          as_aux_lemma => kernel_rfl
    · simp [seqB]
      refine conB _ _ _ _ ?_
      simp [lim, w1]
      refine wpA_loop (CallA.hle ap) ?_
      simp [forget, noLoc, locOf]
      refine tvarB _ ?_
      simp [tvB, lim]
      refine nextB .frozen l 1 3 0 (by simp [seqB]) (by decide) (by decide) (by decide) (by decide) fun m hm1 hm2 => ?_
      have hm : m = 0 ∨ m = 1 ∨ m = 2 := by omega
      clear hm1 hm2
      rcases hm with rfl | rfl | rfl
      · simp [seqB]
        refine conB _ _ _ _ ?_
        simp [lim, w2]
        refine wpA_loop (CallA.hle ap) ?_
        simp [forget, noLoc, locOf]
        refine tvarB _ ?_
        simp [tvB, lim]
        refine nextB .frozen l 2 3 0 (by simp [seqB]) (by decide) (by decide) (by decide) (by decide) fun m hm1 hm2 => ?_
        have hm : m = 0 ∨ m = 1 ∨ m = 2 := by omega
        clear hm1 hm2
        rcases hm with rfl | rfl | rfl
        · simp [seqB]
          refine conB _ _ _ _ ?_
          simp [lim, w3]
          refine wpA_loop (CallA.hle ap) ?_
          simp [forget, noLoc, locOf]
          refine restO_true ov_ok 3000 ?_
          as_aux_lemma => kernel_rfl
        · simp [seqB]
          refine conB _ _ _ _ ?_
          simp [lim, w3]
          refine wpA_loop (CallA.hle ap) ?_
          simp [forget, noLoc, locOf]
          refine restO_true ov_ok 3000 ?_
          as_aux_lemma => kernel_rfl
        · simp [seqB]
          refine conB _ _ _ _ ?_
          simp [lim, w3]
          refine wpA_loop (CallA.hle ap) ?_
          simp [forget, noLoc, locOf]
          refine restO_true ov_ok 3000 ?_
          as_aux_lemma => kernel_rfl
      · simp [seqB]
        refine conB _ _ _ _ ?_
        simp [lim, w2]
        refine wpA_loop (CallA.hle ap) ?_
        simp [forget, noLoc, locOf]
        refine tvarB _ ?_
        simp [tvB, lim]
        refine nextB .frozen l 2 3 0 (by simp [seqB]) (by decide) (by decide) (by decide) (by decide) fun m hm1 hm2 => ?_
        have hm : m = 0 ∨ m = 1 ∨ m = 2 := by omega
        clear hm1 hm2
        rcases hm with rfl | rfl | rfl
        · simp [seqB]
          refine conB _ _ _ _ ?_
          simp [lim, w3]
          refine wpA_loop (CallA.hle ap) ?_
          simp [forget, noLoc, locOf]
          refine restO_true ov_ok 3000 ?_
          as_aux_lemma => kernel_rfl
        · simp [seqB]
          refine conB _ _ _ _ ?_
          simp [lim, w3]
          refine wpA_loop (CallA.hle ap) ?_
          simp [forget, noLoc, locOf]
          refine restO_true ov_ok 3000 ?_
          as_aux_lemma => kernel_rfl
        · simp [seqB]
          refine conB _ _ _ _ ?_
          simp [lim, w3]
          refine wpA_loop (CallA.hle ap) ?_
          simp [forget, noLoc, locOf]
          refine restO_true ov_ok 3000 ?_
          as_aux_lemma => kernel_rfl
      · simp [seqB]
        refine conB _ _ _ _ ?_
        simp [lim, w2]
        refine wpA_loop (CallA.hle ap) ?_
        simp [forget, noLoc, locOf]
        refine tvarB _ ?_
        simp [tvB, lim]
        refine nextB .frozen l 2 3 0 (by simp [seqB]) (by decide) (by decide) (by decide) (by decide) fun m hm1 hm2 => ?_
        have hm : m = 0 ∨ m = 1 ∨ m = 2 := by omega
        clear hm1 hm2
        rcases hm with rfl | rfl | rfl
        · simp [seqB]
          refine conB _ _ _ _ ?_
          simp [lim, w3]
          refine wpA_loop (CallA.hle ap) ?_
          simp [forget, noLoc, locOf]
          refine restO_true ov_ok 3000 ?_
          as_aux_lemma => kernel_rfl
        · simp [seqB]
          refine conB _ _ _ _ ?_
          simp [lim, w3]
          refine wpA_loop (CallA.hle ap) ?_
          simp [forget, noLoc, locOf]
          refine restO_true ov_ok 3000 ?_
          as_aux_lemma => kernel_rfl
        · simp [seqB]
          refine conB _ _ _ _ ?_
          simp [lim, w3]
          refine wpA_loop (CallA.hle ap) ?_
          simp [forget, noLoc, locOf]
          refine restO_true ov_ok 3000 ?_
          as_aux_lemma => kernel_rfl
    · simp [seqB]
      refine conB _ _ _ _ ?_
      simp [lim, w1]
      refine wpA_loop (CallA.hle ap) ?_
      simp [forget, noLoc, locOf]
      refine tvarB _ ?_
      simp [tvB, lim]
      refine nextB .frozen l 1 3 0 (by simp [seqB]) (by decide) (by decide) (by decide) (by decide) fun m hm1 hm2 => ?_
      have hm : m = 0 ∨ m = 1 ∨ m = 2 := by omega
      clear hm1 hm2
      rcases hm with rfl | rfl | rfl
      · simp [seqB]
        refine conB _ _ _ _ ?_
        simp [lim, w2]
        refine wpA_loop (CallA.hle ap) ?_
        simp [forget, noLoc, locOf]
        refine tvarB _ ?_
        simp [tvB, lim]
        refine nextB .frozen l 2 3 0 (by simp [seqB]) (by decide) (by decide) (by decide) (by decide) fun m hm1 hm2 => ?_
        have hm : m = 0 ∨ m = 1 ∨ m = 2 := by omega
        clear hm1 hm2
        rcases hm with rfl | rfl | rfl
        · simp [seqB]
          refine conB _ _ _ _ ?_
          simp [lim, w3]
          refine wpA_loop (CallA.hle ap) ?_
          simp [forget, noLoc, locOf]
          refine restO_true ov_ok 3000 ?_
          as_aux_lemma => kernel_rfl
        · simp [seqB]
          refine conB _ _ _ _ ?_
          simp [lim, w3]
          refine wpA_loop (CallA.hle ap) ?_
          simp [forget, noLoc, locOf]
          refine restO_true ov_ok 3000 ?_
          as_aux_lemma => kernel_rfl
        · simp [seqB]
          refine conB _ _ _ _ ?_
          simp [lim, w3]
          refine wpA_loop (CallA.hle ap) ?_
          simp [forget, noLoc, locOf]
          refine restO_true ov_ok 3000 ?_
          as_aux_lemma => kernel_rfl
      · simp [seqB]
        refine conB _ _ _ _ ?_
        simp [lim, w2]
        refine wpA_loop (CallA.hle ap) ?_
        simp [forget, noLoc, locOf]
        refine tvarB _ ?_
        simp [tvB, lim]
        refine nextB .frozen l 2 3 0 (by simp [seqB]) (by decide) (by decide) (by decide) (by decide) fun m hm1 hm2 => ?_
        have hm : m = 0 ∨ m = 1 ∨ m = 2 := by omega
        clear hm1 hm2
        rcases hm with rfl | rfl | rfl
        · simp [seqB]
          refine conB _ _ _ _ ?_
          simp [lim, w3]
          refine wpA_loop (CallA.hle ap) ?_
          simp [forget, noLoc, locOf]
          refine restO_true ov_ok 3000 ?_
          as_aux_lemma => kernel_rfl
        · simp [seqB]
          refine conB _ _ _ _ ?_
          simp [lim, w3]
          refine wpA_loop (CallA.hle ap) ?_
          simp [forget, noLoc, locOf]
          refine restO_true ov_ok 3000 ?_
          as_aux_lemma => kernel_rfl
        · simp [seqB]
          refine conB _ _ _ _ ?_
          simp [lim, w3]
          refine wpA_loop (CallA.hle ap) ?_
          simp [forget, noLoc, locOf]
          refine restO_true ov_ok 3000 ?_
          as_aux_lemma => kernel_rfl
      · simp [seqB]
        refine conB _ _ _ _ ?_
        simp [lim, w2]
        refine wpA_loop (CallA.hle ap) ?_
        simp [forget, noLoc, locOf]
        refine tvarB _ ?_
        simp [tvB, lim]
        refine nextB .frozen l 2 3 0 (by simp [seqB]) (by decide) (by decide) (by decide) (by decide) fun m hm1 hm2 => ?_
        have hm : m = 0 ∨ m = 1 ∨ m = 2 := by omega
        clear hm1 hm2
        rcases hm with rfl | rfl | rfl
        · simp [seqB]
          refine conB _ _ _ _ ?_
          simp [lim, w3]
          refine wpA_loop (CallA.hle ap) ?_
          simp [forget, noLoc, locOf]
          refine restO_true ov_ok 3000 ?_
          as_aux_lemma => kernel_rfl
        · simp [seqB]
          refine conB _ _ _ _ ?_
          simp [lim, w3]
          refine wpA_loop (CallA.hle ap) ?_
          simp [forget, noLoc, locOf]
          refine restO_true ov_ok 3000 ?_
          as_aux_lemma => kernel_rfl
        · simp [seqB]
          refine conB _ _ _ _ ?_
          simp [lim, w3]
          refine wpA_loop (CallA.hle ap) ?_
          simp [forget, noLoc, locOf]
          refine restO_true ov_ok 3000 ?_
          as_aux_lemma => kernel_rfl

end Go.Kt
