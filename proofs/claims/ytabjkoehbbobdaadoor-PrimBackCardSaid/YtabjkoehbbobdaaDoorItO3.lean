/- A number's digits: plain law; they are read as that number; a letter that is written is read as that letter: on the abstract machine. -/
import Derived.Test.YtabjkoehbbobdaaDoorItO
namespace Go.It
open Go.Am Go.Proofs
set_option maxRecDepth 100000

/-- What digits come to. -/
def valD (d : List UInt8) : Int := d.foldl (fun v b => 10 * v + ((b.toNat : Int) - 48)) 0
def isD (b : UInt8) : Prop := 48 ≤ b.toNat ∧ b.toNat ≤ 57

theorem valD_snoc (d : List UInt8) (b : UInt8) : valD (d ++ [b]) = 10 * valD d + ((b.toNat : Int) - 48) := by simp [valD, List.foldl_append]

theorem dg_toNat {k : Nat} (h : k < 10) : (UInt8.ofNat (48 + k)).toNat = 48 + k := by rw [UInt8.toNat_ofNat']; omega

theorem digits_facts : ∀ (m u : Nat), u < 10 ^ m → (∀ b ∈ Lib.decDigits u, isD b) ∧ valD (Lib.decDigits u) = u ∧ 1 ≤ (Lib.decDigits u).length ∧ (Lib.decDigits u).length ≤ max m 1 := by
  intro m
  induction m with
  | zero =>
    intro u h
    have : u = 0 := by simpa using h
    subst this
    rw [Lib.decDigits, dif_pos (by omega)]
    exact ⟨fun b hb => by simp at hb; subst hb; exact ⟨by decide, by decide⟩, by simp [valD], by simp, by simp⟩
  | succ m ih =>
    intro u h
    rw [Lib.decDigits]
    split
    · rename_i h1
      refine ⟨fun b hb => ?_, ?_, by simp, by simp <;> omega⟩
      · simp only [List.mem_singleton] at hb; subst hb; unfold isD; rw [dg_toNat h1]; omega
      · simp only [valD, List.foldl_cons, List.foldl_nil, dg_toNat h1]; omega
    · rename_i h1
      have hm : m ≠ 0 := fun e => by subst e; simp at h; omega
      obtain ⟨g1, g2, g3, g4⟩ := ih (u / 10) (by rw [Nat.pow_succ] at h; omega)
      refine ⟨fun b hb => ?_, ?_, by simp, by simp; omega⟩
      · rcases List.mem_append.1 hb with hb | hb
        · exact g1 b hb
        · simp only [List.mem_singleton] at hb; subst hb; unfold isD; rw [dg_toNat (by omega)]; omega
      · rw [valD_snoc, g2, dg_toNat (by omega)]; omega

theorem valD_le : ∀ (d : List UInt8), (∀ b ∈ d, isD b) → 0 ≤ valD d ∧ valD d < 10 ^ d.length := by
  intro d hd
  obtain ⟨l, rfl⟩ : ∃ l : List UInt8, d = l.reverse := ⟨d.reverse, by simp⟩
  induction l with
  | nil => simp [valD]
  | cons b l ih =>
    have hb := hd b (by simp)
    obtain ⟨h1, h2⟩ := ih fun c hc => hd c (by simp at hc ⊢; first | exact .inl hc | exact .inr hc)
    rw [List.reverse_cons, valD_snoc, List.length_append, List.length_singleton, Int.pow_succ]
    unfold isD at hb
    omega

theorem bytes_text (t : Tag) : ∀ d : List UInt8, bytesV (.sl t (d.map fun b => .int .u8 (b.toNat : Int))) = some d
  | [] => by simp [bytesV]
  | b :: d => by
    have e := bytes_text t d
    simp only [List.map_cons, bytesV, e, Option.map_some]
    simp

/-- As values. -/
def byV (d : List UInt8) : List V := d.map fun b => .int .u8 (b.toNat : Int)
theorem byV_len (d : List UInt8) : (byV d).length = d.length := by simp [byV]
theorem byV_get (d : List UInt8) (i : Nat) (h : i < (byV d).length) : (byV d)[i] = .int .u8 ((d[i]'(by simpa [byV_len] using h)).toNat : Int) := by simp [byV]
theorem byV_dem (d : List UInt8) : demoteL (byV d) = byV d := by rw [demoteL_eq, byV, List.map_map]; rfl
theorem byV_all (d : List UInt8) : (byV d).take d.length = byV d := List.take_of_length_le (by rw [byV_len]; exact Nat.le_refl _)
theorem byV_take (d : List UInt8) (n : Nat) : (byV d).take n = byV (d.take n) := by simp [byV, List.map_take]

section
variable {bs : List Nat} {h : List Ob} {Q : V → List Ob → Prop}

theorem small56 (c : Int) (h1 : 48 ≤ c) (h2 : c ≤ 57) (hq : Q (.bool false) h) : CallA ap 56 0 bs [.int .u8 c] h Q := by
  refine CallA.code (af := ac56) rfl (Nat.le_of_ble_eq_true rfl) ?_
  have a1 : ¬ (97 : Int) ≤ c := by omega
  have a2 : (c == 95) = false := by simp; omega
  simp [ac56, a1, a2]
  exact hq
theorem great57 (c : Int) (h1 : 48 ≤ c) (h2 : c ≤ 57) (hq : Q (.bool false) h) : CallA ap 57 0 bs [.int .u8 c] h Q := by
  refine CallA.code (af := ac57) rfl (Nat.le_of_ble_eq_true rfl) ?_
  have a1 : ¬ (65 : Int) ≤ c := by omega
  simp [ac57, a1]
  exact hq
theorem digit60 (c : Int) (h1 : 48 ≤ c) (h2 : c ≤ 57) (hq : Q (.bool true) h) : CallA ap 60 0 bs [.int .u8 c] h Q := by
  refine CallA.code (af := ac60) rfl (Nat.le_of_ble_eq_true rfl) ?_
  simp [ac60, h1, h2]
  exact hq

theorem word48 (d : List UInt8) (hd : ∀ b ∈ d, isD b) (hl1 : 1 ≤ d.length) (hl2 : d.length ≤ 15) (hq : Q (.tup [.agg [.int .i64 3, .int .i64 0, .str d, .int .i64 (valD d)], .int .i64 d.length]) h) : CallA ap 48 0 bs [.sl .frozen (byV d)] h Q := by
  refine CallA.code (af := ac48) rfl (Nat.le_of_ble_eq_true rfl) ?_
  have h0 : 0 < (byV d).length := by rw [byV_len]; omega
  have d0 : 0 < d.length := by omega
  obtain ⟨b1, b2⟩ := hd d[0] (List.getElem_mem d0)
  simp [ac48, byV_len, byV_get, d0]
  refine small56 _ (by omega) (by omega) ?_
  simp [byV_len, byV_get, d0]
  refine great57 _ (by omega) (by omega) ?_
  simp [byV_len, byV_get, d0]
  refine digit60 _ (by omega) (by omega) ?_
  simp [byV_len, byV_get, d0]
  obtain ⟨I, hI⟩ : ∃ I : Nat → St → Prop, ∀ n s, I n s ↔ (∃ i : Nat, i + n = d.length ∧ 1 ≤ i ∧ s.r 0 = .sl .frozen (byV d) ∧ s.r 5 = .int .i64 i ∧ s.r 2 = .loc 2 0 ∧ s.l 2 = some [.int .i64 0, .int .i64 0, .str [], .int .i64 0] ∧ s.h = h) := ⟨_, fun _ _ => Iff.rfl⟩
  refine loop_ind (CallA.hle ap) I ?_ (n := d.length - 1) ((hI _ _).2 ⟨1, by omega, by simp⟩)
  rintro n ⟨r, lo, h'⟩ hst
  obtain ⟨i, hin, hi1, r0, r5, r2, l2, rfl⟩ := (hI _ _).1 hst
  simp only at r0 r5 r2 l2
  by_cases c1 : i < d.length
  · have hw : IntKind.wrap .i64 ((i : Int) + 1) = ((i + 1 : Nat) : Int) := by rw [wr64 (by omega) (by omega)]; omega
    obtain ⟨b1, b2⟩ := hd d[i] (List.getElem_mem c1)
    simp [forget, noLoc, locOf, r0, r5, r2, l2, byV_len, byV_get, c1]
    refine digit60 _ (by omega) (by omega) ?_
    simp [r0, r5, r2, l2, hw]
    exact ⟨n - 1, by omega, (hI _ _).2 ⟨i + 1, by omega, by omega, by simp [r0, r2, l2]⟩⟩
  · have hi : i = d.length := by omega
    have hni : ¬ (15 : Int) < i := by omega
    simp [forget, noLoc, locOf, r0, r5, r2, l2, byV_len, c1, hni]
    clear hst hI hin
    obtain ⟨I2, hI2⟩ : ∃ I : Nat → St → Prop, ∀ n s, I n s ↔ (∃ j : Nat, j + n = d.length ∧ s.r 0 = .sl .frozen (byV d) ∧ s.r 5 = .int .i64 d.length ∧ s.r 8 = .int .i64 (valD (d.take j)) ∧ s.r 9 = .int .i64 j ∧ s.r 2 = .loc 2 0 ∧ s.l 2 = some [.int .i64 0, .int .i64 0, .str [], .int .i64 0] ∧ s.h = h') := ⟨_, fun _ _ => Iff.rfl⟩
    refine loop_ind (CallA.hle ap) I2 ?_ (n := d.length) ((hI2 _ _).2 ⟨0, by simp [r0, r5, r2, l2, hi, valD]⟩)
    clear r0 r5 r2 l2
    rintro n ⟨r, lo, h''⟩ hst
    obtain ⟨j, hjn, r0, r5, r8, r9, r2, l2, rfl⟩ := (hI2 _ _).1 hst
    simp only at r0 r5 r8 r9 r2 l2
    by_cases c2 : j < d.length
    · have hw : IntKind.wrap .i64 ((j : Int) + 1) = ((j + 1 : Nat) : Int) := by rw [wr64 (by omega) (by omega)]; omega
      obtain ⟨b1, b2⟩ := hd d[j] (List.getElem_mem c2)
      obtain ⟨v1, v2⟩ := valD_le (d.take j) fun b hb => hd b (List.mem_of_mem_take hb)
      have hp : (10 : Int) ^ (d.take j).length ≤ 10 ^ 15 := by
        have : (d.take j).length ≤ 15 := by simp; omega
        exact_mod_cast Nat.pow_le_pow_right (by decide) this
      have hp2 : (10 : Int) ^ 15 = 1000000000000000 := by decide
      have x1 : IntKind.wrap .u8 ((d[j].toNat : Int) - 48) = (d[j].toNat : Int) - 48 := by rw [wr8]; omega
      have x2 : IntKind.wrap .i64 ((d[j].toNat : Int) - 48) = (d[j].toNat : Int) - 48 := wr64 (by omega) (by omega)
      have x3 : IntKind.wrap .i64 (10 * valD (d.take j)) = 10 * valD (d.take j) := wr64 (by omega) (by omega)
      have x4 : IntKind.wrap .i64 (10 * valD (d.take j) + ((d[j].toNat : Int) - 48)) = valD (d.take (j + 1)) := by
        rw [wr64 (by omega) (by omega), List.take_add_one, List.getElem?_eq_getElem c2]
        exact (valD_snoc _ _).symm
      simp [forget, noLoc, locOf, r0, r5, r8, r9, r2, l2, byV_len, byV_get, c2, x1, x2, x3, x4, hw]
      exact ⟨n - 1, by omega, (hI2 _ _).2 ⟨j + 1, by omega, by simp [r0, r5, r2, l2]⟩⟩
    · have hj : j = d.length := by omega
      subst hj
      have hb : bytesV (.sl .frozen (byV d)) = some d := bytes_text _ d
      simp [forget, noLoc, locOf, r0, r5, r8, r9, r2, l2, byV_len, byV_take, sliceV, bnd, convV, hb, splice]
      exact hq

theorem split24 (d : List UInt8) (hd : ∀ b ∈ d, isD b) (hl1 : 1 ≤ d.length) (hl2 : d.length ≤ 15) (hq : Q (.tup [.sl .frozen [.agg [.int .i64 3, .int .i64 0, .str d, .int .i64 (valD d)]], .agg [.int .i64 0, .bool false, .int .i64 0]]) h) : CallA ap 24 0 bs [.sl .frozen (byV d)] h Q := by
  refine CallA.code (af := ac24) rfl (Nat.le_of_ble_eq_true rfl) ?_
  have d0 : 0 < d.length := by omega
  have hn : ¬ (20000 : Int) < d.length := by omega
  obtain ⟨b1, b2⟩ := hd d[0] (List.getElem_mem d0)
  have n1 : ((d[0].toNat : Int) == 32) = false := by simp; omega
  have n2 : ((d[0].toNat : Int) == 9) = false := by simp; omega
  have n3 : ((d[0].toNat : Int) == 10) = false := by simp; omega
  have n4 : ((d[0].toNat : Int) == 13) = false := by simp; omega
  have n5 : ((d[0].toNat : Int) == 45) = false := by simp; omega
  simp [ac24, byV_len, hn]
  refine wpA_loop (CallA.hle ap) ?_
  simp [forget, noLoc, locOf, byV_len, byV_get, d0, n1, n2, n3, n4, n5, sliceV, bnd, byV_all, byV_dem]
  refine word48 d hd hl1 hl2 ?_
  have hne : ((d.length : Int) == 0) = false := beq_false_of_ne (by omega)
  have hw : IntKind.wrap .i64 (d.length : Int) = d.length := wr64 (by omega) (by omega)
  simp [splice, byV_len, hne, hw]
  refine ⟨by simp [lim], ?_⟩
  refine wpA_loop (CallA.hle ap) ?_
  simp [forget, noLoc, locOf, byV_len, splice, hw]
  refine CallA.code (af := ac49) rfl (Nat.le_of_ble_eq_true rfl) ?_
  simp [ac49, splice]
  have e : List.take h.length (List.take (h.length + 1) (h ++ [Ob.fam 1 4])) = h := by rw [List.take_take, Nat.min_eq_left (by omega), List.take_left' rfl]
  rw [e]
  exact hq

end
end Go.It
