/- How many terms a term is made of; names the same: on the abstract machine. -/
import Derived.Test.YtabjkoehbbobdaaTtF5
import Derived.Test.YtabjkoehbbobdaaTtY3
namespace Go.Tt
open Go.Am Go.Proofs
set_option maxRecDepth 100000

def SizeS (t : Tm) : Prop := ∀ (bs : List Nat) (h : List Ob) (Q : V → List Ob → Prop), szT t ≤ 1000000 → Q (.int .i64 (szT t)) h → CallA ap 10 0 bs [tmV t] h Q
def ZubL : Tms → Prop
  | .nil => True
  | .cons t l => SizeS t ∧ ZubL l
def ZubA : Alts → Prop
  | .nil => True
  | .cons _ _ t l => SizeS t ∧ ZubA l
def ZubB : Binds → Prop
  | .nil => True
  | .cons _ _ t l => SizeS t ∧ ZubB l

theorem size10 (k : Int) (s0 : Nm) (n : Int) (ty : Ty) (l : Tms) (a : Alts) (bi : Binds) (hl : ZubL l) (ha : ZubA a) (hb : ZubB bi) : SizeS (.mk k s0 n ty l a bi) := by
  intro bs h Q hroom hq
  obtain ⟨k', n', l'⟩ := ty
  simp only [szT] at hroom hq
  have l1 := tms_len l
  have l2 := als_len a
  have l3 := bis_len bi
  refine CallA.code (af := ac10) rfl (Nat.le_of_ble_eq_true rfl) ?_
  simp [ac10, tm_mk]
  obtain ⟨T, hT⟩ : ∃ T : V, T = .agg [.int .i64 k, .str s0, .int .i64 n, .int .i64 k', .str n', .sl .frozen (tyVs l'), .sl .frozen (tmVs l), .sl .frozen (alVs a), .sl .frozen (biVs bi)] := ⟨_, rfl⟩
  obtain ⟨C, hC⟩ : ∃ C : List V, C = [.int .i64 k, .str s0, .int .i64 n, .int .i64 k', .str n', .sl .frozen (tyVs l'), .sl .frozen (tmVs l), .sl .frozen (alVs a), .sl .frozen (biVs bi)] := ⟨_, rfl⟩
  have c7 : C[7]? = some (.sl .frozen (alVs a)) := by rw [hC]; rfl
  have c8 : C[8]? = some (.sl .frozen (biVs bi)) := by rw [hC]; rfl
  rw [← hC]
  obtain ⟨I, hI⟩ : ∃ I : Nat → St → Prop, ∀ n0 s', I n0 s' ↔ (∃ (i : Nat) (t2 : Tms) (m : Nat), i + n0 = (tmVs l).length ∧ (tmVs l).drop i = tmVs t2 ∧ ZubL t2 ∧ m + szL t2 = 1 + szL l ∧ s'.h = h ∧ s'.r 1 = .loc 1 0 ∧ s'.l 1 = some C ∧
    s'.r 3 = .int .i64 m ∧ s'.r 11 = .sl .frozen (tmVs l) ∧ s'.r 12 = .int .i64 (tmVs l).length ∧ s'.r 13 = .int .i64 i) := ⟨_, fun _ _ => Iff.rfl⟩
  refine loop_ind (CallA.hle ap) I ?_ (n := (tmVs l).length) ((hI _ _).2 ⟨0, l, 1, by simp, by simp, hl, rfl, by simp⟩)
  rintro n0 ⟨r, lo, h'⟩ hst
  obtain ⟨i, t2, m, hin', hdr, hsub, hm, hh, r1, lo1, r3, r11, r12, r13⟩ := (hI _ _).1 hst
  simp only at hh r1 lo1 r3 r11 r12 r13
  subst hh
  simp [forget, noLoc, locOf, r1, r3, r11, r12, r13]
  refine condA_dec (fun c1 => ?_) fun c1 => ?_
  · have hi : i < (tmVs l).length := by omega
    have hw : IntKind.wrap .i64 ((i : Int) + 1) = ((i + 1 : Nat) : Int) := by rw [wrap64 (by omega) (by omega)]; omega
    match t2, hdr, hsub, hm with
    | .nil, hdr, _, _ => have := drop_nil' hdr; omega
    | .cons t t3, hdr, hsub, hm =>
      simp only [szL] at hm
      obtain ⟨g1, g2, -⟩ := drop_cons hdr
      have hg : (tmVs l)[i] = tmV t := by rw [List.getElem?_eq_getElem hi] at g1; exact Option.some.inj g1
      have hw2 : IntKind.wrap .i64 ((m : Int) + (szT t : Int)) = ((m + szT t : Nat) : Int) := by rw [wrap64 (by omega) (by omega)]; omega
      simp [r1, r3, r11, r12, r13, lo1, hi, hg, splice, tm_take, tm_agg, demote_tm]
      refine hsub.1 _ _ _ (by omega) ?_
      simp [r1, r3, r11, r12, r13, lo1, hw, hw2]
      exact ⟨n0 - 1, by omega, (hI _ _).2 ⟨i + 1, t3, m + szT t, by omega, g2, hsub.2, by omega, rfl, by simp [r1, r3, r11, r12, lo1]⟩⟩
  · have hn : tmVs t2 = [] := by rw [← hdr]; exact List.drop_of_length_le (by omega)
    have hm2 : m = 1 + szL l := by
      match t2, hn, hm with
      | .nil, _, hm => simp only [szL] at hm; omega
    subst hm2
    simp [r1, r3, r11, r12, r13, lo1, c7]
    clear I hI hst
    obtain ⟨I, hI⟩ : ∃ I : Nat → St → Prop, ∀ n0 s', I n0 s' ↔ (∃ (i : Nat) (t2 : Alts) (m : Nat), i + n0 = (alVs a).length ∧ (alVs a).drop i = alVs t2 ∧ ZubA t2 ∧ m + szA t2 = 1 + szL l + szA a ∧ s'.h = h' ∧ s'.r 1 = .loc 1 0 ∧ s'.l 1 = some C ∧
      s'.r 3 = .int .i64 m ∧ s'.r 23 = .sl .frozen (alVs a) ∧ s'.r 24 = .int .i64 (alVs a).length ∧ s'.r 25 = .int .i64 i) := ⟨_, fun _ _ => Iff.rfl⟩
    refine loop_ind (CallA.hle ap) I ?_ (n := (alVs a).length) ((hI _ _).2 ⟨0, a, 1 + szL l, by simp, by simp, ha, rfl, by simp [r1, r3, lo1]⟩)
    rintro n0 ⟨r, lo, h'⟩ hst
    obtain ⟨i, t2, m, hin', hdr, hsub, hm, hh, r1, lo1, r3, r11, r12, r13⟩ := (hI _ _).1 hst
    simp only at hh r1 lo1 r3 r11 r12 r13
    subst hh
    simp [forget, noLoc, locOf, r1, r3, r11, r12, r13]
    refine condA_dec (fun c1 => ?_) fun c1 => ?_
    · have hi : i < (alVs a).length := by omega
      have hw : IntKind.wrap .i64 ((i : Int) + 1) = ((i + 1 : Nat) : Int) := by rw [wrap64 (by omega) (by omega)]; omega
      match t2, hdr, hsub, hm with
      | .nil, hdr, _, _ => have := drop_nil' hdr; omega
      | .cons c v t t3, hdr, hsub, hm =>
        simp only [szA] at hm
        rw [alVs_cons] at hdr
        obtain ⟨g1, g2, -⟩ := drop_cons hdr
        have hg : (alVs a)[i] = alV c v t := by rw [List.getElem?_eq_getElem hi] at g1; exact Option.some.inj g1
        have hw2 : IntKind.wrap .i64 ((m : Int) + (szT t : Int)) = ((m + szT t : Nat) : Int) := by rw [wrap64 (by omega) (by omega)]; omega
        simp [r1, r3, r11, r12, r13, lo1, hi, hg, splice, al_len, al_take, al_agg, al_loc, al_2, tm_agg, demote_tm]
        refine hsub.1 _ _ _ (by omega) ?_
        simp [r1, r3, r11, r12, r13, lo1, hw, hw2]
        exact ⟨n0 - 1, by omega, (hI _ _).2 ⟨i + 1, t3, m + szT t, by omega, g2, hsub.2, by omega, rfl, by simp [r1, r3, r11, r12, lo1]⟩⟩
    · have hn : alVs t2 = [] := by rw [← hdr]; exact List.drop_of_length_le (by omega)
      have hm2 : m = 1 + szL l + szA a := by
        match t2, hn, hm with
        | .nil, _, hm => simp only [szA] at hm; omega
      subst hm2
      simp [r1, r3, r11, r12, r13, lo1, c8]
      clear I hI hst
      obtain ⟨I, hI⟩ : ∃ I : Nat → St → Prop, ∀ n0 s', I n0 s' ↔ (∃ (i : Nat) (t2 : Binds) (m : Nat), i + n0 = (biVs bi).length ∧ (biVs bi).drop i = biVs t2 ∧ ZubB t2 ∧ m + szB t2 = 1 + szL l + szA a + szB bi ∧ s'.h = h' ∧
        s'.r 3 = .int .i64 m ∧ s'.r 36 = .sl .frozen (biVs bi) ∧ s'.r 37 = .int .i64 (biVs bi).length ∧ s'.r 38 = .int .i64 i) := ⟨_, fun _ _ => Iff.rfl⟩
      refine loop_ind (CallA.hle ap) I ?_ (n := (biVs bi).length) ((hI _ _).2 ⟨0, bi, 1 + szL l + szA a, by simp, by simp, hb, rfl, by simp [r1, r3, lo1]⟩)
      rintro n0 ⟨r, lo, h'⟩ hst
      obtain ⟨i, t2, m, hin', hdr, hsub, hm, hh, r3, r11, r12, r13⟩ := (hI _ _).1 hst
      simp only at hh r3 r11 r12 r13
      subst hh
      simp [forget, noLoc, locOf, r3, r11, r12, r13]
      refine condA_dec (fun c1 => ?_) fun c1 => ?_
      · have hi : i < (biVs bi).length := by omega
        have hw : IntKind.wrap .i64 ((i : Int) + 1) = ((i + 1 : Nat) : Int) := by rw [wrap64 (by omega) (by omega)]; omega
        match t2, hdr, hsub, hm with
        | .nil, hdr, _, _ => have := drop_nil' hdr; omega
        | .cons c v t t3, hdr, hsub, hm =>
          simp only [szB] at hm
          rw [biVs_cons] at hdr
          obtain ⟨g1, g2, -⟩ := drop_cons hdr
          have hg : (biVs bi)[i] = biV c v t := by rw [List.getElem?_eq_getElem hi] at g1; exact Option.some.inj g1
          have hw2 : IntKind.wrap .i64 ((m : Int) + (szT t : Int)) = ((m + szT t : Nat) : Int) := by rw [wrap64 (by omega) (by omega)]; omega
          simp [r3, r11, r12, r13, hi, hg, splice, bi_len, bi_take, bi_agg, bi_loc, bi_4, tm_agg, demote_tm]
          refine hsub.1 _ _ _ (by omega) ?_
          simp [r3, r11, r12, r13, hw, hw2]
          exact ⟨n0 - 1, by omega, (hI _ _).2 ⟨i + 1, t3, m + szT t, by omega, g2, hsub.2, by omega, rfl, by simp [r3, r11, r12]⟩⟩
      · have hn : biVs t2 = [] := by rw [← hdr]; exact List.drop_of_length_le (by omega)
        have hm2 : m = 1 + szL l + szA a + szB bi := by
          match t2, hn, hm with
          | .nil, _, hm => simp only [szB] at hm; omega
        subst hm2
        simp [r3, r11, r12, r13]
        simpa using hq

mutual
theorem sizeOkT : ∀ t : Tm, SizeS t
  | .mk k s n ty l a b => size10 k s n ty l a b (sizeOkL l) (sizeOkA a) (sizeOkB b)
theorem sizeOkL : ∀ l : Tms, ZubL l
  | .nil => trivial
  | .cons t l => ⟨sizeOkT t, sizeOkL l⟩
theorem sizeOkA : ∀ l : Alts, ZubA l
  | .nil => trivial
  | .cons c v t l => ⟨sizeOkT t, sizeOkA l⟩
theorem sizeOkB : ∀ l : Binds, ZubB l
  | .nil => trivial
  | .cons n ty t l => ⟨sizeOkT t, sizeOkB l⟩
end

section
variable {bs : List Nat} {h : List Ob} {Q : V → List Ob → Prop}

/-- Names the same. -/
theorem same9 (l : List Nm) (hl : l.length < 1000000) (hq : Q (.bool true) h) : CallA ap 9 0 bs [.sl .frozen (l.map .str), .sl .frozen (l.map .str)] h Q := by
  refine CallA.code (af := ac9) rfl (Nat.le_of_ble_eq_true rfl) ?_
  simp [ac9]
  obtain ⟨I, hI⟩ : ∃ I : Nat → St → Prop, ∀ n s, I n s ↔ (∃ i : Nat, i + n = l.length ∧ s.h = h ∧ s.r 0 = .sl .frozen (l.map .str) ∧ s.r 1 = .sl .frozen (l.map .str) ∧ s.r 5 = .int .i64 i) := ⟨_, fun _ _ => Iff.rfl⟩
  refine loop_ind (CallA.hle ap) I ?_ (n := l.length) ((hI _ _).2 ⟨0, by simp⟩)
  rintro n ⟨r, lo, h'⟩ hst
  obtain ⟨i, hin, hh, r0, r1, r5⟩ := (hI _ _).1 hst
  simp only at hh r0 r1 r5
  subst hh
  simp [forget, noLoc, locOf, r0, r1, r5]
  refine condA_dec (fun c1 => ?_) fun c1 => ?_
  · have hi : i < l.length := by omega
    have hw : IntKind.wrap .i64 ((i : Int) + 1) = ((i + 1 : Nat) : Int) := by rw [wrap64 (by omega) (by omega)]; omega
    simp [r0, r1, r5, hi, hw]
    exact ⟨n - 1, by omega, (hI _ _).2 ⟨i + 1, by omega, rfl, by simp [r0, r1]⟩⟩
  · simp [r0, r1, r5]
    exact hq

end
end Go.Tt
