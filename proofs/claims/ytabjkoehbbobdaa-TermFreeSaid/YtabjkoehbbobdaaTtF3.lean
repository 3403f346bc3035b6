/- A term is gone through with names bound: on the abstract machine. -/
import Derived.Test.YtabjkoehbbobdaaTtF2
namespace Go.Tt
open Go.Am Go.Proofs
set_option maxRecDepth 100000

def decN : (Nm → Int) → List Nm → Nm → Int
  | F, [] => F
  | F, x :: l => decN (fun y => if y = x then F y - 1 else F y) l

theorem inc_count : ∀ (l : List Nm) (F : Nm → Int) (y : Nm), inc F l y = F y + l.count y
  | [], F, y => by simp [inc]
  | x :: l, F, y => by
    rw [inc, inc_count l, List.count_cons]
    by_cases h : y = x
    · subst h; simp; omega
    · have : (x == y) = false := by simpa using fun e => h e.symm
      simp [h, this]
theorem dec_count : ∀ (l : List Nm) (F : Nm → Int) (y : Nm), decN F l y = F y - l.count y
  | [], F, y => by simp [decN]
  | x :: l, F, y => by
    rw [decN, dec_count l, List.count_cons]
    by_cases h : y = x
    · subst h; simp; omega
    · have : (x == y) = false := by simpa using fun e => h e.symm
      simp [h, this]
theorem dec_inc (l : List Nm) (F : Nm → Int) : decN (inc F l) l = F := by
  funext y
  rw [dec_count, inc_count]
  omega
theorem inc_le (l : List Nm) (F : Nm → Int) (y : Nm) : F y ≤ inc F l y ∧ inc F l y ≤ F y + l.length := by
  rw [inc_count]
  have := List.count_le_length (a := y) (l := l)
  omega

theorem lk_s' (s : St) (z : V) (n : Nm) (ok : Bool) (r : Nat) : lookV s .str z (.str n) ok (.map (some r)) = lookO z (.str n) ok s.h[r]? := rfl
theorem lk_gO (z : V) (n : Nm) (ok : Bool) (l : GL) : lookO z (.str n) ok (some (gO l)) = some (okV ok z (lkG l n)) := by
  simp only [lookO, gO, lk_find, Option.map_some]
theorem set_gO {bs : List Nat} {K : V → St → Prop} {s : St} (r : Nat) (x : Nm) (v : V) (l : GL) : kSet1 bs r (.str x) v K s (some (gO l)) = (okStore bs r [v] ∧ K (.tup []) { s with h := s.h.set r (gO (stG l x v)) }) := by
  have e : kSet1 bs r (.str x) v K s (some (gO l)) = kSet2 bs r v K s (gEn l).length (List.range l.length) l.length (setE (.str x) v (gEn l)) := rfl
  rw [e, st_set]
  simp only [kSet2]
  rw [st_ob]

section
variable {bs : List Nat} {h : List Ob} {Q : V → List Ob → Prop}

theorem with23 {pf b s : Nat} {F : Nm → Int} {o o' : List Nm} (names : List Nm) (hn : names.length ≤ 10) (g : Nat) (cap : List V) (hF : ∀ y, 0 ≤ F y ∧ F y ≤ 1000000) (st : Stt pf b s F o h)
    (hin : ∀ (bs : List Nat) (h1 : List Ob) (Q : V → List Ob → Prop), (∀ x ∈ bs, x ≤ pf) → Fr pf h h1 → Stt pf b s (inc F names) o h1 → (∀ h2, Stt pf b s (inc F names) o' h2 → Fr pf h1 h2 → Q (.tup []) h2) → CallA ap g 0 bs cap h1 Q)
    (hbs : ∀ x ∈ bs, x ≤ pf) (hq : ∀ h2, Stt pf b s F o' h2 → Fr pf h h2 → Q (.tup []) h2) : CallA ap 23 0 bs [.ptr pf 0, .sl .frozen (names.map .str), .fn g cap] h Q := by
  refine CallA.code (af := ac23) rfl (Nat.le_of_ble_eq_true rfl) ?_
  simp [ac23]
  obtain ⟨I, hI⟩ : ∃ I : Nat → St → Prop, ∀ n s', I n s' ↔ (∃ (i : Nat) (G : Nm → Int), i + n = names.length ∧ Stt pf b s G o s'.h ∧ Fr pf h s'.h ∧ inc G (names.drop i) = inc F names ∧ (∀ y, 0 ≤ G y ∧ G y ≤ 1000000 + i) ∧
    s'.r 0 = .ptr pf 0 ∧ s'.r 1 = .sl .frozen (names.map .str) ∧ s'.r 2 = .fn g cap ∧ s'.r 10 = .sl .frozen (names.map .str) ∧ s'.r 11 = .int .i64 names.length ∧ s'.r 12 = .int .i64 i) := ⟨_, fun _ _ => Iff.rfl⟩
  refine loop_ind (CallA.hle ap) I ?_ (n := names.length) ((hI _ _).2 ⟨0, F, by simp, st, Fr.refl _ _, by simp, fun y => by have := hF y; omega, by simp⟩)
  rintro n ⟨r, lo, h'⟩ hs
  obtain ⟨i, G, hin', st', fr', hinc, hG, r0, r1, r2, r10, r11, r12⟩ := (hI _ _).1 hs
  simp only at r0 r1 r2 r10 r11 r12 st' fr'
  simp [forget, noLoc, locOf, r0, r1, r2, r10, r11, r12]
  refine condA_dec (fun c1 => ?_) fun c1 => ?_
  · have hi : i < names.length := by omega
    have hw : IntKind.wrap .i64 ((i : Int) + 1) = ((i + 1 : Nat) : Int) := by rw [wrap64 (by omega) (by omega)]; omega
    obtain ⟨tg, hp, ho⟩ := st'.pf
    obtain ⟨l, hb, hm⟩ := st'.bm
    have hx := hG names[i]
    have hw2 : IntKind.wrap .i64 (G names[i] + 1) = G names[i] + 1 := wrap64 (by omega) (by omega)
    obtain ⟨st2, fr2⟩ := st'.bound hb names[i] (G names[i] + 1) hm
    rw [List.drop_eq_getElem_cons hi] at hinc
    simp only [inc] at hinc
    simp [r0, r1, r2, r10, r11, r12, hi, hp, lk_s', hb, lk_gO, hm.look, isKey, hw, hw2, set_gO, okStore]
    refine ⟨n - 1, by omega, (hI _ _).2 ⟨i + 1, _, by omega, st2, fr'.trans fr2, ?_, fun y => ?_, by simp [r0, r1, r2, r10, r11]⟩⟩
    · rw [← hinc]
      congr 1
      funext y
      by_cases e : y = names[i] <;> simp [e]
    · have := hG y
      split
      · subst_vars; omega
      · omega
  · simp [r0, r1, r2, r10, r11, r12]
    have hdrop : names.drop i = [] := List.drop_of_length_le (by omega)
    rw [hdrop] at hinc
    simp only [inc] at hinc
    subst hinc
    refine hin _ _ _ hbs fr' st' fun h2 st2 fr2 => ?_
    simp [r0, r1, r2]
    obtain ⟨J, hJ⟩ : ∃ J : Nat → St → Prop, ∀ n s', J n s' ↔ (∃ (i : Nat) (G : Nm → Int), i + n = names.length ∧ Stt pf b s G o' s'.h ∧ Fr pf h s'.h ∧ decN G (names.drop i) = F ∧ (∀ y, 0 - (i : Int) ≤ G y ∧ G y ≤ 1000010) ∧
      s'.r 0 = .ptr pf 0 ∧ s'.r 26 = .sl .frozen (names.map .str) ∧ s'.r 27 = .int .i64 names.length ∧ s'.r 28 = .int .i64 i) := ⟨_, fun _ _ => Iff.rfl⟩
    refine loop_ind (CallA.hle ap) J ?_ (n := names.length) ((hJ _ _).2 ⟨0, inc F names, by simp, st2, fr'.trans fr2, by simpa using dec_inc names F, fun y => by have := hF y; have := inc_le names F y; omega, by simp [r0, r1, r2, r10, r11, r12]⟩)
    rintro n ⟨r, lo, h'⟩ hs
    obtain ⟨i, G, hin', st', fr', hdec, hG, r0, r26, r27, r28⟩ := (hJ _ _).1 hs
    simp only at r0 r26 r27 r28 st' fr'
    simp [forget, noLoc, locOf, r0, r26, r27, r28]
    refine condA_dec (fun c1 => ?_) fun c1 => ?_
    · have hi : i < names.length := by omega
      have hw : IntKind.wrap .i64 ((i : Int) + 1) = ((i + 1 : Nat) : Int) := by rw [wrap64 (by omega) (by omega)]; omega
      obtain ⟨tg, hp, ho⟩ := st'.pf
      obtain ⟨l, hb, hm⟩ := st'.bm
      have hx := hG names[i]
      have hw2 : IntKind.wrap .i64 (G names[i] - 1) = G names[i] - 1 := wrap64 (by omega) (by omega)
      obtain ⟨st2, fr2⟩ := st'.bound hb names[i] (G names[i] - 1) hm
      rw [List.drop_eq_getElem_cons hi] at hdec
      simp only [decN] at hdec
      simp [r0, r26, r27, r28, hi, hp, lk_s', hb, lk_gO, hm.look, isKey, hw, hw2, set_gO, okStore]
      refine ⟨n - 1, by omega, (hJ _ _).2 ⟨i + 1, _, by omega, st2, fr'.trans fr2, ?_, fun y => ?_, by simp [r0, r26, r27]⟩⟩
      · rw [← hdec]
        congr 1
        funext y
        by_cases e : y = names[i] <;> simp [e]
      · have := hG y
        split
        · subst_vars; omega
        · omega
    · simp [r0, r26, r27, r28]
      have hdrop : names.drop i = [] := List.drop_of_length_le (by omega)
      rw [hdrop] at hdec
      simp only [decN] at hdec
      rw [hdec] at st'
      exact hq _ st' fr'

end
end Go.Tt
