/- The reference's Has, Texts, Vars: on the abstract machine. -/
import Derived.Test.YthebkhieedogdaaVtS0
import Derived.Test.YthebkhieedogdaaAmL
namespace Go.Vt
open Go.Am Go.Proofs
set_option maxRecDepth 100000

theorem dem_strs (l : List (List UInt8)) : demoteL (l.map V.str) = l.map V.str := by
  induction l <;> simp_all [demoteL, V.demote]

theorem under_strs (m : Nat) (l : List (List UInt8)) : underL m (l.map V.str) = true := by
  induction l <;> simp_all [underL, V.under]

section
variable {bs : List Nat} {h : List Ob} {Q : V → List Ob → Prop}

theorem place50 (l : List (List UInt8)) (s : List UInt8) (hl : l.length < 1000000) (hq : ∀ n : Int, (0 ≤ n ↔ s ∈ l) → Q (.int .i64 n) h) : CallA ap 33 0 bs [.sl .frozen (l.map .str), .str s] h Q := by
  refine CallA.code (af := ac33) rfl (Nat.le_of_ble_eq_true rfl) ?_
  simp [ac33]
  obtain ⟨I, hI⟩ : ∃ I : Nat → St → Prop, ∀ n σ, I n σ ↔ (∃ i : Nat, i + n = l.length ∧ (∀ j (hj : j < l.length), j < i → l[j] ≠ s) ∧ σ.r 0 = .sl .frozen (l.map .str) ∧ σ.r 1 = .str s ∧ σ.r 5 = .int .i64 i ∧ σ.h = h) := ⟨_, fun _ _ => Iff.rfl⟩
  refine loop_ind (CallA.hle ap) I ?_ (n := l.length) ((hI _ _).2 ⟨0, by simp⟩)
  rintro n ⟨r, lo, h'⟩ hst
  obtain ⟨i, hin, hno, r0, r1, r5, rfl⟩ := (hI _ _).1 hst
  simp only at r0 r1 r5
  simp [forget, noLoc, locOf, r0, r1, r5]
  refine condA_dec (fun c1 => ?_) fun c1 => ?_
  · have hi : i < l.length := by omega
    have hw : IntKind.wrap .i64 ((i : Int) + 1) = ((i + 1 : Nat) : Int) := by rw [wrap64 (by omega) (by omega)]; omega
    by_cases he : l[i] = s
    · have hb : (l[i] == s) = true := by simpa using he
      simp [r0, r1, r5, hi, hb]
      exact hq i ⟨fun _ => he ▸ List.getElem_mem hi, fun _ => by omega⟩
    · have hb : (l[i] == s) = false := by simpa using he
      simp [r0, r1, r5, hi, hb, hw]
      refine ⟨n - 1, by omega, (hI _ _).2 ⟨i + 1, by omega, fun j hj hji => ?_, by simp [r0, r1]⟩⟩
      by_cases hji' : j = i
      · subst hji'; exact he
      · exact hno j hj (by omega)
  · simp [r0, r1, r5]
    refine hq (-1) ⟨fun h => by omega, fun hm => ?_⟩
    obtain ⟨j, hj, e⟩ := List.getElem_of_mem hm
    exact absurd e (hno j hj (by omega))

theorem has40 (l : List (List UInt8)) (s : List UInt8) (hl : l.length < 1000000) (hq : ∀ b : Bool, (b = true ↔ s ∈ l) → Q (.bool b) h) : CallA ap 12 0 bs [.sl .frozen (l.map .str), .str s] h Q := by
  refine CallA.code (af := ac12) rfl (Nat.le_of_ble_eq_true rfl) ?_
  simp [ac12, dem_strs]
  refine place50 l s hl fun n hn => ?_
  simp
  exact hq _ (by simpa using hn)

theorem texts56 (l : List (List UInt8)) (hl : l.length < 1000000) (hq : Q (.sl (.fam h.length) (l.map .str)) (h ++ [.fam l.length 1])) : CallA ap 44 0 bs [.sl .frozen (l.map .str)] h Q := by
  refine CallA.code (af := ac44) rfl (Nat.le_of_ble_eq_true rfl) ?_
  simp [ac44]
  refine ⟨by simp only [lim]; omega, ?_⟩
  obtain ⟨I, hI⟩ : ∃ I : Nat → St → Prop, ∀ n σ, I n σ ↔ (∃ i : Nat, i + n = l.length ∧ σ.r 0 = .sl .frozen (l.map .str) ∧ σ.r 3 = .sl (.fam h.length) ((l.take i).map .str) ∧ σ.r 4 = .int .i64 i ∧ σ.h = h ++ [.fam i 1]) := ⟨_, fun _ _ => Iff.rfl⟩
  refine loop_ind (CallA.hle ap) I ?_ (n := l.length) ((hI _ _).2 ⟨0, by simp⟩)
  rintro n ⟨r, lo, h'⟩ hst
  obtain ⟨i, hin, r0, r3, r4, rfl⟩ := (hI _ _).1 hst
  simp only at r0 r3 r4
  simp [forget, noLoc, locOf, r0, r3, r4]
  refine condA_dec (fun c1 => ?_) fun c1 => ?_
  · have hi : i < l.length := by omega
    have hw : IntKind.wrap .i64 ((i : Int) + 1) = ((i + 1 : Nat) : Int) := by rw [wrap64 (by omega) (by omega)]; omega
    have hm : min i l.length = i := by omega
    simp [r0, r3, r4, hi, hw, splice, hm, lim]
    refine ⟨fun v hv => ?_, by omega, n - 1, by omega, (hI _ _).2 ⟨i + 1, by omega, ?_⟩⟩
    · rcases hv with hv | rfl
      · obtain ⟨x, _, rfl⟩ := List.mem_map.1 (List.mem_of_mem_take hv)
        rfl
      · rfl
    · have ht : List.take (i + 1) (l.map V.str) = List.take i (l.map V.str) ++ [V.str l[i]] := by
        have hi' : i < (l.map V.str).length := by simpa using hi
        rw [List.take_succ_eq_append_getElem hi']
        simp
      have hset : ∀ z, (h ++ [Ob.fam i 1]).set h.length z = h ++ [z] := fun z => by simp [List.set_append]
      simp [r0, ht, hset]
  · have hi : i = l.length := by omega
    subst hi
    simp [r0, r3, r4, dem_strs]
    exact hq

end
end Go.Vt
