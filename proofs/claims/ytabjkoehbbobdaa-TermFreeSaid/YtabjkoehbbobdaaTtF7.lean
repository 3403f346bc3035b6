/- Terms are made: words, places, what a heap keeps: on the abstract machine. -/
import Derived.Test.YtabjkoehbbobdaaTtF6
namespace Go.Tt
open Go.Am Go.Proofs
set_option maxRecDepth 100000

/-- A heap that is another, but for one object and what came behind. -/
structure HP (h : List Ob) (p : Nat) (s : Ob) (H : List Ob) : Prop where
  len : h.length ≤ H.length
  lt : p < h.length
  tk : H.take h.length = h.set p s

theorem HP.refl {h : List Ob} {p : Nat} {s : Ob} (hp : h[p]? = some s) : HP h p s h := by
  obtain ⟨h1, h2⟩ := List.getElem?_eq_some_iff.1 hp
  exact ⟨Nat.le_refl _, h1, by rw [List.take_length, ← h2]; simp⟩
theorem HP.get {h : List Ob} {p : Nat} {s : Ob} {H : List Ob} (hp : HP h p s H) : H[p]? = some s := by
  have : (H.take h.length)[p]? = some s := by rw [hp.tk, List.getElem?_set_self hp.lt]
  rwa [List.getElem?_take, if_pos hp.lt] at this
theorem HP.set {h : List Ob} {p : Nat} {s : Ob} {H : List Ob} (hp : HP h p s H) (s' : Ob) : HP h p s' (H.set p s') := by
  refine ⟨by simpa using hp.len, hp.lt, ?_⟩
  rw [List.take_set, hp.tk, List.set_set]
theorem HP.app {h : List Ob} {p : Nat} {s : Ob} {H : List Ob} (hp : HP h p s H) (tl : List Ob) : HP h p s (H ++ tl) := by
  refine ⟨by have := hp.len; simp; omega, hp.lt, ?_⟩
  rw [List.take_append_of_le_length hp.len]
  exact hp.tk
theorem HP.far {h : List Ob} {p : Nat} {s : Ob} {H : List Ob} (hp : HP h p s H) {r : Nat} (hr : h.length ≤ r) (x : Ob) : HP h p s (H.set r x) := by
  refine ⟨by simpa using hp.len, hp.lt, ?_⟩
  rw [List.take_set_of_le hr]
  exact hp.tk

section
variable {bs : List Nat} {h : List Ob} {Q : V → List Ob → Prop}

/-- One of some words. -/
theorem word14 (tg : Tag) (l : List Int) (i : Int) (p : Nat) (ws : List Nm) (h0 : 0 < ws.length) (h1 : ws.length < 1000) (hi1 : 0 ≤ i) (hi2 : i < 1000000) (hp : h[p]? = some (seqB tg l i))
    (hq : ∀ x ∈ ws, Q (.str x) (h.set p (seqB tg l (i + 1)))) : CallA ap 14 0 bs [.ptr p 0, .sl .frozen (ws.map .str)] h Q := by
  refine CallA.code (af := ac14) rfl (Nat.le_of_ble_eq_true rfl) ?_
  simp [ac14]
  refine next30 tg l i ws.length p hp hi1 hi2 (by omega) (by omega) fun n hn1 hn2 => ?_
  have hlt : n.toNat < ws.length := by omega
  simp [hn1, hlt]
  simpa [List.take_of_length_le] using hq _ (List.getElem_mem hlt)

/-- Where a text is. -/
theorem place17 (l : List Nm) (s : Nm) (hl : l.length < 1000000) (hs : s ∈ l) (hq : ∀ n : Int, 0 ≤ n → n < l.length → Q (.int .i64 n) h) : CallA ap 17 0 bs [.sl .frozen (l.map .str), .str s] h Q := by
  refine CallA.code (af := ac17) rfl (Nat.le_of_ble_eq_true rfl) ?_
  simp [ac17]
  obtain ⟨I, hI⟩ : ∃ I : Nat → St → Prop, ∀ n σ, I n σ ↔ (∃ i : Nat, i + n = l.length ∧ (∀ j (hj : j < l.length), j < i → l[j] ≠ s) ∧ σ.r 0 = .sl .frozen (l.map .str) ∧ σ.r 1 = .str s ∧ σ.r 5 = .int .i64 i ∧ σ.h = h) := ⟨_, fun _ _ => Iff.rfl⟩
  refine loop_ind (CallA.hle ap) I ?_ (n := l.length) ((hI _ _).2 ⟨0, by simp⟩)
  rintro n ⟨r, lo, h'⟩ hst
  obtain ⟨i, hin, hno, r0, r1, r5, rfl⟩ := (hI _ _).1 hst
  simp only at r0 r1 r5
  simp [forget, noLoc, locOf, r0, r1, r5]
  refine condA_dec (fun c1 => ?_) fun c1 => ?_
  · have hi : i < l.length := by omega
    have hw : IntKind.wrap .i64 ((i : Int) + 1) = ((i + 1 : Nat) : Int) := by rw [wrap64 (by omega) (by omega)]; omega
    by_cases he : l[i] = s
    · have hb : (l[i] == s) = true := by simpa using he
      simp [r0, r1, r5, hi, hb]
      exact hq i (by omega) (by omega)
    · have hb : (l[i] == s) = false := by simpa using he
      simp [r0, r1, r5, hi, hb, hw]
      refine ⟨n - 1, by omega, (hI _ _).2 ⟨i + 1, by omega, fun j hj hji => ?_, by simp [r0, r1]⟩⟩
      by_cases hji' : j = i
      · subst hji'; exact he
      · exact hno j hj (by omega)
  · exfalso
    obtain ⟨j, hj, e⟩ := List.getElem_of_mem hs
    exact hno j hj (by omega) e

end

/-- What a term that is made is. -/
structure MkT (m : Nat) (t : Tm) : Prop where
  ok : okTm [113] t = true
  sh : shT t = true
  sz : szT t ≤ 2 * 5 ^ m

def MkS (tg : Tag) (l : List Int) (p : Nat) (m : Nat) : Prop := ∀ (deep i : Int) (vars : List Nm) (bs : List Nat) (h : List Ob) (Q : V → List Ob → Prop), -1 ≤ deep → deep ≤ m → 0 ≤ i → i + 80 * 5 ^ m < 1000000 → vars.length + 2 * m ≤ 12 → (∀ x ∈ vars, x ≠ [113]) → h[p]? = some (seqB tg l i) →
  (∀ (t : Tm) (j : Int), i ≤ j → j ≤ i + 80 * 5 ^ m → MkT m t → Q (tmV t) (h.set p (seqB tg l j))) → CallA ap 5 0 bs [.ptr p 0, .sl .frozen (vars.map .str), .int .i64 deep] h Q

theorem MkT.up {m : Nat} {t : Tm} (h : MkT m t) : MkT (m + 1) t := ⟨h.ok, h.sh, by have := h.sz; rw [Nat.pow_succ]; omega⟩

end Go.Tt
