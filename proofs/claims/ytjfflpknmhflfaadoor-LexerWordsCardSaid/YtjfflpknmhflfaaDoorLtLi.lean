/- The law LexerWords on the abstract machine. -/
import Derived.Test.YtjfflpknmhflfaaDoorLtLg
namespace Go.Lt
open Go.Am Go.Proofs
set_option maxRecDepth 100000

def TX : List Bs := [[120], [84], [49, 50], [39, 99, 39], [61, 61], [45, 62], [108, 101, 116], [95], [61, 62], [58, 58], [120, 39], [40], [39, 92, 110, 39], [60, 61], [61], [92], [124], [42], [105, 110], [65, 49]]
def KN : List Int := [1, 2, 3, 4, 5, 6, 6, 6, 6, 6, 1, 6, 4, 5, 6, 6, 6, 5, 6, 2]
def tx (k : Nat) : Bs := TX.getD k []
def kn (k : Nat) : Int := KN.getD k 0
def nm (k : Nat) : Int := if k = 2 then 12 else if k = 3 then 99 else if k = 12 then 10 else 0

theorem word_tx (r : Bs) : ∀ k, k < 20 → blankN (tx k ++ 32 :: r) = 0 ∧ wordT (tx k ++ 32 :: r) = some (kn k, tx k, nm k)
  | 0, _ => ⟨by kernel_rfl, by kernel_rfl⟩
  | 1, _ => ⟨by kernel_rfl, by kernel_rfl⟩
  | 2, _ => ⟨by kernel_rfl, by kernel_rfl⟩
  | 3, _ => ⟨by kernel_rfl, by kernel_rfl⟩
  | 4, _ => ⟨by kernel_rfl, by kernel_rfl⟩
  | 5, _ => ⟨by kernel_rfl, by kernel_rfl⟩
  | 6, _ => ⟨by kernel_rfl, by kernel_rfl⟩
  | 7, _ => ⟨by kernel_rfl, by kernel_rfl⟩
  | 8, _ => ⟨by kernel_rfl, by kernel_rfl⟩
  | 9, _ => ⟨by kernel_rfl, by kernel_rfl⟩
  | 10, _ => ⟨by kernel_rfl, by kernel_rfl⟩
  | 11, _ => ⟨by kernel_rfl, by kernel_rfl⟩
  | 12, _ => ⟨by kernel_rfl, by kernel_rfl⟩
  | 13, _ => ⟨by kernel_rfl, by kernel_rfl⟩
  | 14, _ => ⟨by kernel_rfl, by kernel_rfl⟩
  | 15, _ => ⟨by kernel_rfl, by kernel_rfl⟩
  | 16, _ => ⟨by kernel_rfl, by kernel_rfl⟩
  | 17, _ => ⟨by kernel_rfl, by kernel_rfl⟩
  | 18, _ => ⟨by kernel_rfl, by kernel_rfl⟩
  | 19, _ => ⟨by kernel_rfl, by kernel_rfl⟩
  | n + 20, h => absurd h (by omega)

theorem tx_get (k : Nat) (h : k < TX.length) : TX[k] = tx k := by simp [tx, List.getD, List.getElem?_eq_getElem h]
theorem kn_get (k : Nat) (h : k < KN.length) : KN[k] = kn k := by simp [kn, List.getD, List.getElem?_eq_getElem h]
theorem tx_len : ∀ k, k < 20 → 0 < (tx k).length ∧ (tx k).length ≤ 4 := by decide

def flatW : List Nat → Bs
  | [] => []
  | k :: W => tx k ++ 32 :: flatW W
def tkW : Nat → List Nat → List Tk
  | _, [] => []
  | p, k :: W => ⟨kn k, p, tx k, nm k⟩ :: tkW (p + (tx k).length + 1) W

theorem flat_snoc : ∀ (W : List Nat) (k : Nat), flatW (W ++ [k]) = flatW W ++ (tx k ++ [32])
  | [], k => by simp [flatW]
  | j :: W, k => by simp [flatW, flat_snoc W k]
theorem flat_len : ∀ W : List Nat, (∀ k ∈ W, k < 20) → (flatW W).length ≤ 5 * W.length
  | [], _ => Nat.le_refl _
  | k :: W, h => by
    have h1 := flat_len W fun x hx => h x (by simp [hx])
    have h2 := (tx_len k (h k (by simp))).2
    simp [flatW]
    omega
theorem flat_ge : ∀ W : List Nat, (∀ k ∈ W, k < 20) → 2 * W.length ≤ (flatW W).length
  | [], _ => Nat.le_refl _
  | k :: W, h => by
    have h1 := flat_ge W fun x hx => h x (by simp [hx])
    have h2 := (tx_len k (h k (by simp))).1
    simp [flatW]
    omega
theorem tkW_len : ∀ (W : List Nat) (p : Nat), (tkW p W).length = W.length
  | [], _ => rfl
  | k :: W, p => by simp [tkW, tkW_len W]
theorem tkW_get : ∀ (W : List Nat) (p i : Nat) (h : i < W.length), ∃ q, (tkW p W)[i]? = some ⟨kn W[i], q, tx W[i], nm W[i]⟩
  | k :: W, p, 0, _ => ⟨p, rfl⟩
  | k :: W, p, i + 1, h => tkW_get W (p + (tx k).length + 1) i (by simpa using h)

theorem lex_flat : ∀ (W : List Nat) (f p : Nat), (∀ k ∈ W, k < 20) → 2 * W.length + 1 ≤ f → lexF f p (flatW W) = (tkW p W, none)
  | [], f, p, _, _ => lex_nil f p
  | k :: W, f, p, h, hf => by
    obtain ⟨f, rfl⟩ : ∃ g, f = g + 2 := ⟨f - 2, by simp at hf; omega⟩
    obtain ⟨w1, w2⟩ := word_tx (flatW W) k (h k (by simp))
    have b2 : blankN (32 :: flatW W) = 1 := rfl
    have d1 : (tx k ++ 32 :: flatW W).drop (tx k).length = 32 :: flatW W := by simp
    simp only [flatW]
    rw [lex_word w1 w2, d1, lex_blank (by rw [b2]; decide), b2]
    rw [show List.drop 1 (32 :: flatW W) = flatW W from rfl, lex_flat W f _ (fun x hx => h x (by simp [hx])) (by simp at hf; omega)]
    rfl

theorem mod20 (n : Int) : ∃ k : Nat, k < 20 ∧ (IntKind.wrap .i64 (n.tmod 20 + 20)).tmod 20 = k := by
  have h1 : n.tmod 20 < 20 := Int.tmod_lt_of_pos n (by decide)
  have h2 : -20 < n.tmod 20 := Int.lt_tmod_of_pos n (by decide)
  rw [wrapn (by omega) (by omega)]
  have h4 := Int.tmod_lt_of_pos (n.tmod 20 + 20) (show (0 : Int) < 20 by decide)
  have h5 := Int.tmod_nonneg 20 (show 0 ≤ n.tmod 20 + 20 by omega)
  exact ⟨((n.tmod 20 + 20).tmod 20).toNat, by omega, by omega⟩

def wV (W : List Nat) : List V := W.map fun (k : Nat) => V.int .i64 (k : Int)

theorem lexerWords (l : List Int) : CallA ap 4 0 [] [.sl .frozen (l.map (.int .i64))] [] fun v _ => v = .bool true := by
  refine CallA.code (af := ac4) rfl (Nat.le_of_ble_eq_true rfl) ?_
  simp [ac4]
  refine first9 (by simp) ?_
  by_cases hl : (30 : Int) < l.length
  · simp [hl]
  simp [hl]
  have hl' : l.length ≤ 30 := by omega
  obtain ⟨I, hI⟩ : ∃ I : Nat → St → Prop, ∀ n s, I n s ↔ (∃ W : List Nat, W.length + n = l.length ∧ (∀ k ∈ W, k < 20) ∧ s.r 0 = .sl .frozen (l.map (.int .i64)) ∧ s.r 3 = .bool true ∧ s.r 4 = .sl .clip (TX.map .str) ∧ s.r 5 = .sl .clip (KN.map (.int .i64)) ∧ s.r 8 = .int .i64 W.length ∧
    ((W = [] ∧ s.r 6 = .sl .clip [] ∧ s.r 7 = .sl .clip [] ∧ s.h = []) ∨ (W ≠ [] ∧ s.r 7 = .sl (.fam 0) (wV W) ∧ s.r 6 = .sl (.fam 1) (bV (flatW W)) ∧ s.h = [.fam W.length 1, .fam (flatW W).length 1]))) := ⟨_, fun _ _ => Iff.rfl⟩
  refine loop_ind (CallA.hle ap) I ?_ (n := l.length) ((hI _ _).2 ⟨[], by simp, by simp, by simp, by simp, by simp [TX], by simp [KN], by simp, .inl ⟨rfl, by simp, by simp, rfl⟩⟩)
  rintro n ⟨r, lo, h'⟩ hst
  obtain ⟨W, hin, h20, r0, r3, r4, r5, r8, hor⟩ := (hI _ _).1 hst
  simp only at r0 r3 r4 r5 r8 hor
  by_cases hi : W.length < l.length
  · obtain ⟨k, hk, hkm⟩ := mod20 l[W.length]
    have hw : IntKind.wrap .i64 ((W.length : Int) + 1) = ((W.length + 1 : Nat) : Int) := by rw [wrapn (by omega) (by omega)]; omega
    have hk2 : k < TX.length := hk
    have hfl := flat_len W h20
    have hlt := tx_len k hk
    have htx : TX[k] = tx k := by simp [tx, List.getD, List.getElem?_eq_getElem hk2]
    have hWk : (W ++ [k]).length = W.length + 1 := by simp
    have hWm : ∀ j ∈ W ++ [k], j < 20 := fun j hj => by
      rcases List.mem_append.1 hj with hj | hj
      · exact h20 j hj
      · rw [List.mem_singleton.1 hj]; exact hk
    have ef : bV (flatW (W ++ [k])) = bV (flatW W) ++ bV (tx k) ++ [.int .u8 32] := by simp [flat_snoc, bV]
    have lf : (flatW (W ++ [k])).length = (flatW W).length + (tx k).length + 1 := by simp [flat_snoc]; omega
    have ew : wV (W ++ [k]) = wV W ++ [.int .i64 k] := by simp [wV]
    have wl : (wV W).length = W.length := by simp [wV]
    have wc : ∀ v ∈ wV W, v.cells.length = 1 := fun v hv => by
      obtain ⟨j, _, rfl⟩ := List.mem_map.1 hv
      rfl
    obtain ⟨c, t, htc⟩ : ∃ c t, tx k = c :: t := by
      cases h : tx k with
      | nil => rw [h] at hlt; simp at hlt
      | cons c t => exact ⟨c, t, rfl⟩
    have em : ∀ t : Bs, t.map (fun b => V.int .u8 b.toNat) = bV t := fun _ => rfl
    simp [forget, noLoc, r0, r8, hi, hkm]
    rcases hor with ⟨h1, h2, h3, rfl⟩ | ⟨h1, h2, h3, rfl⟩
    · subst h1
      simp at ef lf hin
      have e7 : t.length + 1 + 1 = (tx k).length + 1 := by rw [htc]; rfl
      simp [h2, h3, r4, r8, hk2, htx, htc]
      refine ⟨by decide, by simp only [lim]; omega, fun v hv => ?_, by simp only [lim]; omega, ?_⟩
      · rcases hv with ⟨x, _, rfl⟩ | rfl <;> rfl
      refine ⟨n - 1, by omega, (hI _ _).2 ⟨[k], by simp; omega, hWm, by simp [r0], by simp [r3], by simp [r4], by simp [r5], by simp; rfl, .inr ⟨by simp, by simp [wV], ?_, ?_⟩⟩⟩
      · simp [flatW, htc, bV]
      · simp [flatW, htc]
    · simp [h2, h3, wl, r4, r8, hk2, htx, htc, hw, bV_len]
      have e7 : t.length + 1 = (tx k).length := by rw [htc]; rfl
      have hwl : W.length + 1 ≤ lim := by simp only [lim]; omega
      have hb2 : (flatW W).length + (t.length + 1) ≤ lim := by simp only [lim]; omega
      have hb3 : (flatW W).length + (t.length + 1) + 1 ≤ lim := by simp only [lim]; omega
      simp [hwl, hb2, hb3]
      refine ⟨fun v hv => ?_, fun v hv => ?_, fun v hv => ?_, ?_⟩
      · rcases hv with hv | rfl
        · exact wc v hv
        · rfl
      · rcases hv with hv | rfl | ⟨x, _, rfl⟩
        · exact bV_cells _ v hv
        · rfl
        · rfl
      · rcases hv with hv | rfl | ⟨x, _, rfl⟩ | rfl
        · exact bV_cells _ v hv
        · rfl
        · rfl
        · rfl
      refine ⟨n - 1, by omega, (hI _ _).2 ⟨W ++ [k], by simp; omega, hWm, by simp [r0], by simp [r3], by simp [r4], by simp [r5], by simp, .inr ⟨by simp, by simp [wV], ?_, ?_⟩⟩⟩
      · simp [flat_snoc, htc, bV]
      · simp [flat_snoc, htc]; omega
  · have hi2 : W.length = l.length := by omega
    have hfl := flat_len W h20
    have hlx := lex_flat W ((flatW W).length + 1) 0 h20 (by
      have := flat_ge W h20
      omega)
    obtain ⟨t6, t7, h6, h7⟩ : ∃ t6 t7, r 6 = .sl t6 (bV (flatW W)) ∧ r 7 = .sl t7 (wV W) := by
      rcases hor with ⟨h1, h2, h3, _⟩ | ⟨h1, h2, h3, _⟩
      · subst h1
        exact ⟨_, _, h2, h3⟩
      · exact ⟨_, _, h3, h2⟩
    have hi3 : ¬ W.length < l.length := by omega
    clear hor
    simp [forget, noLoc, r0, r8, hi, h6, bV_dem]
    refine split10 (by omega) (by simp) (fun ts tl e => ?_) fun ts at_ tl q e _ _ => ?_
    · have e := congrArg Prod.fst (hlx.symm.trans e)
      simp only at e
      subst e
      have wl : (wV W).length = W.length := by simp [wV]
      simp [tkW_len, h7, wl]
      obtain ⟨I2, hI2⟩ : ∃ I : Nat → St → Prop, ∀ n s, I n s ↔ (∃ i : Nat, i + n = W.length ∧ s.r 3 = .bool true ∧ s.r 4 = .sl .clip (TX.map .str) ∧ s.r 5 = .sl .clip (KN.map (.int .i64)) ∧ s.r 7 = .sl t7 (wV W) ∧
        s.r 10 = .sl .frozen ((tkW 0 W).map tkV) ∧ s.r 12 = .int .i64 i) := ⟨_, fun _ _ => Iff.rfl⟩
      refine loop_ind (CallA.hle ap) I2 ?_ (n := W.length) ((hI2 _ _).2 ⟨0, by simp, by simp [r3], by simp [r4], by simp [r5], by simp [h7], by simp, by simp⟩)
      rintro n ⟨r, lo, h'⟩ hst
      obtain ⟨i, hin, r3, r4, r5, r7, r10, r12⟩ := (hI2 _ _).1 hst
      simp only at r3 r4 r5 r7 r10 r12
      by_cases hi : i < W.length
      · obtain ⟨q, hq⟩ := tkW_get W 0 i hi
        have hk := h20 W[i] (List.getElem_mem hi)
        have hw : IntKind.wrap .i64 ((i : Int) + 1) = ((i + 1 : Nat) : Int) := by rw [wrapn (by omega) (by omega)]; omega
        have wg2 : (wV W)[i]'(by rw [wl]; exact hi) = .int .i64 (W[i] : Int) := by simp [wV]
        generalize W[i] = k at hq hk wg2
        have hk2 : k < TX.length := hk
        have hk3 : k < KN.length := hk
        have hj : i < (tkW 0 W).length := by rw [tkW_len]; exact hi
        have hq' : (tkW 0 W)[i] = ⟨kn k, q, tx k, nm k⟩ := by
          rw [List.getElem?_eq_getElem hj] at hq
          exact Option.some.inj hq
        have htx := tx_get k hk2
        have hkn := kn_get k hk3
        simp [forget, noLoc, r4, r7, r10, r12, hi, wl, tkW_len, hq', hk2, wg2, tkV, tokV]
        rw [htx]
        simp [r5, r7, r10, r12, hi, wl, tkW_len, hq', hk3, wg2, tkV, tokV]
        rw [hkn]
        simp [r12, hw]
        exact ⟨n - 1, by omega, (hI2 _ _).2 ⟨i + 1, by omega, by simp [r3], by simp [r4], by simp [r5], by simp [r7], by simp [r10], by simp⟩⟩
      · simp [forget, noLoc, r3, r7, r12, hi, wl]
    · have e := congrArg Prod.snd (hlx.symm.trans e)
      simp at e

end Go.Lt
