/- Terms are made: leaves: on the abstract machine. -/
import Derived.Test.YtabjkoehbbobdaaTtF7
namespace Go.Tt
open Go.Am Go.Proofs
set_option maxRecDepth 100000

def ty0 : Ty := .mk 0 [] []
theorem w4' : IntKind.wrap .i64 4 = 4 := wrap64 (by omega) (by omega)

theorem strs_cells (l : List Nm) (x : Nm) : ∀ v : V, (∃ a, a ∈ l ∧ V.str a = v) ∨ v = .str x → v.cells.length = 1 := by
  rintro v (⟨a, _, rfl⟩ | rfl) <;> rfl
theorem strs_snoc (l : List Nm) (x : Nm) : l.map V.str ++ [V.str x] = (l ++ [x]).map V.str := by simp

/-- A variable, or the like: of a name alone. -/
theorem leaf_v (k : Int) (x : Nm) (n : Int) : tmV (.mk k x n ty0 .nil .nil .nil) = .agg [.int .i64 k, .str x, .int .i64 n, .int .i64 0, .str [], .sl .frozen [], .sl .frozen [], .sl .frozen [], .sl .frozen []] := by
  rw [ty0, tm_mk]; simp only [tyVs, tmVs, alVs, biVs]
theorem leaf_ok (m : Nat) (k : Int) (x : Nm) (n : Int) (hx : x ≠ [113]) : MkT m (.mk k x n ty0 .nil .nil .nil) := by
  have : 1 ≤ 5 ^ m := Nat.one_le_pow _ _ (by omega)
  exact ⟨by simp [okTm, okTms, okAlts, okBinds, hx], by simp [shT, shL, shA, shB, Binds.names], by simp [szT, szL, szA, szB]; omega⟩

theorem mk_leaf (tg : Tag) (l : List Int) (p m : Nat) (deep i : Int) (hd : deep < 1) (vars : List Nm) (bs : List Nat) (h : List Ob) (Q : V → List Ob → Prop) (hi1 : 0 ≤ i) (hi2 : i + 80 * 5 ^ m < 1000000) (hv : vars.length ≤ 12) (hvq : ∀ x ∈ vars, x ≠ [113]) (hp : h[p]? = some (seqB tg l i))
    (hd0 : -1 ≤ deep) (hq : ∀ (t : Tm) (j : Int), i ≤ j → j ≤ i + 80 * 5 ^ m → MkT m t → Q (tmV t) (h.set p (seqB tg l j))) : CallA ap 5 0 bs [.ptr p 0, .sl .frozen (vars.map .str), .int .i64 deep] h Q := by
  have hpw : (1 : Int) ≤ 5 ^ m := by
    have : (0 : Int) < 5 ^ m := Int.pow_pos (by omega)
    omega
  refine CallA.code (af := ac5) rfl (Nat.le_of_ble_eq_true rfl) ?_
  simp [ac5]
  refine next30 tg l i 16 p hp hi1 (by omega) (by omega) (by omega) fun n hn1 hn2 => ?_
  have H1 := (HP.refl hp).set (seqB tg l (i + 1))
  generalize h.set p (seqB tg l (i + 1)) = H at H1 ⊢
  have hw : IntKind.wrap .i64 (deep - 1) = deep - 1 := wrap64 (by omega) (by omega)
  have fin : ∀ (k : Int) (x : Nm) (n j : Int), x ≠ [113] → i ≤ j → j ≤ i + 80 * 5 ^ m → Q (.agg [.int .i64 k, .str x, .int .i64 n, .int .i64 0, .str [], .sl .frozen [], .sl .frozen [], .sl .frozen [], .sl .frozen []]) (h.set p (seqB tg l j)) := fun k x n j hx h1 h2 => by
    have := hq _ j h1 h2 (leaf_ok m k x n hx)
    rwa [leaf_v] at this
  have hr : 0 ≤ n.tmod 6 ∧ n.tmod 6 < 6 := ⟨Int.tmod_nonneg _ hn1, Int.tmod_lt_of_pos _ (by omega)⟩
  simp [hd, hw]
  generalize n.tmod 6 = n at hr ⊢
  have hn : n = 0 ∨ n = 1 ∨ n = 2 ∨ n = 3 ∨ n = 4 ∨ n = 5 := by omega
  rcases hn with rfl | rfl | rfl | rfl | rfl | rfl <;> simp <;> first
    | (simp only [dem_strs']
       refine texts56 vars (by omega) ?_
       simp [splice]
       refine ⟨strs_cells _ _, by simp only [lim]; omega, ?_⟩
       simp [demL_app, dem_strs', V.demote, demoteL, List.set_append]
       have e1 : List.map V.str vars ++ [V.str [117]] = (vars ++ [[117]]).map V.str := by simp
       have H2 := H1.app [.fam (vars.length + 1) 1]
       rw [e1]
       refine word14 tg l (i + 1) p (vars ++ [[117]]) (by simp) (by simp; omega) (by omega) (by omega) H2.get fun x hx => ?_
       have H3 := H2.set (seqB tg l (i + 1 + 1))
       have hx2 : x ≠ [113] := by
         rcases List.mem_append.1 hx with hx | hx
         · exact hvq x hx
         · simp at hx; subst hx; decide
       simp [splice]
       rw [H3.tk]
       exact fin 1 x 0 _ hx2 (by omega) (by omega))
    | (refine next30 tg l (i + 1) 9 p H1.get (by omega) (by omega) (by omega) (by omega) fun k hk1 hk2 => ?_
       have H3 := H1.set (seqB tg l (i + 1 + 1))
       have hw2 : IntKind.wrap .i64 (k - 3) = k - 3 := wrap64 (by omega) (by omega)
       simp [splice, hw2]
       rw [H3.tk]
       exact fin 3 [] (k - 3) _ (by decide) (by omega) (by omega))
    | (refine word14 tg l (i + 1) p [[84, 114, 117, 101], [78, 105, 108], [67, 111, 110, 115], [80, 97, 105, 114], [122, 122]] (by simp) (by simp) (by omega) (by omega) H1.get fun x hx => ?_
       have H3 := H1.set (seqB tg l (i + 1 + 1))
       have hx2 : x ≠ [113] := by
         intro e; subst e; simp at hx
       simp [splice]
       rw [H3.tk]
       exact fin 2 x 0 _ hx2 (by omega) (by omega))
    | (refine word14 tg l (i + 1) p [[112, 114, 105, 109, 73, 110, 116, 65, 100, 100], [112, 114, 105, 109, 73, 110, 116, 69, 113], [112, 114, 105, 109, 73, 110, 116, 83, 104, 111, 119], [112, 114, 105, 109]] (by simp) (by simp) (by omega) (by omega) H1.get fun x hx => ?_
       have H3 := H1.set (seqB tg l (i + 1 + 1))
       have hx2 : x ≠ [113] := by
         intro e; subst e; simp at hx
       simp [splice]
       rw [H3.tk]
       exact fin 11 x 0 _ hx2 (by omega) (by omega))

end Go.Tt
