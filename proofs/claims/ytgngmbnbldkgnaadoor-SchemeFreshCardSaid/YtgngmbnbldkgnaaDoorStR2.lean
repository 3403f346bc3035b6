/- Substitutions out of pairs; a map gone through: on the abstract machine. -/
import Derived.Test.YtgngmbnbldkgnaaDoorStE0
namespace Go.St
open Go.Am Go.Proofs
set_option maxRecDepth 100000

/-- A pair as a value. -/
def paV (p : List UInt8 × Ty) : V := .agg (.str p.1 :: (tyV p.2).cells)
def paVs (l : En) : List V := l.map paV
theorem pa_cells (p : List UInt8 × Ty) : (paV p).cells.length = 4 := by simp [paV]
theorem pa_take (p : List UInt8 × Ty) : (paV p).cells.take 4 = (paV p).cells := List.take_of_length_le (Nat.le_of_eq (pa_cells p))
theorem pa_agg (p : List UInt8 × Ty) : V.agg (paV p).cells = paV p := rfl
theorem pa_sel (p : List UInt8 × Ty) : sel (paV p).cells 0 (some 4) = some (paV p) := by simp [pa_cells, pa_take, pa_agg]
theorem pa_loc (p : List UInt8 × Ty) : (paV p).isLoc = false := rfl
theorem pa_demote (p : List UInt8 × Ty) : (paV p).demote = paV p := by obtain ⟨c, k, n, l⟩ := p; simp [paV, tyV, demote_tys]
theorem pas_demote (l : En) : demoteL (paVs l) = paVs l := by rw [demoteL_eq]; simp [paVs, pa_demote]
theorem pa_under (m : Nat) (p : List UInt8 × Ty) : (paV p).under m = true := by obtain ⟨c, k, n, l⟩ := p; simp [paV, tyV, under_tys]
theorem pas_under (m : Nat) (l : En) : underL m (paVs l) = true := by rw [underL_eq]; simp [paVs, pa_under]
theorem pas_length (l : En) : (paVs l).length = l.length := by simp [paVs]
theorem pa_name (p : List UInt8 × Ty) : (paV p).cells[0]? = some (.str p.1) := by simp [paV]
theorem pa_type (p : List UInt8 × Ty) : ((paV p).cells.drop 1).take 3 = (tyV p.2).cells := by simp [paV, ty_take]

/-- A map from names that only grew. -/
def gE (l : List (List UInt8 × V)) : List (V × V) := l.map fun p => (.str p.1, p.2)
def gOb (l : List (List UInt8 × V)) : Ob := .map (gE l) (List.range l.length) l.length
theorem g_none {l : List (List UInt8 × V)} {x : List UInt8} (h : x ∉ l.map (·.1)) : findE (.str x) (gE l) = some none := by
  induction l with
  | nil => rfl
  | cons p l ih =>
    simp only [List.map_cons, List.mem_cons, not_or] at h
    have : (x == p.1) = false := by simpa using h.1
    simp only [gE, List.map_cons, findE, keyEq, this] at ih ⊢
    exact ih h.2
theorem g_set {l : List (List UInt8 × V)} {x : List UInt8} (v : V) (h : x ∉ l.map (·.1)) : setE (.str x) v (gE l) = some (gE (l ++ [(x, v)])) := by
  induction l with
  | nil => rfl
  | cons p l ih =>
    simp only [List.map_cons, List.mem_cons, not_or] at h
    have : (x == p.1) = false := by simpa using h.1
    simp only [gE, List.map_cons, List.cons_append, setE, keyEq, this] at ih ⊢
    simp [ih h.2]
theorem g_ob (l : List (List UInt8 × V)) (x : List UInt8) (v : V) : setOb (gE l).length (List.range l.length) l.length (gE (l ++ [(x, v)])) = gOb (l ++ [(x, v)]) := by
  simp [setOb, gOb, gE, List.range_succ]

/-- No name for itself. -/
def nid (p : List UInt8 × Ty) : Bool := match p.2 with
  | .mk k n _ => k != 1 || n != p.1

section
variable {bs : List Nat} {h : List Ob} {Q : V → List Ob → Prop}

/-- What copies a type. -/
def CloneS (t : Ty) : Prop := ∀ (bs : List Nat) (h : List Ob) (Q : V → List Ob → Prop), Q (tyV t) h → CallA ap 46 0 bs [tyV t] h Q

theorem clone31 : ∀ (m : Nat) (t : Ty), SizeOf.sizeOf t ≤ m → okT t = true → CloneS t := by
  intro m
  induction m with
  | zero => intro t h; cases t; simp at h
  | succ m ih =>
    intro t hm ht bs h Q hq
    obtain ⟨k, n, l⟩ := t
    obtain ⟨l1, l2⟩ := okT_len ht
    have each : ∀ a ∈ l, CloneS a := fun a ha => ih a (by have := List.sizeOf_lt_of_mem ha; simp at hm; omega) (l2 a ha)
    refine CallA.code (af := ac46) rfl (Nat.le_of_ble_eq_true rfl) ?_
    simp [ac46, tyV, splice]
    match l, l1, each with
    | [], _, _ =>
      refine wpA_loop (CallA.hle ap) ?_
      simp [forget, noLoc, locOf, tyVs, splice]
      simpa [tyV, tyVs] using hq
    | [a], _, each =>
      refine wpA_loop (CallA.hle ap) ?_
      simp [forget, noLoc, locOf, tyVs, ty_sel, splice, ty_take, ty_agg, demote_ty]
      refine each a (by simp) _ _ _ ?_
      simp [w1, splice, lim]
      refine wpA_loop (CallA.hle ap) ?_
      simp [forget, noLoc, locOf, splice, demote_ty, under_ty]
      simpa [tyV, tyVs] using hq
    | [a, b], _, each =>
      refine wpA_loop (CallA.hle ap) ?_
      simp [forget, noLoc, locOf, tyVs, ty_sel, splice, ty_take, ty_agg, demote_ty]
      refine each a (by simp) _ _ _ ?_
      simp [w1, splice, lim]
      refine wpA_loop (CallA.hle ap) ?_
      simp [forget, noLoc, locOf, tyVs, ty_sel, splice, ty_take, ty_agg, demote_ty]
      refine each b (by simp) _ _ _ ?_
      simp [w2, splice, lim]
      refine wpA_loop (CallA.hle ap) ?_
      simp [forget, noLoc, locOf, splice, demote_ty, under_ty]
      simpa [tyV, tyVs] using hq

theorem cloneOk {t : Ty} (h : okT t = true) : CloneS t := clone31 _ t (Nat.le_refl _) h

theorem put79 (q : Nat) (f : En) (x : List UInt8) (t : Ty) (hx : look f x = none) (ht : okT t = true) (h0 : h[q]? = some (mapOb f))
    (hq : Q (.tup []) (h.set q (mapOb (f ++ [(x, t)].filter nid)))) : CallA ap 67 0 bs [.agg [.map (some q)], .str x, tyV t] h Q := by
  have hql : q < h.length := (List.getElem?_eq_some_iff.1 h0).1
  have h0' : h[q]? = some (.map (entE f) (List.range f.length) f.length) := h0
  have hself : h.set q (mapOb f) = h := by rw [← Option.some_inj.1 ((List.getElem?_eq_getElem hql).symm.trans h0)]; simp
  have hcl := cloneOk ht
  have hset := ent_set f x t hx
  obtain ⟨k, n, l⟩ := t
  have hty : tyV (.mk k n l) = .agg [.int .i64 k, .str n, .sl .frozen (tyVs l)] := by simp [tyV]
  refine CallA.code (af := ac67) rfl (Nat.le_of_ble_eq_true rfl) ?_
  by_cases hk : k = 1
  · subst hk
    by_cases hn : n = x
    · subst hn
      simp [ac67, tyV]
      simpa [nid, hself] using hq
    · have e1 : (n == x) = false := by simpa using hn
      have e2 : (!(n == x)) = true := by simp [e1]
      simp [ac67, tyV, e1, demote_tys]
      rw [← hty]
      refine hcl _ _ _ ?_
      simp [h0', isKey, hset, okStore, ty_ul, under_ty, ob_set]
      simpa [nid, hn] using hq
  · have e1 : (k != 1) = true := by simpa using hk
    simp [ac67, tyV, e1, demote_tys]
    rw [← hty]
    refine hcl _ _ _ ?_
    simp [h0', isKey, hset, okStore, ty_ul, under_ty, ob_set]
    simpa [nid, e1] using hq

theorem uniq_take {e : En} (hu : Uniq e) {i : Nat} (hi : i < e.length) : e[i].1 ∉ (e.take i).map (·.1) := by
  intro hm
  simp only [Uniq] at hu
  obtain ⟨p, hp, hpe⟩ := List.mem_map.1 hm
  obtain ⟨j, hj, rfl⟩ := List.getElem_of_mem hp
  have hji : j < i := by simp at hj; omega
  have h1 : (e.map (·.1))[j]'(by simp; omega) = (e.map (·.1))[i]'(by simp; omega) := by
    simp only [List.getElem_map]
    rw [← hpe]
    simp
  exact List.pairwise_iff_getElem.1 hu j i _ _ hji h1

theorem look_filter_none {e : En} {x : List UInt8} (h : x ∉ e.map (·.1)) : look (e.filter nid) x = none := by
  cases hl : look (e.filter nid) x with
  | none => rfl
  | some u =>
    have := (List.mem_filter.1 (look_mem hl)).1
    exact absurd (List.mem_map.2 ⟨_, this, rfl⟩) h

theorem of61 (pl : En) (hu : Uniq pl) (hf : ∀ p ∈ pl, okT p.2 = true) (hl : pl.length < 1000000)
    (hq : Q (.agg [.map (some h.length)]) (h ++ [mapOb (pl.filter nid), gOb (pl.map fun p => (p.1, .bool true))])) :
    CallA ap 53 0 bs [.sl .frozen (paVs pl)] h Q := by
  refine CallA.code (af := ac53) rfl (Nat.le_of_ble_eq_true rfl) ?_
  simp [ac53, splice, pas_length]
  obtain ⟨I, hI⟩ : ∃ I : Nat → St → Prop, ∀ n s, I n s ↔ (∃ i : Nat, i + n = pl.length ∧ s.r 4 = .map (some (h.length + 1)) ∧ s.r 10 = .sl .frozen (paVs pl) ∧ s.r 11 = .int .i64 pl.length ∧ s.r 12 = .int .i64 i ∧
    s.r 2 = .loc 2 0 ∧ s.r 3 = .loc 3 0 ∧ s.l 2 = some [.map none] ∧ s.l 3 = some [.map (some h.length)] ∧
    s.h = h ++ [mapOb ((pl.take i).filter nid), gOb ((pl.map fun p => (p.1, .bool true)).take i)]) := ⟨_, fun _ _ => Iff.rfl⟩
  refine loop_ind (CallA.hle ap) I ?_ (n := pl.length) ((hI _ _).2 ⟨0, by simp [mapOb, gOb, entE, gE]⟩)
  rintro n ⟨r, lo, h'⟩ hs
  obtain ⟨i, hin, r4, r10, r11, r12, r2, r3, l2, l3, rfl⟩ := (hI _ _).1 hs
  simp only at r4 r10 r11 r12 r2 r3 l2 l3
  simp [forget, noLoc, locOf, r4, r10, r11, r12, r2, r3]
  refine condA_dec (fun h1 => ?_) fun h1 => ?_
  · have hi : i < pl.length := by omega
    have g1 : (paVs pl)[i]? = some (paV pl[i]) := by simp [paVs, hi]
    have hw : IntKind.wrap .i64 ((i : Int) + 1) = ((i + 1 : Nat) : Int) := by rw [wrap64 (by omega) (by omega)]; omega
    have hnot := uniq_take hu hi
    have htake : pl.take (i + 1) = pl.take i ++ [pl[i]] := by rw [List.take_add_one]; simp [hi]
    have hok := hf _ (List.getElem_mem hi)
    have hgn : pl[i].1 ∉ ((pl.map fun p => (p.1, V.bool true)).take i).map (·.1) := by
      rw [← List.map_take, List.map_map]; exact hnot
    have htake2 : (pl.map fun p => (p.1, V.bool true)).take (i + 1) = (pl.map fun p => (p.1, V.bool true)).take i ++ [(pl[i].1, .bool true)] := by
      rw [List.take_add_one]; simp [hi]
    have gN := g_none hgn
    have gS := g_set (.bool true) hgn
    have gO := g_ob ((pl.map fun p => (p.1, V.bool true)).take i) pl[i].1 (.bool true)
    generalize hp : pl[i] = p at *
    generalize hG : (pl.map fun p => (p.1, V.bool true)).take i = G at *
    have gOb' : gOb G = .map (gE G) (List.range G.length) G.length := rfl
    have e1 : (h ++ [mapOb ((pl.take i).filter nid), gOb G])[h.length + 1]? = some (.map (gE G) (List.range G.length) G.length) := by simp [gOb']
    have e2 : (h ++ [mapOb ((pl.take i).filter nid), gOb G]).set (h.length + 1) (gOb (G ++ [(p.1, .bool true)])) = h ++ [mapOb ((pl.take i).filter nid), gOb (G ++ [(p.1, .bool true)])] := by simp [List.set_append]
    obtain ⟨x, t⟩ := p
    obtain ⟨k, m, tl⟩ := t
    simp only at gN gS gO e1 e2 hok hnot
    have hty : tyV (.mk k m tl) = .agg [.int .i64 k, .str m, .sl .frozen (tyVs tl)] := by simp [tyV]
    simp [r4, r10, r11, r12, r2, r3, l2, l3, g1, pa_sel, pa_cells, pa_take, pa_agg, pa_loc, paV, tyV, splice, gOb', gN, isKey, gS, gO, okStore, demote_tys]
    rw [← hty]
    refine put79 h.length ((pl.take i).filter nid) x (.mk k m tl) (look_filter_none hnot) hok (by simp) ?_
    simp [r4, r10, r11, r12, r2, r3, l2, l3, hw]
    refine ⟨n - 1, by omega, (hI _ _).2 ⟨i + 1, by omega, ?_⟩⟩
    rw [htake, htake2]
    simp [r4, r10, r11, r2, r3, l2, l3, List.filter_append]
  · have hi : i = pl.length := by omega
    subst hi
    simp [r4, r10, r11, r12, r2, r3, l2, l3, splice]
    simpa [List.take_of_length_le] using hq

end
end Go.St
