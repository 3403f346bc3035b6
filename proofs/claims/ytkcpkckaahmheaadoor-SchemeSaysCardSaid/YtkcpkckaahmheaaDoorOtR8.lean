/- Substitutions out of pairs; a map gone through: on the abstract machine. -/
import Derived.Test.YtkcpkckaahmheaaDoorOtE0

namespace Go.Ot
open Go.Am Go.Proofs
set_option maxRecDepth 100000

/-- A pair as a value. -/
def paV (p : List UInt8 × Ty) : V := .agg (.str p.1 :: (tyV p.2).cells)
def paVs (l : En) : List V := l.map paV
theorem pa_cells (p : List UInt8 × Ty) : (paV p).cells.length = 4 := by simp [paV]
theorem pa_take (p : List UInt8 × Ty) : (paV p).cells.take 4 = (paV p).cells := List.take_of_length_le (Nat.le_of_eq (pa_cells p))
theorem pa_agg (p : List UInt8 × Ty) : V.agg (paV p).cells = paV p := rfl
theorem pa_sel (p : List UInt8 × Ty) : sel (paV p).cells 0 (some 4) = some (paV p) := by simp [pa_cells, pa_take, pa_agg]
theorem pa_loc (p : List UInt8 × Ty) : (paV p).isLoc = false := rfl
theorem pa_demote (p : List UInt8 × Ty) : (paV p).demote = paV p := by obtain ⟨c, k, n, l⟩ := p; simp [paV, tyV, demote_tys]
theorem pas_demote (l : En) : demoteL (paVs l) = paVs l := by rw [demoteL_eq]; simp [paVs, pa_demote]
theorem pa_under (m : Nat) (p : List UInt8 × Ty) : (paV p).under m = true := by obtain ⟨c, k, n, l⟩ := p; simp [paV, tyV, under_tys]
theorem pas_under (m : Nat) (l : En) : underL m (paVs l) = true := by rw [underL_eq]; simp [paVs, pa_under]
theorem pas_length (l : En) : (paVs l).length = l.length := by simp [paVs]
theorem pa_name (p : List UInt8 × Ty) : (paV p).cells[0]? = some (.str p.1) := by simp [paV]
theorem pa_type (p : List UInt8 × Ty) : ((paV p).cells.drop 1).take 3 = (tyV p.2).cells := by simp [paV, ty_take]

/-- A map from names that only grew. -/
def gE (l : List (List UInt8 × V)) : List (V × V) := l.map fun p => (.str p.1, p.2)
def gOb (l : List (List UInt8 × V)) : Ob := .map (gE l) (List.range l.length) l.length
theorem g_none {l : List (List UInt8 × V)} {x : List UInt8} (h : x ∉ l.map (·.1)) : findE (.str x) (gE l) = some none := by
  induction l with
  | nil => rfl
  | cons p l ih =>
    simp only [List.map_cons, List.mem_cons, not_or] at h
    have : (x == p.1) = false := by simpa using h.1
    simp only [gE, List.map_cons, findE, keyEq, this] at ih ⊢
    exact ih h.2
theorem g_set {l : List (List UInt8 × V)} {x : List UInt8} (v : V) (h : x ∉ l.map (·.1)) : setE (.str x) v (gE l) = some (gE (l ++ [(x, v)])) := by
  induction l with
  | nil => rfl
  | cons p l ih =>
    simp only [List.map_cons, List.mem_cons, not_or] at h
    have : (x == p.1) = false := by simpa using h.1
    simp only [gE, List.map_cons, List.cons_append, setE, keyEq, this] at ih ⊢
    simp [ih h.2]
theorem g_ob (l : List (List UInt8 × V)) (x : List UInt8) (v : V) : setOb (gE l).length (List.range l.length) l.length (gE (l ++ [(x, v)])) = gOb (l ++ [(x, v)]) := by
  simp [setOb, gOb, gE, List.range_succ]

/-- No name for itself. -/
def nid (p : List UInt8 × Ty) : Bool := match p.2 with
  | .mk k n _ => k != 1 || n != p.1

section
variable {bs : List Nat} {h : List Ob} {Q : V → List Ob → Prop}

/-- What copies a type. -/
def CloneS (t : Ty) : Prop := ∀ (bs : List Nat) (h : List Ob) (Q : V → List Ob → Prop), Q (tyV t) h → CallA ap 50 0 bs [tyV t] h Q

theorem clone31 : ∀ (m : Nat) (t : Ty), SizeOf.sizeOf t ≤ m → okT t = true → CloneS t := by
  intro m
  induction m with
  | zero => intro t h; cases t; simp at h
  | succ m ih =>
    intro t hm ht bs h Q hq
    obtain ⟨k, n, l⟩ := t
    obtain ⟨l1, l2⟩ := okT_len ht
    have each : ∀ a ∈ l, CloneS a := fun a ha => ih a (by have := List.sizeOf_lt_of_mem ha; simp at hm; omega) (l2 a ha)
    refine CallA.code (af := ac50) rfl (Nat.le_of_ble_eq_true rfl) ?_
    simp [ac50, tyV, splice]
    match l, l1, each with
    | [], _, _ =>
      refine wpA_loop (CallA.hle ap) ?_
      simp [forget, noLoc, locOf, tyVs, splice]
      simpa [tyV, tyVs] using hq
    | [a], _, each =>
      refine wpA_loop (CallA.hle ap) ?_
      simp [forget, noLoc, locOf, tyVs, ty_sel, splice, ty_take, ty_agg, demote_ty]
      refine each a (by simp) _ _ _ ?_
      simp [w1, splice, lim]
      refine wpA_loop (CallA.hle ap) ?_
      simp [forget, noLoc, locOf, splice, demote_ty, under_ty]
      simpa [tyV, tyVs] using hq
    | [a, b], _, each =>
      refine wpA_loop (CallA.hle ap) ?_
      simp [forget, noLoc, locOf, tyVs, ty_sel, splice, ty_take, ty_agg, demote_ty]
      refine each a (by simp) _ _ _ ?_
      simp [w1, splice, lim]
      refine wpA_loop (CallA.hle ap) ?_
      simp [forget, noLoc, locOf, tyVs, ty_sel, splice, ty_take, ty_agg, demote_ty]
      refine each b (by simp) _ _ _ ?_
      simp [w2, splice, lim]
      refine wpA_loop (CallA.hle ap) ?_
      simp [forget, noLoc, locOf, splice, demote_ty, under_ty]
      simpa [tyV, tyVs] using hq

theorem cloneOk {t : Ty} (h : okT t = true) : CloneS t := clone31 _ t (Nat.le_refl _) h

theorem put79 (q : Nat) (f : En) (x : List UInt8) (t : Ty) (hx : look f x = none) (ht : okT t = true) (h0 : h[q]? = some (mapOb f))
    (hq : Q (.tup []) (h.set q (mapOb (f ++ [(x, t)].filter nid)))) : CallA ap 89 0 bs [.agg [.map (some q)], .str x, tyV t] h Q := by
  have hql : q < h.length := (List.getElem?_eq_some_iff.1 h0).1
  have h0' : h[q]? = some (.map (entE f) (List.range f.length) f.length) := h0
  have hself : h.set q (mapOb f) = h := by rw [← Option.some_inj.1 ((List.getElem?_eq_getElem hql).symm.trans h0)]; simp
  have hcl := cloneOk ht
  have hset := ent_set f x t hx
  obtain ⟨k, n, l⟩ := t
  have hty : tyV (.mk k n l) = .agg [.int .i64 k, .str n, .sl .frozen (tyVs l)] := by simp [tyV]
  refine CallA.code (af := ac89) rfl (Nat.le_of_ble_eq_true rfl) ?_
  by_cases hk : k = 1
  · subst hk
    by_cases hn : n = x
    · subst hn
      simp [ac89, tyV]
      simpa [nid, hself] using hq
    · have e1 : (n == x) = false := by simpa using hn
      have e2 : (!(n == x)) = true := by simp [e1]
      simp [ac89, tyV, e1, demote_tys]
      rw [← hty]
      refine hcl _ _ _ ?_
      simp [h0', isKey, hset, okStore, ty_ul, under_ty, ob_set]
      simpa [nid, hn] using hq
  · have e1 : (k != 1) = true := by simpa using hk
    simp [ac89, tyV, e1, demote_tys]
    rw [← hty]
    refine hcl _ _ _ ?_
    simp [h0', isKey, hset, okStore, ty_ul, under_ty, ob_set]
    simpa [nid, e1] using hq

theorem uniq_take {e : En} (hu : Uniq e) {i : Nat} (hi : i < e.length) : e[i].1 ∉ (e.take i).map (·.1) := by
  intro hm
  simp only [Uniq] at hu
  obtain ⟨p, hp, hpe⟩ := List.mem_map.1 hm
  obtain ⟨j, hj, rfl⟩ := List.getElem_of_mem hp
  have hji : j < i := by simp at hj; omega
  have h1 : (e.map (·.1))[j]'(by simp; omega) = (e.map (·.1))[i]'(by simp; omega) := by
    simp only [List.getElem_map]
    rw [← hpe]
    simp
  exact List.pairwise_iff_getElem.1 hu j i _ _ hji h1

theorem look_filter_none {e : En} {x : List UInt8} (h : x ∉ e.map (·.1)) : look (e.filter nid) x = none := by
  cases hl : look (e.filter nid) x with
  | none => rfl
  | some u =>
    have := (List.mem_filter.1 (look_mem hl)).1
    exact absurd (List.mem_map.2 ⟨_, this, rfl⟩) h

theorem of61 (pl : En) (hu : Uniq pl) (hf : ∀ p ∈ pl, okT p.2 = true) (hl : pl.length < 1000000)
    (hq : Q (.agg [.map (some h.length)]) (h ++ [mapOb (pl.filter nid), gOb (pl.map fun p => (p.1, .bool true))])) :
    CallA ap 78 0 bs [.sl .frozen (paVs pl)] h Q := by
  refine CallA.code (af := ac78) rfl (Nat.le_of_ble_eq_true rfl) ?_
  simp [ac78, splice, pas_length]
  obtain ⟨I, hI⟩ : ∃ I : Nat → St → Prop, ∀ n s, I n s ↔ (∃ i : Nat, i + n = pl.length ∧ s.r 4 = .map (some (h.length + 1)) ∧ s.r 10 = .sl .frozen (paVs pl) ∧ s.r 11 = .int .i64 pl.length ∧ s.r 12 = .int .i64 i ∧
    s.r 2 = .loc 2 0 ∧ s.r 3 = .loc 3 0 ∧ s.l 2 = some [.map none] ∧ s.l 3 = some [.map (some h.length)] ∧
    s.h = h ++ [mapOb ((pl.take i).filter nid), gOb ((pl.map fun p => (p.1, .bool true)).take i)]) := ⟨_, fun _ _ => Iff.rfl⟩
  refine loop_ind (CallA.hle ap) I ?_ (n := pl.length) ((hI _ _).2 ⟨0, by simp [mapOb, gOb, entE, gE]⟩)
  rintro n ⟨r, lo, h'⟩ hs
  obtain ⟨i, hin, r4, r10, r11, r12, r2, r3, l2, l3, rfl⟩ := (hI _ _).1 hs
  simp only at r4 r10 r11 r12 r2 r3 l2 l3
  simp [forget, noLoc, locOf, r4, r10, r11, r12, r2, r3]
  refine condA_dec (fun h1 => ?_) fun h1 => ?_
  · have hi : i < pl.length := by omega
    have g1 : (paVs pl)[i]? = some (paV pl[i]) := by simp [paVs, hi]
    have hw : IntKind.wrap .i64 ((i : Int) + 1) = ((i + 1 : Nat) : Int) := by rw [wrap64 (by omega) (by omega)]; omega
    have hnot := uniq_take hu hi
    have htake : pl.take (i + 1) = pl.take i ++ [pl[i]] := by rw [List.take_add_one]; simp [hi]
    have hok := hf _ (List.getElem_mem hi)
    have hgn : pl[i].1 ∉ ((pl.map fun p => (p.1, V.bool true)).take i).map (·.1) := by
      rw [← List.map_take, List.map_map]; exact hnot
    have htake2 : (pl.map fun p => (p.1, V.bool true)).take (i + 1) = (pl.map fun p => (p.1, V.bool true)).take i ++ [(pl[i].1, .bool true)] := by
      rw [List.take_add_one]; simp [hi]
    have gN := g_none hgn
    have gS := g_set (.bool true) hgn
    have gO := g_ob ((pl.map fun p => (p.1, V.bool true)).take i) pl[i].1 (.bool true)
    generalize hp : pl[i] = p at *
    generalize hG : (pl.map fun p => (p.1, V.bool true)).take i = G at *
    have gOb' : gOb G = .map (gE G) (List.range G.length) G.length := rfl
    have e1 : (h ++ [mapOb ((pl.take i).filter nid), gOb G])[h.length + 1]? = some (.map (gE G) (List.range G.length) G.length) := by simp [gOb']
    have e2 : (h ++ [mapOb ((pl.take i).filter nid), gOb G]).set (h.length + 1) (gOb (G ++ [(p.1, .bool true)])) = h ++ [mapOb ((pl.take i).filter nid), gOb (G ++ [(p.1, .bool true)])] := by simp [List.set_append]
    obtain ⟨x, t⟩ := p
    obtain ⟨k, m, tl⟩ := t
    simp only at gN gS gO e1 e2 hok hnot
    have hty : tyV (.mk k m tl) = .agg [.int .i64 k, .str m, .sl .frozen (tyVs tl)] := by simp [tyV]
    simp [r4, r10, r11, r12, r2, r3, l2, l3, g1, pa_sel, pa_cells, pa_take, pa_agg, pa_loc, paV, tyV, splice, gOb', gN, isKey, gS, gO, okStore, demote_tys]
    rw [← hty]
    refine put79 h.length ((pl.take i).filter nid) x (.mk k m tl) (look_filter_none hnot) hok (by simp) ?_
    simp [r4, r10, r11, r12, r2, r3, l2, l3, hw]
    refine ⟨n - 1, by omega, (hI _ _).2 ⟨i + 1, by omega, ?_⟩⟩
    rw [htake, htake2]
    simp [r4, r10, r11, r2, r3, l2, l3, List.filter_append]
  · have hi : i = pl.length := by omega
    subst hi
    simp [r4, r10, r11, r12, r2, r3, l2, l3, splice]
    simpa [List.take_of_length_le] using hq

end
end Go.Ot

namespace Go.Ot
open Go.Am Go.Proofs
set_option maxRecDepth 100000

theorem k_range_m {K : V → St → Prop} {s : St} (r : Nat) (e : En) : kRange1 r K s (some (mapOb e)) = K (.ptr s.h.length 0) { s with h := s.h ++ [.iter (some r) e.length [] e.length] } := rfl

theorem next_m {K : V → St → Prop} {s : St} {it r : Nat} {seen : List Nat} {e : En} (ho : (∀ i, i < e.length → i ∈ seen) → K (.tup [.bool false]) s)
    (hst : ∀ i (hi : i < e.length), i ∉ seen → K (.tup [.bool true, .str e[i].1, tyV e[i].2]) { s with h := s.h.set it (.iter (some r) e.length (seen ++ [i]) e.length) }) :
    kNext2 it r e.length seen e.length K s (some (mapOb e)) := by
  refine ⟨by simp [entE], fun b hb => by simpa using hb, Nat.le_refl _, fun hall => ho fun i hi => hall i (by simpa using hi), fun i k v b h1 h2 h3 => ?_⟩
  have hi : i < e.length := by simpa [entE] using (List.getElem?_eq_some_iff.1 h1).1
  have hb : b = i := by rw [List.getElem?_range hi] at h2; exact (Option.some.inj h2).symm
  subst hb
  simp [entE, hi] at h1
  obtain ⟨rfl, rfl⟩ := h1
  exact hst b hi h3

theorem born_m : ∀ (e : En) (o i : Nat) (hi : i < e.length), bornE (o + i) (entE e) (List.range' o e.length) = some (.tup [.str e[i].1, tyV e[i].2])
  | [], _, _, hi => by simp at hi
  | p :: e, o, 0, _ => by simp [entE, List.range', bornE]
  | p :: e, o, i + 1, hi => by
    have := born_m e (o + 1) i (by simpa using hi)
    have e1 : o + 1 + i = o + (i + 1) := by omega
    rw [e1] at this
    simp only [entE, List.map_cons, List.length_cons, List.range', bornE] at this ⊢
    rw [if_neg (by omega)]
    simpa using this

theorem ent_m {seen : List Nat} {e : En} {i : Nat} (hi : i < e.length) : entV2 (seen ++ [i]) e.length (some (mapOb e)) = some (.tup [.str e[i].1, tyV e[i].2]) := by
  have := born_m e 0 i hi
  simp only [Nat.zero_add] at this
  simp [entV2, mapOb, entE, List.range_eq_range'] at this ⊢
  exact this

/-- The entries at places. -/
def pick (e : En) (l : List Nat) : En := l.filterMap fun i => e[i]?

theorem pick_mem {e : En} {l : List Nat} {p : List UInt8 × Ty} : p ∈ pick e l ↔ ∃ i ∈ l, e[i]? = some p := by simp [pick]

theorem pick_uniq {e : En} (hu : Uniq e) : ∀ {l : List Nat}, l.Nodup → (∀ i ∈ l, i < e.length) → Uniq (pick e l)
  | [], _, _ => by simp [pick, Uniq]
  | i :: l, hn, hl => by
    simp only [List.nodup_cons] at hn
    have hi := hl i (by simp)
    have ih := pick_uniq hu hn.2 fun j hj => hl j (by simp [hj])
    have e1 : pick e (i :: l) = e[i] :: pick e l := by simp [pick, hi]
    rw [e1]
    simp only [Uniq, List.map_cons, List.nodup_cons] at ih ⊢
    refine ⟨fun hm => ?_, ih⟩
    obtain ⟨p, hp, hpe⟩ := List.mem_map.1 hm
    obtain ⟨j, hj, hje⟩ := pick_mem.1 hp
    have hjl := hl j (by simp [hj])
    rw [List.getElem?_eq_getElem hjl] at hje
    have hje : e[j] = p := Option.some.inj hje
    have h1 : look e e[j].1 = some e[j].2 := mem_look hu (List.getElem_mem hjl)
    by_cases hij : i = j
    · subst hij; exact hn.1 hj
    · have hne : (e.map (·.1))[i]'(by simpa using hi) ≠ (e.map (·.1))[j]'(by simpa using hjl) := by
        rcases Nat.lt_or_gt_of_ne hij with hlt | hlt
        · exact List.pairwise_iff_getElem.1 hu i j _ _ hlt
        · exact fun e => List.pairwise_iff_getElem.1 hu j i _ _ hlt e.symm
      apply hne
      simp only [List.getElem_map]
      rw [← hpe, hje]

/-- What is picked, without what is named itself, says the same of each name. -/
theorem pick_sg {e : En} (hu : Uniq e) (hfi : ∀ x u, (x, u) ∈ e → fine u = true) {l : List Nat} (hn : l.Nodup) (hl : ∀ i ∈ l, i < e.length) (hall : ∀ i, i < e.length → i ∈ l) (x : List UInt8) :
    sg (look ((pick e l).filter nid)) x = sg (look e) x := by
  have hup := pick_uniq hu hn hl
  have huf : Uniq ((pick e l).filter nid) := by
    simp only [Uniq] at hup ⊢
    exact List.Nodup.sublist (List.Sublist.map _ (List.filter_sublist)) hup
  unfold sg
  cases hx : look e x with
  | none =>
    have : look ((pick e l).filter nid) x = none := by
      cases hy : look ((pick e l).filter nid) x with
      | none => rfl
      | some u =>
        have := (List.mem_filter.1 (look_mem hy)).1
        obtain ⟨i, _, hi⟩ := pick_mem.1 this
        have hm := mem_look hu (List.mem_of_getElem? hi)
        rw [hx] at hm
        cases hm
    rw [this]
  | some u =>
    have hm := look_mem hx
    obtain ⟨i, hi⟩ := List.getElem?_of_mem hm
    have hil : i < e.length := (List.getElem?_eq_some_iff.1 hi).1
    have hp : (x, u) ∈ pick e l := pick_mem.2 ⟨i, hall i hil, hi⟩
    by_cases hid : nid (x, u) = true
    · have := mem_look huf (List.mem_filter.2 ⟨hp, hid⟩)
      rw [this]
    · have hnone : look ((pick e l).filter nid) x = none := by
        cases hy : look ((pick e l).filter nid) x with
        | none => rfl
        | some v =>
          have h1 := List.mem_filter.1 (look_mem hy)
          have h2 := mem_look hup h1.1
          have h3 := mem_look hup hp
          rw [h2] at h3
          have h3 := Option.some.inj h3
          subst h3
          exact absurd h1.2 hid
      rw [hnone]
      have hfu := hfi x u hm
      obtain ⟨k, m, tl⟩ := u
      simp only [nid, Bool.not_eq_true, Bool.or_eq_false_iff, bne_eq_false_iff_eq] at hid
      obtain ⟨rfl, rfl⟩ := hid
      simp only [fine, bne_self_eq_false, Bool.false_or, Bool.and_eq_true, List.isEmpty_iff] at hfu
      rw [hfu.1.2]
      rfl

end Go.Ot

namespace Go.Ot
open Go.Am Go.Proofs
set_option maxRecDepth 100000

section
variable {bs : List Nat} {h : List Ob} {Q : V → List Ob → Prop}

/-- What replaces variables by a map. -/
def AppS (t : Ty) : Prop := ∀ (bs : List Nat) (h : List Ob) (Q : V → List Ob → Prop) (q : Nat) (f : En), h[q]? = some (mapOb f) → (∀ x u, look f x = some u → fine u = true) → Q (tyV (apT (look f) t)) h →
  CallA ap 66 0 bs [.agg [.map (some q)], tyV t] h Q

theorem apply32 : ∀ (m : Nat) (t : Ty), SizeOf.sizeOf t ≤ m → fine t = true → AppS t := by
  intro m
  induction m with
  | zero => intro t h; cases t; simp at h
  | succ m ih =>
    intro t hm ht bs h Q q f hq0 hf hq
    obtain ⟨k, n, l⟩ := t
    have hql : q < h.length := (List.getElem?_eq_some_iff.1 hq0).1
    have hq0' : h[q]? = some (.map (entE f) (List.range f.length) f.length) := hq0
    simp only [fine, Bool.and_eq_true, decide_eq_true_eq] at ht
    have each : ∀ a ∈ l, AppS a := fun a ha => ih a (by have := List.sizeOf_lt_of_mem ha; simp at hm; omega) (fineL_mem ht.2 ha)
    refine CallA.code (af := ac66) rfl (Nat.le_of_ble_eq_true rfl) ?_
    by_cases hk : k = 1
    · subst hk
      have hl : l = [] := by simpa using ht.1.2
      subst hl
      simp only [apT, if_true] at hq
      cases hx : look f n with
      | none =>
        rw [hx] at hq
        simp [ac66, tyV, hq0', ent_find, hx, splice]
        refine wpA_loop (CallA.hle ap) ?_
        simp [forget, noLoc, locOf, tyVs, splice]
        simpa [tyV, tyVs] using hq
      | some u =>
        rw [hx] at hq
        simp [ac66, tyV, hq0', ent_find, hx, splice, ty_take, ty_agg, demote_ty]
        refine cloneOk (fine_ok _ (hf n u hx)) _ _ _ ?_
        simp [splice, ty_take, ty_agg, demote_ty, under_ty]
        simpa using hq
    · have hk1 : (k == 1) = false := by simpa using hk
      simp only [apT, if_neg hk] at hq
      simp [ac66, tyV, hk1, splice]
      match l, ht.1.1, each with
      | [], _, _ =>
        refine wpA_loop (CallA.hle ap) ?_
        simp [forget, noLoc, locOf, tyVs, splice]
        simpa [tyV, tyVs, apL] using hq
      | [a], _, each =>
        refine wpA_loop (CallA.hle ap) ?_
        simp [forget, noLoc, locOf, tyVs, ty_sel, splice, ty_take, ty_agg, demote_ty]
        refine each a (by simp) _ _ _ q f hq0 hf ?_
        simp [w1, splice, lim]
        refine wpA_loop (CallA.hle ap) ?_
        simp [forget, noLoc, locOf, splice, demote_ty, under_ty]
        simpa [tyV, tyVs, apL] using hq
      | [a, b], _, each =>
        refine wpA_loop (CallA.hle ap) ?_
        simp [forget, noLoc, locOf, tyVs, ty_sel, splice, ty_take, ty_agg, demote_ty]
        refine each a (by simp) _ _ _ q f hq0 hf ?_
        simp [w1, splice, lim]
        refine wpA_loop (CallA.hle ap) ?_
        simp [forget, noLoc, locOf, tyVs, ty_sel, splice, ty_take, ty_agg, demote_ty]
        refine each b (by simp) _ _ _ q f (by rw [List.getElem?_append_left hql]; exact hq0) hf ?_
        simp [w2, splice, lim]
        refine wpA_loop (CallA.hle ap) ?_
        simp [forget, noLoc, locOf, splice, demote_ty, under_ty]
        simpa [tyV, tyVs, apL] using hq

theorem applyOk {t : Ty} (h : fine t = true) : AppS t := apply32 _ t (Nat.le_refl _) h

end
end Go.Ot

namespace Go.Ot
open Go.Am Go.Proofs
set_option maxRecDepth 100000

section
variable {bs : List Nat} {h : List Ob} {Q : V → List Ob → Prop}

/-- The first of a name. -/
theorem get59 (e : En) (x : List UInt8) (hl : e.length < 1000000) (hq : Q (match look e x with | some u => .tup [tyV u, .bool true] | none => .tup [tyV (.mk 0 [] []), .bool false]) h) :
    CallA ap 57 0 bs [.sl .frozen (paVs e), .str x] h Q := by
  refine CallA.code (af := ac57) rfl (Nat.le_of_ble_eq_true rfl) ?_
  simp [ac57]
  obtain ⟨I, hI⟩ : ∃ I : Nat → St → Prop, ∀ n s, I n s ↔ (∃ i : Nat, i + n = e.length ∧ look (e.drop i) x = look e x ∧ s.r 0 = .sl .frozen (paVs e) ∧ s.r 1 = .str x ∧ s.r 6 = .int .i64 i ∧ s.r 4 = .loc 4 0 ∧ s.l 4 = some [.int .i64 0, .str [], .sl .clip []] ∧ s.h = h) := ⟨_, fun _ _ => Iff.rfl⟩
  refine loop_ind (CallA.hle ap) I ?_ (n := e.length) ((hI _ _).2 ⟨0, by simp⟩)
  rintro n ⟨r, lo, h'⟩ hs
  obtain ⟨i, hin, hlk, r0, r1, r6, r4, l4, rfl⟩ := (hI _ _).1 hs
  simp only at r0 r1 r6 r4 l4
  simp [forget, noLoc, locOf, r0, r1, r6, r4, pas_length]
  refine condA_dec (fun h1 => ?_) fun h1 => ?_
  · have hi : i < e.length := by omega
    have g1 : (paVs e)[i]? = some (paV e[i]) := by simp [paVs, hi]
    have hw : IntKind.wrap .i64 ((i : Int) + 1) = ((i + 1 : Nat) : Int) := by rw [wrap64 (by omega) (by omega)]; omega
    rw [List.drop_eq_getElem_cons hi] at hlk
    simp only [look] at hlk
    by_cases hx : e[i].1 = x
    · rw [if_pos hx] at hlk
      rw [← hlk] at hq
      have hb : (e[i].1 == x) = true := by simpa using hx
      simp [r0, r1, r6, r4, l4, g1, pa_cells, paV, hb, ty_take, ty_agg, splice, demote_ty, under_ty]
      simpa using hq
    · rw [if_neg hx] at hlk
      have hb : (e[i].1 == x) = false := by simpa using hx
      simp [r0, r1, r6, r4, l4, g1, pa_cells, paV, hb, hw]
      exact ⟨n - 1, by omega, (hI _ _).2 ⟨i + 1, by omega, hlk, by simp [r0, r1, r4, l4]⟩⟩
  · have hi : i = e.length := by omega
    subst hi
    rw [List.drop_length] at hlk
    simp only [look] at hlk
    rw [← hlk] at hq
    simp [r0, r1, r6, r4, l4, splice]
    simpa [tyV, tyVs] using hq

/-- What replaces variables by pairs. -/
def RefS (t : Ty) : Prop := ∀ (bs : List Nat) (h : List Ob) (Q : V → List Ob → Prop) (e : En), e.length < 1000000 → Q (tyV (apT (look e) t)) h → CallA ap 24 0 bs [.sl .frozen (paVs e), tyV t] h Q

theorem ref28 : ∀ (m : Nat) (t : Ty), SizeOf.sizeOf t ≤ m → fine t = true → RefS t := by
  intro m
  induction m with
  | zero => intro t h; cases t; simp at h
  | succ m ih =>
    intro t hm ht bs h Q e hel hq
    obtain ⟨k, n, l⟩ := t
    simp only [fine, Bool.and_eq_true, decide_eq_true_eq] at ht
    have each : ∀ a ∈ l, RefS a := fun a ha => ih a (by have := List.sizeOf_lt_of_mem ha; simp at hm; omega) (fineL_mem ht.2 ha)
    refine CallA.code (af := ac24) rfl (Nat.le_of_ble_eq_true rfl) ?_
    by_cases hk : k = 1
    · subst hk
      simp only [apT, if_true] at hq
      simp [ac24, tyV, pas_demote]
      refine get59 e n hel ?_
      cases hx : look e n with
      | none =>
        rw [hx] at hq
        simp [splice, ty_take, ty_agg, demote_tys, under_tys]
        simpa [tyV] using hq
      | some u =>
        rw [hx] at hq
        simp [splice, ty_take, ty_agg, demote_ty, under_ty]
        simpa using hq
    · have hk1 : (k == 1) = false := by simpa using hk
      simp only [apT, if_neg hk] at hq
      simp [ac24, tyV, hk1]
      match l, ht.1.1, each with
      | [], _, _ =>
        refine wpA_loop (CallA.hle ap) ?_
        simp [forget, noLoc, locOf, tyVs, splice]
        simpa [tyV, tyVs, apL] using hq
      | [a], _, each =>
        refine wpA_loop (CallA.hle ap) ?_
        simp [forget, noLoc, locOf, tyVs, ty_sel, splice, ty_take, ty_agg, demote_ty, pas_demote]
        refine each a (by simp) _ _ _ e hel ?_
        simp [w1, splice, lim]
        refine wpA_loop (CallA.hle ap) ?_
        simp [forget, noLoc, locOf, splice, demote_ty, under_ty]
        simpa [tyV, tyVs, apL] using hq
      | [a, b], _, each =>
        refine wpA_loop (CallA.hle ap) ?_
        simp [forget, noLoc, locOf, tyVs, ty_sel, splice, ty_take, ty_agg, demote_ty, pas_demote]
        refine each a (by simp) _ _ _ e hel ?_
        simp [w1, splice, lim]
        refine wpA_loop (CallA.hle ap) ?_
        simp [forget, noLoc, locOf, tyVs, ty_sel, splice, ty_take, ty_agg, demote_ty, pas_demote]
        refine each b (by simp) _ _ _ e hel ?_
        simp [w2, splice, lim]
        refine wpA_loop (CallA.hle ap) ?_
        simp [forget, noLoc, locOf, splice, demote_ty, under_ty]
        simpa [tyV, tyVs, apL] using hq

theorem refOk {t : Ty} (h : fine t = true) : RefS t := ref28 _ t (Nat.le_refl _) h

end
end Go.Ot
