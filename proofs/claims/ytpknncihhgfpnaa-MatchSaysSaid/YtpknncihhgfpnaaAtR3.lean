/- Match, Both, Apply on the abstract machine. -/
import Derived.Test.YtpknncihhgfpnaaAtR2
namespace Go.At
open Go.Am Go.Proofs
set_option maxRecDepth 100000

theorem k_range_m {K : V → St → Prop} {s : St} (r : Nat) (e : En) : kRange1 r K s (some (mapOb e)) = K (.ptr s.h.length 0) { s with h := s.h ++ [.iter (some r) e.length [] e.length] } := rfl

theorem next_m {K : V → St → Prop} {s : St} {it r : Nat} {seen : List Nat} {e : En} (ho : (∀ i, i < e.length → i ∈ seen) → K (.tup [.bool false]) s)
    (hst : ∀ i (hi : i < e.length), i ∉ seen → K (.tup [.bool true, .str e[i].1, tyV e[i].2]) { s with h := s.h.set it (.iter (some r) e.length (seen ++ [i]) e.length) }) :
    kNext2 it r e.length seen e.length K s (some (mapOb e)) := by
  refine ⟨by simp [entE], fun b hb => by simpa using hb, Nat.le_refl _, fun hall => ho fun i hi => hall i (by simpa using hi), fun i k v b h1 h2 h3 => ?_⟩
  have hi : i < e.length := by simpa [entE] using (List.getElem?_eq_some_iff.1 h1).1
  have hb : b = i := by rw [List.getElem?_range hi] at h2; exact (Option.some.inj h2).symm
  subst hb
  simp [entE, hi] at h1
  obtain ⟨rfl, rfl⟩ := h1
  exact hst b hi h3

theorem born_m : ∀ (e : En) (o i : Nat) (hi : i < e.length), bornE (o + i) (entE e) (List.range' o e.length) = some (.tup [.str e[i].1, tyV e[i].2])
  | [], _, _, hi => by simp at hi
  | p :: e, o, 0, _ => by simp [entE, List.range', bornE]
  | p :: e, o, i + 1, hi => by
    have := born_m e (o + 1) i (by simpa using hi)
    have e1 : o + 1 + i = o + (i + 1) := by omega
    rw [e1] at this
    simp only [entE, List.map_cons, List.length_cons, List.range', bornE] at this ⊢
    rw [if_neg (by omega)]
    simpa using this

theorem ent_m {seen : List Nat} {e : En} {i : Nat} (hi : i < e.length) : entV2 (seen ++ [i]) e.length (some (mapOb e)) = some (.tup [.str e[i].1, tyV e[i].2]) := by
  have := born_m e 0 i hi
  simp only [Nat.zero_add] at this
  simp [entV2, mapOb, entE, List.range_eq_range'] at this ⊢
  exact this

/-- The entries at places. -/
def pick (e : En) (l : List Nat) : En := l.filterMap fun i => e[i]?

theorem pick_mem {e : En} {l : List Nat} {p : List UInt8 × Ty} : p ∈ pick e l ↔ ∃ i ∈ l, e[i]? = some p := by simp [pick]

theorem pick_uniq {e : En} (hu : Uniq e) : ∀ {l : List Nat}, l.Nodup → (∀ i ∈ l, i < e.length) → Uniq (pick e l)
  | [], _, _ => by simp [pick, Uniq]
  | i :: l, hn, hl => by
    simp only [List.nodup_cons] at hn
    have hi := hl i (by simp)
    have ih := pick_uniq hu hn.2 fun j hj => hl j (by simp [hj])
    have e1 : pick e (i :: l) = e[i] :: pick e l := by simp [pick, hi]
    rw [e1]
    simp only [Uniq, List.map_cons, List.nodup_cons] at ih ⊢
    refine ⟨fun hm => ?_, ih⟩
    obtain ⟨p, hp, hpe⟩ := List.mem_map.1 hm
    obtain ⟨j, hj, hje⟩ := pick_mem.1 hp
    have hjl := hl j (by simp [hj])
    rw [List.getElem?_eq_getElem hjl] at hje
    have hje : e[j] = p := Option.some.inj hje
    have h1 : look e e[j].1 = some e[j].2 := mem_look hu (List.getElem_mem hjl)
    by_cases hij : i = j
    · subst hij; exact hn.1 hj
    · have hne : (e.map (·.1))[i]'(by simpa using hi) ≠ (e.map (·.1))[j]'(by simpa using hjl) := by
        rcases Nat.lt_or_gt_of_ne hij with hlt | hlt
        · exact List.pairwise_iff_getElem.1 hu i j _ _ hlt
        · exact fun e => List.pairwise_iff_getElem.1 hu j i _ _ hlt e.symm
      apply hne
      simp only [List.getElem_map]
      rw [← hpe, hje]

/-- What is picked, without what is named itself, says the same of each name. -/
theorem pick_sg {e : En} (hu : Uniq e) (hfi : ∀ x u, (x, u) ∈ e → fine u = true) {l : List Nat} (hn : l.Nodup) (hl : ∀ i ∈ l, i < e.length) (hall : ∀ i, i < e.length → i ∈ l) (x : List UInt8) :
    sg (look ((pick e l).filter nid)) x = sg (look e) x := by
  have hup := pick_uniq hu hn hl
  have huf : Uniq ((pick e l).filter nid) := by
    simp only [Uniq] at hup ⊢
    exact List.Nodup.sublist (List.Sublist.map _ (List.filter_sublist)) hup
  unfold sg
  cases hx : look e x with
  | none =>
    have : look ((pick e l).filter nid) x = none := by
      cases hy : look ((pick e l).filter nid) x with
      | none => rfl
      | some u =>
        have := (List.mem_filter.1 (look_mem hy)).1
        obtain ⟨i, _, hi⟩ := pick_mem.1 this
        have hm := mem_look hu (List.mem_of_getElem? hi)
        rw [hx] at hm
        cases hm
    rw [this]
  | some u =>
    have hm := look_mem hx
    obtain ⟨i, hi⟩ := List.getElem?_of_mem hm
    have hil : i < e.length := (List.getElem?_eq_some_iff.1 hi).1
    have hp : (x, u) ∈ pick e l := pick_mem.2 ⟨i, hall i hil, hi⟩
    by_cases hid : nid (x, u) = true
    · have := mem_look huf (List.mem_filter.2 ⟨hp, hid⟩)
      rw [this]
    · have hnone : look ((pick e l).filter nid) x = none := by
        cases hy : look ((pick e l).filter nid) x with
        | none => rfl
        | some v =>
          have h1 := List.mem_filter.1 (look_mem hy)
          have h2 := mem_look hup h1.1
          have h3 := mem_look hup hp
          rw [h2] at h3
          have h3 := Option.some.inj h3
          subst h3
          exact absurd h1.2 hid
      rw [hnone]
      have hfu := hfi x u hm
      obtain ⟨k, m, tl⟩ := u
      simp only [nid, Bool.not_eq_true, Bool.or_eq_false_iff, bne_eq_false_iff_eq] at hid
      obtain ⟨rfl, rfl⟩ := hid
      simp only [fine, bne_self_eq_false, Bool.false_or, Bool.and_eq_true, List.isEmpty_iff] at hfu
      rw [hfu.1.2]
      rfl

section
variable {bs : List Nat} {h : List Ob} {Q : V → List Ob → Prop}

theorem match30 (a b : Ty) (ha : fine a = true) (hb : fine b = true) (hsz : szN a < 100000) (hfalse : (fitT a b []).1 = false → ∀ t, Q (.tup [.agg [.map none], .bool false]) (h ++ t))
    (htrue : (fitT a b []).1 = true → ∀ (t : List Ob) (q : Nat) (f : En), (h ++ t)[q]? = some (mapOb f) → (∀ x, sg (look f) x = sg (look (fitT a b []).2) x) → (∀ x u, look f x = some u → fine u = true) → Q (.tup [.agg [.map (some q)], .bool true]) (h ++ t)) :
    CallA ap 30 0 bs [tyV a, tyV b] h Q := by
  have hok := fit_ok a b [] hb enOk_nil
  refine CallA.code (af := ac30) rfl (Nat.le_of_ble_eq_true rfl) ?_
  simp [ac30, ty_take, ty_agg, demote_ty]
  refine fits60 _ a b (Nat.le_refl _) ha hb _ _ _ h.length [] enOk_nil (by simp [mapOb, entE]) ?_
  generalize hE : (fitT a b []).2 = e at *
  cases hr : (fitT a b []).1 with
  | false =>
    simp [splice]
    exact hfalse hr _
  | true =>
    have hT := htrue hr
    have hel : e.length < 100000 := by have := hok.2; simp at this; omega
    simp [k_range_m]
    obtain ⟨I, hI⟩ : ∃ I : Nat → St → Prop, ∀ n s, I n s ↔ (∃ (seen rest : List Nat), rest.length = n ∧ seen.length + rest.length = e.length ∧ seen.Nodup ∧ (∀ i ∈ seen, i < e.length) ∧ (∀ i, i < e.length → i ∈ seen ∨ i ∈ rest) ∧
      s.r 18 = .ptr (h.length + 1) 0 ∧ s.r 4 = .loc 4 0 ∧ s.l 4 = some [.map none] ∧
      (seen = [] ∧ s.r 7 = .sl .clip [] ∧ s.h = h ++ [mapOb e, .iter (some h.length) e.length [] e.length] ∨
       seen ≠ [] ∧ s.r 7 = .sl (.fam (h.length + 2)) (paVs (pick e seen)) ∧ s.h = h ++ [mapOb e, .iter (some h.length) e.length seen e.length, .fam seen.length 4])) := ⟨_, fun _ _ => Iff.rfl⟩
    refine loop_ind (CallA.hle ap) I ?_ (n := e.length) ((hI _ _).2 ⟨[], List.range e.length, by simp⟩)
    rintro n ⟨r, lo, h'⟩ hs
    obtain ⟨seen, rest, hrl, hsl, hnd, hlt, hcov, r18, r4, l4, hor⟩ := (hI _ _).1 hs
    simp only at r18 r4 l4 hor
    have hpl : (pick e seen).length = seen.length := by
      unfold pick
      clear hs hI hor hnd hsl hcov
      induction seen with
      | nil => rfl
      | cons i l ih =>
        have hi := hlt i (by simp)
        simp [hi, ih fun j hj => hlt j (by simp [hj])]
    have hpok : ∀ p ∈ pick e seen, fine p.2 = true := fun p hp => by
      obtain ⟨i, _, hi⟩ := pick_mem.1 hp
      exact hok.1.fine p.1 p.2 (List.mem_of_getElem? hi)
    have fin : (∀ i, i < e.length → i ∈ seen) → (∀ x, sg (look ((pick e seen).filter nid)) x = sg (look e) x) ∧ (∀ x u, look ((pick e seen).filter nid) x = some u → fine u = true) := fun hall =>
      ⟨pick_sg hok.1.uniq hok.1.fine hnd hlt hall, fun x u hu => hpok _ (List.mem_filter.1 (look_mem hu)).1⟩
    have hup := pick_uniq hok.1.uniq hnd hlt
    have snoc : ∀ i, i < e.length → pick e (seen ++ [i]) = pick e seen ++ (e[i]?).toList := fun i hi => by simp [pick, hi]
    have next : ∀ i, i < e.length → i ∉ seen → ∃ rest' : List Nat, rest'.length = n - 1 ∧ 0 < n ∧ (seen ++ [i]).length + rest'.length = e.length ∧ (seen ++ [i]).Nodup ∧ (∀ j ∈ seen ++ [i], j < e.length) ∧ (∀ j, j < e.length → j ∈ seen ++ [i] ∨ j ∈ rest') := fun i hi hni => by
      have hir : i ∈ rest := (hcov i hi).resolve_left hni
      have hlen := List.length_erase_of_mem hir
      have hpos := List.length_pos_of_mem hir
      refine ⟨rest.erase i, by omega, by omega, by simp; omega, ?_, fun j hj => ?_, fun j hj => ?_⟩
      · refine List.nodup_append.2 ⟨hnd, by simp, fun a ha b hb' => ?_⟩
        simp at hb'
        subst hb'
        exact fun e1 => hni (e1 ▸ ha)
      · simp at hj
        rcases hj with hj | rfl
        · exact hlt j hj
        · exact hi
      · by_cases hji : j = i
        · exact .inl (by simp [hji])
        · rcases hcov j hj with hc | hc
          · exact .inl (by simp [hc])
          · exact .inr ((List.mem_erase_of_ne hji).2 hc)
    rcases hor with ⟨rfl, r7, rfl⟩ | ⟨hne, r7, rfl⟩
    · simp [forget, noLoc, locOf, r18]
      refine next_m (fun hall => ?_) (fun i hi hni => ?_)
      · simp [r7]
        refine of61 (pick e []) hup (fun p hp => fine_ok _ (hpok p hp)) (by rw [hpl]; simp) ?_
        simp [r4, l4, splice]
        obtain ⟨f1, f2⟩ := fin hall
        exact hT [mapOb e, .iter (some h.length) e.length [] e.length, mapOb ((pick e []).filter nid), gOb ((pick e []).map fun p => (p.1, .bool true))] (h.length + 2) _ (by simp) f1 f2
      · obtain ⟨rest', n1, n2, n3, n4, n5, n6⟩ := next i hi hni
        have hen := ent_m (seen := []) hi
        have hsn := snoc i hi
        rw [List.getElem?_eq_getElem hi] at hsn
        have hset : (h ++ [mapOb e, Ob.iter (some h.length) e.length [] e.length]).set (h.length + 1) (.iter (some h.length) e.length ([] ++ [i]) e.length) = h ++ [mapOb e, .iter (some h.length) e.length [i] e.length] := by simp
        generalize hp : e[i] = p at *
        obtain ⟨x, k, m, tl⟩ := p
        simp only [List.nil_append] at hen hset
        simp only [List.nil_append, hset]
        simp [r18, r7, hen, splice, lim, tyV]
        refine ⟨n - 1, by omega, (hI _ _).2 ⟨[] ++ [i], rest', n1, n3, n4, n5, n6, ?_⟩⟩
        rw [hsn]
        simp [r18, r4, l4, paVs, paV, tyV, pick]
    · have hmap : ∀ z, (h ++ [mapOb e, Ob.iter (some h.length) e.length seen e.length, .fam seen.length 4]).set (h.length + 1) z = h ++ [mapOb e, z, .fam seen.length 4] := fun z => by simp
      simp [forget, noLoc, locOf, r18]
      refine next_m (fun hall => ?_) (fun i hi hni => ?_)
      · simp [r7, pas_demote]
        refine of61 (pick e seen) hup (fun p hp => fine_ok _ (hpok p hp)) (by rw [hpl]; omega) ?_
        simp [r4, l4, splice]
        obtain ⟨f1, f2⟩ := fin hall
        exact hT [mapOb e, .iter (some h.length) e.length seen e.length, .fam seen.length 4, mapOb ((pick e seen).filter nid), gOb ((pick e seen).map fun p => (p.1, .bool true))] (h.length + 3) _ (by simp) f1 f2
      · obtain ⟨rest', n1, n2, n3, n4, n5, n6⟩ := next i hi hni
        have hen := ent_m (seen := seen) hi
        have hsn := snoc i hi
        rw [List.getElem?_eq_getElem hi] at hsn
        have hset := hmap (.iter (some h.length) e.length (seen ++ [i]) e.length)
        generalize hp : e[i] = p at *
        have hall : ∀ v, v ∈ paVs (pick e seen) ∨ v = paV p → v.cells.length = 4 := by
          rintro v (hv | rfl)
          · simp only [paVs, List.mem_map] at hv
            obtain ⟨y, -, rfl⟩ := hv
            exact pa_cells y
          · exact pa_cells p
        obtain ⟨x, k, m, tl⟩ := p
        rw [hset]
        simp [r18, r7, hen, splice, lim, tyV, pas_length, hpl]
        refine ⟨fun v hv => hall v (by simpa [paV, tyV] using hv), by omega, ?_⟩
        refine ⟨n - 1, by omega, (hI _ _).2 ⟨seen ++ [i], rest', n1, n3, n4, n5, n6, ?_⟩⟩
        rw [hsn]
        simp [r18, r4, l4, paVs, paV, tyV]

end
end Go.At
