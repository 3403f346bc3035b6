/- A map is gone through. -/
import Derived.Test.YtgngmbnbldkgnaaDoorStR2
namespace Go.St
open Go.Am Go.Proofs
set_option maxRecDepth 100000

theorem k_range_m {K : V → St → Prop} {s : St} (r : Nat) (e : En) : kRange1 r K s (some (mapOb e)) = K (.ptr s.h.length 0) { s with h := s.h ++ [.iter (some r) e.length [] e.length] } := rfl

theorem next_m {K : V → St → Prop} {s : St} {it r : Nat} {seen : List Nat} {e : En} (ho : (∀ i, i < e.length → i ∈ seen) → K (.tup [.bool false]) s)
    (hst : ∀ i (hi : i < e.length), i ∉ seen → K (.tup [.bool true, .str e[i].1, tyV e[i].2]) { s with h := s.h.set it (.iter (some r) e.length (seen ++ [i]) e.length) }) :
    kNext2 it r e.length seen e.length K s (some (mapOb e)) := by
  refine ⟨by simp [entE], fun b hb => by simpa using hb, Nat.le_refl _, fun hall => ho fun i hi => hall i (by simpa using hi), fun i k v b h1 h2 h3 => ?_⟩
  have hi : i < e.length := by simpa [entE] using (List.getElem?_eq_some_iff.1 h1).1
  have hb : b = i := by rw [List.getElem?_range hi] at h2; exact (Option.some.inj h2).symm
  subst hb
  simp [entE, hi] at h1
  obtain ⟨rfl, rfl⟩ := h1
  exact hst b hi h3

theorem born_m : ∀ (e : En) (o i : Nat) (hi : i < e.length), bornE (o + i) (entE e) (List.range' o e.length) = some (.tup [.str e[i].1, tyV e[i].2])
  | [], _, _, hi => by simp at hi
  | p :: e, o, 0, _ => by simp [entE, List.range', bornE]
  | p :: e, o, i + 1, hi => by
    have := born_m e (o + 1) i (by simpa using hi)
    have e1 : o + 1 + i = o + (i + 1) := by omega
    rw [e1] at this
    simp only [entE, List.map_cons, List.length_cons, List.range', bornE] at this ⊢
    rw [if_neg (by omega)]
    simpa using this

theorem ent_m {seen : List Nat} {e : En} {i : Nat} (hi : i < e.length) : entV2 (seen ++ [i]) e.length (some (mapOb e)) = some (.tup [.str e[i].1, tyV e[i].2]) := by
  have := born_m e 0 i hi
  simp only [Nat.zero_add] at this
  simp [entV2, mapOb, entE, List.range_eq_range'] at this ⊢
  exact this

/-- The entries at places. -/
def pick (e : En) (l : List Nat) : En := l.filterMap fun i => e[i]?

theorem pick_mem {e : En} {l : List Nat} {p : List UInt8 × Ty} : p ∈ pick e l ↔ ∃ i ∈ l, e[i]? = some p := by simp [pick]

theorem pick_uniq {e : En} (hu : Uniq e) : ∀ {l : List Nat}, l.Nodup → (∀ i ∈ l, i < e.length) → Uniq (pick e l)
  | [], _, _ => by simp [pick, Uniq]
  | i :: l, hn, hl => by
    simp only [List.nodup_cons] at hn
    have hi := hl i (by simp)
    have ih := pick_uniq hu hn.2 fun j hj => hl j (by simp [hj])
    have e1 : pick e (i :: l) = e[i] :: pick e l := by simp [pick, hi]
    rw [e1]
    simp only [Uniq, List.map_cons, List.nodup_cons] at ih ⊢
    refine ⟨fun hm => ?_, ih⟩
    obtain ⟨p, hp, hpe⟩ := List.mem_map.1 hm
    obtain ⟨j, hj, hje⟩ := pick_mem.1 hp
    have hjl := hl j (by simp [hj])
    rw [List.getElem?_eq_getElem hjl] at hje
    have hje : e[j] = p := Option.some.inj hje
    have h1 : look e e[j].1 = some e[j].2 := mem_look hu (List.getElem_mem hjl)
    by_cases hij : i = j
    · subst hij; exact hn.1 hj
    · have hne : (e.map (·.1))[i]'(by simpa using hi) ≠ (e.map (·.1))[j]'(by simpa using hjl) := by
        rcases Nat.lt_or_gt_of_ne hij with hlt | hlt
        · exact List.pairwise_iff_getElem.1 hu i j _ _ hlt
        · exact fun e => List.pairwise_iff_getElem.1 hu j i _ _ hlt e.symm
      apply hne
      simp only [List.getElem_map]
      rw [← hpe, hje]

/-- What is picked, without what is named itself, says the same of each name. -/
theorem pick_sg {e : En} (hu : Uniq e) (hfi : ∀ x u, (x, u) ∈ e → fine u = true) {l : List Nat} (hn : l.Nodup) (hl : ∀ i ∈ l, i < e.length) (hall : ∀ i, i < e.length → i ∈ l) (x : List UInt8) :
    sg (look ((pick e l).filter nid)) x = sg (look e) x := by
  have hup := pick_uniq hu hn hl
  have huf : Uniq ((pick e l).filter nid) := by
    simp only [Uniq] at hup ⊢
    exact List.Nodup.sublist (List.Sublist.map _ (List.filter_sublist)) hup
  unfold sg
  cases hx : look e x with
  | none =>
    have : look ((pick e l).filter nid) x = none := by
      cases hy : look ((pick e l).filter nid) x with
      | none => rfl
      | some u =>
        have := (List.mem_filter.1 (look_mem hy)).1
        obtain ⟨i, _, hi⟩ := pick_mem.1 this
        have hm := mem_look hu (List.mem_of_getElem? hi)
        rw [hx] at hm
        cases hm
    rw [this]
  | some u =>
    have hm := look_mem hx
    obtain ⟨i, hi⟩ := List.getElem?_of_mem hm
    have hil : i < e.length := (List.getElem?_eq_some_iff.1 hi).1
    have hp : (x, u) ∈ pick e l := pick_mem.2 ⟨i, hall i hil, hi⟩
    by_cases hid : nid (x, u) = true
    · have := mem_look huf (List.mem_filter.2 ⟨hp, hid⟩)
      rw [this]
    · have hnone : look ((pick e l).filter nid) x = none := by
        cases hy : look ((pick e l).filter nid) x with
        | none => rfl
        | some v =>
          have h1 := List.mem_filter.1 (look_mem hy)
          have h2 := mem_look hup h1.1
          have h3 := mem_look hup hp
          rw [h2] at h3
          have h3 := Option.some.inj h3
          subst h3
          exact absurd h1.2 hid
      rw [hnone]
      have hfu := hfi x u hm
      obtain ⟨k, m, tl⟩ := u
      simp only [nid, Bool.not_eq_true, Bool.or_eq_false_iff, bne_eq_false_iff_eq] at hid
      obtain ⟨rfl, rfl⟩ := hid
      simp only [fine, bne_self_eq_false, Bool.false_or, Bool.and_eq_true, List.isEmpty_iff] at hfu
      rw [hfu.1.2]
      rfl

end Go.St
