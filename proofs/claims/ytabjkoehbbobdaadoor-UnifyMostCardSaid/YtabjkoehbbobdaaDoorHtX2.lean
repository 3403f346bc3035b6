/- One substitution behind another; a variable is bound: on the abstract machine. -/
import Derived.Test.YtabjkoehbbobdaaDoorHtX1
namespace Go.Ht
open Go.Am Go.Proofs
set_option maxRecDepth 100000

theorem del_none : ∀ (e : En) (bo : List Nat) (y : Nam), bo.length = e.length → look e y = none → delE (.str y) (entE e) bo = some (entE e, bo)
  | [], [], _, _, _ => rfl
  | [], _ :: _, _, h, _ => by simp at h
  | _ :: _, [], _, h, _ => by simp at h
  | p :: e, b :: bo, y, hl, h => by
    simp only [look] at h
    split at h
    · cases h
    · rename_i hp
      have : (y == p.1) = false := by simpa using fun e => hp e.symm
      have ih := del_none e bo y (by simpa using hl) h
      simp only [entE, List.map_cons, delE, keyEq, this] at ih ⊢
      simp [ih]

theorem sge_one (x : Nam) (t : Ty) : sge [(x, t)] = one1 x t := by
  funext y
  by_cases h : x = y
  · subst h; simp [sge, sg, look, one1]
  · have : y ≠ x := fun e => h e.symm
    simp [sge, sg, look, one1, h, this, var]

theorem fine_hat {θ : Nam → Ty} (hθ : ∀ y, fine (θ y) = true) {t : Ty} (ht : fine t = true) : fine (hat θ t) = true :=
  ap_fine _ (fun x u hx => by cases hx; exact hθ x) t ht

theorem enOk_one {x : Nam} {t : Ty} (ht : fine t = true) : EnOk [(x, t)] := ⟨by simp [Uniq], fun y u h => by simp at h; rw [h.2]; exact ht⟩

/-- The pairs so far: the new one, the old ones by it. -/
def outOf (x : Nam) (t : Ty) (f : En) (l : List Nat) : En := (x, t) :: (pick f l).map fun p => (p.1, hat (one1 x t) p.2)

theorem look_map (g : Ty → Ty) (e : En) (y : Nam) : look (e.map fun p => (p.1, g p.2)) y = (look e y).map g := by
  induction e with
  | nil => rfl
  | cons p e ih =>
    simp only [List.map_cons, look]
    split
    · rfl
    · exact ih

theorem pick_look {f : En} (hu : Uniq f) {l : List Nat} (hn : l.Nodup) (hl : ∀ i ∈ l, i < f.length) (y : Nam) :
    (look (pick f l) y = none ∨ look (pick f l) y = look f y) ∧ ((∀ i, i < f.length → i ∈ l) → look (pick f l) y = look f y) := by
  have hup := pick_uniq hu hn hl
  have sub : ∀ u, look (pick f l) y = some u → look f y = some u := fun u h => by
    obtain ⟨i, _, hi⟩ := pick_mem.1 (look_mem h)
    exact mem_look hu (List.mem_of_getElem? hi)
  refine ⟨?_, fun hall => ?_⟩
  · cases h : look (pick f l) y with
    | none => exact .inl rfl
    | some u => exact .inr (sub u h).symm
  · cases h : look f y with
    | none =>
      cases h2 : look (pick f l) y with
      | none => rfl
      | some u => rw [sub u h2] at h; cases h
    | some u =>
      obtain ⟨i, hi⟩ := List.getElem?_of_mem (look_mem h)
      exact mem_look hup (pick_mem.2 ⟨i, hall i (List.getElem?_eq_some_iff.1 hi).1, hi⟩)

theorem out_bound {x : Nam} {t : Ty} {f : En} {l : List Nat} (hf : EnOk f) (ht : fine t = true) (hx : look f x = none) (hn : l.Nodup) (hl : ∀ i ∈ l, i < f.length) (hall : ∀ i, i < f.length → i ∈ l) : Bound f x t (outOf x t f l) := by
  have h1 : ∀ y, fine (one1 x t y) = true := fun y => by unfold one1; split <;> first | exact ht | rfl
  refine ⟨⟨?_, fun y u hy => ?_⟩, fun y => ?_⟩
  · have hup := pick_uniq hf.uniq hn hl
    simp only [Uniq, outOf, List.map_cons, List.map_map, List.nodup_cons] at hup ⊢
    refine ⟨fun hm => ?_, by simpa [Function.comp_def] using hup⟩
    obtain ⟨p, hp, hpx⟩ := List.mem_map.1 hm
    simp at hpx
    obtain ⟨i, _, hi⟩ := pick_mem.1 hp
    exact look_none hx (List.mem_map.2 ⟨p, List.mem_of_getElem? hi, hpx⟩)
  · simp only [outOf, List.mem_cons, List.mem_map, Prod.mk.injEq] at hy
    rcases hy with ⟨_, rfl⟩ | ⟨p, hp, _, rfl⟩
    · exact ht
    · obtain ⟨i, _, hi⟩ := pick_mem.1 hp
      exact fine_hat h1 (hf.fine p.1 p.2 (List.mem_of_getElem? hi))
  · simp only [outOf, look]
    by_cases hy : x = y
    · subst hy; simp
    · rw [if_neg hy, if_neg (fun e => hy e.symm), look_map, (pick_look hf.uniq hn hl y).2 hall]

section
variable {bs : List Nat} {h : List Ob} {Q : V → List Ob → Prop}

theorem then47 (o : Option Nat) (f : En) (x : Nam) (t : Ty) (qu : Nat) (hs : Solved f) (hr : RepS h o f) (hx : look f x = none) (hn : Norm f t) (ht : fine t = true) (hox : occ x t = false) (hu : h[qu]? = some (mapOb [(x, t)])) (hlen : f.length < 100000)
    (hq : ∀ (tl : List Ob) (q : Nat) (f' : En), (h ++ tl)[q]? = some (mapOb f') → Bound f x t f' → f'.length = f.length + 1 → Q (.agg [.map (some q)]) (h ++ tl)) : CallA ap 70 0 bs [.agg [.map o], .agg [.map (some qu)]] h Q := by
  have hul : qu < h.length := (List.getElem?_eq_some_iff.1 hu).1
  have up : ∀ tl : List Ob, (h ++ tl)[qu]? = some (mapOb [(x, t)]) := fun tl => by rw [List.getElem?_append_left hul]; exact hu
  have nidx : nid (x, t) = true := by
    obtain ⟨k, n, l⟩ := t
    simp only [nid, Bool.or_eq_true, bne_iff_ne]
    by_cases hk : k = 1
    · subst hk
      right
      intro e
      simp [occ, e] at hox
    · exact .inl hk
  have hlook0 : look ([] : En) x = none := rfl
  refine CallA.code (af := ac70) rfl (Nat.le_of_ble_eq_true rfl) ?_
  simp [ac70, splice, up, k_range_m]
  refine wpA_loop (CallA.hle ap) ?_
  simp [forget, noLoc, locOf, up]
  refine next_m (e := [(x, t)]) (fun hall => absurd (hall 0 (by simp)) (by simp)) (fun i hi _ => ?_)
  obtain rfl : i = 0 := by simpa using hi
  have hen := ent_m (seen := []) (e := [(x, t)]) (i := 0) (by simp)
  simp only [List.nil_append, List.length_singleton] at hen
  have hset : ∀ z, (h ++ [Ob.map [] [] 0, Ob.iter (some qu) 1 [] 1]).set (h.length + 1) z = h ++ [.map [] [] 0, z] := fun z => by simp [List.set_append]
  simp [hset, up, hen, splice, ty_take, ty_agg, demote_ty]
  refine put79 h.length [] x t hlook0 (fine_ok _ ht) (by simp [mapOb, entE]) ?_
  simp [nidx]
  refine wpA_loop (CallA.hle ap) ?_
  simp [forget, noLoc, locOf, up]
  refine next_m (e := [(x, t)]) (fun _ => ?_) (fun i hi hni => by simp at hi hni; omega)
  simp
  rcases hr with ⟨rfl, rfl⟩ | ⟨q, rfl, hq0⟩
  · simp
    refine wpA_loop (CallA.hle ap) ?_
    simp [forget, noLoc, locOf, splice]
    have hb : Bound [] x t (outOf x t [] []) := out_bound enOk_nil ht hx (by simp) (by simp) (by simp)
    exact hq [mapOb [(x, t)], .iter (some qu) 1 [0] 1, .iter none 0 [] 0] h.length _ (by simp [outOf, pick]) hb (by simp [outOf, pick])
  · have hql : q < h.length := (List.getElem?_eq_some_iff.1 hq0).1
    have upq : ∀ tl : List Ob, (h ++ tl)[q]? = some (mapOb f) := fun tl => by rw [List.getElem?_append_left hql]; exact hq0
    simp [upq, k_range_m]
    obtain ⟨I, hI⟩ : ∃ I : Nat → St → Prop, ∀ n s, I n s ↔ (∃ (seen rest : List Nat), rest.length = n ∧ seen.length + rest.length = f.length ∧ seen.Nodup ∧ (∀ i ∈ seen, i < f.length) ∧ (∀ i, i < f.length → i ∈ seen ∨ i ∈ rest) ∧
      s.r 26 = .ptr (h.length + 2) 0 ∧ s.r 3 = .loc 3 0 ∧ s.r 4 = .loc 4 0 ∧ s.r 5 = .loc 5 0 ∧ s.l 3 = some [.map (some qu)] ∧ s.l 4 = some [.map none] ∧ s.l 5 = some [.map (some h.length)] ∧
      s.h = h ++ [mapOb (outOf x t f seen), .iter (some qu) 1 [0] 1, .iter (some q) f.length seen f.length]) := ⟨_, fun _ _ => Iff.rfl⟩
    refine loop_ind (CallA.hle ap) I ?_ (n := f.length) ((hI _ _).2 ⟨[], List.range f.length, by simp [outOf, pick]⟩)
    rintro n ⟨r, lo, h'⟩ hst
    obtain ⟨seen, rest, hrl, hsl, hnd, hlt, hcov, r26, r3, r4, r5, l3, l4, l5, rfl⟩ := (hI _ _).1 hst
    simp only at r26 r3 r4 r5 l3 l4 l5
    simp [forget, noLoc, locOf, r26, r3, r4, r5, upq]
    refine next_m (fun hall => ?_) (fun i hi hni => ?_)
    · simp [r26, r3, r4, r5, l3, l4, l5, splice]
      have hb : Bound f x t (outOf x t f seen) := out_bound hs.ok ht hx hnd hlt hall
      have hcount : seen.length = f.length := by
        have : rest.length = 0 ∨ 0 < rest.length := Nat.eq_zero_or_pos _
        have h1 : (pick f seen).length = seen.length := by
          unfold pick
          clear hst hI hcov hsl hnd hall hb
          induction seen with
          | nil => rfl
          | cons i l ih => simp [hlt i (by simp), ih fun j hj => hlt j (by simp [hj])]
        have h2 : f.length ≤ seen.length := by
          have hsub : (List.range f.length).Nodup := List.nodup_range
          have := List.Nodup.length_le_of_subset hsub (fun a ha => hall a (by simpa using ha))
          simpa using this
        omega
      have hpl : (pick f seen).length = seen.length := by
        unfold pick
        clear hst hI hcov hsl hnd hall hb hcount
        induction seen with
        | nil => rfl
        | cons i l ih => simp [hlt i (by simp), ih fun j hj => hlt j (by simp [hj])]
      exact hq [mapOb (outOf x t f seen), .iter (some qu) 1 [0] 1, .iter (some q) f.length seen f.length] h.length _ (by simp) hb (by simp [outOf, hpl, hcount])
    · have hir : i ∈ rest := (hcov i hi).resolve_left hni
      have hen := ent_m (seen := seen) hi
      have hset : ∀ z, (h ++ [mapOb (outOf x t f seen), Ob.iter (some qu) 1 [0] 1, Ob.iter (some q) f.length seen f.length]).set (h.length + 2) z = h ++ [mapOb (outOf x t f seen), .iter (some qu) 1 [0] 1, z] := fun z => by simp [List.set_append]
      have hmem := List.getElem_mem hi
      have hsn : pick f (seen ++ [i]) = pick f seen ++ [f[i]] := by simp [pick, hi]
      have hyu : look f f[i].1 = some f[i].2 := mem_look hs.ok.uniq hmem
      have hfv : fine f[i].2 = true := hs.ok.fine f[i].1 f[i].2 hmem
      have hnotin : look (outOf x t f seen) f[i].1 = none := by
        simp only [outOf, look]
        rw [if_neg (fun e => by rw [← e, hx] at hyu; cases hyu), look_map]
        cases hp : look (pick f seen) f[i].1 with
        | none => rfl
        | some u =>
          exfalso
          obtain ⟨j, hj, hje⟩ := pick_mem.1 (look_mem hp)
          have hjl := hlt j hj
          rw [List.getElem?_eq_getElem hjl] at hje
          have hje : f[j] = (f[i].1, u) := Option.some.inj hje
          by_cases hij : j = i
          · subst hij; exact hni hj
          · have hne : (f.map (·.1))[j]'(by simpa using hjl) ≠ (f.map (·.1))[i]'(by simpa using hi) := by
              rcases Nat.lt_or_gt_of_ne hij with hlt' | hlt'
              · exact List.pairwise_iff_getElem.1 hs.ok.uniq j i _ _ hlt'
              · exact fun e => List.pairwise_iff_getElem.1 hs.ok.uniq i j _ _ hlt' e.symm
            apply hne
            simp [hje]
      have hnid : nid (f[i].1, hat (one1 x t) f[i].2) = true := by
        cases hb : nid (f[i].1, hat (one1 x t) f[i].2) with
        | true => rfl
        | false =>
          exfalso
          have hocc : occ f[i].1 (hat (one1 x t) f[i].2) = true := by
            generalize hat (one1 x t) f[i].2 = w at hb
            obtain ⟨k, m, l⟩ := w
            simp only [nid, Bool.or_eq_false_iff, bne_eq_false_iff_eq] at hb
            simp [occ, hb.1, hb.2]
          obtain ⟨z, hz1, hz2⟩ := occ_hat _ hocc
          have hzn := hs.out _ _ hyu z hz1
          by_cases hzx : z = x
          · subst hzx
            rw [one1_self] at hz2
            have := hn _ hz2
            rw [hyu] at this
            cases this
          · simp only [one1, if_neg hzx, var, occ, if_true, beq_iff_eq] at hz2
            rw [hz2, hyu] at hzn
            cases hzn
      have hdel := del_none (outOf x t f seen) (List.range (outOf x t f seen).length) f[i].1 (by simp) hnotin
      have happ : ∀ (Q' : V → List Ob → Prop) (bs' : List Nat) (tl : List Ob), Q' (tyV (hat (one1 x t) f[i].2)) (h ++ tl) → CallA ap 14 0 bs' [.agg [.map (some qu)], tyV f[i].2] (h ++ tl) Q' := fun Q' bs' tl hq' =>
        applyR hfv (enOk_one ht) (.inr ⟨qu, rfl, up tl⟩) (by rw [sge_one]; exact hq')
      have hfine : fine (hat (one1 x t) f[i].2) = true := fine_hat (fun y => by unfold one1; split <;> first | exact ht | rfl) hfv
      have hrest : (rest.erase i).length = n - 1 ∧ 0 < n ∧ (seen ++ [i]).length + (rest.erase i).length = f.length ∧ (seen ++ [i]).Nodup ∧ (∀ j ∈ seen ++ [i], j < f.length) ∧ (∀ j, j < f.length → j ∈ seen ++ [i] ∨ j ∈ rest.erase i) := by
        have hl2 := List.length_erase_of_mem hir
        have hpos := List.length_pos_of_mem hir
        refine ⟨by omega, by omega, by simp; omega, ?_, fun j hj => ?_, fun j hj => ?_⟩
        · refine List.nodup_append.2 ⟨hnd, by simp, fun a ha b hb' => ?_⟩
          simp at hb'
          subst hb'
          exact fun e1 => hni (e1 ▸ ha)
        · simp at hj
          rcases hj with hj | rfl
          · exact hlt j hj
          · exact hi
        · by_cases hji : j = i
          · exact .inl (by simp [hji])
          · rcases hcov j hj with hc | hc
            · exact .inl (by simp [hc])
            · exact .inr ((List.mem_erase_of_ne hji).2 hc)
      have hout : outOf x t f (seen ++ [i]) = outOf x t f seen ++ [(f[i].1, hat (one1 x t) f[i].2)] := by simp [outOf, hsn]
      have hM : mapOb (outOf x t f seen) = .map (entE (outOf x t f seen)) (List.range (outOf x t f seen).length) (outOf x t f seen).length := rfl
      generalize hp : f[i] = p at *
      obtain ⟨y, v⟩ := p
      simp only at hen hnotin hnid hdel happ hfine hout
      generalize hO : outOf x t f seen = O at *
      have hMs := hM.symm
      have hkd : ∀ (K : V → St → Prop) (s : St) (r : Nat) (k : V), kDel1 r k K s (some (mapOb O)) = kDel2 r O.length K s (delE k (entE O) (List.range O.length)) := fun _ _ _ _ => rfl
      rw [hset]
      simp [r26, r3, r4, r5, l3, l4, l5, upq, hen, splice, ty_take, ty_agg, demote_ty, hkd, hdel, isKey, hMs]
      refine happ _ _ _ ?_
      simp [r26, r3, r4, r5, l3, l4, l5, splice, ty_take, ty_agg, demote_ty]
      refine put79 h.length O y _ hnotin (fine_ok _ hfine) (by simp) ?_
      have hfil : O ++ [(y, hat (one1 x t) v)].filter nid = outOf x t f (seen ++ [i]) := by rw [hout]; simp [hnid]
      rw [hfil]
      simp [r26, r3, r4, r5, l3, l4, l5]
      exact ⟨n - 1, by omega, (hI _ _).2 ⟨seen ++ [i], rest.erase i, hrest.1, hrest.2.2.1, hrest.2.2.2.1, hrest.2.2.2.2.1, hrest.2.2.2.2.2, by simp [r26, r3, r4, r5, l3, l4, l5]⟩⟩

end
end Go.Ht
