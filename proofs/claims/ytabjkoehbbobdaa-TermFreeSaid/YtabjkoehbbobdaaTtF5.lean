/- Which names are free in a term: each kind of term: on the abstract machine. -/
import Derived.Test.YtabjkoehbbobdaaTtF4
namespace Go.Tt
open Go.Am Go.Proofs
set_option maxRecDepth 100000

theorem bi_g0 (n : Nm) (ty : Ty) (t : Tm) (hi : 0 < (biV n ty t).cells.length) : (biV n ty t).cells[0]'hi = .str n := rfl
theorem al_g1 (c : Nm) (v : List Nm) (t : Tm) (hi : 1 < (alV c v t).cells.length) : (alV c v t).cells[1]'hi = .sl .frozen (v.map .str) := rfl

/-- A name is put in. -/
theorem Stt.add {pf b s : Nat} {F : Nm → Int} {o : List Nm} {h : List Ob} (st : Stt pf b s F o h) {l : GL} (hs : h[s]? = some (gO l)) (hm : MB o l) (x : Nm) :
    Stt pf b s F (o ++ [x]) (((h.set s (gO (stG l x (.bool true)))) ++ [Ob.fam (o.length + 1) 1]).set pf (.box [.map (some b), .map (some s), .sl (.fam h.length) (o.map V.str ++ [V.str x])])) ∧
    Fr pf h (((h.set s (gO (stG l x (.bool true)))) ++ [Ob.fam (o.length + 1) 1]).set pf (.box [.map (some b), .map (some s), .sl (.fam h.length) (o.map V.str ++ [V.str x])])) ∧
    ∀ r, pf ≤ r + 2 → h[r]? = some (.fam o.length 1) →
      Stt pf b s F (o ++ [x]) (((h.set s (gO (stG l x (.bool true)))).set r (.fam (o.length + 1) 1)).set pf (.box [.map (some b), .map (some s), .sl (.fam r) (o.map V.str ++ [V.str x])])) ∧
      Fr pf h (((h.set s (gO (stG l x (.bool true)))).set r (.fam (o.length + 1) 1)).set pf (.box [.map (some b), .map (some s), .sl (.fam r) (o.map V.str ++ [V.str x])])) := by
  obtain ⟨ne, lo, ⟨tg, hp, ho⟩, ⟨lb, hb, hm0⟩, -⟩ := st
  have plt : pf < h.length := (List.getElem?_eq_some_iff.1 hp).1
  have blt : b < h.length := (List.getElem?_eq_some_iff.1 hb).1
  have slt : s < h.length := (List.getElem?_eq_some_iff.1 hs).1
  have ps : pf ≠ s := fun e => by subst e; rw [hp] at hs; cases hs
  have pb : pf ≠ b := fun e => by subst e; rw [hp] at hb; cases hb
  have sb : s ≠ b := fun e => ne e.symm
  have nsq : ∀ {q : Nat} {cs : List V}, h[q]? = some (.box cs) → s ≠ q := fun hq e => by subst e; rw [hs] at hq; cases hq
  refine ⟨⟨ne, lo, ⟨.fam h.length, ?_, .inr ⟨h.length, rfl, by omega, ?_⟩⟩, ⟨lb, ?_, hm0⟩, ⟨_, ?_, hm.set x⟩⟩, ⟨by simp, fun q cs hq hqb => ?_, fun q hq => ?_⟩, fun r hr0 hr => ?_⟩
  · rw [List.getElem?_set_self (by simp; omega)]; simp
  · rw [List.getElem?_set_ne (by omega), List.getElem?_append_right (by simp)]; simp
  · rw [List.getElem?_set_ne pb, List.getElem?_append_left (by simpa using blt), List.getElem?_set_ne sb]; exact hb
  · rw [List.getElem?_set_ne ps, List.getElem?_append_left (by simpa using slt), List.getElem?_set_self slt]
  · have qlt : q < h.length := (List.getElem?_eq_some_iff.1 hqb).1
    rw [List.getElem?_set_ne (fun e => hq e.symm), List.getElem?_append_left (by simpa using qlt), List.getElem?_set_ne (nsq hqb)]; exact hqb
  · rw [List.getElem?_set_ne (by omega), List.getElem?_append_left (by simp; omega), List.getElem?_set_ne (by omega)]
  · have rlt : r < h.length := (List.getElem?_eq_some_iff.1 hr).1
    have pr : pf ≠ r := fun e => by subst e; rw [hp] at hr; cases hr
    have rb : r ≠ b := fun e => by subst e; rw [hb] at hr; cases hr
    have rs : r ≠ s := fun e => by subst e; rw [hs] at hr; cases hr
    refine ⟨⟨ne, lo, ⟨.fam r, ?_, .inr ⟨r, rfl, hr0, ?_⟩⟩, ⟨lb, ?_, hm0⟩, ⟨_, ?_, hm.set x⟩⟩, ⟨by simp, fun q cs hq hqb => ?_, fun q hq => ?_⟩⟩
    · rw [List.getElem?_set_self (by simp; omega)]; simp
    · rw [List.getElem?_set_ne pr, List.getElem?_set_self (by simpa using rlt)]; simp
    · rw [List.getElem?_set_ne pb, List.getElem?_set_ne rb, List.getElem?_set_ne sb]; exact hb
    · rw [List.getElem?_set_ne ps, List.getElem?_set_ne rs, List.getElem?_set_self slt]
    · rw [List.getElem?_set_ne (fun e => hq e.symm), List.getElem?_set_ne (fun e => by subst e; rw [hr] at hqb; cases hqb), List.getElem?_set_ne (nsq hqb)]; exact hqb
    · rw [List.getElem?_set_ne (by omega), List.getElem?_set_ne (by omega), List.getElem?_set_ne (by omega)]

section
variable {bs : List Nat} {h : List Ob} {Q : V → List Ob → Prop}

/-- A variable. -/
theorem var18 (s0 : Nm) (n : Int) (ty : Ty) (l : Tms) (a : Alts) (bi : Binds) : TermS (.mk 1 s0 n ty l a bi) := by
  intro bs h Q pf b s F o hbs hroom st hq
  obtain ⟨k', n', l'⟩ := ty
  obtain ⟨tg, hp, ho⟩ := st.pf
  obtain ⟨lb, hb, hm⟩ := st.bm
  obtain ⟨ls, hs, hm2⟩ := st.sm
  have e0 : frT (.mk 1 s0 n (.mk k' n' l') l a bi) F o = addN F s0 o := by simp [frT]
  rw [e0] at hq
  refine CallA.code (af := ac18) rfl (Nat.le_of_ble_eq_true rfl) ?_
  by_cases hF : F s0 = 0
  · by_cases ho2 : s0 ∈ o
    · simp [ac18, tm_mk, hp, lk_s', hb, lk_gO, hm.look, hF, hs, hm2.look, ho2]
      have : addN F s0 o = o := by simp [addN, ho2]
      rw [this] at hq
      exact hq h st (Fr.refl _ _)
    · have e1 : addN F s0 o = o ++ [s0] := by simp [addN, hF, ho2]
      rw [e1] at hq
      obtain ⟨a1, a2, a3⟩ := st.add hs hm2 s0
      have plt : pf < h.length := (List.getElem?_eq_some_iff.1 hp).1
      have ps : s ≠ pf := fun e => by subst e; rw [hp] at hs; cases hs
      have hp2 : (h.set s (gO (stG ls s0 (.bool true))))[pf]? = some (.box [.map (some b), .map (some s), .sl tg (o.map .str)]) := by rw [List.getElem?_set_ne ps]; exact hp
      have hlim : o.length + 1 ≤ lim := by have := hroom.2; simp only [lim]; omega
      have hno : ∀ x ∈ bs, pf < x → False := fun x hx hlt => by have := hbs x hx; omega
      rcases ho with ⟨rfl, rfl⟩ | ⟨r, rfl, hr0, hr⟩
      · have hp3 : ∀ z, (h.set s (gO (stG ls s0 (.bool true))) ++ [z])[pf]? = some (.box [.map (some b), .map (some s), .sl .clip []]) := fun z => by
          rw [List.getElem?_append_left (by simpa using plt)]; exact hp2
        simp [ac18, tm_mk, hp, lk_s', hb, lk_gO, hm.look, hF, hs, hm2.look, isKey, set_gO, okStore, hp2, splice, lim, hp3]
        refine ⟨fun x hx hlt => (hno x hx hlt).elim, ?_⟩
        refine hq _ ?_ ?_
        · simpa using a1
        · simpa using a2
      · obtain ⟨b1, b2⟩ := a3 r hr0 hr
        have sr : s ≠ r := fun e => by subst e; rw [hs] at hr; cases hr
        have pr : r ≠ pf := fun e => by subst e; rw [hp] at hr; cases hr
        have hr2 : (h.set s (gO (stG ls s0 (.bool true))))[r]? = some (.fam o.length 1) := by rw [List.getElem?_set_ne sr]; exact hr
        have hp3 : ∀ z, ((h.set s (gO (stG ls s0 (.bool true)))).set r z)[pf]? = some (.box [.map (some b), .map (some s), .sl (.fam r) (o.map .str)]) := fun z => by
          rw [List.getElem?_set_ne pr]; exact hp2
        simp [ac18, tm_mk, hp, lk_s', hb, lk_gO, hm.look, hF, hs, hm2.look, ho2, isKey, set_gO, okStore, hp2, splice, hr2, hp3]
        refine ⟨?_, hlim, fun x hx hlt => (hno x hx hlt).elim, ?_⟩
        · rintro x (⟨a, _, rfl⟩ | rfl) <;> rfl
        · exact hq _ b1 b2
  · have e1 : (F s0 == 0) = false := by simpa using hF
    simp [ac18, tm_mk, hp, lk_s', hb, lk_gO, hm.look, e1]
    have : addN F s0 o = o := by simp [addN, hF]
    rw [this] at hq
    exact hq h st (Fr.refl _ _)

/-- A lambda. -/
theorem lam18 (s0 : Nm) (n : Int) (ty : Ty) (l : Tms) (a : Alts) (bi : Binds) (hl : SubL l) : TermS (.mk 6 s0 n ty l a bi) := by
  intro bs h Q pf b s F o hbs hroom st hq
  obtain ⟨k', n', l'⟩ := ty
  have e0 : frT (.mk 6 s0 n (.mk k' n' l') l a bi) F o = frL l (inc F [s0]) o := by simp [frT]
  rw [e0] at hq
  refine CallA.code (af := ac18) rfl (Nat.le_of_ble_eq_true rfl) ?_
  simp [ac18, tm_mk]
  refine with23 [s0] (by simp) _ _ (fun y => by have := hroom.1 y; simp only [szT] at this; omega) st (fun bs h1 Q hb1 fr1 st1 hq1 => ?_) hbs (fun h2 st2 fr2 => by simp; exact hq h2 st2 fr2)
  refine CallA.code (af := ac24) rfl (Nat.le_of_ble_eq_true rfl) ?_
  simp [ac24, demote_tms]
  refine all25 l hl hb1 (hroom.inc (by simp only [szT]; omega) (by simp)) st1 fun h2 st2 fr2 => ?_
  simp
  exact hq1 h2 st2 fr2

theorem names_len : ∀ b : Binds, b.names.length = (biVs b).length
  | .nil => rfl
  | .cons n ty t l => by simp [Binds.names, biVs_cons, names_len l]

/-- A let. -/
theorem let18 (s0 : Nm) (n : Int) (ty : Ty) (l : Tms) (a : Alts) (bi : Binds) (hl : SubL l) (hb' : SubB bi) (hbn : bi.names.length ≤ 10) : TermS (.mk 9 s0 n ty l a bi) := by
  intro bs h Q pf b s F o hbs hroom st hq
  obtain ⟨k', n', l'⟩ := ty
  have e0 : frT (.mk 9 s0 n (.mk k' n' l') l a bi) F o = frL l (inc F bi.names) (frB bi (inc F bi.names) o) := by simp [frT]
  rw [e0] at hq
  have hbl := names_len bi
  refine CallA.code (af := ac18) rfl (Nat.le_of_ble_eq_true rfl) ?_
  simp [ac18, tm_mk]
  obtain ⟨I, hI⟩ : ∃ I : Nat → St → Prop, ∀ n0 s', I n0 s' ↔ (∃ (i : Nat) (b2 : Binds) (tg : Tag) (tl : List Ob) (ns : List Nm), i + n0 = (biVs bi).length ∧ (biVs bi).drop i = biVs b2 ∧ ns ++ b2.names = bi.names ∧ s'.h = h ++ tl ∧ ((tg = .clip ∧ ns = [] ∧ tl = []) ∨ (tg = .fam h.length ∧ tl = [.fam ns.length 1])) ∧
    s'.r 2 = .elp (.ptr pf 0) 0 ∧ s'.r 3 = .elp (.agg [.int .i64 9, .str s0, .int .i64 n, .int .i64 k', .str n', .sl .frozen (tyVs l'), .sl .frozen (tmVs l), .sl .frozen (alVs a), .sl .frozen (biVs bi)]) 0 ∧
    s'.r 4 = .sl tg (ns.map .str) ∧ s'.r 77 = .sl .frozen (biVs bi) ∧ s'.r 78 = .int .i64 (biVs bi).length ∧ s'.r 79 = .int .i64 i) := ⟨_, fun _ _ => Iff.rfl⟩
  refine loop_ind (CallA.hle ap) I ?_ (n := (biVs bi).length) ((hI _ _).2 ⟨0, bi, .clip, [], [], by simp, by simp, rfl, by simp, .inl ⟨rfl, rfl, rfl⟩, by simp⟩)
  rintro n0 ⟨r, lo, h'⟩ hst
  obtain ⟨i, b2, tg, tl, ns, hin', hdr, hns, hh, hor, r2, r3, r4, r77, r78, r79⟩ := (hI _ _).1 hst
  simp only at r2 r3 r4 r77 r78 r79 hh
  subst hh
  simp [forget, noLoc, locOf, r2, r3, r4, r77, r78, r79]
  have hnl : ns.length ≤ 10 := by have := congrArg List.length hns; simp at this; omega
  refine condA_dec (fun c1 => ?_) fun c1 => ?_
  · have hi : i < (biVs bi).length := by omega
    have hw : IntKind.wrap .i64 ((i : Int) + 1) = ((i + 1 : Nat) : Int) := by rw [wrap64 (by omega) (by omega)]; omega
    match b2, hdr, hns with
    | .nil, hdr, _ => have := drop_nil' hdr; omega
    | .cons x tx t bt, hdr, hns =>
      rw [biVs_cons] at hdr
      obtain ⟨g1, g2, -⟩ := drop_cons hdr
      have hg : (biVs bi)[i] = biV x tx t := by rw [List.getElem?_eq_getElem hi] at g1; exact Option.some.inj g1
      have hn2 : (ns ++ [x]) ++ bt.names = bi.names := by simpa [Binds.names] using hns
      have b0 := bi_0 x tx t
      simp [r2, r3, r4, r77, r78, r79, hi, hg, splice, bi_len, bi_take, bi_agg, bi_loc, b0, bi_g0]
      refine ⟨?_, by simp only [lim]; omega, ?_⟩
      · rintro z (⟨a, _, rfl⟩ | rfl) <;> rfl
      rcases hor with ⟨rfl, rfl, rfl⟩ | ⟨rfl, rfl⟩
      · simp [r2, r3, r4, r77, r78, r79, hw]
        refine ⟨n0 - 1, by omega, (hI _ _).2 ⟨i + 1, bt, .fam h.length, [.fam 1 1], [x], by omega, g2, hn2, by simp, .inr ⟨rfl, rfl⟩, by simp [r2, r3, r77, r78]⟩⟩
      · simp [r2, r3, r4, r77, r78, r79, hw, List.set_append]
        refine ⟨n0 - 1, by omega, (hI _ _).2 ⟨i + 1, bt, .fam h.length, [.fam (ns.length + 1) 1], ns ++ [x], by omega, g2, hn2, rfl, .inr ⟨rfl, by simp⟩, by simp [r2, r3, r77, r78]⟩⟩
  · have hn : biVs b2 = [] := by rw [← hdr]; exact List.drop_of_length_le (by omega)
    match b2, hn, hns with
    | .nil, _, hns =>
      simp only [Binds.names, List.append_nil] at hns
      subst hns
      simp [r2, r3, r4, r77, r78, r79, dem_strs']
      obtain ⟨st0, fr0⟩ := st.up tl
      refine with23 bi.names hbn _ _ (fun y => by have := hroom.1 y; simp only [szT] at this; omega) st0 (fun bs h1 Q hb1 fr1 st1 hq1 => ?_) hbs (fun h2 st2 fr2 => by simp; exact hq h2 st2 (fr0.trans fr2))
      refine CallA.code (af := ac26) rfl (Nat.le_of_ble_eq_true rfl) ?_
      simp [ac26]
      have hlen := bis_len bi
      have hr2 := hroom.2
      simp only [szT] at hr2
      have hroomB : Room (inc F bi.names) o (szB bi + szL l) := hroom.inc (by simp only [szT]; omega) hbn
      obtain ⟨J, hJ⟩ : ∃ J : Nat → St → Prop, ∀ n1 s', J n1 s' ↔ (∃ (i : Nat) (b2 : Binds) (o' : List Nm), i + n1 = (biVs bi).length ∧ (biVs bi).drop i = biVs b2 ∧ SubB b2 ∧ frB b2 (inc F bi.names) o' = frB bi (inc F bi.names) o ∧ Room (inc F bi.names) o' (szB b2 + szL l) ∧ Stt pf b s (inc F bi.names) o' s'.h ∧ Fr pf h1 s'.h ∧
        s'.r 0 = .elp (.agg [.int .i64 9, .str s0, .int .i64 n, .int .i64 k', .str n', .sl .frozen (tyVs l'), .sl .frozen (tmVs l), .sl .frozen (alVs a), .sl .frozen (biVs bi)]) 0 ∧ s'.r 1 = .elp (.ptr pf 0) 0 ∧
        s'.r 5 = .sl .frozen (biVs bi) ∧ s'.r 6 = .int .i64 (biVs bi).length ∧ s'.r 7 = .int .i64 i) := ⟨_, fun _ _ => Iff.rfl⟩
      refine loop_ind (CallA.hle ap) J ?_ (n := (biVs bi).length) ((hJ _ _).2 ⟨0, bi, o, by simp, by simp, hb', rfl, hroomB, st1, Fr.refl _ _, by simp⟩)
      rintro n1 ⟨r, lo, h'⟩ hst
      obtain ⟨i, b2, o', hin2, hdr, hsub, hfr, hroom2, st', fr', r0, r1, r5, r6, r7⟩ := (hJ _ _).1 hst
      simp only at r0 r1 r5 r6 r7 st' fr'
      simp [forget, noLoc, locOf, r0, r1, r5, r6, r7]
      refine condA_dec (fun c1 => ?_) fun c1 => ?_
      · have hi : i < (biVs bi).length := by omega
        have hw : IntKind.wrap .i64 ((i : Int) + 1) = ((i + 1 : Nat) : Int) := by rw [wrap64 (by omega) (by omega)]; omega
        match b2, hdr, hsub, hfr, hroom2 with
        | .nil, hdr, _, _, _ => have := drop_nil' hdr; omega
        | .cons x tx t bt, hdr, hsub, hfr, hroom2 =>
          rw [biVs_cons] at hdr
          obtain ⟨g1, g2, -⟩ := drop_cons hdr
          have hg : (biVs bi)[i] = biV x tx t := by rw [List.getElem?_eq_getElem hi] at g1; exact Option.some.inj g1
          simp [r0, r1, r5, r6, r7, hi, hg, splice, bi_len, bi_take, bi_agg, bi_loc, bi_4, tm_agg, demote_tm]
          refine hsub.1 _ _ _ pf b s _ o' hb1 (hroom2.le (by simp only [szB]; omega)) st' fun h3 st3 fr3 => ?_
          simp [r0, r1, r5, r6, r7, hw]
          have := lenT t (inc F bi.names) o'
          refine ⟨n1 - 1, by omega, (hJ _ _).2 ⟨i + 1, bt, _, by omega, g2, hsub.2, by simpa only [frB] using hfr, ⟨fun y => (hroom2.le (by simp only [szB]; omega)).1 y, by have := hroom2.2; simp only [szB] at this; omega⟩, st3, fr'.trans fr3, by simp [r0, r1, r5, r6]⟩⟩
      · have hn : biVs b2 = [] := by rw [← hdr]; exact List.drop_of_length_le (by omega)
        match b2, hn, hfr, hroom2 with
        | .nil, _, hfr, hroom2 =>
          simp only [frB] at hfr
          subst hfr
          simp [r0, r1, r5, r6, r7, demote_tms]
          refine all25 l hl hb1 (hroom2.le (by simp only [szB]; omega)) st' fun h3 st3 fr3 => ?_
          simp
          exact hq1 h3 st3 (fr'.trans fr3)

/-- A case, or what binds nothing. -/
theorem oth18 (k : Int) (s0 : Nm) (n : Int) (ty : Ty) (l : Tms) (a : Alts) (bi : Binds) (h1 : k ≠ 1) (h6 : k ≠ 6) (h9 : k ≠ 9) (hl : SubL l) (ha : SubA a) : TermS (.mk k s0 n ty l a bi) := by
  intro bs h Q pf b s F o hbs hroom st hq
  obtain ⟨k', n', l'⟩ := ty
  have e0 : frT (.mk k s0 n (.mk k' n' l') l a bi) F o = frA a F (frL l F o) := by simp [frT, h1, h6, h9]
  rw [e0] at hq
  have b1 : (k == 1) = false := by simpa using h1
  have b6 : (k == 6) = false := by simpa using h6
  have b9 : (k == 9) = false := by simpa using h9
  have hr2 := hroom.2
  simp only [szT] at hr2
  refine CallA.code (af := ac18) rfl (Nat.le_of_ble_eq_true rfl) ?_
  simp [ac18, tm_mk, b1, b6, b9, demote_tms]
  refine all25 l hl hbs (hroom.le (by simp only [szT]; omega)) st fun h2 st2 fr2 => ?_
  simp
  have hlen := als_len a
  have hroomA : Room F (frL l F o) (szA a + 1) := by
    have := lenL l F o
    exact ⟨fun y => by have := hroom.1 y; simp only [szT] at this; omega, by omega⟩
  obtain ⟨I, hI⟩ : ∃ I : Nat → St → Prop, ∀ n0 s', I n0 s' ↔ (∃ (i : Nat) (a2 : Alts) (o' : List Nm), i + n0 = (alVs a).length ∧ (alVs a).drop i = alVs a2 ∧ SubA a2 ∧ frA a2 F o' = frA a F (frL l F o) ∧ Room F o' (szA a2 + 1) ∧ Stt pf b s F o' s'.h ∧ Fr pf h s'.h ∧
    s'.r 2 = .elp (.ptr pf 0) 0 ∧ s'.r 16 = .sl .frozen (alVs a) ∧ s'.r 17 = .int .i64 (alVs a).length ∧ s'.r 18 = .int .i64 i) := ⟨_, fun _ _ => Iff.rfl⟩
  refine loop_ind (CallA.hle ap) I ?_ (n := (alVs a).length) ((hI _ _).2 ⟨0, a, _, by simp, by simp, ha, rfl, hroomA, st2, fr2, by simp⟩)
  rintro n0 ⟨r, lo, h'⟩ hst
  obtain ⟨i, a2, o', hin', hdr, hsub, hfr, hroom2, st', fr', r2, r16, r17, r18⟩ := (hI _ _).1 hst
  simp only at r2 r16 r17 r18 st' fr'
  simp [forget, noLoc, locOf, r2, r16, r17, r18]
  refine condA_dec (fun c1 => ?_) fun c1 => ?_
  · have hi : i < (alVs a).length := by omega
    have hw : IntKind.wrap .i64 ((i : Int) + 1) = ((i + 1 : Nat) : Int) := by rw [wrap64 (by omega) (by omega)]; omega
    match a2, hdr, hsub, hfr, hroom2 with
    | .nil, hdr, _, _, _ => have := drop_nil' hdr; omega
    | .cons c v t at_, hdr, hsub, hfr, hroom2 =>
      rw [alVs_cons] at hdr
      obtain ⟨g1, g2, -⟩ := drop_cons hdr
      have hg : (alVs a)[i] = alV c v t := by rw [List.getElem?_eq_getElem hi] at g1; exact Option.some.inj g1
      have plt : pf < h'.length := by
        obtain ⟨tg, hp, _⟩ := st'.pf
        exact (List.getElem?_eq_some_iff.1 hp).1
      have hno : ∀ x ∈ bs, h'.length < x → False := fun x hx hlt => by have := hbs x hx; omega
      obtain ⟨st1, fr1⟩ := st'.up [.box (alV c v t).cells]
      have hbv : (boundV v).length ≤ 10 := Nat.le_trans (List.length_filter_le _ _) hsub.1
      simp [r2, r16, r17, r18, hi, hg, splice, al_len, al_take, al_agg, al_loc, okStore, List.set_append]
      refine ⟨fun x hx hlt => (hno x hx hlt).elim, ?_⟩
      simp [al_g1, dem_strs']
      refine bound27 v hsub.1 ?_
      simp [r2, dem_strs']
      refine with23 (o' := frT t (inc F (boundV v)) o') (boundV v) hbv _ _ (fun y => by have := hroom2.1 y; omega) st1 (fun bs h1 Q hb1 fr2 st2 hq1 => ?_) hbs fun h3 st3 fr3 => ?_
      · have hq0 : h1[h'.length]? = some (.box (alV c v t).cells) := fr2.2.1 _ _ (by omega) (by simp)
        refine CallA.code (af := ac28) rfl (Nat.le_of_ble_eq_true rfl) ?_
        simp [ac28, hq0, al_len, al_2, tm_agg, demote_tm]
        refine hsub.2.1 _ _ _ pf b s _ o' hb1 (hroom2.inc (by simp only [szA]; have := szT_pos t; omega) hbv) st2 fun h3 st3 fr3 => ?_
        simp
        exact hq1 h3 st3 fr3
      · simp [r2, r16, r17, r18, hw]
        have := lenT t (inc F (boundV v)) o'
        refine ⟨n0 - 1, by omega, (hI _ _).2 ⟨i + 1, at_, _, by omega, g2, hsub.2.2, by simpa only [frA] using hfr, ⟨fun y => (hroom2.le (by simp only [szA]; omega)).1 y, by have := hroom2.2; simp only [szA] at this; omega⟩, st3, (fr'.trans fr1).trans fr3, by simp [r2, r16, r17]⟩⟩
  · have hn : alVs a2 = [] := by rw [← hdr]; exact List.drop_of_length_le (by omega)
    match a2, hn, hfr with
    | .nil, _, hfr =>
      simp only [frA] at hfr
      subst hfr
      simp [r2, r16, r17, r18]
      exact hq _ st' fr'

mutual
theorem term18 : ∀ t : Tm, shT t = true → TermS t
  | .mk k s n ty l a b, h => by
    simp only [shT, Bool.and_eq_true, decide_eq_true_eq] at h
    obtain ⟨⟨⟨h1, h2⟩, h3⟩, h4⟩ := h
    have hl := terms18 l h1
    have ha := alts18 a h2
    have hb := binds18 b h3
    by_cases k1 : k = 1
    · subst k1; exact var18 s n ty l a b
    · by_cases k6 : k = 6
      · subst k6; exact lam18 s n ty l a b hl
      · by_cases k9 : k = 9
        · subst k9; exact let18 s n ty l a b hl hb h4
        · exact oth18 k s n ty l a b k1 k6 k9 hl ha
theorem terms18 : ∀ l : Tms, shL l = true → SubL l
  | .nil, _ => trivial
  | .cons t l, h => by
    simp only [shL, Bool.and_eq_true] at h
    exact ⟨term18 t h.1, terms18 l h.2⟩
theorem alts18 : ∀ l : Alts, shA l = true → SubA l
  | .nil, _ => trivial
  | .cons c v t l, h => by
    simp only [shA, Bool.and_eq_true, decide_eq_true_eq] at h
    exact ⟨h.1.1, term18 t h.1.2, alts18 l h.2⟩
theorem binds18 : ∀ l : Binds, shB l = true → SubB l
  | .nil, _ => trivial
  | .cons n ty t l, h => by
    simp only [shB, Bool.and_eq_true] at h
    exact ⟨term18 t h.1, binds18 l h.2⟩
end

/-- A term's free variables. -/
theorem free6 (t : Tm) (hbs : ∀ x ∈ bs, x ≤ h.length) (ht : shT t = true) (hs : szT t ≤ 9000) (hq : Q (.sl .frozen ((frT t (fun _ => 0) []).map .str)) h) : CallA ap 6 0 bs [tmV t] h Q := by
  refine CallA.code (af := ac6) rfl (Nat.le_of_ble_eq_true rfl) ?_
  simp [ac6, splice, tm_take, tm_agg, demote_tm]
  have st : Stt (h.length + 2) h.length (h.length + 1) (fun _ => 0) [] (h ++ [.map [] [] 0, .map [] [] 0, .box [.map (some h.length), .map (some (h.length + 1)), .sl .clip []]]) := by
    refine ⟨by omega, by omega, ⟨.clip, by simp, .inl ⟨rfl, rfl⟩⟩, ⟨[], by simp [gO, gEn], fun y => .inr ⟨rfl, rfl⟩⟩, ⟨[], by simp [gO, gEn], fun y => rfl⟩⟩
  refine term18 t ht _ _ _ (h.length + 2) h.length (h.length + 1) _ _ ?_ ⟨fun y => by omega, by simp; omega⟩ st fun h2 st2 fr2 => ?_
  · intro x hx
    rcases List.mem_cons.1 hx with rfl | hx
    · omega
    · have := hbs x hx; omega
  · obtain ⟨tg, hp, ho⟩ := st2.pf
    simp [hp, dem_strs', under_strs']
    have e : List.take h.length h2 = h := by
      refine List.ext_getElem? fun q => ?_
      rw [List.getElem?_take]
      split
      · rename_i hq1
        have := fr2.2.2 q (by omega)
        rw [List.getElem?_append_left hq1] at this
        exact this
      · rename_i hq1
        rw [List.getElem?_eq_none (by omega)]
    rw [e]
    exact hq

end
end Go.Tt
