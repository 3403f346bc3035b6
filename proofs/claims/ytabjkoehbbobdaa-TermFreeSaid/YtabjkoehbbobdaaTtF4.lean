/- Which names are free in a term: on the abstract machine. -/
import Derived.Test.YtabjkoehbbobdaaTtF3
namespace Go.Tt
open Go.Am Go.Proofs
set_option maxRecDepth 100000

def biV (n : Nm) (ty : Ty) (t : Tm) : V := .agg ([.str n] ++ (tyV ty).cells ++ (tmV t).cells)
def alV (c : Nm) (v : List Nm) (t : Tm) : V := .agg ([.str c, .sl .frozen (v.map .str)] ++ (tmV t).cells)
theorem biVs_cons (n : Nm) (ty : Ty) (t : Tm) (l : Binds) : biVs (.cons n ty t l) = biV n ty t :: biVs l := by simp only [biVs, biV]
theorem alVs_cons (c : Nm) (v : List Nm) (t : Tm) (l : Alts) : alVs (.cons c v t l) = alV c v t :: alVs l := by simp only [alVs, alV]
theorem bi_c (n : Nm) (ty : Ty) (t : Tm) : (biV n ty t).cells = [.str n] ++ (tyV ty).cells ++ (tmV t).cells := rfl
theorem al_c (c : Nm) (v : List Nm) (t : Tm) : (alV c v t).cells = [.str c, .sl .frozen (v.map .str)] ++ (tmV t).cells := rfl
theorem bi_len (n : Nm) (ty : Ty) (t : Tm) : (biV n ty t).cells.length = 13 := by rw [bi_c]; simp
theorem al_len (c : Nm) (v : List Nm) (t : Tm) : (alV c v t).cells.length = 11 := by rw [al_c]; simp
theorem bi_take (n : Nm) (ty : Ty) (t : Tm) : (biV n ty t).cells.take 13 = (biV n ty t).cells := List.take_of_length_le (Nat.le_of_eq (bi_len n ty t))
theorem al_take (c : Nm) (v : List Nm) (t : Tm) : (alV c v t).cells.take 11 = (alV c v t).cells := List.take_of_length_le (Nat.le_of_eq (al_len c v t))
theorem bi_agg (n : Nm) (ty : Ty) (t : Tm) : V.agg (biV n ty t).cells = biV n ty t := rfl
theorem al_agg (c : Nm) (v : List Nm) (t : Tm) : V.agg (alV c v t).cells = alV c v t := rfl
theorem bi_loc (n : Nm) (ty : Ty) (t : Tm) : (biV n ty t).isLoc = false := rfl
theorem al_loc (c : Nm) (v : List Nm) (t : Tm) : (alV c v t).isLoc = false := rfl
theorem bi_0 (n : Nm) (ty : Ty) (t : Tm) : (biV n ty t).cells[0]? = some (.str n) := by rw [bi_c]; rfl
theorem al_1 (c : Nm) (v : List Nm) (t : Tm) : (alV c v t).cells[1]? = some (.sl .frozen (v.map .str)) := by rw [al_c]; rfl
theorem bi_4 (n : Nm) (ty : Ty) (t : Tm) : ((biV n ty t).cells.drop 4).take 9 = (tmV t).cells := by
  rw [bi_c, List.drop_left' (by simp)]; exact tm_take t
theorem al_2 (c : Nm) (v : List Nm) (t : Tm) : ((alV c v t).cells.drop 2).take 9 = (tmV t).cells := by
  rw [al_c, List.drop_left' (by rfl)]; exact tm_take t

/- Lengths. -/
theorem add_len (F : Nm → Int) (s : Nm) (o : List Nm) : (addN F s o).length ≤ o.length + 1 := by
  unfold addN; split <;> simp
mutual
theorem lenT : ∀ (t : Tm) (F : Nm → Int) (o : List Nm), (frT t F o).length ≤ o.length + szT t
  | .mk k s n ty l a b, F, o => by
    unfold frT
    simp only [szT]
    split
    · have := add_len F s o; omega
    · split
      · have := lenL l (inc F [s]) o; omega
      · split
        · have := lenL l (inc F b.names) (frB b (inc F b.names) o); have := lenB b (inc F b.names) o; omega
        · have := lenA a F (frL l F o); have := lenL l F o; omega
theorem lenL : ∀ (t : Tms) (F : Nm → Int) (o : List Nm), (frL t F o).length ≤ o.length + szL t
  | .nil, F, o => by simp [frL]
  | .cons t l, F, o => by
    simp only [frL, szL]
    have := lenL l F (frT t F o); have := lenT t F o; omega
theorem lenA : ∀ (t : Alts) (F : Nm → Int) (o : List Nm), (frA t F o).length ≤ o.length + szA t
  | .nil, F, o => by simp [frA]
  | .cons c v t l, F, o => by
    simp only [frA, szA]
    have := lenA l F (frT t (inc F (boundV v)) o); have := lenT t (inc F (boundV v)) o; omega
theorem lenB : ∀ (t : Binds) (F : Nm → Int) (o : List Nm), (frB t F o).length ≤ o.length + szB t
  | .nil, F, o => by simp [frB]
  | .cons n ty t l, F, o => by
    simp only [frB, szB]
    have := lenB l F (frT t F o); have := lenT t F o; omega
end
theorem tms_len : ∀ l : Tms, (tmVs l).length ≤ szL l
  | .nil => by simp [tmVs]
  | .cons t l => by have := tms_len l; have := szT_pos t; simp [tmVs, szL]; omega
theorem als_len : ∀ l : Alts, (alVs l).length ≤ szA l
  | .nil => by simp [alVs]
  | .cons c v t l => by have := als_len l; have := szT_pos t; simp [alVs, szA]; omega
theorem bis_len : ∀ l : Binds, (biVs l).length ≤ szB l
  | .nil => by simp [biVs]
  | .cons n ty t l => by have := bis_len l; have := szT_pos t; simp [biVs, szB]; omega

theorem Stt.up {pf b s : Nat} {F : Nm → Int} {o : List Nm} {h : List Ob} (st : Stt pf b s F o h) (tl : List Ob) : Stt pf b s F o (h ++ tl) ∧ Fr pf h (h ++ tl) := by
  have lt : ∀ {q : Nat} {x : Ob}, h[q]? = some x → (h ++ tl)[q]? = some x := fun hq => by rw [List.getElem?_append_left (List.getElem?_eq_some_iff.1 hq).1]; exact hq
  obtain ⟨ne, lo, ⟨tg, hp, ho⟩, ⟨l, hb, hm⟩, ⟨l2, hs, hs2⟩⟩ := st
  have plt : pf < h.length := (List.getElem?_eq_some_iff.1 hp).1
  refine ⟨⟨ne, lo, ⟨tg, lt hp, ?_⟩, ⟨l, lt hb, hm⟩, ⟨l2, lt hs, hs2⟩⟩, by simp, fun q cs _ hq => lt hq, fun q hq => List.getElem?_append_left (by omega)⟩
  rcases ho with ho | ⟨r, hr1, hr0, hr2⟩
  · exact .inl ho
  · exact .inr ⟨r, hr1, hr0, lt hr2⟩

/-- Room for counts and names. -/
def Room (F : Nm → Int) (o : List Nm) (n : Nat) : Prop := (∀ y, 0 ≤ F y ∧ F y + 100 * (n : Int) ≤ 1000000) ∧ o.length + n ≤ 1000000
theorem Room.le {F : Nm → Int} {o : List Nm} {n m : Nat} (h : Room F o n) (hm : m ≤ n) : Room F o m := ⟨fun y => by have := h.1 y; omega, by have := h.2; omega⟩
theorem Room.inc {F : Nm → Int} {o : List Nm} {n m : Nat} (h : Room F o n) (hm : m < n) {l : List Nm} (hl : l.length ≤ 10) : Room (inc F l) o m := by
  refine ⟨fun y => ?_, by have := h.2; omega⟩
  have := h.1 y
  have := inc_le l F y
  omega

def TermS (t : Tm) : Prop := ∀ (bs : List Nat) (h : List Ob) (Q : V → List Ob → Prop) (pf b s : Nat) (F : Nm → Int) (o : List Nm), (∀ x ∈ bs, x ≤ pf) → Room F o (szT t) → Stt pf b s F o h →
  (∀ h2, Stt pf b s F (frT t F o) h2 → Fr pf h h2 → Q (.tup []) h2) → CallA ap 18 0 bs [.ptr pf 0, tmV t] h Q
def SubL : Tms → Prop
  | .nil => True
  | .cons t l => TermS t ∧ SubL l
def SubA : Alts → Prop
  | .nil => True
  | .cons _ v t l => v.length ≤ 10 ∧ TermS t ∧ SubA l
def SubB : Binds → Prop
  | .nil => True
  | .cons _ _ t l => TermS t ∧ SubB l

section
variable {bs : List Nat} {h : List Ob} {Q : V → List Ob → Prop}

theorem all25 (l : Tms) (hl : SubL l) {pf b s : Nat} {F : Nm → Int} {o : List Nm} (hbs : ∀ x ∈ bs, x ≤ pf) (hr : Room F o (szL l)) (st : Stt pf b s F o h)
    (hq : ∀ h2, Stt pf b s F (frL l F o) h2 → Fr pf h h2 → Q (.tup []) h2) : CallA ap 25 0 bs [.ptr pf 0, .sl .frozen (tmVs l)] h Q := by
  refine CallA.code (af := ac25) rfl (Nat.le_of_ble_eq_true rfl) ?_
  simp [ac25]
  have hlen := tms_len l
  have hr2 := hr.2
  obtain ⟨I, hI⟩ : ∃ I : Nat → St → Prop, ∀ n s', I n s' ↔ (∃ (i : Nat) (l' : Tms) (o' : List Nm), i + n = (tmVs l).length ∧ (tmVs l).drop i = tmVs l' ∧ SubL l' ∧ frL l' F o' = frL l F o ∧ Room F o' (szL l') ∧ Stt pf b s F o' s'.h ∧ Fr pf h s'.h ∧
    s'.r 0 = .ptr pf 0 ∧ s'.r 6 = .sl .frozen (tmVs l) ∧ s'.r 7 = .int .i64 (tmVs l).length ∧ s'.r 8 = .int .i64 i) := ⟨_, fun _ _ => Iff.rfl⟩
  refine loop_ind (CallA.hle ap) I ?_ (n := (tmVs l).length) ((hI _ _).2 ⟨0, l, o, by simp, by simp, hl, rfl, hr, st, Fr.refl _ _, by simp⟩)
  rintro n ⟨r, lo, h'⟩ hs
  obtain ⟨i, l', o', hin', hdr, hsub, hfr, hroom, st', fr', r0, r6, r7, r8⟩ := (hI _ _).1 hs
  simp only at r0 r6 r7 r8 st' fr'
  simp [forget, noLoc, locOf, r0, r6, r7, r8]
  refine condA_dec (fun c1 => ?_) fun c1 => ?_
  · have hi : i < (tmVs l).length := by omega
    have hw : IntKind.wrap .i64 ((i : Int) + 1) = ((i + 1 : Nat) : Int) := by rw [wrap64 (by omega) (by omega)]; omega
    match l', hdr, hsub, hfr, hroom with
    | .nil, hdr, _, _, _ => have := drop_nil' hdr; omega
    | .cons t l2, hdr, hsub, hfr, hroom =>
      obtain ⟨g1, g2, -⟩ := drop_cons hdr
      have hg : (tmVs l)[i] = tmV t := by rw [List.getElem?_eq_getElem hi] at g1; exact Option.some.inj g1
      simp [r0, r6, r7, r8, hi, hg, splice, tm_take, tm_agg, demote_tm]
      refine hsub.1 _ _ _ pf b s F o' hbs (hroom.le (by simp only [szL]; omega)) st' fun h2 st2 fr2 => ?_
      simp [r0, r6, r7, r8, hw]
      have := lenT t F o'
      refine ⟨n - 1, by omega, (hI _ _).2 ⟨i + 1, l2, _, by omega, g2, hsub.2, by simpa only [frL] using hfr, ⟨fun y => (hroom.le (by simp only [szL]; omega)).1 y, by have := hroom.2; simp only [szL] at this; omega⟩, st2, fr'.trans fr2, by simp [r0, r6, r7]⟩⟩
  · simp [r0, r6, r7, r8]
    have hn : tmVs l' = [] := by rw [← hdr]; exact List.drop_of_length_le (by omega)
    match l', hn, hfr with
    | .nil, _, hfr => simp only [frL] at hfr; subst hfr; exact hq _ st' fr'

theorem take_b (v : List Nm) (i : Nat) (hi : i < v.length) : boundV (v.take (i + 1)) = boundV (v.take i) ++ (if v[i] = [95] then [] else [v[i]]) := by
  rw [List.take_add_one, List.getElem?_eq_getElem hi]
  simp only [boundV, Option.toList_some, List.filter_append]
  congr 1
  by_cases h : v[i] = [95] <;> simp [h]

theorem bound27 (v : List Nm) (hv : v.length ≤ 10) (hq : Q (.sl .frozen ((boundV v).map .str)) h) : CallA ap 27 0 bs [.sl .frozen (v.map .str)] h Q := by
  refine CallA.code (af := ac27) rfl (Nat.le_of_ble_eq_true rfl) ?_
  simp [ac27]
  have hbl : ∀ i, (boundV (v.take i)).length ≤ 10 := fun i => Nat.le_trans (List.length_filter_le _ _) (by simp; omega)
  obtain ⟨I, hI⟩ : ∃ I : Nat → St → Prop, ∀ n s', I n s' ↔ (∃ (i : Nat) (tg : Tag) (tl : List Ob), i + n = v.length ∧ s'.h = h ++ tl ∧ ((tg = .clip ∧ boundV (v.take i) = [] ∧ tl = []) ∨ (tg = .fam h.length ∧ tl = [.fam (boundV (v.take i)).length 1])) ∧
    s'.r 3 = .sl tg ((boundV (v.take i)).map .str) ∧ s'.r 6 = .sl .frozen (v.map .str) ∧ s'.r 7 = .int .i64 v.length ∧ s'.r 8 = .int .i64 i) := ⟨_, fun _ _ => Iff.rfl⟩
  refine loop_ind (CallA.hle ap) I ?_ (n := v.length) ((hI _ _).2 ⟨0, .clip, [], by simp, by simp, .inl ⟨rfl, rfl, rfl⟩, by simp [boundV]⟩)
  rintro n ⟨r, lo, h'⟩ hs
  obtain ⟨i, tg, tl, hin', hh, hor, r3, r6, r7, r8⟩ := (hI _ _).1 hs
  simp only at r3 r6 r7 r8 hh
  subst hh
  simp [forget, noLoc, locOf, r3, r6, r7, r8]
  refine condA_dec (fun c1 => ?_) fun c1 => ?_
  · have hi : i < v.length := by omega
    have hw : IntKind.wrap .i64 ((i : Int) + 1) = ((i + 1 : Nat) : Int) := by rw [wrap64 (by omega) (by omega)]; omega
    have htb := take_b v i hi
    have hle := hbl i
    by_cases hx : v[i] = [95]
    · have e : (!(v[i] == [95])) = false := by simp [hx]
      rw [if_pos hx, List.append_nil] at htb
      simp [r3, r6, r7, r8, hi, hx, hw]
      exact ⟨n - 1, by omega, (hI _ _).2 ⟨i + 1, tg, tl, by omega, rfl, by rw [htb]; exact hor, by simp [r3, r6, r7, htb]⟩⟩
    · have e : (!(v[i] == [95])) = true := by simp [hx]
      rw [if_neg hx] at htb
      simp [r3, r6, r7, r8, hi, e, splice]
      refine ⟨?_, by simp only [lim]; omega, ?_⟩
      · rintro x (⟨a, _, rfl⟩ | rfl) <;> rfl
      rcases hor with ⟨rfl, hnil, rfl⟩ | ⟨rfl, rfl⟩
      · simp [r6, r7, r8, hw]
        refine ⟨n - 1, by omega, (hI _ _).2 ⟨i + 1, .fam h.length, [.fam 1 1], by omega, by simp [hnil], .inr ⟨rfl, by rw [htb, hnil]; rfl⟩, by simp [r6, r7, htb]⟩⟩
      · simp [r6, r7, r8, hw, List.set_append]
        refine ⟨n - 1, by omega, (hI _ _).2 ⟨i + 1, .fam h.length, [.fam ((boundV (v.take i)).length + 1) 1], by omega, rfl, .inr ⟨rfl, by rw [htb]; simp⟩, by simp [r6, r7, htb]⟩⟩
  · have hi : i = v.length := by omega
    subst hi
    simp [r3, r6, r7, r8, dem_strs', under_strs']
    simpa using hq

end
end Go.Tt
