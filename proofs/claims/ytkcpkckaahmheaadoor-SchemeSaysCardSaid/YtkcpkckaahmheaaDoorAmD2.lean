/- Neighbours in a region whose order is open change places. -/
import Derived.Test.YtkcpkckaahmheaaDoorAmD
namespace Go.Am

def putA (r : Nat → V) (d : Option Nat) (v : V) : Nat → V := match d with
  | some d => put r d v
  | none => r

theorem putD_eq {s : St} {d : Option Nat} {v : V} : putD s d v = ⟨putA s.r d v, s.l, s.h⟩ := by cases d <;> rfl

theorem putA_comm {r : Nat → V} {d e : Option Nat} {v u : V} (h : ∀ k, d = some k → e ≠ some k) : putA (putA r d v) e u = putA (putA r e u) d v := by
  cases d with
  | none => rfl
  | some d => cases e with
    | none => rfl
    | some e =>
      have hne : d ≠ e := fun he => h d rfl (he ▸ rfl)
      funext k
      simp only [putA, put]
      by_cases h1 : k = e
      · subst h1
        rw [if_pos rfl, if_neg (fun e => hne e.symm), if_pos rfl]
      · rw [if_neg h1, if_neg h1]

theorem putA_agree {r : Nat → V} {d : Option Nat} {v : V} {l : List Nat} (h : ∀ k, d = some k → k ∉ l) : ∀ k ∈ l, putA r d v k = r k := by
  intro k hk
  cases d with
  | none => rfl
  | some d =>
    simp only [putA, put]
    rw [if_neg]
    intro e
    subst e
    exact h k rfl hk

section
variable {X : CallH} {bs : List Nat}

/-- What a store comes to. -/
def stF (xs : List V) (a : V) (l : Nat → Option (List V)) (h : List Ob) : (Nat → Option (List V)) × List Ob := match a with
  | .loc d off => (putL l d (splice ((l d).getD []) off xs), h)
  | .ptr r off => (l, h.set r (match h[r]? with
    | some (.box cs) => .box (splice cs off xs)
    | o => o.getD default))
  | .vptr r _ off => (l, h.set r (match h[r]? with
    | some (.vec v z cs) => .vec v z (splice cs off xs)
    | o => o.getD default))
  | _ => (l, h)
def stOk (bs : List Nat) (xs : List V) (a : V) (l : Nat → Option (List V)) (h : List Ob) : Prop := match a with
  | .loc d off => ∃ cs, l d = some cs ∧ off + xs.length ≤ cs.length
  | .ptr r off => (∃ cs, h[r]? = some (.box cs) ∧ off + xs.length ≤ cs.length) ∧ okStore bs r xs
  | .vptr r ver off => (∃ z cs, h[r]? = some (.vec ver z cs) ∧ off + xs.length ≤ cs.length) ∧ okStore bs r xs
  | _ => False

theorem kStore_iff {xs : List V} {a : V} {r : Nat → V} {l : Nat → Option (List V)} {h : List Ob} {K : V → St → Prop} :
    kStore bs xs K ⟨r, l, h⟩ a ↔ stOk bs xs a l h ∧ K (.tup []) ⟨r, (stF xs a l h).1, (stF xs a l h).2⟩ := by
  cases a <;> simp only [kStore, stOk, stF, false_and]
  · rename_i p off
    cases hp : h[p]? with
    | none => simp [kBox]
    | some o => cases o <;> simp [kBox, and_assoc]
  · rename_i d off
    cases hd : l d with
    | none => simp [kLoc]
    | some cs => simp [kLoc]
  · rename_i p ver off
    cases hp : h[p]? with
    | none => simp [kVec]
    | some o =>
      cases o <;> simp [kVec]
      rename_i v z cs
      constructor
      · rintro ⟨rfl, h1, h2, h3⟩; exact ⟨⟨⟨z, cs, ⟨rfl, rfl, rfl⟩, h1⟩, h2⟩, h3⟩
      · rintro ⟨⟨⟨z', cs', ⟨rfl, rfl, rfl⟩, h1⟩, h2⟩, h3⟩; exact ⟨rfl, h1, h2, h3⟩

theorem stF_loadV {xs : List V} {a b : V} {r : Nat → V} {l : Nat → Option (List V)} {h : List Ob} {n : Option Nat} (hf : objOf a ≠ objOf b) : loadV ⟨r, (stF xs a l h).1, (stF xs a l h).2⟩ b n = loadV ⟨r, l, h⟩ b n := by
  cases a <;> cases b <;> simp only [stF, loadV, cellsAt] <;> first
    | rfl
    | (rename_i p o q o'
       have : p ≠ q := fun e => hf (by simp [objOf, e])
       rw [List.getElem?_set_ne this]; done)
    | (rename_i p o q v o'
       have : p ≠ q := fun e => hf (by simp [objOf, e])
       rw [List.getElem?_set_ne this]; done)
    | (rename_i p v o q o'
       have : p ≠ q := fun e => hf (by simp [objOf, e])
       rw [List.getElem?_set_ne this]; done)
    | (rename_i p v o q v' o'
       have : p ≠ q := fun e => hf (by simp [objOf, e])
       rw [List.getElem?_set_ne this]; done)
    | (rename_i p o q o'
       have : q ≠ p := fun e => hf (by simp [objOf, e])
       simp [putL, this])

theorem stF_stOk {xs ys : List V} {a b : V} {l : Nat → Option (List V)} {h : List Ob} (hf : objOf a ≠ objOf b) : stOk bs ys b (stF xs a l h).1 (stF xs a l h).2 ↔ stOk bs ys b l h := by
  cases a <;> cases b <;> simp only [stF, stOk] <;> first
    | exact Iff.rfl
    | (rename_i p o q o'
       have : p ≠ q := fun e => hf (by simp [objOf, e])
       rw [List.getElem?_set_ne this]; done)
    | (rename_i p o q v o'
       have : p ≠ q := fun e => hf (by simp [objOf, e])
       rw [List.getElem?_set_ne this]; done)
    | (rename_i p v o q o'
       have : p ≠ q := fun e => hf (by simp [objOf, e])
       rw [List.getElem?_set_ne this]; done)
    | (rename_i p v o q v' o'
       have : p ≠ q := fun e => hf (by simp [objOf, e])
       rw [List.getElem?_set_ne this]; done)
    | (rename_i p o q o'
       have : q ≠ p := fun e => hf (by simp [objOf, e])
       simp [putL, this])

theorem stF_comm {xs ys : List V} {a b : V} {l : Nat → Option (List V)} {h : List Ob} (hf : objOf a ≠ objOf b) : stF ys b (stF xs a l h).1 (stF xs a l h).2 = stF xs a (stF ys b l h).1 (stF ys b l h).2 := by
  cases a <;> cases b <;> simp only [stF] <;> first
    | rfl
    | (rename_i p o q o'
       have hne : p ≠ q := fun e => hf (by simp [objOf, e])
       rw [List.getElem?_set_ne hne, List.getElem?_set_ne (Ne.symm hne), List.set_comm _ _ hne]; done)
    | (rename_i p o q v o'
       have hne : p ≠ q := fun e => hf (by simp [objOf, e])
       rw [List.getElem?_set_ne hne, List.getElem?_set_ne (Ne.symm hne), List.set_comm _ _ hne]; done)
    | (rename_i p v o q o'
       have hne : p ≠ q := fun e => hf (by simp [objOf, e])
       rw [List.getElem?_set_ne hne, List.getElem?_set_ne (Ne.symm hne), List.set_comm _ _ hne]; done)
    | (rename_i p v o q v' o'
       have hne : p ≠ q := fun e => hf (by simp [objOf, e])
       rw [List.getElem?_set_ne hne, List.getElem?_set_ne (Ne.symm hne), List.set_comm _ _ hne]; done)
    | skip
  · rename_i p o q o'
    have hne : p ≠ q := fun e => hf (by simp [objOf, e])
    have e1 : putL l p (splice ((l p).getD []) o xs) q = l q := by simp [putL, Ne.symm hne]
    have e2 : putL l q (splice ((l q).getD []) o' ys) p = l p := by simp [putL, hne]
    rw [e1, e2]
    congr 1
    funext i
    simp only [putL]
    split <;> rename_i h1
    · subst h1; rw [if_neg (Ne.symm hne)]
    · rfl

/-- What an operation that loads, that stores is. -/
theorem ld_spec {d : Option Nat} {o : AOp} {a : AO} {l' m' : List AO} {r : Nat → V} (ho : o.ldA = some (a, l', m')) : ∃ (c : Prop) (n : Option Nat), (c → farL (ev r a) (evs r l') = true ∧ sameL (ev r a) (evs r m') = true) ∧
    ∀ (l : Nat → Option (List V)) (h : List Ob) (K : V → St → Prop), wpOp X bs d o ⟨r, l, h⟩ K ↔ c ∧ kSome K ⟨r, l, h⟩ (loadV ⟨r, l, h⟩ (ev r a) n) := by
  cases o <;> simp only [AOp.ldA, Option.some.injEq, Prod.mk.injEq] at ho <;> first | (cases ho; done) | skip
  · rename_i n b
    obtain ⟨rfl, rfl, rfl⟩ := ho
    exact ⟨True, n, fun _ => ⟨rfl, rfl⟩, fun l h K => by simp [wpOp]⟩
  · rename_i n b
    obtain ⟨rfl, rfl, rfl⟩ := ho
    refine ⟨isPtr (ev r b) = false, n, fun _ => ⟨rfl, rfl⟩, fun l h K => ?_⟩
    simp only [wpOp, loadLV]
    cases isPtr (ev r b) <;> simp [kSome]
  · rename_i lc n b l1 m1
    obtain ⟨rfl, rfl, rfl⟩ := ho
    refine ⟨addrOk lc (ev r b) (evs r l1) (evs r m1) = true, n, fun h => ?_, fun l h K => Iff.rfl⟩
    simp only [addrOk, Bool.and_eq_true] at h
    exact ⟨h.1.2, h.2⟩

theorem st_spec {d : Option Nat} {o : AOp} {a : AO} {l' m' : List AO} {r : Nat → V} (ho : o.stA = some (a, l', m')) : ∃ (c : Prop) (xs : List V), (c → farL (ev r a) (evs r l') = true ∧ sameL (ev r a) (evs r m') = true) ∧
    ∀ (l : Nat → Option (List V)) (h : List Ob) (K : V → St → Prop), wpOp X bs d o ⟨r, l, h⟩ K ↔ c ∧ kStore bs xs K ⟨r, l, h⟩ (ev r a) := by
  cases o <;> simp only [AOp.stA, Option.some.injEq, Prod.mk.injEq] at ho <;> first | (cases ho; done) | skip
  · rename_i n b x
    obtain ⟨rfl, rfl, rfl⟩ := ho
    exact ⟨(ev r x).cells.length = n ∧ (ev r x).isLoc = false, (ev r x).cells, fun _ => ⟨rfl, rfl⟩, fun l h K => by simp [wpOp, and_assoc]⟩
  · rename_i n b x
    obtain ⟨rfl, rfl, rfl⟩ := ho
    exact ⟨isPtr (ev r b) = false ∧ (ev r x).cells.length = n ∧ (ev r x).isLoc = false, (ev r x).cells, fun _ => ⟨rfl, rfl⟩, fun l h K => by simp [wpOp, and_assoc]⟩
  · rename_i lc n b x l1 m1
    obtain ⟨rfl, rfl, rfl⟩ := ho
    refine ⟨addrOk lc (ev r b) (evs r l1) (evs r m1) = true ∧ (ev r x).cells.length = n ∧ (ev r x).isLoc = false, (ev r x).cells, fun h => ?_, fun l h K => by simp [wpOp, and_assoc]⟩
    have h := h.1
    simp only [addrOk, Bool.and_eq_true] at h
    exact ⟨h.1.2, h.2⟩

theorem farL_mem {r : Nat → V} {a : V} {b : AO} : ∀ {l : List AO}, farL a (evs r l) = true → hasT l b = true → objOf a ≠ objOf (ev r b)
  | [], _, hb => by cases b <;> simp [hasT] at hb
  | c :: l, h, hb => by
    simp only [evs, farL, Bool.and_eq_true, bne_iff_ne] at h
    cases b with
    | c v => cases hb
    | t i =>
      simp only [hasT, List.any_cons, Bool.or_eq_true] at hb
      rcases hb with hb | hb
      · cases c with
        | t j => simp only [AO.isT, beq_iff_eq] at hb; subst hb; exact h.1
        | c v => cases hb
      · exact farL_mem (b := .t i) h.2 hb
theorem sameL_mem {r : Nat → V} {a : V} {b : AO} : ∀ {l : List AO}, sameL a (evs r l) = true → b ∈ l → objOf a = objOf (ev r b)
  | [], _, hb => by cases hb
  | c :: l, h, hb => by
    simp only [evs, sameL, Bool.and_eq_true, beq_iff_eq] at h
    rcases List.mem_cons.1 hb with rfl | hb
    · exact h.1
    · exact sameL_mem h.2 hb

theorem farA_ok {r : Nat → V} {a b : AO} {l m l' m' : List AO} (h : farA (some (a, l, m)) (some (b, l', m')) = true) (h1 : farL (ev r a) (evs r l) = true) (h2 : sameL (ev r a) (evs r m) = true)
    (h3 : farL (ev r b) (evs r l') = true) (h4 : sameL (ev r b) (evs r m') = true) : objOf (ev r a) ≠ objOf (ev r b) := by
  simp only [farA, Bool.or_eq_true] at h
  rcases h with ((h | h) | h) | h
  · exact farL_mem h1 h
  · obtain ⟨c, hc, hh⟩ := List.any_eq_true.1 h
    rw [sameL_mem h4 hc]
    exact farL_mem h1 hh
  · exact (farL_mem h3 h).symm
  · obtain ⟨c, hc, hh⟩ := List.any_eq_true.1 h
    rw [sameL_mem h2 hc]
    exact (farL_mem h3 hh).symm

theorem new_spec {d : Option Nat} {o : AOp} {r : Nat → V} (ho : o.newLoc = true) : ∃ (c : Prop) (z : List V), ∀ (l : Nat → Option (List V)) (h : List Ob) (K : V → St → Prop), wpOp X bs d o ⟨r, l, h⟩ K ↔ c ∧ kAlloc z K ⟨r, l, h⟩ d := by
  cases o <;> simp only [AOp.newLoc] at ho <;> first | (cases ho; done) | skip
  · rename_i z hp
    cases hp with
    | true => cases ho
    | false => exact ⟨True, z, fun l h K => by simp [wpOp, kNew]⟩
  · rename_i x n hp
    cases hp with
    | true => cases ho
    | false => exact ⟨(ev r x).cells.length = n ∧ (ev r x).isLoc = false, (ev r x).cells, fun l h K => by simp [wpOp, kNew, and_assoc]⟩

/-- A call that leaves objects as they were. -/
theorem kp_spec (hX : HLe X X) (hN : NV X) {d : Option Nat} {o : AOp} {ks : List AO} {r : Nat → V} (ho : o.kpA = some ks) : ∃ (c : Prop) (Z : List Ob → (V → List Ob → Prop) → Prop),
    (∀ h (Q Q' : V → List Ob → Prop), (∀ v h', Q v h' → Q' v h') → Z h Q → Z h Q') ∧ (∀ h Q, Z h Q → ∃ v h', Q v h') ∧
    ∀ (l : Nat → Option (List V)) (h : List Ob) (K : V → St → Prop), wpOp X bs d o ⟨r, l, h⟩ K ↔ c ∧ Z h fun v h' => keptL h h' (evs r ks) ∧ K v ⟨r, l, h'⟩ := by
  cases o <;> simp only [AOp.kpA, Option.some.injEq] at ho <;> first | (cases ho; done) | skip
  rename_i vr own f args ks'
  subst ho
  refine ⟨okVals (evs r args) = true, fun h Q => match ev r f with
    | .fn g cap => X g vr bs (evArgs r own args 0 ++ cap) h Q
    | .yld q => X q 1000001 bs (evArgs r own args 0) h Q
    | .mfn g xs => X g vr bs (xs ++ evArgs r own args 0) h Q
    | _ => False, ?_, ?_, ?_⟩
  · intro h Q Q' hq hz
    split at hz <;> first | exact hX _ _ _ _ _ _ _ hq hz | exact hz.elim
  · intro h Q hz
    split at hz <;> first | exact hN _ _ _ _ _ _ hz | exact hz.elim
  · intro l h K
    simp only [wpOp]
    generalize ev r f = v
    cases v <;> exact Iff.rfl

theorem hasT_mem {b : AO} : ∀ {l : List AO}, hasT l b = true → b ∈ l
  | [], hb => by cases b <;> simp [hasT] at hb
  | c :: l, hb => by
    cases b with
    | c v => cases hb
    | t i =>
      simp only [hasT, List.any_cons, Bool.or_eq_true] at hb
      rcases hb with hb | hb
      · cases c with
        | t j => simp only [AO.isT, beq_iff_eq] at hb; subst hb; simp
        | c v => cases hb
      · exact List.mem_cons_of_mem _ (hasT_mem (b := .t i) hb)

theorem keptL_mem {h h' : List Ob} {r : Nat → V} {b : AO} : ∀ {l : List AO}, keptL h h' (evs r l) → b ∈ l → kept1 h h' (ev r b)
  | [], _, hb => by cases hb
  | c :: l, hk, hb => by
    rcases List.mem_cons.1 hb with rfl | hb
    · exact hk.1
    · exact keptL_mem hk.2 hb

theorem kept_load {h h' : List Ob} {r r' : Nat → V} {l : Nat → Option (List V)} {a : AO} {la m ks : List AO} {n : Option Nat} (hf : kpFar (some (a, la, m)) (some ks) = true) (hs : sameL (ev r a) (evs r m) = true)
    (hk : keptL h h' (evs r ks)) : loadV ⟨r', l, h'⟩ (ev r a) n = loadV ⟨r', l, h⟩ (ev r a) n := by
  obtain ⟨b, hb, he⟩ : ∃ b ∈ ks, objOf (ev r a) = objOf (ev r b) := by
    simp only [kpFar, Bool.or_eq_true] at hf
    rcases hf with hf | hf
    · exact ⟨a, hasT_mem hf, rfl⟩
    · obtain ⟨c, hc, hh⟩ := List.any_eq_true.1 hf
      exact ⟨c, hasT_mem hh, sameL_mem hs hc⟩
  have hk := keptL_mem hk hb
  generalize ev r a = v at he ⊢
  generalize ev r b = u at he hk
  cases v <;> first | rfl | skip
  all_goals
    cases u <;> simp only [objOf, Option.some.injEq, Prod.mk.injEq] at he <;> first | (cases he; done) | (simp at he; done) | skip
    all_goals
      obtain ⟨-, rfl⟩ := he
      simp only [kept1] at hk
      simp only [loadV, cellsAt, hk]

theorem kept_all {h h' : List Ob} {r r' : Nat → V} {l : Nat → Option (List V)} {v u : V} {ks : List AO} {n : Option Nat} (hm : ks.any isAll = true)
    (hk : keptL h h' (evs r ks)) (hv : loadV ⟨r', l, h⟩ v n = some u) : loadV ⟨r', l, h'⟩ v n = some u := by
  obtain ⟨b, hb, he⟩ := List.any_eq_true.1 hm
  have hk := keptL_mem hk hb
  unfold isAll at he
  split at he
  · have hk : ∀ q, q < h.length → h'[q]? = h[q]? := hk
    have look : ∀ q o, h[q]? = some o → h'[q]? = some o := fun q o e => (hk q (List.getElem?_eq_some_iff.1 e).1).trans e
    cases v <;> first | exact hv | skip
    · rename_i q off
      simp only [loadV, cellsAt] at hv ⊢
      cases e : h[q]? with
      | none => rw [e] at hv; cases hv
      | some o => rw [e] at hv; rw [look _ _ e]; exact hv
    · rename_i q ver off
      simp only [loadV, cellsAt] at hv ⊢
      cases e : h[q]? with
      | none => rw [e] at hv; cases hv
      | some o => rw [e] at hv; rw [look _ _ e]; exact hv
  · cases he

/-- What can be loaded is as it was. -/
def Keeps (h h' : List Ob) : Prop := ∀ (q : Nat) (o : Ob), h[q]? = some o → (∃ k z, o = Ob.fam k z) ∨ h'[q]? = some o
theorem Keeps.push (h : List Ob) (o : Ob) : Keeps h (h ++ [o]) := fun q o' e => .inr (by rw [List.getElem?_append_left (List.getElem?_eq_some_iff.1 e).1]; exact e)
theorem Keeps.load {h h' : List Ob} (hk : Keeps h h') {r r' : Nat → V} {l : Nat → Option (List V)} {v u : V} {n : Option Nat} (hv : loadV ⟨r, l, h⟩ v n = some u) : loadV ⟨r', l, h'⟩ v n = some u := by
  cases v <;> first | exact hv | skip
  · rename_i q off
    simp only [loadV, cellsAt] at hv ⊢
    cases e : h[q]? with
    | none => rw [e] at hv; cases hv
    | some o =>
      rw [e] at hv
      rcases hk _ _ e with ⟨k, z, rfl⟩ | e2
      · cases hv
      · rw [e2]; exact hv
  · rename_i q ver off
    simp only [loadV, cellsAt] at hv ⊢
    cases e : h[q]? with
    | none => rw [e] at hv; cases hv
    | some o =>
      rw [e] at hv
      rcases hk _ _ e with ⟨k, z, rfl⟩ | e2
      · cases hv
      · rw [e2]; exact hv

theorem grows_spec {d : Option Nat} {o : AOp} (hg : o.grows = true) {r : Nat → V} {l : Nat → Option (List V)} {h : List Ob} {K : V → St → Prop} (hw : wpOp X bs d o ⟨r, l, h⟩ K) :
    wpOp X bs d o ⟨r, l, h⟩ fun u s' => Keeps h s'.h ∧ s'.l = l ∧ s'.r = r ∧ K u s' := by
  cases o <;> dsimp only [wpOp] at hw ⊢ <;> first
    | (simp [AOp.grows] at hg; done)
    | skip
  case alloc z hp => cases hp <;> first | (simp [AOp.grows] at hg; done) | exact ⟨Keeps.push _ _, rfl, rfl, hw⟩
  case box x n hp => cases hp <;> first | (simp [AOp.grows] at hg; done) | exact ⟨hw.1, hw.2.1, Keeps.push _ _, rfl, rfl, hw.2.2⟩
  case mkmap => exact ⟨Keeps.push _ _, rfl, rfl, hw⟩
  case mkslice z x y =>
    generalize ev r x = v at hw ⊢
    generalize ev r y = u at hw ⊢
    cases v <;> first
      | exact hw.elim
      | (cases u <;> first | exact hw.elim | exact ⟨hw.1, hw.2.1, hw.2.2.1, Keeps.push _ _, rfl, rfl, hw.2.2.2⟩)
  case mkarr z x y =>
    generalize ev r x = v at hw ⊢
    generalize ev r y = u at hw ⊢
    cases v <;> first
      | exact hw.elim
      | (cases u <;> first | exact hw.elim | exact ⟨hw.1, hw.2.1, hw.2.2.1, Keeps.push _ _, rfl, rfl, hw.2.2.2⟩)
  case append sz x y =>
    have same : Keeps h h := fun q o e => .inr e
    generalize ev r x = v at hw ⊢
    generalize elemsOf (ev r y) = u at hw ⊢
    unfold kApp at hw ⊢
    split at hw
    · exact ⟨same, rfl, rfl, hw⟩
    · refine ⟨hw.1, hw.2.1, ?_⟩
      have hw := hw.2.2
      unfold kTag at hw ⊢
      split at hw
      · exact hw.elim
      · exact ⟨Keeps.push _ _, rfl, rfl, hw⟩
      · rename_i q _
        dsimp only at hw ⊢
        cases e : h[q]? with
        | none => rw [e] at hw; exact hw.elim
        | some ob =>
          rw [e] at hw
          cases ob <;> first | exact hw.elim | skip
          refine ⟨hw.1, hw.2.1, fun p o ep => ?_, rfl, rfl, hw.2.2⟩
          by_cases hpq : p = q
          · subst hpq; rw [e] at ep; cases ep; exact .inl ⟨_, _, rfl⟩
          · exact .inr (by rw [List.getElem?_set_ne (Ne.symm hpq)]; exact ep)
    · exact hw.elim

theorem wpOp_swap (hX : HLe X X) (hN : NV X) {dx dy : Option Nat} {ox oy : AOp} {s : St} {K : St → Prop}
    (h1 : ∀ k, dx = some k → k ∉ oy.reads) (h2 : ∀ k, dx = some k → dy ≠ some k) (h3 : ∀ k, dy = some k → k ∉ ox.reads) (hg : (ox.grp.apart oy.grp || ox.farOp oy) = true)
    (hw : wpOp X bs dx ox s fun v s => wpOp X bs dy oy (putD s dx v) fun u s => K (putD s dy u)) :
    wpOp X bs dy oy s fun u s => wpOp X bs dx ox (putD s dy u) fun v s => K (putD s dx v) := by
  obtain ⟨r, l, h⟩ := s
  simp only [putD_eq] at hw ⊢
  have xr : ∀ (u : V) (l : Nat → Option (List V)) (h : List Ob) (K2 : V → St → Prop), wpOp X bs dx ox ⟨putA r dy u, l, h⟩ K2 ↔ wpOp X bs dx ox ⟨r, l, h⟩ fun v s' => s'.r = r ∧ K2 v ⟨putA r dy u, s'.l, s'.h⟩ :=
    fun u l h K2 => wpOp_regs_iff hX (putA_agree h3)
  have yr : ∀ (v : V) (l : Nat → Option (List V)) (h : List Ob) (K2 : V → St → Prop), wpOp X bs dy oy ⟨putA r dx v, l, h⟩ K2 ↔ wpOp X bs dy oy ⟨r, l, h⟩ fun u s' => s'.r = r ∧ K2 u ⟨putA r dx v, s'.l, s'.h⟩ :=
    fun v l h K2 => wpOp_regs_iff hX (putA_agree h1)
  have comm : ∀ v u, putA (putA r dx v) dy u = putA (putA r dy u) dx v := fun v u => putA_comm h2
  have hk : wpOp X bs dx ox ⟨r, l, h⟩ fun v s => s.r = r ∧ wpOp X bs dy oy ⟨putA r dx v, s.l, s.h⟩ fun u s => K ⟨putA s.r dy u, s.l, s.h⟩ := by
    refine wpOp_mono hX ?_ ((wpOp_regs_iff (r2 := r) hX (fun _ _ => rfl)).1 hw)
    rintro v ⟨r', l', h'⟩ ⟨rfl, h⟩
    exact ⟨rfl, h⟩
  by_cases hfar : ox.farOp oy = true
  · simp only [AOp.farOp, Bool.or_eq_true, Bool.and_eq_true] at hfar
    rcases hfar with (((((hfar | hfar) | hfar) | ⟨n1, n2⟩) | hfar) | hfar) | ⟨q1, q2 | q2⟩
    · -- a load, a store
      cases ex : ox.ldA with
      | none => rw [ex] at hfar; cases hfar
      | some p =>
        cases ey : oy.stA with
        | none => rw [ex, ey] at hfar; cases hfar
        | some q =>
          obtain ⟨a, la, ma⟩ := p
          obtain ⟨b, lb, mb⟩ := q
          rw [ex, ey] at hfar
          obtain ⟨c, n, hc, hl⟩ := ld_spec (X := X) (bs := bs) (d := dx) (r := r) ex
          obtain ⟨c', xs, hc', hs⟩ := st_spec (X := X) (bs := bs) (d := dy) (r := r) ey
          obtain ⟨h4, hk⟩ := (hl _ _ _).1 hk
          cases hv : loadV ⟨r, l, h⟩ (ev r a) n with
          | none => rw [hv] at hk; exact hk.elim
          | some v =>
            rw [hv] at hk
            obtain ⟨h5, hk⟩ := (hs _ _ _).1 ((yr _ _ _ _).1 hk.2)
            obtain ⟨h6, -, h7⟩ := kStore_iff.1 hk
            have hne := farA_ok hfar (hc h4).1 (hc h4).2 (hc' h5).1 (hc' h5).2
            refine (hs _ _ _).2 ⟨h5, kStore_iff.2 ⟨h6, (xr _ _ _ _).2 ((hl _ _ _).2 ⟨h4, ?_⟩)⟩⟩
            rw [stF_loadV (Ne.symm hne), hv]
            exact ⟨rfl, by simpa only [comm] using h7⟩
    · -- a store, a load
      cases ex : ox.stA with
      | none => rw [ex] at hfar; cases hfar
      | some p =>
        cases ey : oy.ldA with
        | none => rw [ex, ey] at hfar; cases hfar
        | some q =>
          obtain ⟨a, la, ma⟩ := p
          obtain ⟨b, lb, mb⟩ := q
          rw [ex, ey] at hfar
          obtain ⟨c, xs, hc, hs⟩ := st_spec (X := X) (bs := bs) (d := dx) (r := r) ex
          obtain ⟨c', n, hc', hl⟩ := ld_spec (X := X) (bs := bs) (d := dy) (r := r) ey
          obtain ⟨h4, hk⟩ := (hs _ _ _).1 hk
          obtain ⟨h6, -, hk⟩ := kStore_iff.1 hk
          obtain ⟨h5, hk⟩ := (hl _ _ _).1 ((yr _ _ _ _).1 hk)
          have hne := farA_ok hfar (hc h4).1 (hc h4).2 (hc' h5).1 (hc' h5).2
          rw [stF_loadV hne] at hk
          cases hv : loadV ⟨r, l, h⟩ (ev r b) n with
          | none => rw [hv] at hk; exact hk.elim
          | some v =>
            rw [hv] at hk
            refine (hl _ _ _).2 ⟨h5, ?_⟩
            rw [hv]
            simp only [kSome]
            refine (xr _ _ _ _).2 ((hs _ _ _).2 ⟨h4, kStore_iff.2 ⟨h6, rfl, ?_⟩⟩)
            simpa only [comm] using hk.2
    · -- two stores
      cases ex : ox.stA with
      | none => rw [ex] at hfar; cases hfar
      | some p =>
        cases ey : oy.stA with
        | none => rw [ex, ey] at hfar; cases hfar
        | some q =>
          obtain ⟨a, la, ma⟩ := p
          obtain ⟨b, lb, mb⟩ := q
          rw [ex, ey] at hfar
          obtain ⟨c, xs, hc, hs⟩ := st_spec (X := X) (bs := bs) (d := dx) (r := r) ex
          obtain ⟨c', ys, hc', hs'⟩ := st_spec (X := X) (bs := bs) (d := dy) (r := r) ey
          obtain ⟨h4, hk⟩ := (hs _ _ _).1 hk
          obtain ⟨h6, -, hk⟩ := kStore_iff.1 hk
          obtain ⟨h5, hk⟩ := (hs' _ _ _).1 ((yr _ _ _ _).1 hk)
          obtain ⟨h7, -, hk⟩ := kStore_iff.1 hk
          have hne := farA_ok hfar (hc h4).1 (hc h4).2 (hc' h5).1 (hc' h5).2
          refine (hs' _ _ _).2 ⟨h5, kStore_iff.2 ⟨(stF_stOk hne).1 h7, (xr _ _ _ _).2 ((hs _ _ _).2 ⟨h4, kStore_iff.2 ⟨(stF_stOk (Ne.symm hne)).2 h6, rfl, ?_⟩⟩)⟩⟩
          rw [stF_comm hne] at hk
          simpa only [comm] using hk
    · -- two new variables
      obtain ⟨c, z, hx⟩ := new_spec (X := X) (bs := bs) (d := dx) (r := r) n1
      obtain ⟨c', z', hy⟩ := new_spec (X := X) (bs := bs) (d := dy) (r := r) n2
      obtain ⟨h4, hk⟩ := (hx _ _ _).1 hk
      cases dx with
      | none => exact hk.elim
      | some i =>
        obtain ⟨h6, -, hk⟩ := hk
        obtain ⟨h5, hk⟩ := (hy _ _ _).1 ((yr _ _ _ _).1 hk)
        cases dy with
        | none => exact hk.elim
        | some j =>
          obtain ⟨h7, -, hk⟩ := hk
          have hne : i ≠ j := fun e => h2 i rfl (by rw [e])
          have h7' : l j = none := by simpa [putL, Ne.symm hne] using h7
          refine (hy _ _ _).2 ⟨h5, h7', (xr _ _ _ _).2 ((hx _ _ _).2 ⟨h4, ?_, rfl, ?_⟩)⟩
          · simpa [putL, hne] using h6
          · have e : putL (putL l j z') i z = putL (putL l i z) j z' := by
              funext k
              simp only [putL]
              split <;> rename_i h1
              · subst h1; rw [if_neg hne]
              · rfl
            simp only [e]
            simpa only [comm] using hk
    · -- a load, a call that leaves it
      cases ex : ox.ldA with
      | none => rw [ex] at hfar; cases hfar
      | some p =>
        cases ey : oy.kpA with
        | none => rw [ex, ey] at hfar; cases hfar
        | some ks =>
          obtain ⟨a, la, ma⟩ := p
          rw [ex, ey] at hfar
          obtain ⟨c, n, hc, hl⟩ := ld_spec (X := X) (bs := bs) (d := dx) (r := r) ex
          obtain ⟨c', Z, hZ1, hZ2, hs⟩ := kp_spec (X := X) (bs := bs) (d := dy) (r := r) hX hN ey
          obtain ⟨h4, hk⟩ := (hl _ _ _).1 hk
          cases hv : loadV ⟨r, l, h⟩ (ev r a) n with
          | none => rw [hv] at hk; exact hk.elim
          | some v =>
            rw [hv] at hk
            obtain ⟨h5, hk⟩ := (hs _ _ _).1 ((yr _ _ _ _).1 hk.2)
            refine (hs _ _ _).2 ⟨h5, hZ1 _ _ _ ?_ hk⟩
            rintro u h' ⟨g1, -, g2⟩
            refine ⟨g1, (xr _ _ _ _).2 ((hl _ _ _).2 ⟨h4, ?_⟩)⟩
            rw [kept_load hfar (hc h4).2 g1, hv]
            exact ⟨rfl, by simpa only [comm] using g2⟩
    · -- a call, a load of what it leaves
      cases ex : oy.ldA with
      | none => rw [ex] at hfar; cases hfar
      | some p =>
        cases ey : ox.kpA with
        | none => rw [ex, ey] at hfar; cases hfar
        | some ks =>
          obtain ⟨a, la, ma⟩ := p
          rw [ex, ey] at hfar
          obtain ⟨c, n, hc, hl⟩ := ld_spec (X := X) (bs := bs) (d := dy) (r := r) ex
          obtain ⟨c', Z, hZ1, hZ2, hs⟩ := kp_spec (X := X) (bs := bs) (d := dx) (r := r) hX hN ey
          obtain ⟨h5, hk⟩ := (hs _ _ _).1 hk
          have hk : Z h fun v h' => keptL h h' (evs r ks) ∧ (c ∧ ∃ u, loadV ⟨r, l, h'⟩ (ev r a) n = some u ∧ K ⟨putA (putA r dx v) dy u, l, h'⟩) := by
            refine hZ1 _ _ _ ?_ hk
            rintro v h' ⟨g1, -, g2⟩
            obtain ⟨h4, g3⟩ := (hl _ _ _).1 ((yr _ _ _ _).1 g2)
            cases hv : loadV ⟨r, l, h'⟩ (ev r a) n with
            | none => rw [hv] at g3; exact g3.elim
            | some u => rw [hv] at g3; exact ⟨g1, h4, u, rfl, g3.2⟩
          obtain ⟨v0, h0, g1, h4, u, hu, -⟩ := hZ2 _ _ hk
          rw [kept_load hfar (hc h4).2 g1] at hu
          refine (hl _ _ _).2 ⟨h4, ?_⟩
          rw [hu]
          simp only [kSome]
          refine (xr _ _ _ _).2 ((hs _ _ _).2 ⟨h5, hZ1 _ _ _ ?_ hk⟩)
          rintro v h' ⟨g1, -, u', hu', g2⟩
          rw [kept_load hfar (hc h4).2 g1, hu] at hu'
          cases hu'
          exact ⟨g1, rfl, by simpa only [comm] using g2⟩
    · -- a load, a call that leaves all
      cases ex : ox.ldA with
      | none => rw [ex] at q1; cases q1
      | some p =>
        cases ey : oy.kpA with
        | none => rw [ey] at q2; cases q2
        | some ks =>
          obtain ⟨a, la, ma⟩ := p
          rw [ey] at q2
          obtain ⟨c, n, hc, hl⟩ := ld_spec (X := X) (bs := bs) (d := dx) (r := r) ex
          obtain ⟨c', Z, hZ1, hZ2, hs⟩ := kp_spec (X := X) (bs := bs) (d := dy) (r := r) hX hN ey
          obtain ⟨h4, hk⟩ := (hl _ _ _).1 hk
          cases hv : loadV ⟨r, l, h⟩ (ev r a) n with
          | none => rw [hv] at hk; exact hk.elim
          | some v =>
            rw [hv] at hk
            obtain ⟨h5, hk⟩ := (hs _ _ _).1 ((yr _ _ _ _).1 hk.2)
            refine (hs _ _ _).2 ⟨h5, hZ1 _ _ _ ?_ hk⟩
            rintro u h' ⟨g1, -, g2⟩
            refine ⟨g1, (xr _ _ _ _).2 ((hl _ _ _).2 ⟨h4, ?_⟩)⟩
            rw [kept_all q2 g1 hv]
            exact ⟨rfl, by simpa only [comm] using g2⟩
    · -- a load, what makes the heap greater
      cases ex : ox.ldA with
      | none => rw [ex] at q1; cases q1
      | some p =>
        obtain ⟨a, la, ma⟩ := p
        obtain ⟨c, n, hc, hl⟩ := ld_spec (X := X) (bs := bs) (d := dx) (r := r) ex
        obtain ⟨h4, hk⟩ := (hl _ _ _).1 hk
        cases hv : loadV ⟨r, l, h⟩ (ev r a) n with
        | none => rw [hv] at hk; exact hk.elim
        | some v =>
          rw [hv] at hk
          have hyw := grows_spec q2 ((yr _ _ _ _).1 hk.2)
          refine wpOp_mono hX ?_ hyw
          rintro u ⟨r', l', h'⟩ ⟨g1, rfl, rfl, -, g2⟩
          refine (xr _ _ _ _).2 ((hl _ _ _).2 ⟨h4, ?_⟩)
          rw [g1.load hv]
          exact ⟨rfl, by simpa only [comm] using g2⟩
  have hg : ox.grp.apart oy.grp = true := by
    simp only [Bool.or_eq_true] at hg
    rcases hg with hg | hg
    · exact hg
    · exact absurd hg hfar
  -- the first is of registers alone
  by_cases hx : ox.grp = .pure
  · obtain ⟨v, hv⟩ := pureSpec hx hk
    have hy := (yr _ _ _ _).1 ((hv _ _ _).1 hk).2
    refine wpOp_mono hX ?_ hy
    rintro u ⟨r', l', h'⟩ ⟨rfl, h⟩
    refine (xr _ _ _ _).2 ((hv _ _ _).2 ⟨rfl, ?_⟩)
    simpa only [comm] using h
  -- the second is
  by_cases hy : oy.grp = .pure
  · obtain ⟨v0, ⟨r0, l0, h0⟩, rfl, hyw⟩ := wpOp_nv hN hk
    obtain ⟨u, hu⟩ := pureSpec hy ((yr _ _ _ _).1 hyw)
    refine (hu _ _ _).2 ((xr _ _ _ _).2 ?_)
    refine wpOp_mono hX ?_ hk
    rintro v ⟨r', l', h'⟩ ⟨rfl, h⟩
    refine ⟨rfl, ?_⟩
    have := ((hu _ _ _).1 ((yr _ _ _ _).1 h)).2
    simpa only [comm] using this
  -- both read; or the second makes a variable
  have rest : (ox.grp = .read ∨ ox.grp = .readL) ∧ (oy.grp = .read ∨ oy.grp = .readL ∨ oy.grp = .newL) ∨
      (ox.grp = .readL ∨ ox.grp = .newL ∨ ox.grp = .setL) ∧ (oy.grp = .heap ∨ oy.grp = .call) ∨
      (ox.grp = .heap ∨ ox.grp = .call) ∧ (oy.grp = .readL ∨ oy.grp = .newL ∨ oy.grp = .setL) := by
    generalize ox.grp = a at hg hx ⊢
    generalize oy.grp = b at hg hy ⊢
    cases a <;> cases b <;> simp [Grp.apart] at hg hx hy ⊢
  rcases rest with ⟨g1, g2⟩ | ⟨g1, g2⟩ | ⟨g1, g2⟩
  · obtain ⟨v, hv⟩ := readSpec g1 hk
    have hyw := (yr _ _ _ _).1 ((hv l _ (fun _ _ h => h)).1 hk).2
    have ys : ∃ u l', Ext l l' ∧ ∀ K2 : V → St → Prop, wpOp X bs dy oy ⟨r, l, h⟩ K2 ↔ K2 u ⟨r, l', h⟩ := by
      rcases g2 with g2 | g2 | g2
      · obtain ⟨u, hu⟩ := readSpec (.inl g2) hyw
        exact ⟨u, l, fun _ _ h => h, fun K2 => hu l K2 (fun _ _ h => h)⟩
      · obtain ⟨u, hu⟩ := readSpec (.inr g2) hyw
        exact ⟨u, l, fun _ _ h => h, fun K2 => hu l K2 (fun _ _ h => h)⟩
      · obtain ⟨u, l', he, hu⟩ := locSpec (.inr (.inl g2)) hyw
        exact ⟨u, l', he g2, fun K2 => hu h K2⟩
    obtain ⟨u, l', he, hu⟩ := ys
    refine (hu _).2 ((xr _ _ _ _).2 ((hv l' _ he).2 ⟨rfl, ?_⟩))
    have := ((hu _).1 hyw).2
    simpa only [comm] using this
  · obtain ⟨v, l', -, hv⟩ := locSpec g1 hk
    have hyw := heapSpec hX g2 ((yr _ _ _ _).1 ((hv _ _).1 hk).2) l
    refine wpOp_mono hX ?_ hyw
    rintro u ⟨r', l2, h'⟩ ⟨rfl, rfl, -, h⟩
    refine (xr _ _ _ _).2 ((hv _ _).2 ⟨rfl, ?_⟩)
    simpa only [comm] using h
  · obtain ⟨v0, ⟨r0, l0, h0⟩, rfl, rfl, -, hyw⟩ := wpOp_nv hN (heapSpec hX g1 hk l)
    obtain ⟨u, l', -, hu⟩ := locSpec g2 ((yr _ _ _ _).1 hyw)
    refine (hu _ _).2 ((xr _ _ _ _).2 ?_)
    refine wpOp_mono hX ?_ (heapSpec hX g1 hk l')
    rintro v ⟨r', l2, h'⟩ ⟨rfl, rfl, -, h⟩
    refine ⟨rfl, ?_⟩
    have := ((hu _ _).1 ((yr _ _ _ _).1 h)).2
    simpa only [comm] using this

/-- What an instruction does where its guard says so, or leaves. -/
def Ins.eff (i : Ins) (r : Nat → V) : Option AOp := match i.guard with
  | none => some i.op
  | some (j, w) => match r j with
    | .bool b => if b = w then some i.op else some (.mov (.c (.tup [])))
    | .tup [] => some (.mov (.c (.tup [])))
    | _ => none

def kEff (X : CallH) (bs : List Nat) (d : Option Nat) (s : St) (K : St → Prop) : Option AOp → Prop
  | some o => wpOp X bs d o s fun v s => K (putD s d v)
  | none => False

def wpI (X : CallH) (bs : List Nat) (i : Ins) (K : St → Prop) (s : St) : Prop := kEff X bs i.dst s K (i.eff s.r)

theorem wpL_cons {i : Ins} {is : List Ins} {K : St → Prop} {s : St} : wpL X bs (i :: is) K s ↔ wpI X bs i (wpL X bs is K) s := by
  have hc : ∀ d, contL X bs d is K = fun v s => wpL X bs is K (putD s d v) := fun d => by funext v s; simp only [contL]
  simp only [wpL, wpI, Ins.eff]
  cases i.guard with
  | none => simp only [hc, kEff]
  | some g =>
    obtain ⟨j, w⟩ := g
    simp only
    generalize s.r j = v
    unfold guardL
    split
    · rename_i b
      by_cases h : b = w <;> simp [h, kEff, hc, wpOp, ev]
    · simp [kEff, wpOp, ev]
    · rename_i h1 h2
      cases v <;> first
        | (simp_all [kEff]; done)
        | (rename_i vs; cases vs <;> simp_all [kEff])

theorem wpI_mono (hX : HLe X X) {i : Ins} {K K' : St → Prop} {s : St} (hk : ∀ s, K s → K' s) (h : wpI X bs i K s) : wpI X bs i K' s := by
  unfold wpI at *
  generalize i.eff s.r = o at *
  cases o with
  | none => exact h
  | some o =>
    simp only [kEff] at *
    exact wpOp_mono hX (fun v s h => hk _ h) h

theorem eff_cases {i : Ins} {r : Nat → V} {o : AOp} (h : i.eff r = some o) : o = i.op ∨ o = .mov (.c (.tup [])) := by
  unfold Ins.eff at h
  split at h
  · cases h; exact .inl rfl
  · split at h
    · split at h <;> cases h
      · exact .inl rfl
      · exact .inr rfl
    · cases h; exact .inr rfl
    · cases h

theorem eff_congr {i : Ins} {r r2 : Nat → V} (h : ∀ k ∈ i.reads, r2 k = r k) : i.eff r2 = i.eff r := by
  unfold Ins.eff
  cases hg : i.guard with
  | none => rfl
  | some g =>
    obtain ⟨j, w⟩ := g
    simp only
    rw [h j (by simp [Ins.reads, hg])]

theorem wpI_swap (hX : HLe X X) (hN : NV X) {x y : Ins} {s : St} {K : St → Prop} (ha : apart x y = true) (hw : wpI X bs x (wpI X bs y K) s) : wpI X bs y (wpI X bs x K) s := by
  unfold apart at ha
  simp only [Bool.and_eq_true] at ha
  obtain ⟨⟨a1, a2⟩, a3⟩ := ha
  have h1 : ∀ k, x.dst = some k → k ∉ y.reads := fun k hk => by rw [hk] at a1; simp at a1; exact a1.1
  have h2 : ∀ k, x.dst = some k → y.dst ≠ some k := fun k hk => by rw [hk] at a1; simp at a1; exact a1.2
  have h3 : ∀ k, y.dst = some k → k ∉ x.reads := fun k hk => by rw [hk] at a2; simpa using a2
  have ye : ∀ (r : Nat → V) (v : V), y.eff (putA r x.dst v) = y.eff r := fun r v => eff_congr (putA_agree h1)
  have xe : ∀ (r : Nat → V) (v : V), x.eff (putA r y.dst v) = x.eff r := fun r v => eff_congr (putA_agree h3)
  unfold wpI at hw
  cases hx : x.eff s.r with
  | none => rw [hx] at hw; exact hw.elim
  | some ox =>
    rw [hx] at hw
    simp only [kEff] at hw
    have hk : wpOp X bs x.dst ox s fun v s' => s'.r = s.r ∧ kEff X bs y.dst (putD s' x.dst v) K (y.eff s.r) := by
      obtain ⟨r, l, h⟩ := s
      refine wpOp_mono hX ?_ ((wpOp_regs_iff (r2 := r) hX (fun _ _ => rfl)).1 hw)
      rintro v ⟨r', l', h'⟩ ⟨rfl, h⟩
      refine ⟨rfl, ?_⟩
      rw [putD_eq] at h ⊢
      rw [ye] at h
      exact h
    cases hy : y.eff s.r with
    | none =>
      rw [hy] at hk
      obtain ⟨_, _, _, h⟩ := wpOp_nv hN hk
      exact h.elim
    | some oy =>
      rw [hy] at hk
      simp only [kEff] at hk
      have g1 : ∀ k, x.dst = some k → k ∉ oy.reads := fun k hk => by
        rcases eff_cases hy with rfl | rfl
        · exact fun h => h1 k ‹_› (by simp [Ins.reads, h])
        · simp [AOp.reads, AO.reg]
      have g3 : ∀ k, y.dst = some k → k ∉ ox.reads := fun k hk => by
        rcases eff_cases hx with rfl | rfl
        · exact fun h => h3 k ‹_› (by simp [Ins.reads, h])
        · simp [AOp.reads, AO.reg]
      have ga : (ox.grp.apart oy.grp || ox.farOp oy) = true := by
        rcases eff_cases hx with rfl | rfl
        · rcases eff_cases hy with rfl | rfl
          · exact a3
          · have : (AOp.mov (.c (.tup []))).grp = .pure := rfl
            rw [this]
            generalize x.op.grp = g
            cases g <;> rfl
        · have : (AOp.mov (.c (.tup []))).grp = .pure := rfl
          rw [this]
          generalize oy.grp = g
          cases g <;> rfl
      have hs := wpOp_swap hX hN g1 h2 g3 ga (wpOp_mono hX (fun v s h => h.2) hk)
      show kEff X bs y.dst s (wpI X bs x K) (y.eff s.r)
      rw [hy]
      simp only [kEff]
      have hs2 : wpOp X bs y.dst oy s fun u s' => s'.r = s.r ∧ wpOp X bs x.dst ox (putD s' y.dst u) fun v s => K (putD s x.dst v) := by
        obtain ⟨r, l, h⟩ := s
        refine wpOp_mono hX ?_ ((wpOp_regs_iff (r2 := r) hX (fun _ _ => rfl)).1 hs)
        rintro v ⟨r', l', h'⟩ ⟨rfl, h⟩
        exact ⟨rfl, h⟩
      refine wpOp_mono hX ?_ hs2
      rintro u ⟨r', l', h'⟩ ⟨hr, h⟩
      simp only at hr
      subst hr
      unfold wpI
      simp only [putD_eq] at h ⊢
      rw [xe, hx]
      simpa only [kEff, putD_eq] using h

/-- One may be drawn to the front. -/
theorem wpL_front (hX : HLe X X) (hN : NV X) {i : Ins} {R2 : List Ins} {K : St → Prop} : ∀ (R1 : List Ins) (s : St), (∀ x ∈ R1, apart x i = true) → wpL X bs (R1 ++ i :: R2) K s → wpL X bs (i :: (R1 ++ R2)) K s := by
  intro R1
  induction R1 with
  | nil => intro s _ h; exact h
  | cons x R1 ih =>
    intro s ha h
    have h := wpL_cons.1 h
    have h : wpI X bs x (wpL X bs (i :: (R1 ++ R2)) K) s := wpI_mono hX (fun s h => ih s (fun y hy => ha y (by simp [hy])) h) h
    have e : wpL X bs (i :: (R1 ++ R2)) K = wpI X bs i (wpL X bs (R1 ++ R2) K) := by funext s; exact propext wpL_cons
    rw [e] at h
    have h := wpI_swap hX hN (ha x (by simp)) h
    refine wpL_cons.2 ?_
    have e2 : wpL X bs (x :: R1 ++ R2) K = wpI X bs x (wpL X bs (R1 ++ R2) K) := by funext s; exact propext wpL_cons
    rw [e2]
    exact h

/-- A load or a store of the activation's own is a load or a store. -/
inductive Loc : Ins → Ins → Prop
  | same (i : Ins) : Loc i i
  | load (d : Option Nat) (g : Option (Nat × Bool)) (n : Option Nat) (a : AO) : Loc ⟨d, g, .loadL n a⟩ ⟨d, g, .load n a⟩
  | store (d : Option Nat) (g : Option (Nat × Bool)) (n : Nat) (a x : AO) : Loc ⟨d, g, .storeL n a x⟩ ⟨d, g, .store n a x⟩

/-- With what is known of its address it is a load or a store. -/
inductive Mk : Ins → Ins → Prop
  | same (i : Ins) : Mk i i
  | load (d : Option Nat) (g : Option (Nat × Bool)) (n : Option Nat) (a : AO) (l m : List AO) : Mk ⟨d, g, .loadX false n a l m⟩ ⟨d, g, .load n a⟩
  | loadL (d : Option Nat) (g : Option (Nat × Bool)) (n : Option Nat) (a : AO) (l m : List AO) : Mk ⟨d, g, .loadX true n a l m⟩ ⟨d, g, .loadL n a⟩
  | store (d : Option Nat) (g : Option (Nat × Bool)) (n : Nat) (a x : AO) (l m : List AO) : Mk ⟨d, g, .storeX false n a x l m⟩ ⟨d, g, .store n a x⟩
  | storeL (d : Option Nat) (g : Option (Nat × Bool)) (n : Nat) (a x : AO) (l m : List AO) : Mk ⟨d, g, .storeX true n a x l m⟩ ⟨d, g, .storeL n a x⟩
  | call (d : Option Nat) (g : Option (Nat × Bool)) (vr : Nat) (own : List Nat) (f : AO) (args ks : List AO) : Mk ⟨d, g, .callK vr own f args ks⟩ ⟨d, g, .call vr own f args⟩

theorem loc_guard {d : Option Nat} {g : Option (Nat × Bool)} {o o' : AOp} {s : St} {K : St → Prop} (step : ∀ K : V → St → Prop, wpOp X bs d o s K → wpOp X bs d o' s K) (h : wpI X bs ⟨d, g, o⟩ K s) : wpI X bs ⟨d, g, o'⟩ K s := by
  cases g with
  | none => exact step (fun v s => K (putD s d v)) h
  | some g =>
    obtain ⟨k, w⟩ := g
    unfold wpI Ins.eff at *
    dsimp only at h ⊢
    generalize s.r k = v at h ⊢
    cases v with
    | bool b =>
      dsimp only at h ⊢
      by_cases e : b = w
      · rw [if_pos e] at h ⊢; exact step (fun v s => K (putD s d v)) h
      · rw [if_neg e] at h ⊢; exact h
    | tup vs => cases vs <;> exact h
    | _ => exact h.elim

theorem wpI_loc {i j : Ins} (hl : Loc i j) {K : St → Prop} {s : St} (h : wpI X bs i K s) : wpI X bs j K s := by
  cases hl with
  | same => exact h
  | load d g n a =>
    have step : ∀ K : V → St → Prop, wpOp X bs d (.loadL n a) s K → wpOp X bs d (.load n a) s K := fun K h => by
      simp only [wpOp, loadLV] at h ⊢
      split at h
      · exact h.elim
      · exact h
    exact loc_guard step h
  | store d g n a x =>
    have step : ∀ K : V → St → Prop, wpOp X bs d (.storeL n a x) s K → wpOp X bs d (.store n a x) s K := fun K h => h.2
    exact loc_guard step h

theorem wpI_mk (hX : HLe X X) {i j : Ins} (hl : Mk i j) {K : St → Prop} {s : St} (h : wpI X bs i K s) : wpI X bs j K s := by
  cases hl with
  | same => exact h
  | load d g n a l m => exact loc_guard (o := .loadX false n a l m) (fun K h => h.2) h
  | loadL d g n a l m =>
    refine loc_guard (o := .loadX true n a l m) (fun K h => ?_) h
    obtain ⟨hc, h⟩ := h
    have hp : isPtr (ev s.r a) = false := by simp only [addrOk, Bool.and_eq_true] at hc; simpa using hc.1.1
    simp only [wpOp, loadLV, hp]
    exact h
  | store d g n a x l m => exact loc_guard (o := .storeX false n a x l m) (fun K h => h.2) h
  | storeL d g n a x l m =>
    refine loc_guard (o := .storeX true n a x l m) (fun K h => ?_) h
    obtain ⟨hc, h⟩ := h
    have hp : isPtr (ev s.r a) = false := by simp only [addrOk, Bool.and_eq_true] at hc; simpa using hc.1.1
    exact ⟨hp, h⟩
  | call d g vr own f args ks =>
    refine loc_guard (o := .callK vr own f args ks) (fun K h => ?_) h
    obtain ⟨hc, h⟩ := h
    refine ⟨hc, ?_⟩
    generalize ev s.r f = v at h ⊢
    cases v <;> first | exact h.elim | exact hX _ _ _ _ _ _ _ (fun v h' hk => hk.2) h

end

theorem markAs_mk (e : Bool) (far same : List AO) (x : Ins) : Mk (markAs e far same x) x := by
  obtain ⟨d, g, op⟩ := x
  cases e with
  | true => cases op <;> exact .same _
  | false => cases op <;> first | exact .same _ | exact .load _ _ _ _ _ _ | exact .loadL _ _ _ _ _ _ | exact .store _ _ _ _ _ _ _ | exact .storeL _ _ _ _ _ _ _

theorem markK_mk (ks : List AO) (x : Ins) : Mk (markK ks x) x := by
  obtain ⟨d, g, op⟩ := x
  cases ks with
  | nil => exact .same _
  | cons k ks => cases op <;> first | exact .same _ | exact .call _ _ _ _ _ _ _

theorem Mk.notcall {d : Option Nat} {g : Option (Nat × Bool)} {vr : Nat} {own : List Nat} {f : AO} {args : List AO} {e : Bool} {far same : List AO} {x : Ins} (h : markAs e far same x = ⟨d, g, .call vr own f args⟩) : x = ⟨d, g, .call vr own f args⟩ := by
  obtain ⟨d', g', op⟩ := x
  cases e <;> cases op <;> simp [markAs] at h ⊢ <;> exact h

theorem markBoth_mk (ks : List AO) (e : Bool) (far same : List AO) (x : Ins) : Mk (markK ks (markAs e far same x)) x := by
  cases ks with
  | nil =>
    have : markK [] (markAs e far same x) = markAs e far same x := by
      generalize markAs e far same x = y
      obtain ⟨d, g, op⟩ := y
      rfl
    rw [this]
    exact markAs_mk _ _ _ _
  | cons k ks =>
    generalize hy : markAs e far same x = y
    obtain ⟨d, g, op⟩ := y
    by_cases hc : ∃ vr own f args, op = .call vr own f args
    · obtain ⟨vr, own, f, args, rfl⟩ := hc
      rw [Mk.notcall hy]
      exact .call _ _ _ _ _ _ _
    · have : markK (k :: ks) ⟨d, g, op⟩ = ⟨d, g, op⟩ := by
        cases op <;> first | rfl | (exact absurd ⟨_, _, _, _, rfl⟩ hc)
      rw [this, ← hy]
      exact markAs_mk _ _ _ _

theorem marked_get {ops : Array Oper} {is : List Ins} : (marked ops is).length = is.length ∧ ∀ (k : Nat) (i j : Ins), (marked ops is)[k]? = some i → is[k]? = some j → Mk i j := by
  refine ⟨by simp [marked], fun k i j hi hj => ?_⟩
  simp only [marked, List.getElem?_map, List.getElem?_zipIdx, hj] at hi
  simp only [Option.map_some, Option.some.injEq] at hi
  subst hi
  exact markBoth_mk _ _ _ _ _

theorem localise_get {kp : List Nat} {ops : Array Oper} {is : List Ins} : (localise kp ops is).length = is.length ∧ ∀ (k : Nat) (i j : Ins), (localise kp ops is)[k]? = some i → is[k]? = some j → Loc i j := by
  refine ⟨by simp [localise], fun k i j hi hj => ?_⟩
  simp only [localise, List.getElem?_map, List.getElem?_zipIdx, hj] at hi
  simp only [Option.map_some, Option.some.injEq] at hi
  obtain ⟨d, g, op⟩ := j
  dsimp only at hi
  split at hi
  · split at hi
    · subst hi; exact .load _ _ _ _
    · subst hi; exact .same _
  · split at hi
    · subst hi; exact .store _ _ _ _ _
    · subst hi; exact .same _
  · subst hi; exact .same _

theorem js_get {kp : List Nat} {ops : Array Oper} {is js : List Ins} (hj : Js kp ops is js) : js.length = is.length ∧ ∀ (k : Nat) (i j : Ins), js[k]? = some i → is[k]? = some j → ∀ {X : CallH} (_ : HLe X X) {bs : List Nat} {K : St → Prop} {s : St}, wpI X bs i K s → wpI X bs j K s := by
  obtain ⟨l1, l2⟩ := localise_get (kp := kp) (ops := ops) (is := is)
  cases hj with
  | loc => exact ⟨l1, fun k i j hi hj X _ bs K s h => wpI_loc (l2 k i j hi hj) h⟩
  | mk =>
    obtain ⟨m1, m2⟩ := marked_get (ops := ops) (is := localise kp ops is)
    refine ⟨m1.trans l1, fun k i j hi hj X hX bs K s h => ?_⟩
    have hlt : k < (localise kp ops is).length := by rw [l1]; exact (List.getElem?_eq_some_iff.1 hj).1
    exact wpI_loc (l2 k _ j (List.getElem?_eq_getElem hlt) hj) (wpI_mk hX (m2 k i _ hi (List.getElem?_eq_getElem hlt)) h)

end Go.Am
