/- A region whose order is open: what may stand either way round comes to the same. -/
import Derived.Test.YtkcpkckaahmheaaDoorAmC
import Derived.Test.YtkcpkckaahmheaaDoorAmP
namespace Go.Am

def NV (X : CallH) : Prop := ∀ g vr bs args h Q, X g vr bs args h Q → ∃ v h', Q v h'

section
variable {X : CallH} {bs : List Nat} {d : Option Nat}

/-- Something comes of it. -/
theorem wpOp_nv (hX : NV X) {o : AOp} {s : St} {K : V → St → Prop} (h : wpOp X bs d o s K) : ∃ v s', K v s' := by
  have some_ : ∀ o, kSome K s o → ∃ v s', K v s' := fun o h => by cases o <;> simp only [kSome] at * <;> first | exact ⟨_, _, h⟩ | exact h.elim
  have new_ : ∀ z hp, kNew z d K s hp → ∃ v s', K v s' := fun z hp h => by
    cases hp <;> simp only [kNew] at *
    · cases d <;> simp only [kAlloc] at * <;> first | exact ⟨_, _, h.2⟩ | exact h.elim
    · exact ⟨_, _, h⟩
  have store_ : ∀ xs a, kStore bs xs K s a → ∃ v s', K v s' := fun xs a h => by
    unfold kStore at *
    split at h
    · unfold kLoc at *; split at h <;> first | exact ⟨_, _, h.2⟩ | exact h.elim
    · unfold kBox at *; split at h <;> first | exact ⟨_, _, h.2.2⟩ | exact h.elim
    · unfold kVec at *; split at h <;> first | exact ⟨_, _, h.2.2.2⟩ | exact h.elim
    · exact h.elim
  have app_ : ∀ sz x y, kApp sz K s x y → ∃ v s', K v s' := fun sz x y h => by
    unfold kApp at *
    split at h
    · exact ⟨_, _, h⟩
    · have h := h.2.2
      unfold kTag at *
      split at h
      · exact h.elim
      · exact ⟨_, _, h⟩
      · unfold kGrow at *; split at h <;> first | exact ⟨_, _, h.2.2⟩ | exact h.elim
    · exact h.elim
  cases o <;> simp only [wpOp] at h
  case mov => exact ⟨_, _, h⟩
  case pick => unfold kPick at *; split at h <;> first | exact ⟨_, _, h⟩ | exact h.elim
  case alloc => exact new_ _ _ h
  case box => exact new_ _ _ h.2.2
  case store => exact store_ _ _ h.2.2
  case storeL => exact store_ _ _ h.2.2.2
  case loadX => exact some_ _ h.2
  case storeX => exact store_ _ _ h.2.2.2
  case nilck => unfold kNil at *; split at h <;> first | exact ⟨_, _, h⟩ | exact h.elim
  case eqnil => unfold kBool at *; split at h <;> first | exact ⟨_, _, h⟩ | exact h.elim
  case nilsl => unfold kNilS at *; split at h <;> first | exact ⟨_, _, h.1⟩ | exact ⟨_, _, h⟩ | exact h.elim
  case mkif => exact ⟨_, _, h.2⟩
  case mkfn => exact ⟨_, _, h.2⟩
  case mkmet => exact ⟨_, _, h.2⟩
  case mkmap => exact ⟨_, _, h⟩
  case fbox => exact ⟨_, _, h.2.2⟩
  case mkarr => unfold kMakeM at *; split at h <;> first | exact ⟨_, _, h.2.2.2⟩ | exact h.elim
  case mkslice => unfold kMake at *; split at h <;> first | exact ⟨_, _, h.2.2.2⟩ | exact h.elim
  case mapset =>
    have h := h.2.2
    unfold kSet at *
    split at h
    · unfold kSet1 at *
      split at h
      · unfold kSet2 at *; split at h <;> first | exact ⟨_, _, h.2⟩ | exact h.elim
      · exact h.elim
    · exact h.elim
  case gload => exact ⟨_, _, h⟩
  case range =>
    unfold kRange at *
    split at h
    · exact ⟨_, _, h⟩
    · unfold kRange1 at *; split at h <;> first | exact ⟨_, _, h⟩ | exact h.elim
    · exact h.elim
  case next =>
    unfold kNext at *
    split at h
    · unfold kNext1 at *
      split at h
      · exact ⟨_, _, h⟩
      · rename_i _ _ _ seen _ _
        unfold kNext2 at *
        split at h
        · rename_i _ es bo ck _
          obtain ⟨hl, _, _, h1, h2⟩ := h
          by_cases hb : ∀ b ∈ bo, b ∈ seen
          · exact ⟨_, _, h1 hb⟩
          · simp only [Classical.not_forall] at hb
            obtain ⟨b, hb, hn⟩ := hb
            obtain ⟨i, hi⟩ := List.getElem?_of_mem hb
            have hil : i < es.length := by rw [hl]; exact (List.getElem?_eq_some_iff.1 hi).1
            exact ⟨_, _, h2 i es[i].1 es[i].2 b (List.getElem?_eq_getElem hil) hi hn⟩
        · exact h.elim
      · exact h.elim
    · exact h.elim
  case delete =>
    have h := h.2
    unfold kDel at *
    split at h
    · exact ⟨_, _, h⟩
    · unfold kDel1 at *
      split at h
      · unfold kDel2 at *; split at h <;> first | exact ⟨_, _, h⟩ | exact h.elim
      · exact h.elim
    · exact h.elim
  case call =>
    have h := h.2
    unfold kCall at *
    split at h
    · obtain ⟨v, h', hk⟩ := hX _ _ _ _ _ _ h
      exact ⟨_, _, hk⟩
    · obtain ⟨v, h', hk⟩ := hX _ _ _ _ _ _ h
      exact ⟨_, _, hk⟩
    · obtain ⟨v, h', hk⟩ := hX _ _ _ _ _ _ h
      exact ⟨_, _, hk⟩
    · exact h.elim
  case callK =>
    have h := h.2
    unfold kCall at *
    split at h
    · obtain ⟨v, h', hk⟩ := hX _ _ _ _ _ _ h
      exact ⟨_, _, hk.2⟩
    · obtain ⟨v, h', hk⟩ := hX _ _ _ _ _ _ h
      exact ⟨_, _, hk.2⟩
    · obtain ⟨v, h', hk⟩ := hX _ _ _ _ _ _ h
      exact ⟨_, _, hk.2⟩
    · exact h.elim
  case append => exact app_ _ _ _ h
  case appE => exact app_ _ _ _ h.2.2
  case copyM =>
    unfold kCopyM at *
    split at h
    · exact ⟨_, _, h⟩
    · have h := h.2.2.2
      unfold kBox at *; split at h <;> first | exact ⟨_, _, h.2.2⟩ | exact h.elim
    · have h := h.2.2.2
      unfold kVec at *; split at h <;> first | exact ⟨_, _, h.2.2.2⟩ | exact h.elim
    · exact h.elim
  case clearM =>
    unfold kClearM at *
    split at h
    · exact ⟨_, _, h⟩
    · have h := h.2
      unfold kBox at *; split at h <;> first | exact ⟨_, _, h.2.2⟩ | exact h.elim
    · have h := h.2
      unfold kVec at *; split at h <;> first | exact ⟨_, _, h.2.2.2⟩ | exact h.elim
    · exact h.elim
  case bslM => unfold kBslM at *; split at h <;> first | exact ⟨_, _, h⟩ | exact h.elim
  case bslV => unfold kBslV at *; split at h <;> first | exact ⟨_, _, h⟩ | exact h.elim
  case mkvec => unfold kMakeV at *; split at h <;> first | exact ⟨_, _, h.2.2.2⟩ | exact h.elim
  case appV =>
    unfold kAppV at *
    split at h
    · exact ⟨_, _, h⟩
    · exact ⟨_, _, h.2.2⟩
    · exact ⟨_, _, h⟩
    · have h := h.2.2.2
      unfold kAppV1 at *
      split at h
      · exact ⟨_, _, h.2.2.2.2⟩
      · exact h.elim
    · exact h.elim
  case appm =>
    unfold kAppm at *
    split at h
    · exact ⟨_, _, h⟩
    · have h := h.2.2
      unfold kAppn at *
      split at h
      · exact ⟨_, _, h⟩
      · exact ⟨_, _, h _ (Nat.le_refl _)⟩
    · have h := h.2.2.2.2
      unfold kAppm1 at *
      split at h
      · split at h
        · exact ⟨_, _, h.2.2⟩
        · exact ⟨_, _, h.2.2 _ (Nat.le_refl _)⟩
      · exact h.elim
    · exact h.elim
  all_goals exact some_ _ h

theorem ev_congr {r r2 : Nat → V} {x : AO} (h : ∀ k ∈ x.reg, r2 k = r k) : ev r2 x = ev r x := by
  cases x with
  | t i => exact h i (by simp [AO.reg])
  | c v => rfl

theorem evs_congr {r r2 : Nat → V} : ∀ {xs : List AO}, (∀ k ∈ xs.flatMap AO.reg, r2 k = r k) → evs r2 xs = evs r xs := by
  intro xs
  induction xs with
  | nil => intro _; rfl
  | cons x xs ih =>
    intro h
    simp only [evs]
    rw [ev_congr (fun k hk => h k (by simp [hk])), ih (fun k hk => h k (by simp only [List.flatMap_cons, List.mem_append]; exact .inr hk))]

theorem evArgs_congr {r r2 : Nat → V} {own : List Nat} : ∀ {xs : List AO} {i : Nat}, (∀ k ∈ xs.flatMap AO.reg, r2 k = r k) → evArgs r2 own xs i = evArgs r own xs i := by
  intro xs
  induction xs with
  | nil => intro i _; rfl
  | cons x xs ih =>
    intro i h
    simp only [evArgs]
    rw [ev_congr (fun k hk => h k (by simp [hk])), ih (fun k hk => h k (by simp only [List.flatMap_cons, List.mem_append]; exact .inr hk))]

theorem buildC_congr {r r2 : Nat → V} : ∀ {ps : List (Nat × Nat × AO)} {cs : List V}, (∀ k ∈ ps.flatMap (fun p => p.2.2.reg), r2 k = r k) → buildC r2 ps cs = buildC r ps cs := by
  intro ps
  induction ps with
  | nil => intro cs _; rfl
  | cons p ps ih =>
    intro cs h
    obtain ⟨off, n, x⟩ := p
    simp only [buildC]
    rw [ev_congr (fun k hk => h k (by simp [hk])), ih (fun k hk => h k (by simp only [List.flatMap_cons, List.mem_append]; exact .inr hk))]

theorem buildS_congr {r r2 : Nat → V} {n : Nat} : ∀ {ps : List (Nat × AO)} {cs : List V}, (∀ k ∈ ps.flatMap (fun p => p.2.reg), r2 k = r k) → buildS r2 n ps cs = buildS r n ps cs := by
  intro ps
  induction ps with
  | nil => intro cs _; rfl
  | cons p ps ih =>
    intro cs h
    obtain ⟨i, x⟩ := p
    simp only [buildS]
    rw [ev_congr (fun k hk => h k (by simp [hk])), ih (fun k hk => h k (by simp only [List.flatMap_cons, List.mem_append]; exact .inr hk))]

theorem bnd_congr {r r2 : Nat → V} {d : Nat} {x : Option AO} (h : ∀ k ∈ regsO x, r2 k = r k) : bnd r2 d x = bnd r d x := by
  cases x with
  | none => rfl
  | some x => simp only [bnd]; rw [ev_congr h]

theorem sliceV_congr {r r2 : Nat → V} {sz : Nat} {x : V} {lo hi mx : Option AO} (h1 : ∀ k ∈ regsO lo, r2 k = r k) (h2 : ∀ k ∈ regsO hi, r2 k = r k) (h3 : ∀ k ∈ regsO mx, r2 k = r k) : sliceV sz r2 x lo hi mx = sliceV sz r x lo hi mx := by
  unfold sliceV
  split
  · rw [bnd_congr h1, bnd_congr h2]
    cases mx with
    | none => rfl
    | some m => simp only []; rw [bnd_congr (x := some m) h3]
  · rw [bnd_congr h1, bnd_congr h2]
  · rw [bnd_congr h1, bnd_congr h2]
    cases mx with
    | none => rfl
    | some m => simp only []; rw [bnd_congr (x := some m) h3]
  · cases mx <;> simp only [] <;> rw [bnd_congr h1, bnd_congr h2]
  · rfl

/-- The operation of other registers that are the same where it looks. -/
theorem wpOp_regs {o : AOp} {r r2 : Nat → V} {l : Nat → Option (List V)} {h : List Ob} {K : V → St → Prop} (hX : HLe X X) (hr : ∀ k ∈ o.reads, r2 k = r k) (hw : wpOp X bs d o ⟨r, l, h⟩ K) :
    wpOp X bs d o ⟨r2, l, h⟩ fun v s' => s'.r = r2 ∧ K v ⟨r, s'.l, s'.h⟩ := by
  have some_ : ∀ o, kSome K ⟨r, l, h⟩ o → kSome (fun v s' => s'.r = r2 ∧ K v ⟨r, s'.l, s'.h⟩) ⟨r2, l, h⟩ o := fun o h => by
    cases o
    · exact h
    · exact ⟨rfl, h⟩
  have new_ : ∀ z hp, kNew z d K ⟨r, l, h⟩ hp → kNew z d (fun v s' => s'.r = r2 ∧ K v ⟨r, s'.l, s'.h⟩) ⟨r2, l, h⟩ hp := fun z hp h => by
    cases hp
    · cases d
      · exact h
      · exact ⟨h.1, rfl, h.2⟩
    · exact ⟨rfl, h⟩
  have store_ : ∀ xs a, kStore bs xs K ⟨r, l, h⟩ a → kStore bs xs (fun v s' => s'.r = r2 ∧ K v ⟨r, s'.l, s'.h⟩) ⟨r2, l, h⟩ a := fun xs a hk => by
    cases a <;> first
      | exact hk.elim
      | skip
    · rename_i p off
      simp only [kStore] at hk ⊢
      generalize h[p]? = ob at hk ⊢
      cases ob with
      | none => exact hk
      | some ob => cases ob <;> first | exact ⟨hk.1, hk.2.1, rfl, hk.2.2⟩ | exact hk
    · rename_i p off
      simp only [kStore] at hk ⊢
      generalize l p = ob at hk ⊢
      cases ob with
      | none => exact hk
      | some ob => exact ⟨hk.1, rfl, hk.2⟩
    · rename_i p ver off
      simp only [kStore] at hk ⊢
      generalize h[p]? = ob at hk ⊢
      cases ob with
      | none => exact hk
      | some ob => cases ob <;> first | exact ⟨hk.1, hk.2.1, hk.2.2.1, rfl, hk.2.2.2⟩ | exact hk
  have app_ : ∀ sz v u, kApp sz K ⟨r, l, h⟩ v u → kApp sz (fun v s' => s'.r = r2 ∧ K v ⟨r, s'.l, s'.h⟩) ⟨r2, l, h⟩ v u := fun sz v u hw => by
    cases v <;> first
      | exact hw.elim
      | skip
    rename_i t xs
    cases u with
    | none => exact hw.elim
    | some ys =>
      cases ys with
      | nil => exact ⟨rfl, hw⟩
      | cons y ys =>
        refine ⟨hw.1, hw.2.1, ?_⟩
        have hw := hw.2.2
        cases t with
        | frozen => exact hw.elim
        | clip => exact ⟨rfl, hw⟩
        | fam p =>
          simp only [kTag] at hw ⊢
          generalize h[p]? = ob at hw ⊢
          cases ob with
          | none => exact hw.elim
          | some ob => cases ob <;> first | exact hw.elim | exact ⟨hw.1, hw.2.1, rfl, hw.2.2⟩
  have e : ∀ x : AO, (∀ k ∈ x.reg, k ∈ o.reads) → ev r2 x = ev r x := fun x hx => ev_congr fun k hk => hr k (hx k hk)
  have loadE : ∀ a n, loadV ⟨r2, l, h⟩ a n = loadV ⟨r, l, h⟩ a n := fun a n => by
    cases a <;> rfl
  cases o <;> dsimp only [wpOp] at hw ⊢
  case mov x => rw [e x (by simp [AOp.reads])]; exact ⟨rfl, hw⟩
  case pick c x y =>
    rw [e c (by simp +contextual [AOp.reads]), e x (by simp +contextual [AOp.reads]), e y (by simp +contextual [AOp.reads])]
    generalize ev r c = v at hw ⊢
    cases v <;> first | exact hw.elim | exact ⟨rfl, hw⟩
  case alloc => exact new_ _ _ hw
  case box x n hp => rw [e x (by simp [AOp.reads])]; exact ⟨hw.1, hw.2.1, new_ _ _ hw.2.2⟩
  case fbox x n => rw [e x (by simp [AOp.reads])]; exact ⟨hw.1, hw.2.1, rfl, hw.2.2⟩
  case build z ps => rw [buildC_congr (r := r) (fun k hk => hr k (by simpa [AOp.reads] using hk))]; exact some_ _ hw
  case bslice z n ps => rw [buildS_congr (r := r) (fun k hk => hr k (by simpa [AOp.reads] using hk))]; exact some_ _ hw
  case load n x => rw [e x (by simp [AOp.reads]), loadE]; exact some_ _ hw
  case loadL n x =>
    rw [e x (by simp [AOp.reads])]
    have : loadLV ⟨r2, l, h⟩ (ev r x) n = loadLV ⟨r, l, h⟩ (ev r x) n := by unfold loadLV; rw [loadE]
    rw [this]; exact some_ _ hw
  case store n x y => rw [e x (by simp +contextual [AOp.reads]), e y (by simp +contextual [AOp.reads])]; exact ⟨hw.1, hw.2.1, store_ _ _ hw.2.2⟩
  case storeL n x y => rw [e x (by simp +contextual [AOp.reads]), e y (by simp +contextual [AOp.reads])]; exact ⟨hw.1, hw.2.1, hw.2.2.1, store_ _ _ hw.2.2.2⟩
  case loadX lc n x l m =>
    rw [e x (by simp +contextual [AOp.reads]), loadE, evs_congr (xs := l) (fun k hk => hr k (by simp only [AOp.reads, List.mem_append]; exact .inl (.inr hk))), evs_congr (xs := m) (fun k hk => hr k (by simp only [AOp.reads, List.mem_append]; exact .inr hk))]
    exact ⟨hw.1, some_ _ hw.2⟩
  case storeX lc n x y l m =>
    rw [e x (by simp +contextual [AOp.reads]), e y (by simp +contextual [AOp.reads]), evs_congr (xs := l) (fun k hk => hr k (by simp only [AOp.reads, List.mem_append]; exact .inl (.inr hk))), evs_congr (xs := m) (fun k hk => hr k (by simp only [AOp.reads, List.mem_append]; exact .inr hk))]
    exact ⟨hw.1, hw.2.1, hw.2.2.1, store_ _ _ hw.2.2.2⟩
  case nilck x =>
    rw [e x (by simp [AOp.reads])]
    generalize ev r x = v at hw ⊢
    cases v <;> first | exact hw.elim | exact ⟨rfl, hw⟩
  case bin op x y => rw [e x (by simp +contextual [AOp.reads]), e y (by simp +contextual [AOp.reads])]; exact some_ _ hw
  case eqnil nk neg x =>
    rw [e x (by simp [AOp.reads])]
    generalize (nilV nk (ev r x)).map (xor neg) = v at hw ⊢
    cases v <;> first | exact hw.elim | exact ⟨rfl, hw⟩
  case nilsl neg x =>
    rw [e x (by simp [AOp.reads])]
    generalize ev r x = v at hw ⊢
    cases v <;> first
      | exact hw.elim
      | skip
    case msl => exact ⟨rfl, hw⟩
    case vec => exact ⟨rfl, hw⟩
    rename_i t xs
    cases xs with
    | nil => exact ⟨⟨rfl, hw.1⟩, ⟨rfl, hw.2⟩⟩
    | cons y xs => exact ⟨rfl, hw⟩
  case eqb neg x y => rw [e x (by simp +contextual [AOp.reads]), e y (by simp +contextual [AOp.reads])]; exact some_ _ hw
  case eqi gl neg x y => rw [e x (by simp +contextual [AOp.reads]), e y (by simp +contextual [AOp.reads])]; exact some_ _ hw
  case not x => rw [e x (by simp [AOp.reads])]; exact some_ _ hw
  case neg x => rw [e x (by simp [AOp.reads])]; exact some_ _ hw
  case bmin x y => rw [e x (by simp +contextual [AOp.reads]), e y (by simp +contextual [AOp.reads])]; exact some_ _ hw
  case copy0 x y => rw [e x (by simp +contextual [AOp.reads]), e y (by simp +contextual [AOp.reads])]; exact some_ _ hw
  case copyM sz x y =>
    rw [e x (by simp +contextual [AOp.reads]), e y (by simp +contextual [AOp.reads])]
    generalize ev r x = v at hw ⊢
    generalize ev r y = u at hw ⊢
    unfold kCopyM at hw ⊢
    split at hw
    · exact ⟨rfl, hw⟩
    · refine ⟨hw.1, hw.2.1, hw.2.2.1, ?_⟩
      have hw := hw.2.2.2
      unfold kBox at hw ⊢
      dsimp only at hw ⊢
      split at hw <;> first | exact ⟨hw.1, hw.2.1, rfl, hw.2.2⟩ | exact hw.elim
    · refine ⟨hw.1, hw.2.1, hw.2.2.1, ?_⟩
      have hw := hw.2.2.2
      unfold kVec at hw ⊢
      dsimp only at hw ⊢
      split at hw <;> first | exact ⟨hw.1, hw.2.1, hw.2.2.1, rfl, hw.2.2.2⟩ | exact hw.elim
    · exact hw.elim
  case clearM zc x =>
    rw [e x (by simp [AOp.reads])]
    generalize ev r x = v at hw ⊢
    unfold kClearM at hw ⊢
    split at hw
    · exact ⟨rfl, hw⟩
    · refine ⟨hw.1, ?_⟩
      have hw := hw.2
      unfold kBox at hw ⊢
      dsimp only at hw ⊢
      split at hw <;> first | exact ⟨hw.1, hw.2.1, rfl, hw.2.2⟩ | exact hw.elim
    · refine ⟨hw.1, ?_⟩
      have hw := hw.2
      unfold kVec at hw ⊢
      dsimp only at hw ⊢
      split at hw <;> first | exact ⟨hw.1, hw.2.1, hw.2.2.1, rfl, hw.2.2.2⟩ | exact hw.elim
    · exact hw.elim
  case mkmet f xs => rw [evs_congr (r := r) (fun k hk => hr k (by simpa [AOp.reads] using hk))]; exact ⟨hw.1, rfl, hw.2⟩
  case bmax x y => rw [e x (by simp +contextual [AOp.reads]), e y (by simp +contextual [AOp.reads])]; exact some_ _ hw
  case conv c x => rw [e x (by simp [AOp.reads])]; exact some_ _ hw
  case mkif t x => rw [e x (by simp [AOp.reads])]; exact ⟨hw.1, rfl, hw.2⟩
  case mkfn f cap => rw [evs_congr (r := r) (fun k hk => hr k (by simpa [AOp.reads] using hk))]; exact ⟨hw.1, rfl, hw.2⟩
  case mkmap => exact ⟨rfl, hw⟩
  case mkslice z x y =>
    rw [e x (by simp +contextual [AOp.reads]), e y (by simp +contextual [AOp.reads])]
    generalize ev r x = v at hw ⊢
    generalize ev r y = u at hw ⊢
    cases v <;> first
      | exact hw.elim
      | (cases u <;> first | exact hw.elim | exact ⟨hw.1, hw.2.1, hw.2.2.1, rfl, hw.2.2.2⟩)
  case mkarr z x y =>
    rw [e x (by simp +contextual [AOp.reads]), e y (by simp +contextual [AOp.reads])]
    generalize ev r x = v at hw ⊢
    generalize ev r y = u at hw ⊢
    cases v <;> first
      | exact hw.elim
      | (cases u <;> first | exact hw.elim | exact ⟨hw.1, hw.2.1, hw.2.2.1, rfl, hw.2.2.2⟩)
  case appm sz zc x y =>
    rw [e x (by simp +contextual [AOp.reads]), e y (by simp +contextual [AOp.reads])]
    generalize ev r x = v at hw ⊢
    generalize elemsOf (ev r y) = u at hw ⊢
    unfold kAppm at hw ⊢
    split at hw
    · exact ⟨rfl, hw⟩
    · refine ⟨hw.1, hw.2.1, ?_⟩
      have hw := hw.2.2
      unfold kAppn at hw ⊢
      split at hw
      · exact ⟨rfl, hw⟩
      · exact fun c g1 => ⟨rfl, hw c g1⟩
    · refine ⟨hw.1, hw.2.1, hw.2.2.1, hw.2.2.2.1, ?_⟩
      have hw := hw.2.2.2.2
      dsimp only at hw ⊢
      unfold kAppm1 at hw ⊢
      split at hw
      · split at hw
        · rename_i hc
          rw [if_pos hc]
          exact ⟨hw.1, hw.2.1, rfl, hw.2.2⟩
        · rename_i hc
          rw [if_neg hc]
          exact ⟨hw.1, hw.2.1, fun c g1 => ⟨rfl, hw.2.2 c g1⟩⟩
      · exact hw
    · exact hw
  case slice sz x lo hi mx =>
    rw [e x (by simp +contextual [AOp.reads]), sliceV_congr (r := r) (fun k hk => hr k (by simp [AOp.reads, hk])) (fun k hk => hr k (by simp [AOp.reads, hk])) (fun k hk => hr k (by simp [AOp.reads, hk]))]
    exact some_ _ hw
  case faddr off x => rw [e x (by simp [AOp.reads])]; exact some_ _ hw
  case field off n x => rw [e x (by simp [AOp.reads])]; exact some_ _ hw
  case iaddr sz x i => rw [e x (by simp +contextual [AOp.reads]), e i (by simp +contextual [AOp.reads])]; exact some_ _ hw
  case sindex x i => rw [e x (by simp +contextual [AOp.reads]), e i (by simp +contextual [AOp.reads])]; exact some_ _ hw
  case lookup kk z m k ok =>
    rw [e m (by simp +contextual [AOp.reads]), e k (by simp +contextual [AOp.reads])]
    have : lookV ⟨r2, l, h⟩ kk z (ev r k) ok (ev r m) = lookV ⟨r, l, h⟩ kk z (ev r k) ok (ev r m) := by
      generalize ev r m = v
      cases v <;> rfl
    rw [this]; exact some_ _ hw
  case mapset kk m k v =>
    rw [e m (by simp +contextual [AOp.reads]), e k (by simp +contextual [AOp.reads]), e v (by simp +contextual [AOp.reads])]
    refine ⟨hw.1, hw.2.1, ?_⟩
    have hw := hw.2.2
    generalize ev r m = mv at hw ⊢
    cases mv <;> first
      | exact hw.elim
      | skip
    rename_i p
    cases p with
    | none => exact hw.elim
    | some p =>
      simp only [kSet] at hw ⊢
      generalize h[p]? = ob at hw ⊢
      cases ob with
      | none => exact hw.elim
      | some ob =>
        cases ob <;> first
          | exact hw.elim
          | skip
        rename_i es bo ck
        simp only [kSet1] at hw ⊢
        generalize setE _ _ es = es' at hw ⊢
        cases es' <;> first | exact hw.elim | exact ⟨hw.1, rfl, hw.2⟩
  case gload => exact ⟨rfl, hw⟩
  case range x =>
    rw [e x (by simp [AOp.reads])]
    generalize ev r x = v at hw ⊢
    cases v <;> first
      | exact hw.elim
      | skip
    rename_i p
    cases p with
    | none => exact ⟨rfl, hw⟩
    | some p =>
      simp only [kRange] at hw ⊢
      generalize h[p]? = ob at hw ⊢
      cases ob with
      | none => exact hw.elim
      | some ob => cases ob <;> first | exact hw.elim | exact ⟨rfl, hw⟩
  case next x =>
    rw [e x (by simp [AOp.reads])]
    generalize ev r x = v at hw ⊢
    cases v <;> first
      | exact hw.elim
      | skip
    rename_i it off
    cases off with
    | succ off => exact hw.elim
    | zero =>
      simp only [kNext] at hw ⊢
      generalize h[it]? = ob at hw ⊢
      cases ob with
      | none => exact hw.elim
      | some ob =>
        cases ob <;> first
          | exact hw.elim
          | skip
        rename_i m since seen last
        cases m with
        | none => exact ⟨rfl, hw⟩
        | some q =>
          simp only [kNext1] at hw ⊢
          generalize h[q]? = ob at hw ⊢
          cases ob with
          | none => exact hw.elim
          | some ob =>
            cases ob <;> first
              | exact hw.elim
              | exact ⟨hw.1, hw.2.1, hw.2.2.1, fun g => ⟨rfl, hw.2.2.2.1 g⟩, fun i k v b g1 g2 g3 => ⟨rfl, hw.2.2.2.2 i k v b g1 g2 g3⟩⟩
  case entry x =>
    rw [e x (by simp [AOp.reads])]
    have : entV ⟨r2, l, h⟩ (ev r x) = entV ⟨r, l, h⟩ (ev r x) := by
      generalize ev r x = v
      cases v <;> rfl
    rw [this]; exact some_ _ hw
  case delete kk m k =>
    rw [e m (by simp +contextual [AOp.reads]), e k (by simp +contextual [AOp.reads])]
    refine ⟨hw.1, ?_⟩
    have hw := hw.2
    generalize ev r m = mv at hw ⊢
    cases mv <;> first
      | exact hw.elim
      | skip
    rename_i p
    cases p with
    | none => exact ⟨rfl, hw⟩
    | some p =>
      simp only [kDel] at hw ⊢
      generalize h[p]? = ob at hw ⊢
      cases ob with
      | none => exact hw.elim
      | some ob =>
        cases ob <;> first
          | exact hw.elim
          | skip
        rename_i es bo ck
        simp only [kDel1] at hw ⊢
        generalize delE _ es bo = es' at hw ⊢
        cases es' <;> first | exact hw.elim | exact ⟨rfl, hw⟩
  case tassert t z x ok => rw [e x (by simp [AOp.reads])]; exact some_ _ hw
  case tasent gl t z x => rw [e x (by simp [AOp.reads])]; exact some_ _ hw
  case extract x i => rw [e x (by simp [AOp.reads])]; exact some_ _ hw
  case len nk x =>
    rw [e x (by simp [AOp.reads])]
    have : lenV nk ⟨r2, l, h⟩ (ev r x) = lenV nk ⟨r, l, h⟩ (ev r x) := by unfold lenV; rfl
    rw [this]; exact some_ _ hw
  case append sz x y =>
    rw [e x (by simp +contextual [AOp.reads]), e y (by simp +contextual [AOp.reads])]
    exact app_ _ _ _ hw
  case appE sz x y =>
    rw [e x (by simp +contextual [AOp.reads]), e y (by simp +contextual [AOp.reads])]
    have rdE : ∀ v, rdV ⟨r2, l, h⟩ v = rdV ⟨r, l, h⟩ v := fun v => by unfold rdV; rfl
    refine ⟨hw.1, ?_, ?_⟩
    · rw [rdE]; exact hw.2.1
    · rw [rdE, rdE]; exact app_ _ _ _ hw.2.2
  case textE x =>
    rw [e x (by simp [AOp.reads])]
    have rdE : ∀ v, rdV ⟨r2, l, h⟩ v = rdV ⟨r, l, h⟩ v := fun v => by unfold rdV; rfl
    rw [rdE]; exact some_ _ hw
  case bslM z n ps =>
    rw [buildS_congr (r := r) (fun k hk => hr k (by simpa [AOp.reads] using hk))]
    generalize buildS r z.length ps (List.replicate n (oneV z)) = u at hw ⊢
    cases u <;> first | exact hw.elim | exact ⟨rfl, hw⟩
  case bslV z n ps =>
    rw [buildS_congr (r := r) (fun k hk => hr k (by simpa [AOp.reads] using hk))]
    generalize buildS r z.length ps (List.replicate n (oneV z)) = u at hw ⊢
    cases u <;> first | exact hw.elim | exact ⟨rfl, hw⟩
  case mkvec z x y =>
    rw [e x (by simp +contextual [AOp.reads]), e y (by simp +contextual [AOp.reads])]
    generalize ev r x = v at hw ⊢
    generalize ev r y = u at hw ⊢
    cases v <;> first
      | exact hw.elim
      | (cases u <;> first | exact hw.elim | exact ⟨hw.1, hw.2.1, hw.2.2.1, rfl, hw.2.2.2⟩)
  case appV sz x y =>
    rw [e x (by simp +contextual [AOp.reads]), e y (by simp +contextual [AOp.reads])]
    have ee : elemsW ⟨r2, l, h⟩ sz (ev r y) = elemsW ⟨r, l, h⟩ sz (ev r y) := by unfold elemsW; rfl
    rw [ee]
    generalize ev r x = v at hw ⊢
    generalize elemsW ⟨r, l, h⟩ sz (ev r y) = u at hw ⊢
    unfold kAppV at hw ⊢
    split at hw
    · exact ⟨rfl, hw⟩
    · exact ⟨hw.1, hw.2.1, rfl, hw.2.2⟩
    · exact ⟨rfl, hw⟩
    · refine ⟨hw.1, hw.2.1, hw.2.2.1, ?_⟩
      have hw := hw.2.2.2
      dsimp only at hw ⊢
      unfold kAppV1 at hw ⊢
      split at hw
      · exact ⟨hw.1, hw.2.1, hw.2.2.1, hw.2.2.2.1, rfl, hw.2.2.2.2⟩
      · exact hw
    · exact hw
  case call vr own f args =>
    have e1 : evs r2 args = evs r args := evs_congr fun k hk => hr k (by simp only [AOp.reads, List.mem_append]; exact .inr hk)
    have e2 : evArgs r2 own args 0 = evArgs r own args 0 := evArgs_congr fun k hk => hr k (by simp only [AOp.reads, List.mem_append]; exact .inr hk)
    rw [e f (by simp +contextual [AOp.reads]), e1, e2]
    refine ⟨hw.1, ?_⟩
    have hw := hw.2
    generalize ev r f = v at hw ⊢
    cases v <;> first
      | exact hw.elim
      | skip
    all_goals exact hX _ _ _ _ _ _ _ (fun v h' hk => ⟨rfl, hk⟩) hw
  case callK vr own f args ks =>
    have e1 : evs r2 args = evs r args := evs_congr fun k hk => hr k (by simp only [AOp.reads, List.mem_append]; exact .inl (.inr hk))
    have e2 : evArgs r2 own args 0 = evArgs r own args 0 := evArgs_congr fun k hk => hr k (by simp only [AOp.reads, List.mem_append]; exact .inl (.inr hk))
    have e3 : evs r2 ks = evs r ks := evs_congr fun k hk => hr k (by simp only [AOp.reads, List.mem_append]; exact .inr hk)
    rw [e f (by simp +contextual [AOp.reads]), e1, e2, e3]
    refine ⟨hw.1, ?_⟩
    have hw := hw.2
    generalize ev r f = v at hw ⊢
    cases v <;> first
      | exact hw.elim
      | skip
    all_goals exact hX _ _ _ _ _ _ _ (fun v h' hk => ⟨hk.1, rfl, hk.2⟩) hw

/-- The same of other registers. -/
theorem wpOp_regs_iff {o : AOp} {r r2 : Nat → V} {l : Nat → Option (List V)} {h : List Ob} {K : V → St → Prop} (hX : HLe X X) (hr : ∀ k ∈ o.reads, r2 k = r k) :
    wpOp X bs d o ⟨r2, l, h⟩ K ↔ wpOp X bs d o ⟨r, l, h⟩ fun v s' => s'.r = r ∧ K v ⟨r2, s'.l, s'.h⟩ := by
  constructor
  · intro hw
    exact wpOp_regs hX (fun k hk => (hr k hk).symm) hw
  · intro hw
    refine wpOp_mono hX ?_ (wpOp_regs hX hr hw)
    rintro v ⟨r', l', h'⟩ ⟨h1, _, h2⟩
    simp only at h1
    subst h1
    exact h2

def Ext (l l2 : Nat → Option (List V)) : Prop := ∀ i cs, l i = some cs → l2 i = some cs

theorem pureSpec {o : AOp} {r : Nat → V} {l : Nat → Option (List V)} {h : List Ob} {K : V → St → Prop} (hg : o.grp = .pure) (hw : wpOp X bs d o ⟨r, l, h⟩ K) :
    ∃ v, ∀ (l2 : Nat → Option (List V)) (h2 : List Ob) (K2 : V → St → Prop), wpOp X bs d o ⟨r, l2, h2⟩ K2 ↔ K2 v ⟨r, l2, h2⟩ := by
  have some_ : ∀ o, kSome K ⟨r, l, h⟩ o → ∃ v, ∀ (l2 : Nat → Option (List V)) (h2 : List Ob) (K2 : V → St → Prop), kSome K2 ⟨r, l2, h2⟩ o ↔ K2 v ⟨r, l2, h2⟩ := fun o hk => by
    cases o with
    | none => exact hk.elim
    | some v => exact ⟨v, fun _ _ _ => Iff.rfl⟩
  cases o <;> dsimp only [wpOp] at hw ⊢ <;> first
    | exact some_ _ hw
    | (simp [AOp.grp] at hg; done)
    | skip
  case mov => exact ⟨_, fun _ _ _ => Iff.rfl⟩
  case gload => exact ⟨_, fun _ _ _ => Iff.rfl⟩
  case pick c x y =>
    generalize ev r c = v at hw ⊢
    cases v <;> first | exact hw.elim | exact ⟨_, fun _ _ _ => Iff.rfl⟩
  case alloc z hp => cases hp <;> simp [AOp.grp] at hg
  case box x n hp => cases hp <;> simp [AOp.grp] at hg
  case loadX lc n x l m => cases lc <;> simp [AOp.grp] at hg
  case storeX lc n x y l m => cases lc <;> simp [AOp.grp] at hg
  case nilck x =>
    generalize ev r x = v at hw ⊢
    cases v <;> first | exact hw.elim | exact ⟨_, fun _ _ _ => Iff.rfl⟩
  case eqnil nk neg x =>
    generalize (nilV nk (ev r x)).map (xor neg) = v at hw ⊢
    cases v <;> first | exact hw.elim | exact ⟨_, fun _ _ _ => Iff.rfl⟩
  case mkif t x => exact ⟨_, fun _ _ _ => ⟨fun h => h.2, fun h => ⟨hw.1, h⟩⟩⟩
  case mkmet f xs => exact ⟨_, fun _ _ _ => ⟨fun h => h.2, fun h => ⟨hw.1, h⟩⟩⟩
  case mkfn f cap => exact ⟨_, fun _ _ _ => ⟨fun h => h.2, fun h => ⟨hw.1, h⟩⟩⟩
  case fbox x n => exact ⟨_, fun _ _ _ => ⟨fun h => h.2.2, fun h => ⟨hw.1, hw.2.1, h⟩⟩⟩
  case len nk x =>
    have hn : nk ≠ 2 := by
      intro e
      simp [AOp.grp, e] at hg
    have e : ∀ l2 h2, lenV nk ⟨r, l2, h2⟩ (ev r x) = lenV nk ⟨r, l, h⟩ (ev r x) := by
      intro l2 h2
      generalize ev r x = v
      unfold lenV
      split <;> first | rfl | exact absurd rfl hn
    obtain ⟨v, hv⟩ := some_ _ hw
    refine ⟨v, fun l2 h2 K2 => ?_⟩
    rw [e l2 h2]
    exact hv l2 h2 K2

theorem loadV_ext {r : Nat → V} {l l2 : Nat → Option (List V)} {h : List Ob} (hl : Ext l l2) {a : V} {n : Option Nat} {v : V} (hv : loadV ⟨r, l, h⟩ a n = some v) : loadV ⟨r, l2, h⟩ a n = some v := by
  cases a <;> first | exact hv | skip
  rename_i i off
  simp only [loadV, cellsAt] at hv ⊢
  cases hd : l i with
  | none => rw [hd] at hv; simp at hv
  | some cs => rw [hd] at hv; rw [hl i cs hd]; exact hv

theorem readSpec {o : AOp} {r : Nat → V} {l : Nat → Option (List V)} {h : List Ob} {K : V → St → Prop} (hg : o.grp = .read ∨ o.grp = .readL) (hw : wpOp X bs d o ⟨r, l, h⟩ K) :
    ∃ v, ∀ (l2 : Nat → Option (List V)) (K2 : V → St → Prop), Ext l l2 → (wpOp X bs d o ⟨r, l2, h⟩ K2 ↔ K2 v ⟨r, l2, h⟩) := by
  cases o <;> dsimp only [wpOp] at hw ⊢ <;> first
    | (simp [AOp.grp] at hg; done)
    | skip
  case alloc z hp => cases hp <;> simp [AOp.grp] at hg
  case box x n hp => cases hp <;> simp [AOp.grp] at hg
  case load n x =>
    cases hv : loadV ⟨r, l, h⟩ (ev r x) n with
    | none => rw [hv] at hw; exact hw.elim
    | some v => exact ⟨v, fun l2 K2 hl => by rw [loadV_ext hl hv]; exact Iff.rfl⟩
  case loadL n x =>
    cases hp : isPtr (ev r x) with
    | true => simp only [loadLV, hp] at hw; exact hw.elim
    | false =>
      cases hv : loadV ⟨r, l, h⟩ (ev r x) n with
      | none => simp only [loadLV, hp, hv] at hw; exact hw.elim
      | some v => exact ⟨v, fun l2 K2 hl => by simp only [loadLV, hp]; rw [if_neg (by simp), loadV_ext hl hv]; exact Iff.rfl⟩
  case storeX lc n x y l m => cases lc <;> simp [AOp.grp] at hg
  case loadX lc n x l' m =>
    obtain ⟨hc, hw⟩ := hw
    cases hv : loadV ⟨r, l, h⟩ (ev r x) n with
    | none => rw [hv] at hw; exact hw.elim
    | some v => exact ⟨v, fun l2 K2 hl => by rw [loadV_ext hl hv]; exact ⟨fun h => h.2, fun h => ⟨hc, h⟩⟩⟩
  case lookup kk z m k ok =>
    have e : ∀ l2, lookV ⟨r, l2, h⟩ kk z (ev r k) ok (ev r m) = lookV ⟨r, l, h⟩ kk z (ev r k) ok (ev r m) := by
      intro l2
      generalize ev r m = v
      cases v <;> rfl
    cases hv : lookV ⟨r, l, h⟩ kk z (ev r k) ok (ev r m) with
    | none => rw [hv] at hw; exact hw.elim
    | some v => exact ⟨v, fun l2 K2 hl => by rw [e l2, hv]; exact Iff.rfl⟩
  case textE x =>
    have e : ∀ l2, rdV ⟨r, l2, h⟩ (ev r x) = rdV ⟨r, l, h⟩ (ev r x) := fun l2 => by unfold rdV; rfl
    cases hv : (bytesV (rdV ⟨r, l, h⟩ (ev r x))).map V.str with
    | none => rw [hv] at hw; exact hw.elim
    | some v => exact ⟨v, fun l2 K2 hl => by rw [e l2, hv]; exact Iff.rfl⟩
  case entry x =>
    have e : ∀ l2, entV ⟨r, l2, h⟩ (ev r x) = entV ⟨r, l, h⟩ (ev r x) := by
      intro l2
      generalize ev r x = v
      cases v <;> rfl
    cases hv : entV ⟨r, l, h⟩ (ev r x) with
    | none => rw [hv] at hw; exact hw.elim
    | some v => exact ⟨v, fun l2 K2 hl => by rw [e l2, hv]; exact Iff.rfl⟩
  case len nk x =>
    have e : ∀ l2, lenV nk ⟨r, l2, h⟩ (ev r x) = lenV nk ⟨r, l, h⟩ (ev r x) := by
      intro l2
      unfold lenV
      rfl
    cases hv : lenV nk ⟨r, l, h⟩ (ev r x) with
    | none => rw [hv] at hw; exact hw.elim
    | some v => exact ⟨v, fun l2 K2 hl => by rw [e l2, hv]; exact Iff.rfl⟩

theorem loadV_nptr {r : Nat → V} {l : Nat → Option (List V)} {h h2 : List Ob} {a : V} {n : Option Nat} (hp : isPtr a = false) : loadV ⟨r, l, h2⟩ a n = loadV ⟨r, l, h⟩ a n := by
  cases a <;> first | rfl | (simp [isPtr] at hp)

/-- Of the activation's own: the heap does not matter. -/
theorem locSpec {o : AOp} {r : Nat → V} {l : Nat → Option (List V)} {h : List Ob} {K : V → St → Prop} (hg : o.grp = .readL ∨ o.grp = .newL ∨ o.grp = .setL) (hw : wpOp X bs d o ⟨r, l, h⟩ K) :
    ∃ v l', (o.grp = .newL → Ext l l') ∧ ∀ (h2 : List Ob) (K2 : V → St → Prop), wpOp X bs d o ⟨r, l, h2⟩ K2 ↔ K2 v ⟨r, l', h2⟩ := by
  have ext : ∀ i z, l i = none → Ext l (putL l i z) := fun i z hi j cs hj => by
    unfold putL
    split
    · rename_i e; subst e; rw [hi] at hj; cases hj
    · exact hj
  cases o <;> dsimp only [wpOp] at hw ⊢ <;> first
    | (simp [AOp.grp] at hg; done)
    | skip
  case alloc z hp =>
    cases hp
    · cases d with
      | none => exact hw.elim
      | some d => exact ⟨_, _, fun _ => ext d z hw.1, fun h2 K2 => ⟨fun h => h.2, fun h => ⟨hw.1, h⟩⟩⟩
    · simp [AOp.grp] at hg
  case box x n hp =>
    cases hp
    · cases d with
      | none => exact hw.2.2.elim
      | some d => exact ⟨_, _, fun _ => ext d _ hw.2.2.1, fun h2 K2 => ⟨fun h => h.2.2.2, fun h => ⟨hw.1, hw.2.1, hw.2.2.1, h⟩⟩⟩
    · simp [AOp.grp] at hg
  case loadL n x =>
    cases hp : isPtr (ev r x) with
    | true => simp only [loadLV, hp] at hw; exact hw.elim
    | false =>
      cases hv : loadV ⟨r, l, h⟩ (ev r x) n with
      | none => simp only [loadLV, hp, hv] at hw; exact hw.elim
      | some v => exact ⟨v, l, fun hn => by simp [AOp.grp] at hn, fun h2 K2 => by simp only [loadLV, hp]; rw [if_neg (by simp), loadV_nptr hp, hv]; exact Iff.rfl⟩
  case loadX lc n x l' m =>
    obtain ⟨hc, hw⟩ := hw
    cases lc with
    | false => simp [AOp.grp] at hg
    | true =>
      have hp : isPtr (ev r x) = false := by simp only [addrOk, Bool.and_eq_true] at hc; simpa using hc.1.1
      cases hv : loadV ⟨r, l, h⟩ (ev r x) n with
      | none => rw [hv] at hw; exact hw.elim
      | some v => exact ⟨v, l, fun hn => by simp [AOp.grp] at hn, fun h2 K2 => by rw [loadV_nptr hp, hv]; exact ⟨fun h => h.2, fun h => ⟨hc, h⟩⟩⟩
  case storeX lc n x y l' m =>
    obtain ⟨hc, h2, h3, hw⟩ := hw
    cases lc with
    | false => simp [AOp.grp] at hg
    | true =>
      have h1 : isPtr (ev r x) = false := by simp only [addrOk, Bool.and_eq_true] at hc; simpa using hc.1.1
      generalize ev r x = a at h1 hw hc ⊢
      cases a <;> first
        | exact hw.elim
        | (simp [isPtr] at h1; done)
        | skip
      rename_i p off
      change kLoc p off _ _ _ (l p) at hw
      cases hl : l p with
      | none => rw [hl] at hw; exact hw.elim
      | some cs =>
        rw [hl] at hw
        refine ⟨.tup [], putL l p (splice cs off (ev r y).cells), fun hn => by simp [AOp.grp] at hn, fun h2' K2 => ⟨fun h => ?_, fun h => ⟨hc, h2, h3, ?_⟩⟩⟩
        · have h := h.2.2.2
          change kLoc p off _ _ _ (l p) at h
          rw [hl] at h
          exact h.2
        · show kLoc p off _ _ _ (l p)
          rw [hl]
          exact ⟨hw.1, h⟩
  case len nk x =>
    simp only [AOp.grp] at hg
    split at hg <;> simp at hg
  case storeL n x y =>
    obtain ⟨h1, h2, h3, hw⟩ := hw
    generalize ev r x = a at h1 hw ⊢
    cases a <;> first
      | exact hw.elim
      | (simp [isPtr] at h1; done)
      | skip
    rename_i p off
    change kLoc p off _ _ _ (l p) at hw
    cases hl : l p with
    | none => rw [hl] at hw; exact hw.elim
    | some cs =>
      rw [hl] at hw
      refine ⟨.tup [], putL l p (splice cs off (ev r y).cells), fun hn => by simp [AOp.grp] at hn, fun h2' K2 => ⟨fun h => ?_, fun h => ⟨h1, h2, h3, ?_⟩⟩⟩
      · have h := h.2.2.2
        change kLoc p off _ _ _ (l p) at h
        rw [hl] at h
        exact h.2
      · show kLoc p off _ _ _ (l p)
        rw [hl]
        exact ⟨hw.1, h⟩

/-- Of the heap: the activation's own does not matter. -/
theorem heapSpec (hX : HLe X X) {o : AOp} {r : Nat → V} {l : Nat → Option (List V)} {h : List Ob} {K : V → St → Prop} (hg : o.grp = .heap ∨ o.grp = .call) (hw : wpOp X bs d o ⟨r, l, h⟩ K) (l2 : Nat → Option (List V)) :
    wpOp X bs d o ⟨r, l2, h⟩ fun v s => s.l = l2 ∧ s.r = r ∧ K v ⟨r, l, s.h⟩ := by
  have app_ : ∀ sz v u, kApp sz K ⟨r, l, h⟩ v u → kApp sz (fun v s => s.l = l2 ∧ s.r = r ∧ K v ⟨r, l, s.h⟩) ⟨r, l2, h⟩ v u := fun sz v u hw => by
    cases v <;> first
      | exact hw.elim
      | skip
    rename_i t xs
    cases u with
    | none => exact hw.elim
    | some ys =>
      cases ys with
      | nil => exact ⟨rfl, rfl, hw⟩
      | cons y ys =>
        refine ⟨hw.1, hw.2.1, ?_⟩
        have hw := hw.2.2
        cases t with
        | frozen => exact hw.elim
        | clip => exact ⟨rfl, rfl, hw⟩
        | fam p =>
          simp only [kTag] at hw ⊢
          generalize h[p]? = ob at hw ⊢
          cases ob with
          | none => exact hw.elim
          | some ob => cases ob <;> first | exact hw.elim | exact ⟨hw.1, hw.2.1, rfl, rfl, hw.2.2⟩
  cases o <;> dsimp only [wpOp] at hw ⊢ <;> first
    | (simp [AOp.grp] at hg; done)
    | skip
  case alloc z hp =>
    cases hp
    · simp [AOp.grp] at hg
    · exact ⟨rfl, rfl, hw⟩
  case box x n hp =>
    cases hp
    · simp [AOp.grp] at hg
    · exact ⟨hw.1, hw.2.1, rfl, rfl, hw.2.2⟩
  case loadX lc n x l' m => cases lc <;> simp [AOp.grp] at hg
  case storeX lc n x y l' m => cases lc <;> simp [AOp.grp] at hg
  case nilsl neg x =>
    generalize ev r x = v at hw ⊢
    cases v <;> first
      | exact hw.elim
      | skip
    case msl => exact ⟨rfl, rfl, hw⟩
    case vec => exact ⟨rfl, rfl, hw⟩
    rename_i t xs
    cases xs with
    | nil => exact ⟨⟨rfl, rfl, hw.1⟩, ⟨rfl, rfl, hw.2⟩⟩
    | cons y xs => exact ⟨rfl, rfl, hw⟩
  case mkmap => exact ⟨rfl, rfl, hw⟩
  case copyM sz x y =>
    generalize ev r x = v at hw ⊢
    generalize ev r y = u at hw ⊢
    unfold kCopyM at hw ⊢
    split at hw
    · exact ⟨rfl, rfl, hw⟩
    · refine ⟨hw.1, hw.2.1, hw.2.2.1, ?_⟩
      have hw := hw.2.2.2
      unfold kBox at hw ⊢
      dsimp only at hw ⊢
      split at hw <;> first | exact ⟨hw.1, hw.2.1, rfl, rfl, hw.2.2⟩ | exact hw.elim
    · refine ⟨hw.1, hw.2.1, hw.2.2.1, ?_⟩
      have hw := hw.2.2.2
      unfold kVec at hw ⊢
      dsimp only at hw ⊢
      split at hw <;> first | exact ⟨hw.1, hw.2.1, hw.2.2.1, rfl, rfl, hw.2.2.2⟩ | exact hw.elim
    · exact hw.elim
  case clearM zc x =>
    generalize ev r x = v at hw ⊢
    unfold kClearM at hw ⊢
    split at hw
    · exact ⟨rfl, rfl, hw⟩
    · refine ⟨hw.1, ?_⟩
      have hw := hw.2
      unfold kBox at hw ⊢
      dsimp only at hw ⊢
      split at hw <;> first | exact ⟨hw.1, hw.2.1, rfl, rfl, hw.2.2⟩ | exact hw.elim
    · refine ⟨hw.1, ?_⟩
      have hw := hw.2
      unfold kVec at hw ⊢
      dsimp only at hw ⊢
      split at hw <;> first | exact ⟨hw.1, hw.2.1, hw.2.2.1, rfl, rfl, hw.2.2.2⟩ | exact hw.elim
    · exact hw.elim
  case mkarr z x y =>
    generalize ev r x = v at hw ⊢
    generalize ev r y = u at hw ⊢
    cases v <;> first
      | exact hw.elim
      | (cases u <;> first | exact hw.elim | exact ⟨hw.1, hw.2.1, hw.2.2.1, rfl, rfl, hw.2.2.2⟩)
  case appm sz zc x y =>
    generalize ev r x = v at hw ⊢
    generalize elemsOf (ev r y) = u at hw ⊢
    unfold kAppm at hw ⊢
    split at hw
    · exact ⟨rfl, rfl, hw⟩
    · refine ⟨hw.1, hw.2.1, ?_⟩
      have hw := hw.2.2
      unfold kAppn at hw ⊢
      split at hw
      · exact ⟨rfl, rfl, hw⟩
      · exact fun c g1 => ⟨rfl, rfl, hw c g1⟩
    · refine ⟨hw.1, hw.2.1, hw.2.2.1, hw.2.2.2.1, ?_⟩
      have hw := hw.2.2.2.2
      dsimp only at hw ⊢
      unfold kAppm1 at hw ⊢
      split at hw
      · split at hw
        · rename_i hc
          rw [if_pos hc]
          exact ⟨hw.1, hw.2.1, rfl, rfl, hw.2.2⟩
        · rename_i hc
          rw [if_neg hc]
          exact ⟨hw.1, hw.2.1, fun c g1 => ⟨rfl, rfl, hw.2.2 c g1⟩⟩
      · exact hw
    · exact hw
  case mkslice z x y =>
    generalize ev r x = v at hw ⊢
    generalize ev r y = u at hw ⊢
    cases v <;> first
      | exact hw.elim
      | (cases u <;> first | exact hw.elim | exact ⟨hw.1, hw.2.1, hw.2.2.1, rfl, rfl, hw.2.2.2⟩)
  case len nk x =>
    simp only [AOp.grp] at hg
    split at hg <;> simp at hg
  case mapset kk m k v =>
    refine ⟨hw.1, hw.2.1, ?_⟩
    have hw := hw.2.2
    generalize ev r m = mv at hw ⊢
    cases mv <;> first
      | exact hw.elim
      | skip
    rename_i p
    cases p with
    | none => exact hw.elim
    | some p =>
      simp only [kSet] at hw ⊢
      generalize h[p]? = ob at hw ⊢
      cases ob with
      | none => exact hw.elim
      | some ob =>
        cases ob <;> first
          | exact hw.elim
          | skip
        rename_i es bo ck
        simp only [kSet1] at hw ⊢
        generalize setE _ _ es = es' at hw ⊢
        cases es' <;> first | exact hw.elim | exact ⟨hw.1, rfl, rfl, hw.2⟩
  case range x =>
    generalize ev r x = v at hw ⊢
    cases v <;> first
      | exact hw.elim
      | skip
    rename_i p
    cases p with
    | none => exact ⟨rfl, rfl, hw⟩
    | some p =>
      simp only [kRange] at hw ⊢
      generalize h[p]? = ob at hw ⊢
      cases ob with
      | none => exact hw.elim
      | some ob => cases ob <;> first | exact hw.elim | exact ⟨rfl, rfl, hw⟩
  case next x =>
    generalize ev r x = v at hw ⊢
    cases v <;> first
      | exact hw.elim
      | skip
    rename_i it off
    cases off with
    | succ off => exact hw.elim
    | zero =>
      simp only [kNext] at hw ⊢
      generalize h[it]? = ob at hw ⊢
      cases ob with
      | none => exact hw.elim
      | some ob =>
        cases ob <;> first
          | exact hw.elim
          | skip
        rename_i m since seen last
        cases m with
        | none => exact ⟨rfl, rfl, hw⟩
        | some q =>
          simp only [kNext1] at hw ⊢
          generalize h[q]? = ob at hw ⊢
          cases ob with
          | none => exact hw.elim
          | some ob =>
            cases ob <;> first
              | exact hw.elim
              | exact ⟨hw.1, hw.2.1, hw.2.2.1, fun g => ⟨rfl, rfl, hw.2.2.2.1 g⟩, fun i k v b g1 g2 g3 => ⟨rfl, rfl, hw.2.2.2.2 i k v b g1 g2 g3⟩⟩
  case delete kk m k =>
    refine ⟨hw.1, ?_⟩
    have hw := hw.2
    generalize ev r m = mv at hw ⊢
    cases mv <;> first
      | exact hw.elim
      | skip
    rename_i p
    cases p with
    | none => exact ⟨rfl, rfl, hw⟩
    | some p =>
      simp only [kDel] at hw ⊢
      generalize h[p]? = ob at hw ⊢
      cases ob with
      | none => exact hw.elim
      | some ob =>
        cases ob <;> first
          | exact hw.elim
          | skip
        rename_i es bo ck
        simp only [kDel1] at hw ⊢
        generalize delE _ es bo = es' at hw ⊢
        cases es' <;> first | exact hw.elim | exact ⟨rfl, rfl, hw⟩
  case append sz x y => exact app_ _ _ _ hw
  case appE sz x y =>
    have rdE : ∀ v, rdV ⟨r, l2, h⟩ v = rdV ⟨r, l, h⟩ v := fun v => by unfold rdV; rfl
    refine ⟨hw.1, ?_, ?_⟩
    · rw [rdE]; exact hw.2.1
    · rw [rdE, rdE]; exact app_ _ _ _ hw.2.2
  case bslM z n ps =>
    generalize buildS r z.length ps (List.replicate n (oneV z)) = u at hw ⊢
    cases u <;> first | exact hw.elim | exact ⟨rfl, rfl, hw⟩
  case bslV z n ps =>
    generalize buildS r z.length ps (List.replicate n (oneV z)) = u at hw ⊢
    cases u <;> first | exact hw.elim | exact ⟨rfl, rfl, hw⟩
  case mkvec z x y =>
    generalize ev r x = v at hw ⊢
    generalize ev r y = u at hw ⊢
    cases v <;> first
      | exact hw.elim
      | (cases u <;> first | exact hw.elim | exact ⟨hw.1, hw.2.1, hw.2.2.1, rfl, rfl, hw.2.2.2⟩)
  case appV sz x y =>
    have ee : elemsW ⟨r, l2, h⟩ sz (ev r y) = elemsW ⟨r, l, h⟩ sz (ev r y) := by unfold elemsW; rfl
    rw [ee]
    generalize ev r x = v at hw ⊢
    generalize elemsW ⟨r, l, h⟩ sz (ev r y) = u at hw ⊢
    unfold kAppV at hw ⊢
    split at hw
    · exact ⟨rfl, rfl, hw⟩
    · exact ⟨hw.1, hw.2.1, rfl, rfl, hw.2.2⟩
    · exact ⟨rfl, rfl, hw⟩
    · refine ⟨hw.1, hw.2.1, hw.2.2.1, ?_⟩
      have hw := hw.2.2.2
      dsimp only at hw ⊢
      unfold kAppV1 at hw ⊢
      split at hw
      · exact ⟨hw.1, hw.2.1, hw.2.2.1, hw.2.2.2.1, rfl, rfl, hw.2.2.2.2⟩
      · exact hw
    · exact hw
  case call vr own f args =>
    refine ⟨hw.1, ?_⟩
    have hw := hw.2
    generalize ev r f = v at hw ⊢
    cases v <;> first
      | exact hw.elim
      | skip
    all_goals exact hX _ _ _ _ _ _ _ (fun v h' hk => ⟨rfl, rfl, hk⟩) hw
  case callK vr own f args ks =>
    refine ⟨hw.1, ?_⟩
    have hw := hw.2
    generalize ev r f = v at hw ⊢
    cases v <;> first
      | exact hw.elim
      | skip
    all_goals exact hX _ _ _ _ _ _ _ (fun v h' hk => ⟨hk.1, rfl, rfl, hk.2⟩) hw

end
end Go.Am
