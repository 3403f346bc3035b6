/- How the memory goes on: new blocks, rows that are set, what a family gains; and that the relation stays. -/
import Derived.Test.YtkcpkckaahmheaaDoorAmS
import Derived.Laws.AppendOwn
import Derived.Laws.Tables
namespace Go.Am

section
variable {γ γ' : Gh} {w w' : World} {h : List Ob}

theorem ObRel.block {r : Nat} {o : Ob} (ho : ObRel γ w r o) : ∃ x, w.heap[γ.rho r]? = some x := by
  cases o with
  | box cs => obtain ⟨_, _, arr, e, hb, _⟩ := ho; exact ⟨_, hb⟩
  | fam k z => obtain ⟨_, _, _, _, _, _, arr, e, hb, _⟩ := ho; exact ⟨_, hb⟩
  | vec ver z cs => obtain ⟨_, _, _, _, _, arr, e, hb, _⟩ := ho; exact ⟨_, hb⟩
  | map es bo ck => obtain ⟨_, _, ents, hb, _⟩ := ho; exact ⟨_, hb⟩
  | iter m since seen last => obtain ⟨_, _, _, hb⟩ := ho; exact ⟨_, hb⟩
  | loop key regs st pe => obtain ⟨_, _, lp, hb, _⟩ := ho; exact ⟨_, hb⟩

theorem LoopRel.mono (hle : Le γ w γ' w') {key : Nat} {regs : List (Nat × V)} {st : Nat} {pe : Option (Option Nat)} {lp : Loop} (h : LoopRel γ w key regs st pe lp) : LoopRel γ' w' key regs st pe lp :=
  ⟨by rw [hle.bd]; exact h.code, h.st, h.pe, fun x hx => (h.regs x hx).imp id (fun g => g.mono hle)⟩

theorem HRel.ob (hh : HRel γ w h) {r : Nat} (hr : r < γ.n) : ∃ o, h[r]? = some o ∧ ObRel γ w r o := by
  have hr' : r < h.length := hh.n ▸ hr
  exact ⟨h[r], List.getElem?_eq_getElem hr', hh.obj r _ (List.getElem?_eq_getElem hr')⟩

theorem HRel.lt (hh : HRel γ w h) {r : Nat} (hr : r < γ.n) : γ.rho r < w.heap.size := by
  obtain ⟨o, _, ho⟩ := hh.ob hr
  obtain ⟨x, hx⟩ := ho.block
  exact (Array.getElem?_eq_some_iff.1 hx).1

theorem HRel.prot_lt (hh : HRel γ w h) {b o : Nat} (hb : o < γ.prot b) : b < w.heap.size := by
  rcases Nat.lt_or_ge b w.heap.size with hl | hg
  · exact hl
  · have := hh.far b hg; omega

theorem ObRel.keep (hle : Le γ w γ' w') {r : Nat} (hr : r < γ.n) {o : Ob} (ho : ObRel γ w r o) (e1 : γ'.rho r = γ.rho r) (e2 : γ'.ff r = γ.ff r) (e3 : γ'.fc r = γ.fc r)
    (e4 : w'.heap[γ.rho r]? = w.heap[γ.rho r]?) (e5 : γ'.prot (γ.rho r) = γ.prot (γ.rho r)) : ObRel γ' w' r o := by
  have ek := hle.kd r hr
  cases o with
  | box cs =>
    obtain ⟨h1, h2, arr, e, h3, h4⟩ := ho
    exact ⟨ek.trans h1, by rw [e1, e5]; exact h2, arr, e, by rw [e1, e4]; exact h3, h4.mono hle⟩
  | fam k z =>
    obtain ⟨h1, h2, h3, h4, h5, h6, arr, e, h7, h8⟩ := ho
    exact ⟨ek.trans h1, e2.trans h2, h3, by rw [e3]; exact h4, by rw [e3]; exact h5, by rw [e1, e5]; exact h6, arr, e, by rw [e1, e4]; exact h7, by rw [e3]; exact h8⟩
  | vec ver z cs =>
    obtain ⟨h1, h2, h3, h4, h5, arr, e, h6, h7, h8⟩ := ho
    exact ⟨ek.trans h1, e2.trans h2, h3, by rw [e3]; exact h4, by rw [e1, e5]; exact h5, arr, e, by rw [e1, e4]; exact h6, by rw [e3]; exact h7, h8.mono hle⟩
  | map es bo ck =>
    obtain ⟨h1, h2, ents, h3, h4⟩ := ho
    exact ⟨ek.trans h1, by rw [e1, e5]; exact h2, ents, by rw [e1, e4]; exact h3, h4.mono hle⟩
  | iter m since seen last =>
    obtain ⟨h1, h2, h3, h4⟩ := ho
    refine ⟨ek.trans h1, by rw [e1, e5]; exact h2, fun q hq => ⟨Nat.lt_of_lt_of_le (h3 q hq).1 hle.n, (hle.kd q (h3 q hq).1).trans (h3 q hq).2⟩, ?_⟩
    rw [e1, e4, h4]
    cases m with
    | none => rfl
    | some q => simp only [Option.map_some, hle.box q (h3 q rfl).1 (h3 q rfl).2]
  | loop key regs st pe =>
    obtain ⟨h1, h2, lp, h3, h4⟩ := ho
    exact ⟨ek.trans h1, by rw [e1, e5]; exact h2, lp, by rw [e1, e4]; exact h3, h4.mono hle⟩

theorem lps_of (hb : ∀ b, b < w.heap.size → w'.heap[b]? = w.heap[b]?) : ∀ (b : Nat) (lp : Loop), w.heap[b]? = some (.loop lp) → ∃ lp', w'.heap[b]? = some (.loop lp') :=
  fun b lp h => ⟨lp, (hb b (Array.getElem?_eq_some_iff.1 h).1).trans h⟩

theorem ObRel.loop {r : Nat} {o : Ob} {lp : Loop} (ho : ObRel γ w r o) (h : w.heap[γ.rho r]? = some (.loop lp)) : o.isLoop = true := by
  cases o with
  | box cs => obtain ⟨_, _, arr, t, h1, _⟩ := ho; rw [h] at h1; cases h1
  | fam k z => obtain ⟨_, _, _, _, _, _, arr, t, h1, _⟩ := ho; rw [h] at h1; cases h1
  | vec ver z cs => obtain ⟨_, _, _, _, _, arr, t, h1, _⟩ := ho; rw [h] at h1; cases h1
  | map es bo ck => obtain ⟨_, _, ents, h1, _⟩ := ho; rw [h] at h1; cases h1
  | iter m since seen last => obtain ⟨_, _, _, h1⟩ := ho; rw [h] at h1; cases h1
  | loop key regs st pe => rfl

theorem cell_same {b : Nat} (hb : w'.heap[b]? = w.heap[b]?) (o : Nat) : w'.cell? ⟨b, o, none⟩ = w.cell? ⟨b, o, none⟩ := by simp [World.cell?, hb]

/-- Nothing of what others see turns. -/
theorem Ev.quiet (hh : HRel γ w h) (hs : w.heap.size ≤ w'.heap.size) (hb : ∀ b, b < w.heap.size → w'.heap[b]? = w.heap[b]?) (e1 : w'.os = w.os) (e2 : w'.tape = w.tape) (e3 : w'.output = w.output) :
    Ev γ w γ w' ∧ HRel γ w' h := by
  have hle : Le γ w γ w' := { Le.refl γ w with cells := fun b o ho => cell_same (hb b (hh.prot_lt ho)) o }
  refine ⟨⟨hle, fun _ _ => .inl rfl, fun r h1 h2 => by omega, hs, fun b hlt _ => ⟨hb b hlt, rfl⟩, e1, e2, e3, lps_of hb⟩, hh.n, hh.inj, fun r o ho => ?_, fun b hlt => hh.far b (Nat.le_trans hs hlt)⟩
  have hr : r < γ.n := hh.n ▸ (List.getElem?_eq_some_iff.1 ho).1
  exact (hh.obj r o ho).keep hle hr rfl rfl rfl (hb _ (hh.lt hr)) rfl

theorem Ev.drew (hh : HRel γ w h) : Ev γ w γ w.drew ∧ HRel γ w.drew h := Ev.quiet hh (Nat.le_refl _) (fun _ _ => rfl) rfl rfl rfl

theorem Ev.alloc (hh : HRel γ w h) (o : Obj) : Ev γ w γ (w.alloc o) ∧ HRel γ (w.alloc o) h :=
  Ev.quiet hh (by simp) (fun b hb => heap_alloc_old w o b hb) rfl rfl rfl

/-- A new block whose head is shut: a row of values that no one turns. -/
def Gh.shut (γ : Gh) (b p : Nat) : Gh := { γ with prot := fun x => if x = b then p else γ.prot x }

theorem Ev.shut (hh : HRel γ w h) (hs : w'.heap.size = w.heap.size + 1) (hb : ∀ b, b < w.heap.size → w'.heap[b]? = w.heap[b]?) (e1 : w'.os = w.os) (e2 : w'.tape = w.tape) (e3 : w'.output = w.output) (p : Nat) :
    Ev γ w (γ.shut w.heap.size p) w' ∧ HRel (γ.shut w.heap.size p) w' h := by
  have h0 : γ.prot w.heap.size = 0 := hh.far _ (Nat.le_refl _)
  have hp : ∀ b, γ.prot b ≤ (γ.shut w.heap.size p).prot b := fun b => by
    simp only [Gh.shut]; split
    · subst b; omega
    · exact Nat.le_refl _
  have hle : Le γ w (γ.shut w.heap.size p) w' :=
    { n := Nat.le_refl _, kd := fun _ _ => rfl, box := fun _ _ _ => rfl, fam := fun _ _ _ => ⟨Nat.le_refl _, fun _ => ⟨rfl, rfl⟩⟩, prot := hp,
      cells := fun b o' ho => cell_same (hb b (hh.prot_lt ho)) o', tk := rfl, bd := rfl }
  have hpo : ∀ b, b < w.heap.size → (γ.shut w.heap.size p).prot b = γ.prot b := fun b hb => by simp only [Gh.shut]; rw [if_neg (by omega)]
  refine ⟨⟨hle, fun _ _ => .inl rfl, fun r h1 h2 => by simp [Gh.shut] at h2; omega, by omega, fun b hlt _ => ⟨hb b hlt, hpo b hlt⟩, e1, e2, e3, lps_of hb⟩, hh.n, hh.inj, fun r o' ho => ?_, fun b hlt => ?_⟩
  · have hr : r < γ.n := hh.n ▸ (List.getElem?_eq_some_iff.1 ho).1
    exact (hh.obj r o' ho).keep hle hr rfl rfl rfl (hb _ (hh.lt hr)) (hpo _ (hh.lt hr))
  · simp only [Gh.shut]
    rw [if_neg (by omega)]
    exact hh.far b (by omega)

theorem Ev.shutNew (hh : HRel γ w h) (o : Obj) (p : Nat) : Ev γ w (γ.shut w.heap.size p) (w.alloc o) ∧ HRel (γ.shut w.heap.size p) (w.alloc o) h :=
  Ev.shut hh (by simp) (fun b hb => heap_alloc_old w o b hb) rfl rfl rfl p

/-- A new object. -/
def Gh.new (γ : Gh) (b : Nat) (kd : Bool) (ff fc p : Nat) : Gh :=
  { γ with
    n := γ.n + 1
    prot := fun x => if x = b then p else γ.prot x
    rho := fun r => if r = γ.n then b else γ.rho r
    kd := fun r => if r = γ.n then kd else γ.kd r
    ff := fun r => if r = γ.n then ff else γ.ff r
    fc := fun r => if r = γ.n then fc else γ.fc r }

theorem Ev.newOb (hh : HRel γ w h) (o : Obj) (kd : Bool) (ff fc p : Nat) (ob : Ob) (hob : Le γ w (γ.new w.heap.size kd ff fc p) (w.alloc o) → ObRel (γ.new w.heap.size kd ff fc p) (w.alloc o) γ.n ob) :
    Ev γ w (γ.new w.heap.size kd ff fc p) (w.alloc o) ∧ HRel (γ.new w.heap.size kd ff fc p) (w.alloc o) (h ++ [ob]) := by
  have h0 : γ.prot w.heap.size = 0 := hh.far _ (Nat.le_refl _)
  have hne : ∀ r, r < γ.n → r ≠ γ.n := fun r hr => by omega
  have hle : Le γ w (γ.new w.heap.size kd ff fc p) (w.alloc o) :=
    { n := by simp [Gh.new], kd := fun r hr => by simp [Gh.new, hne r hr], box := fun r hr _ => by simp [Gh.new, hne r hr],
      fam := fun r hr _ => by simp [Gh.new, hne r hr],
      prot := fun b => by
        simp only [Gh.new]; split
        · subst b; omega
        · exact Nat.le_refl _
      cells := fun b o' ho => cell_same (heap_alloc_old w o b (hh.prot_lt ho)) o', tk := rfl, bd := rfl }
  have hpo : ∀ b, b < w.heap.size → (γ.new w.heap.size kd ff fc p).prot b = γ.prot b := fun b hb => by simp only [Gh.new]; rw [if_neg (by omega)]
  refine ⟨⟨hle, fun r hr => .inl (by simp [Gh.new, hne r hr]), fun r h1 h2 => ?_, by simp, fun b hlt _ => ⟨heap_alloc_old w o b hlt, hpo b hlt⟩, rfl, rfl, rfl, lps_of (heap_alloc_old w o)⟩, by simp [Gh.new, hh.n], fun r r' hr hr' e => ?_, fun r o' ho => ?_, fun b hlt => ?_⟩
  · simp only [Gh.new] at h2
    have : r = γ.n := by omega
    simp [Gh.new, this]
  · simp only [Gh.new] at hr hr' e
    by_cases h1 : r = γ.n <;> by_cases h2 : r' = γ.n
    · omega
    · rw [if_pos h1, if_neg h2] at e
      have := hh.lt (r := r') (by omega); omega
    · rw [if_neg h1, if_pos h2] at e
      have := hh.lt (r := r) (by omega); omega
    · rw [if_neg h1, if_neg h2] at e
      exact hh.inj r r' (by omega) (by omega) e
  · rw [List.getElem?_append] at ho
    split at ho
    · have hr : r < γ.n := by have := hh.n; omega
      exact (hh.obj r o' ho).keep hle hr (by simp [Gh.new, hne r hr]) (by simp [Gh.new, hne r hr]) (by simp [Gh.new, hne r hr]) (heap_alloc_old w o _ (hh.lt hr)) (hpo _ (hh.lt hr))
    · have hr : r = γ.n := by
        have := (List.getElem?_eq_some_iff.1 ho).1
        simp at this
        have := hh.n; omega
      subst hr
      rw [hh.n] at ho
      simp at ho
      subst ho
      exact hob hle
  · simp at hlt
    simp only [Gh.new]
    rw [if_neg (by omega)]
    exact hh.far b (by omega)

/-- An object's block is turned. -/
theorem Ev.set (hh : HRel γ w h) {r : Nat} (hr : r < γ.n) (ob : Ob) (hs : w'.heap.size = w.heap.size) (hb : ∀ b, b ≠ γ.rho r → w'.heap[b]? = w.heap[b]?) (e1 : w'.os = w.os) (e2 : w'.tape = w.tape) (e3 : w'.output = w.output)
    (hp : γ.prot (γ.rho r) = 0) (hob : Le γ w γ w' → ObRel γ w' r ob) (hlp : h[r]?.any Ob.isLoop = true → ob.isLoop = true := by simp_all [Ob.isLoop]) : Ev γ w γ w' ∧ HRel γ w' (h.set r ob) := by
  have hle : Le γ w γ w' := { Le.refl γ w with cells := fun b o ho => cell_same (hb b (fun e => by subst e; omega)) o }
  refine ⟨⟨hle, fun _ _ => .inl rfl, fun r h1 h2 => by omega, by omega, fun b _ hne => ⟨hb b (Ne.symm (hne r hr)), rfl⟩, e1, e2, e3, fun b lp hlo => ?_⟩, by simp [hh.n], hh.inj, fun r' o ho => ?_, fun b hlt => hh.far b (by omega)⟩
  · by_cases e : b = γ.rho r
    · subst e
      obtain ⟨o, ho, hor⟩ := hh.ob hr
      have hl := hlp (by rw [ho]; exact hor.loop hlo)
      have := hob hle
      cases ob <;> first | (cases hl; done) | skip
      obtain ⟨_, _, lp', h1, _⟩ := this
      exact ⟨lp', h1⟩
    · exact ⟨lp, (hb b e).trans hlo⟩
  by_cases e : r' = r
  · subst e
    rw [List.getElem?_set_self (by rw [← hh.n]; exact hr)] at ho
    cases ho
    exact hob hle
  · rw [List.getElem?_set_ne (Ne.symm e)] at ho
    have hr' : r' < γ.n := hh.n ▸ (List.getElem?_eq_some_iff.1 ho).1
    exact (hh.obj r' o ho).keep hle hr' rfl rfl rfl (hb _ (fun e' => e (hh.inj r' r hr' hr e'))) rfl

/-- A family grows where it lies. -/
def Gh.fill (γ : Gh) (r ff p : Nat) : Gh := { γ with prot := fun x => if x = γ.rho r then p else γ.prot x, ff := fun x => if x = r then ff else γ.ff x }

theorem Ev.fill (hh : HRel γ w h) {r k z k' : Nat} (hr : h[r]? = some (.fam k z)) (hk : k < k') (hc : k' ≤ γ.fc r) (hs : w'.heap.size = w.heap.size) (hb : ∀ b, b ≠ γ.rho r → w'.heap[b]? = w.heap[b]?)
    (e1 : w'.os = w.os) (e2 : w'.tape = w.tape) (e3 : w'.output = w.output) (arr : Array Value) (e : TypeId) (harr : w'.heap[γ.rho r]? = some (.cells arr e (0, 0))) (hsz : arr.size = γ.fc r * z)
    (hold : ∀ o, o < k * z → w'.cell? ⟨γ.rho r, o, none⟩ = w.cell? ⟨γ.rho r, o, none⟩) :
    Ev γ w (γ.fill r k' (k' * z)) w' ∧ HRel (γ.fill r k' (k' * z)) w' (h.set r (.fam k' z)) := by
  have hr' : r < γ.n := hh.n ▸ (List.getElem?_eq_some_iff.1 hr).1
  obtain ⟨hkd, hff, hz, hkc, hfc, hpr, _, _, _, _⟩ := hh.obj r _ hr
  have hlt : k * z ≤ k' * z := Nat.mul_le_mul_right _ (Nat.le_of_lt hk)
  have hle : Le γ w (γ.fill r k' (k' * z)) w' :=
    { n := Nat.le_refl _, kd := fun _ _ => rfl, box := fun _ _ _ => rfl,
      fam := fun r1 h1 _ => by
        simp only [Gh.fill]
        by_cases e : r1 = r
        · subst e; simp; omega
        · simp [e]
      prot := fun b => by
        simp only [Gh.fill]; split
        · subst b; omega
        · exact Nat.le_refl _
      cells := fun b o ho => by
        by_cases e : b = γ.rho r
        · subst e; exact hold o (by omega)
        · exact cell_same (hb b e) o
      tk := rfl
      bd := rfl }
  refine ⟨⟨hle, fun _ _ => .inl rfl, fun r h1 h2 => by simp [Gh.fill] at h2; omega, by omega, fun b _ hne => ⟨hb b (Ne.symm (hne r hr')), ?_⟩, e1, e2, e3, fun b lp hlo => ?_⟩, by simp [hh.n, Gh.fill], hh.inj, fun r1 o ho => ?_, fun b hlt => ?_⟩
  · simp only [Gh.fill]; rw [if_neg (Ne.symm (hne r hr'))]
  · by_cases e0 : b = γ.rho r
    · subst e0
      obtain ⟨_, _, _, _, _, _, arr0, t0, h0, _⟩ := hh.obj r _ hr
      rw [hlo] at h0; cases h0
    · exact ⟨lp, (hb b e0).trans hlo⟩
  · by_cases e0 : r1 = r
    · subst e0
      rw [List.getElem?_set_self (by rw [← hh.n]; exact hr')] at ho
      cases ho
      exact ⟨hkd, by simp [Gh.fill], hz, hc, hfc, by simp [Gh.fill], arr, e, harr, hsz⟩
    · rw [List.getElem?_set_ne (Ne.symm e0)] at ho
      have hr1 : r1 < γ.n := hh.n ▸ (List.getElem?_eq_some_iff.1 ho).1
      have hne : γ.rho r1 ≠ γ.rho r := fun e' => e0 (hh.inj r1 r hr1 hr' e')
      exact (hh.obj r1 o ho).keep hle hr1 rfl (by simp [Gh.fill, e0]) rfl (hb _ hne) (by simp [Gh.fill, hne])
  · simp only [Gh.fill]
    rw [if_neg (fun e' => by have := hh.lt hr'; omega)]
    exact hh.far b (by omega)

/-- A family moves. -/
def Gh.move (γ : Gh) (r b ff fc p : Nat) : Gh :=
  { γ with
    prot := fun x => if x = b then p else γ.prot x
    rho := fun x => if x = r then b else γ.rho x
    ff := fun x => if x = r then ff else γ.ff x
    fc := fun x => if x = r then fc else γ.fc x }

theorem Ev.move (hh : HRel γ w h) {r k z k' c : Nat} (hr : h[r]? = some (.fam k z)) (hk : k < k') (hc : k' ≤ c) (hcm : c ≤ maxLen) (arr : Array Value) (e : TypeId) (hsz : arr.size = c * z) :
    Ev γ w (γ.move r w.heap.size k' c (k' * z)) (w.alloc (.cells arr e)) ∧ HRel (γ.move r w.heap.size k' c (k' * z)) (w.alloc (.cells arr e)) (h.set r (.fam k' z)) := by
  have hr' : r < γ.n := hh.n ▸ (List.getElem?_eq_some_iff.1 hr).1
  obtain ⟨hkd, hff, hz, hkc, hfc, hpr, _, _, _, _⟩ := hh.obj r _ hr
  have h0 : γ.prot w.heap.size = 0 := hh.far _ (Nat.le_refl _)
  have hle : Le γ w (γ.move r w.heap.size k' c (k' * z)) (w.alloc (.cells arr e)) :=
    { n := Nat.le_refl _, kd := fun _ _ => rfl,
      box := fun r1 _ hk1 => by
        simp only [Gh.move]
        by_cases e : r1 = r
        · subst e; rw [hkd] at hk1; cases hk1
        · simp [e]
      fam := fun r1 h1 _ => by
        simp only [Gh.move]
        by_cases e : r1 = r
        · subst e; simp; omega
        · simp [e]
      prot := fun b => by
        simp only [Gh.move]; split
        · subst b; omega
        · exact Nat.le_refl _
      cells := fun b o ho => cell_same (heap_alloc_old w _ b (hh.prot_lt ho)) o
      tk := rfl
      bd := rfl }
  have hpo : ∀ b, b < w.heap.size → (γ.move r w.heap.size k' c (k' * z)).prot b = γ.prot b := fun b hb => by simp only [Gh.move]; rw [if_neg (by omega)]
  refine ⟨⟨hle, fun r1 h1 => ?_, fun r h1 h2 => by simp [Gh.move] at h2; omega, by simp, fun b hlt _ => ⟨heap_alloc_old w _ b hlt, hpo b hlt⟩, rfl, rfl, rfl, lps_of (heap_alloc_old w _)⟩, by simp [hh.n, Gh.move], fun r1 r2 h1 h2 he => ?_, fun r1 o ho => ?_, fun b hlt => ?_⟩
  · simp only [Gh.move]
    by_cases e : r1 = r
    · right; simp [e]
    · left; simp [e]
  · simp only [Gh.move] at h1 h2 he
    by_cases e1 : r1 = r <;> by_cases e2 : r2 = r
    · omega
    · rw [if_pos e1, if_neg e2] at he
      have := hh.lt h2; omega
    · rw [if_neg e1, if_pos e2] at he
      have := hh.lt h1; omega
    · rw [if_neg e1, if_neg e2] at he
      exact hh.inj r1 r2 h1 h2 he
  · by_cases e0 : r1 = r
    · subst e0
      rw [List.getElem?_set_self (by rw [← hh.n]; exact hr')] at ho
      cases ho
      refine ⟨hkd, by simp [Gh.move], hz, by simpa [Gh.move] using hc, by simpa [Gh.move] using hcm, by simp [Gh.move], arr, e, ?_, by simpa [Gh.move] using hsz⟩
      simp only [Gh.move, if_true]
      exact heap_alloc_new w _
    · rw [List.getElem?_set_ne (Ne.symm e0)] at ho
      have hr1 : r1 < γ.n := hh.n ▸ (List.getElem?_eq_some_iff.1 ho).1
      exact (hh.obj r1 o ho).keep hle hr1 (by simp [Gh.move, e0]) (by simp [Gh.move, e0]) (by simp [Gh.move, e0]) (heap_alloc_old w _ _ (hh.lt hr1)) (hpo _ (hh.lt hr1))
  · simp at hlt
    simp only [Gh.move]
    rw [if_neg (by omega)]
    exact hh.far b (by omega)

/-- A row that grows where it lies: a new version. -/
def Gh.turn (γ : Gh) (r ff : Nat) : Gh := { γ with ff := fun x => if x = r then ff else γ.ff x }

theorem Ev.turn (hh : HRel γ w h) {r ver z : Nat} {cs cs' : List V} (hr : h[r]? = some (.vec ver z cs)) (hs : w'.heap.size = w.heap.size) (hb : ∀ b, b ≠ γ.rho r → w'.heap[b]? = w.heap[b]?)
    (e1 : w'.os = w.os) (e2 : w'.tape = w.tape) (e3 : w'.output = w.output) (arr : Array Value) (e : TypeId) (harr : w'.heap[γ.rho r]? = some (.cells arr e (0, 0))) (hsz : arr.size = γ.fc r * z)
    (hp : Le γ w (γ.turn r (ver + 1)) w' → PreRel (γ.turn r (ver + 1)) w' cs' arr) :
    Ev γ w (γ.turn r (ver + 1)) w' ∧ HRel (γ.turn r (ver + 1)) w' (h.set r (.vec (ver + 1) z cs')) := by
  have hr' : r < γ.n := hh.n ▸ (List.getElem?_eq_some_iff.1 hr).1
  obtain ⟨hkd, hff, hz, hfc, hpr, _, _, hblk, _, _⟩ := hh.obj r _ hr
  have hle : Le γ w (γ.turn r (ver + 1)) w' :=
    { n := Nat.le_refl _, kd := fun _ _ => rfl, box := fun _ _ _ => rfl,
      fam := fun r1 h1 _ => by
        simp only [Gh.turn]
        by_cases e : r1 = r
        · subst e; simp; omega
        · simp [e]
      prot := fun b => Nat.le_refl _
      cells := fun b o ho => by
        by_cases e : b = γ.rho r
        · subst e; omega
        · exact cell_same (hb b e) o
      tk := rfl
      bd := rfl }
  refine ⟨⟨hle, fun _ _ => .inl rfl, fun r h1 h2 => by simp [Gh.turn] at h2; omega, by omega, fun b _ hne => ⟨hb b (Ne.symm (hne r hr')), rfl⟩, e1, e2, e3, fun b lp hlo => ?_⟩, by simp [hh.n, Gh.turn], hh.inj, fun r1 o ho => ?_, fun b hlt => hh.far b (by omega)⟩
  · by_cases e0 : b = γ.rho r
    · subst e0
      rw [hlo] at hblk; cases hblk
    · exact ⟨lp, (hb b e0).trans hlo⟩
  · by_cases e0 : r1 = r
    · subst e0
      rw [List.getElem?_set_self (by rw [← hh.n]; exact hr')] at ho
      cases ho
      exact ⟨hkd, by simp [Gh.turn], hz, hfc, hpr, arr, e, harr, hsz, hp hle⟩
    · rw [List.getElem?_set_ne (Ne.symm e0)] at ho
      have hr1 : r1 < γ.n := hh.n ▸ (List.getElem?_eq_some_iff.1 ho).1
      have hne : γ.rho r1 ≠ γ.rho r := fun e' => e0 (hh.inj r1 r hr1 hr' e')
      exact (hh.obj r1 o ho).keep hle hr1 rfl (by simp [Gh.turn, e0]) rfl (hb _ hne) rfl

/-- A row that grows moves. -/
theorem Ev.moveV (hh : HRel γ w h) {r ver z c : Nat} {cs cs' : List V} (hr : h[r]? = some (.vec ver z cs)) (hcm : c ≤ maxLen) (arr : Array Value) (e : TypeId) (hsz : arr.size = c * z)
    (hp : Le γ w (γ.move r w.heap.size (ver + 1) c 0) (w.alloc (.cells arr e)) → PreRel (γ.move r w.heap.size (ver + 1) c 0) (w.alloc (.cells arr e)) cs' arr) :
    Ev γ w (γ.move r w.heap.size (ver + 1) c 0) (w.alloc (.cells arr e)) ∧ HRel (γ.move r w.heap.size (ver + 1) c 0) (w.alloc (.cells arr e)) (h.set r (.vec (ver + 1) z cs')) := by
  have hr' : r < γ.n := hh.n ▸ (List.getElem?_eq_some_iff.1 hr).1
  obtain ⟨hkd, hff, hz, hfc, hpr, _, _, _, _, _⟩ := hh.obj r _ hr
  have h0 : γ.prot w.heap.size = 0 := hh.far _ (Nat.le_refl _)
  have hle : Le γ w (γ.move r w.heap.size (ver + 1) c 0) (w.alloc (.cells arr e)) :=
    { n := Nat.le_refl _, kd := fun _ _ => rfl,
      box := fun r1 _ hk1 => by
        simp only [Gh.move]
        by_cases e : r1 = r
        · subst e; rw [hkd] at hk1; cases hk1
        · simp [e]
      fam := fun r1 h1 _ => by
        simp only [Gh.move]
        by_cases e : r1 = r
        · subst e; simp; omega
        · simp [e]
      prot := fun b => by
        simp only [Gh.move]; split
        · subst b; omega
        · exact Nat.le_refl _
      cells := fun b o ho => cell_same (heap_alloc_old w _ b (hh.prot_lt ho)) o
      tk := rfl
      bd := rfl }
  have hpo : ∀ b, b < w.heap.size → (γ.move r w.heap.size (ver + 1) c 0).prot b = γ.prot b := fun b hb => by simp only [Gh.move]; rw [if_neg (by omega)]
  refine ⟨⟨hle, fun r1 h1 => ?_, fun r h1 h2 => by simp [Gh.move] at h2; omega, by simp, fun b hlt _ => ⟨heap_alloc_old w _ b hlt, hpo b hlt⟩, rfl, rfl, rfl, lps_of (heap_alloc_old w _)⟩, by simp [hh.n, Gh.move], fun r1 r2 h1 h2 he => ?_, fun r1 o ho => ?_, fun b hlt => ?_⟩
  · simp only [Gh.move]
    by_cases e : r1 = r
    · right; simp [e]
    · left; simp [e]
  · simp only [Gh.move] at h1 h2 he
    by_cases e1 : r1 = r <;> by_cases e2 : r2 = r
    · omega
    · rw [if_pos e1, if_neg e2] at he
      have := hh.lt h2; omega
    · rw [if_neg e1, if_pos e2] at he
      have := hh.lt h1; omega
    · rw [if_neg e1, if_neg e2] at he
      exact hh.inj r1 r2 h1 h2 he
  · by_cases e0 : r1 = r
    · subst e0
      rw [List.getElem?_set_self (by rw [← hh.n]; exact hr')] at ho
      cases ho
      refine ⟨hkd, by simp [Gh.move], hz, by simpa [Gh.move] using hcm, by simp [Gh.move], arr, e, ?_, by simpa [Gh.move] using hsz, hp hle⟩
      simp only [Gh.move, if_true]
      exact heap_alloc_new w _
    · rw [List.getElem?_set_ne (Ne.symm e0)] at ho
      have hr1 : r1 < γ.n := hh.n ▸ (List.getElem?_eq_some_iff.1 ho).1
      exact (hh.obj r1 o ho).keep hle hr1 (by simp [Gh.move, e0]) (by simp [Gh.move, e0]) (by simp [Gh.move, e0]) (heap_alloc_old w _ _ (hh.lt hr1)) (hpo _ (hh.lt hr1))
  · simp at hlt
    simp only [Gh.move]
    rw [if_neg (by omega)]
    exact hh.far b (by omega)
end

end Go.Am
