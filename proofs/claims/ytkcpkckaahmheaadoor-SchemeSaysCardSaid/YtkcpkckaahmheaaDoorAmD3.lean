/- A region whose order is open comes to what it comes to in its text's order. -/
import Derived.Test.YtkcpkckaahmheaaDoorAmW
import Derived.Test.YtkcpkckaahmheaaDoorAmD2
import Derived.Orders
import Derived.OrdersIn
namespace Go.Am

def listedB (l : Array Bool) (i : Nat) : Bool := l.getD i false

def rem (n : Nat) (l : Array Bool) : List Nat := (List.range n).filter fun i => !l.getD i false

theorem rem_pair (n : Nat) (l : Array Bool) : (rem n l).Pairwise (· < ·) := List.Pairwise.filter _ List.pairwise_lt_range

theorem mem_rem {n i : Nat} {l : Array Bool} : i ∈ rem n l ↔ i < n ∧ l.getD i false = false := by
  simp [rem]

theorem rem_set {n i : Nat} {l : Array Bool} (hl : l.size = n) (hi : i < n) : rem n (l.setIfInBounds i true) = (rem n l).filter (· != i) := by
  unfold rem
  rw [List.filter_filter]
  refine List.filter_congr fun k hk => ?_
  by_cases h : i = k
  · subst h
    have : i < l.size := by omega
    simp [this]
  · rw [getD_set_ne false h]
    have : (k != i) = true := by simpa using fun e => h e.symm
    simp [this]

def Closed (ops : Array Oper) (l : Array Bool) : Prop := ∀ (i : Nat) (o : Oper), ops[i]? = some o → l.getD i false = true → ∀ e ∈ o.after, Region.binds .any e = true → l.getD e.on false = true

def Good (l : Array Bool) (acc : List Nat) : Prop := ∀ k : Nat, l.getD k false = true → ∀ j : Nat, (acc.getD k 0).testBit j = true → l.getD j false = true

theorem anc1_listed {l : Array Bool} {acc : List Nat} (hg : Good l acc) {j : Nat} : ∀ es : List Edge, (∀ e ∈ es, Region.binds .any e = true → l.getD e.on false = true) → (anc1 acc es).testBit j = true → l.getD j false = true := by
  intro es
  induction es with
  | nil => intro _ h; simp [anc1] at h
  | cons e es ih =>
    intro hp h
    have ih' := ih fun e' he' => hp e' (by simp [he'])
    simp only [anc1] at h
    split at h
    · rename_i hb
      have hl := hp e (by simp) hb
      simp only [Nat.testBit_or, Bool.or_eq_true] at h
      rcases h with (h | h) | h
      · rw [Nat.one_shiftLeft, Nat.testBit_two_pow] at h
        have : e.on = j := by simpa using h
        rw [← this]; exact hl
      · exact hg _ hl _ h
      · exact ih' h
    · exact ih' h

theorem ancL_good {ops : Array Oper} {l : Array Bool} (hc : Closed ops l) : ∀ (os : List Oper) (acc : List Nat), (∀ (i : Nat) (o : Oper), os[i]? = some o → ops[acc.length + i]? = some o) → Good l acc → Good l (ancL os acc) := by
  intro os
  induction os with
  | nil => intro acc _ hg; exact hg
  | cons o os ih =>
    intro acc ho hg
    simp only [ancL]
    refine ih _ ?_ ?_
    · intro i o' hi
      have := ho (i + 1) o' (by simpa using hi)
      rw [List.length_append, List.length_singleton]
      rw [← this]
      congr 1
      omega
    · intro k hk j hj
      rw [List.getD_eq_getElem?_getD, List.getElem?_append] at hj
      split at hj
      · exact hg k hk j (by rw [List.getD_eq_getElem?_getD]; exact hj)
      · rename_i hge
        by_cases he : k = acc.length
        · subst he
          simp at hj
          have h0 := ho 0 o rfl
          exact anc1_listed hg _ (fun e he hb => hc acc.length o (by simpa using h0) hk e (by simpa using he) hb) hj
        · have : [anc1 acc o.after.toList][k - acc.length]? = none := by
            rw [List.getElem?_eq_none]; simp; omega
          rw [this] at hj
          simp at hj

theorem ahead_listed {ops : Array Oper} {l : Array Bool} (hc : Closed ops l) {i j : Nat} (hsz : l.size = ops.size) (hi : i < ops.size) (hne : j ≠ i) (o : Oper) (ho : ops[i]? = some o)
    (hp : ∀ e ∈ o.after, Region.binds .any e = true → l.getD e.on false = true) (h : ahead (ancL ops.toList []) j i = true) : l.getD j false = true := by
  have hc' : Closed ops (l.setIfInBounds i true) := by
    intro k ok hk hkl e he hb
    by_cases hki : i = k
    · subst hki
      rw [ho] at hk
      cases hk
      exact getD_set_true (hp e he hb)
    · rw [getD_set_ne false hki] at hkl
      exact getD_set_true (hc k ok hk hkl e he hb)
  have hg := ancL_good hc' ops.toList [] (fun i o h => by simpa using h) (fun k _ j hj => by simp at hj)
  have hil : i < l.size := by omega
  have := hg i (by simp [hil]) j h
  rwa [getD_set_ne false (fun e => hne e.symm)] at this

section
variable {P : Program} {A : Ann} {X : CallH} {z : Start}

theorem sim_any {KG : List Nat} (hX : XG P KG A z X) (hL : HLe X X) (hN : NV X) {ops : Array Oper} {is : List Ins} (hcomp : compInss P A z.nt ops ops.toList = some is) {js : List Ins} {kp : List Nat} (hjs : Js kp ops is js) (hdr : drawOk ops js = true) {Q : AX → St → Prop} :
    ∀ (fuel : Nat) (l : Array Bool) (s : St) (γ : Gh) (lam : Nat → Nat) (a : Act) (w : World), l.size = ops.size → Closed ops l → (rem ops.size l).length ≤ fuel →
      wpL X z.bs ((rem ops.size l).map fun i => js.getD i default) (Q .normal) s → SRel z γ w lam s a → wpAnyIn (fen z.ro) 0 P .any ops (QR z Q) fuel l a w := by
  obtain ⟨c1, c2⟩ := compInss_get hcomp
  obtain ⟨l1, l2⟩ := js_get hjs
  have hn : js.length = ops.size := by rw [l1, ← c1]; simp
  unfold drawOk at hdr
  rw [Bool.and_eq_true] at hdr
  obtain ⟨hedge, hdr⟩ := hdr
  have hedge : ∀ (i : Nat) (o : Oper), ops[i]? = some o → ∀ e ∈ o.after, Region.binds .any e = true → e.on < i := by
    intro i o ho e he hb
    unfold edgesOk at hedge
    rw [List.all_eq_true] at hedge
    have hm : (o, i) ∈ ops.toList.zipIdx := by
      rw [List.mem_zipIdx_iff_getElem?]
      simpa using ho
    have := hedge _ hm
    rw [Array.all_eq_true_iff_forall_mem] at this
    have := this e he
    simpa [hb] using this
  have hap : ∀ i j, i < ops.size → j < i → ahead (ancL ops.toList []) j i = false → apart (js.getD j default) (js.getD i default) = true := by
    intro i j hi hj hr
    unfold drawIn at hdr
    rw [List.all_eq_true] at hdr
    have hi' : i < js.length := by omega
    have hj' : j < js.length := by omega
    have h1 := hdr (js[i], i) (by rw [List.mem_zipIdx_iff_getElem?]; simp [hi'])
    rw [List.all_eq_true] at h1
    have h2 := h1 (js[j], j) (by rw [List.mem_zipIdx_iff_getElem?]; simp [hj'])
    simp only [hj, hr, decide_true, Bool.not_true, Bool.false_or] at h2
    simpa [List.getD_eq_getElem?_getD, hi', hj'] using h2
  -- none is ready: none is left
  have none_left : ∀ (l : Array Bool), l.size = ops.size → Region.ready .any ops l = [] → rem ops.size l = [] := by
    intro l hsz hr
    have all : ∀ i, i < ops.size → l.getD i false = true := by
      intro i
      induction i using Nat.strongRecOn with
      | ind i ih =>
        intro hi
        cases hli : l.getD i false with
        | true => rfl
        | false =>
          have hmem : i ∈ Region.ready .any ops l := by
            refine mem_ready.2 ⟨?_, ops[i], Array.getElem?_eq_getElem hi, fun e he hb => ?_⟩
            · have hil : i < l.size := by omega
              simp only [Array.getD_eq_getD_getElem?, Array.getElem?_eq_getElem hil, Option.getD_some] at hli ⊢
              exact hli
            · have hlt := hedge i _ (Array.getElem?_eq_getElem hi) e he hb
              exact ih e.on hlt (by omega)
          rw [hr] at hmem
          cases hmem
    rw [List.eq_nil_iff_forall_not_mem]
    intro i hi
    obtain ⟨h1, h2⟩ := mem_rem.1 hi
    rw [all i h1] at h2
    cases h2
  have ready_rem : ∀ (l : Array Bool) (i : Nat), l.size = ops.size → i ∈ Region.ready .any ops l → i ∈ rem ops.size l := by
    intro l i hsz hi
    obtain ⟨h1, o, ho, _⟩ := mem_ready.1 hi
    have hlt : i < ops.size := (Array.getElem?_eq_some_iff.1 ho).1
    refine mem_rem.2 ⟨hlt, ?_⟩
    have hil : i < l.size := by omega
    simp only [Array.getD_eq_getD_getElem?, Array.getElem?_eq_getElem hil, Option.getD_some] at h1 ⊢
    exact h1
  intro fuel
  induction fuel with
  | zero =>
    intro l s γ lam a w hsz hcl hlen h hs
    have hnil : rem ops.size l = [] := List.length_eq_zero_iff.1 (by omega)
    rw [hnil] at h
    simp only [List.map_nil, wpL] at h
    refine ⟨?_, γ, lam, s, h, hs⟩
    rw [List.eq_nil_iff_forall_not_mem]
    intro i hi
    have := ready_rem l i hsz hi
    rw [hnil] at this
    cases this
  | succ fuel ih =>
    intro l s γ lam a w hsz hcl hlen h hs
    refine ⟨fun hr => ?_, fun i hi => ?_⟩
    · rw [none_left l hsz hr] at h
      simp only [List.map_nil, wpL] at h
      exact ⟨γ, lam, s, h, hs⟩
    · have hmem := ready_rem l i hsz hi
      obtain ⟨h1, o, ho, hpre⟩ := mem_ready.1 hi
      have hlt : i < ops.size := (Array.getElem?_eq_some_iff.1 ho).1
      obtain ⟨R1, R2, hR⟩ := List.append_of_mem hmem
      have hpw := rem_pair ops.size l
      rw [hR] at hpw
      rw [List.pairwise_append] at hpw
      obtain ⟨p1, p2, p3⟩ := hpw
      rw [List.pairwise_cons] at p2
      have hR' : rem ops.size (l.setIfInBounds i true) = R1 ++ R2 := by
        rw [rem_set hsz hlt, hR, List.filter_append, List.filter_cons]
        simp only [bne_self_eq_false, Bool.false_eq_true, if_false]
        rw [List.filter_eq_self.2, List.filter_eq_self.2]
        · intro k hk
          have := p2.1 k hk
          simp; omega
        · intro k hk
          have := p3 k hk i (by simp)
          simp; omega
      have hfront : wpL X z.bs (js.getD i default :: (R1 ++ R2).map fun i => js.getD i default) (Q .normal) s := by
        rw [hR, List.map_append, List.map_cons] at h
        rw [List.map_append]
        refine wpL_front hL hN _ s ?_ h
        intro x hx
        obtain ⟨j, hj, rfl⟩ := List.mem_map.1 hx
        have hji : j < i := p3 j hj i (by simp)
        refine hap i j hlt hji ?_
        cases hre : ahead (ancL ops.toList []) j i with
        | false => rfl
        | true =>
          have h2 := ahead_listed hcl hsz hlt (by omega) o ho hpre hre
          have h3 := (mem_rem.1 (show j ∈ rem ops.size l by rw [hR]; simp [hj])).2
          rw [h3] at h2
          cases h2
      have hil : i < is.length := by omega
      have hins : wpL X z.bs (is[i] :: (R1 ++ R2).map fun i => js.getD i default) (Q .normal) s := by
        refine wpL_cons.2 (l2 i _ _ ?_ (List.getElem?_eq_getElem hil) hL (wpL_cons.1 hfront))
        have : i < js.length := by omega
        simp [List.getD_eq_getElem?_getD, this]
      have hci := c2 i o is[i] (by simpa using ho) (List.getElem?_eq_getElem hil)
      unfold Go.wpOpIn
      simp only [ho]
      refine sim_step hX hci (fun γ lam s a w h hs => ?_) hins hs
      refine ih (l.setIfInBounds i true) s γ lam a w (by simpa using hsz) ?_ ?_ (by rw [hR']; exact h) hs
      · intro k ok hk hkl e he hb
        by_cases hki : i = k
        · subst hki
          rw [ho] at hk
          cases hk
          exact getD_set_true (hpre e he hb)
        · rw [getD_set_ne false hki] at hkl
          exact getD_set_true (hcl k ok hk hkl e he hb)
      · rw [hR']
        rw [hR] at hlen
        simp at hlen ⊢
        omega

theorem sim_draw (hm : P.follows .mixedOrders = true) {KG : List Nat} (hX : XG P KG A z X) (hL : HLe X X) (hN : NV X) {id : Nat} {ops : Array Oper} {is : List Ins} (hcomp : compInss P A z.nt ops ops.toList = some is) {js : List Ins} {kp : List Nat} (hjs : Js kp ops is js) (hdr : drawOk ops js = true) {Q : AX → St → Prop}
    {s : St} {γ : Gh} {lam : Nat → Nat} {a : Act} {w : World} (h : wpL X z.bs js (Q .normal) s) (hs : SRel z γ w lam s a) : (Code.region id ops true).wpIn (fen z.ro) 0 P (QR z Q) a w := by
  obtain ⟨c1, c2⟩ := compInss_get hcomp
  obtain ⟨l1, l2⟩ := js_get hjs
  have hn : js.length = ops.size := by rw [l1, ← c1]; simp
  have hfalse : ∀ i, (Array.replicate ops.size false).getD i false = false := by
    intro i
    simp only [Array.getD_eq_getD_getElem?, Array.getElem?_replicate]
    split <;> rfl
  refine wpIn_region_any hm ?_
  obtain ⟨e1, e2⟩ := Ev.drew hs.heap
  refine sim_any hX hL hN hcomp hjs hdr ops.size _ s γ lam a _ (by simp) ?_ ?_ ?_ (hs.after e1 e2 hs.low)
  · intro i o _ hi
    rw [hfalse] at hi
    cases hi
  · unfold rem
    exact Nat.le_trans (List.length_filter_le _ _) (by simp)
  · have : ((rem ops.size (Array.replicate ops.size false)).map fun i => js.getD i default) = js := by
      unfold rem
      rw [List.filter_eq_self.2 (fun i _ => by rw [hfalse]; rfl)]
      refine List.ext_getElem (by simp [hn]) fun i h1 h2 => ?_
      simp [List.getD_eq_getElem?_getD, h2]
    rw [this]
    exact h

end
end Go.Am
