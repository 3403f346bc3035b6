/- All the words of a text: on the abstract machine. -/
import Derived.Test.YtjfflpknmhflfaaDoorUtLe
namespace Go.Ut
open Go.Am Go.Proofs
set_option maxRecDepth 100000

theorem tk_dem (l : List Tk) : demoteL (l.map tkV) = l.map tkV := by
  induction l with
  | nil => rfl
  | cons t l ih => simp [demoteL, ih, tkV, tokV]
theorem tk_under (m : Nat) (l : List Tk) : underL m (l.map tkV) = true := by
  induction l with
  | nil => rfl
  | cons t l ih => simp [underL, ih, tkV, tokV]

def kS (n : Nat) : List (Nat × V) := [(2, .ptr n 0), (3, .ptr (n + 1) 0), (4, .ptr (n + 2) 0)]
/-- What lies in memory when so many words have been handed out. -/
def YS (h : List Ob) (b : Bs) (st : Nat) (pe : Option (Option Nat)) (c : V) : List Tk → List Ob
  | [] => h ++ [.box [.sl .clip []], .box [c], .box [.sl .clip []], .box [.sl .frozen (bV b)], .loop (10 * 64) (kS h.length) st pe]
  | t :: ts => h ++ [.box [.sl .clip []], .box [c], .box [.sl (.fam (h.length + 5)) ((t :: ts).map tkV)], .box [.sl .frozen (bV b)], .loop (10 * 64) (kS h.length) st pe, .fam (t :: ts).length 4]

section
variable {bs : List Nat} {h : List Ob} {Q : V → List Ob → Prop}

theorem split10 {b : Bs} (hb : b.length ≤ 20000) (hbs : ∀ x ∈ bs, x ≤ h.length) (h1 : ∀ ts tl, lexF (b.length + 1) 0 b = (ts, none) → Q (.tup [.sl .frozen (ts.map tkV), .nili]) (h ++ tl))
    (h2 : ∀ ts at_ tl q, lexF (b.length + 1) 0 b = (ts, some at_) → h.length ≤ q → (h ++ tl)[q]? = some (errB at_) → Q (.tup [.sl .frozen [], errV q]) (h ++ tl)) : CallA ap 10 0 bs [.sl .frozen (bV b)] h Q := by
  have gt : ∀ (l : List Ob) (i : Nat), (h ++ l)[h.length + i]? = l[i]? := fun l i => by rw [List.getElem?_append_right (by omega)]; congr 1; omega
  have gt0 : ∀ (l : List Ob), (h ++ l)[h.length]? = l[0]? := fun l => by rw [List.getElem?_append_right (by omega)]; congr 1; omega
  have st : ∀ (l : List Ob) (i : Nat) (v : Ob), (h ++ l).set (h.length + i) v = h ++ l.set i v := fun l i v => by
    rw [List.set_append_right _ _ (by omega)]; congr 2; omega
  have st0 : ∀ (l : List Ob) (v : Ob), (h ++ l).set h.length v = h ++ l.set 0 v := fun l v => by
    rw [List.set_append_right _ _ (by omega)]; congr 2; omega
  have ok : ∀ (r : Nat) (xs : List V), h.length ≤ r → okStore bs r xs := fun r xs hr x hx hlt => by
    have := hbs x hx
    omega
  have ok0 : ∀ (xs : List V), okStore bs h.length xs = True := fun xs => eq_true (ok _ _ (Nat.le_refl _))
  have ok1 : ∀ (i : Nat) (xs : List V), okStore bs (h.length + i) xs = True := fun i xs => eq_true (ok _ _ (by omega))
  refine CallA.code (af := ac10) rfl (Nat.le_of_ble_eq_true rfl) ?_
  simp [ac10, bV_dem]
  refine CallA.code (af := ac20) rfl (Nat.le_of_ble_eq_true rfl) ?_
  simp [ac20, bV_dem]
  have e0 : h ++ [Ob.box [V.sl Tag.clip []], Ob.box [V.nili], Ob.box [V.sl Tag.clip []], Ob.box [V.sl Tag.frozen (bV b)], Ob.loop (10 * 64) (kS h.length) 0 none] = YS h b 0 none .nili [] := rfl
  simp only [kS] at e0
  rw [show (h ++ [Ob.box [V.sl Tag.clip []], Ob.box [V.nili], Ob.box [V.sl Tag.clip []], Ob.box [V.sl Tag.frozen (bV b)], Ob.loop _ _ 0 none] : List Ob) = _ from e0]
  refine all34 hb false (Y := YS h b 0 none .nili) (YE := fun ts at_ => YS h b 2 (some none) (errV (YS h b 0 none .nili ts).length) ts ++ [errB at_]) (p := h.length + 3) ?_ ?_ ?_ ?_ ?_
  · intro ts
    cases ts <;> simp [YS, gt]
  · intro ts t Q hl hq
    cases ts with
    | nil =>
      refine CallA.yld (key := 10 * 64) (regs := kS h.length) (ab := ab10_0) (by simp [YS, gt]) rfl rfl ?_
      simp [ab10_0, YS, kS, startB, splice, asgP, rnd, rndO, gt, gt0, st, st0, ok0, ok1, tkV, tokV, lim]
      simpa [YS, kS, tkV, tokV] using hq
    | cons t0 ts =>
      have hl2 : ts.length + 1 + 1 ≤ lim := by simp only [lim]; simp at hl; omega
      refine CallA.yld (key := 10 * 64) (regs := kS h.length) (ab := ab10_0) (by simp [YS, gt]) rfl rfl ?_
      simp [ab10_0, YS, kS, startB, splice, asgP, rnd, rndO, gt, gt0, st, st0, ok0, ok1, tkV, tokV, hl2]
      refine ⟨fun v hv => ?_, ?_⟩
      · rcases hv with ⟨x, _, rfl⟩ | rfl <;> rfl
      · simpa [YS, kS, tkV, tokV] using hq
  · intro ts at_ Q hl hq
    cases ts with
    | nil =>
      refine CallA.yld (key := 10 * 64) (regs := kS h.length) (ab := ab10_0) (by simp [YS, gt]) rfl rfl ?_
      simp [ab10_0, YS, kS, startB, splice, asgP, rnd, rndO, gt, gt0, st, st0, ok0, ok1, tokV, errV]
      simpa [YS, kS, errV] using hq
    | cons t0 ts =>
      refine CallA.yld (key := 10 * 64) (regs := kS h.length) (ab := ab10_0) (by simp [YS, gt]) rfl rfl ?_
      simp [ab10_0, YS, kS, startB, splice, asgP, rnd, rndO, gt, gt0, st, st0, ok0, ok1, tokV, errV]
      simpa [YS, kS, errV] using hq
  · intro ts hts
    have hd := tk_dem ts
    cases ts with
    | nil =>
      simp [YS, kS, gt, gt0, st, st0, ok0, ok1, splice]
      exact h1 [] _ hts
    | cons t0 ts =>
      simp at hd
      simp [YS, kS, gt, gt0, st, st0, ok0, ok1, splice, hd]
      exact h1 (t0 :: ts) _ hts
  · intro ts at_ hts
    cases ts with
    | nil =>
      simp [YS, kS, gt, gt0, st, st0, ok0, ok1, splice, errV]
      exact h2 [] at_ _ (h.length + 5) hts (by omega) (by simp [gt])
    | cons t0 ts =>
      simp [YS, kS, gt, gt0, st, st0, ok0, ok1, splice, errV]
      exact h2 (t0 :: ts) at_ _ (h.length + 6) hts (by omega) (by simp [gt])

end
end Go.Ut
