/- Terms are made: a row that is appended to; what is done for a case: on the abstract machine. -/
import Derived.Test.YtabjkoehbbobdaaTtF8
namespace Go.Tt
open Go.Am Go.Proofs
set_option maxRecDepth 100000

/-- A row that may be appended to. -/
def FamAt (tg : Tag) (xs : List V) (sz lo : Nat) (H : List Ob) : Prop := (tg = .clip ∧ xs = []) ∨ ∃ r, tg = .fam r ∧ lo ≤ r ∧ H[r]? = some (.fam xs.length sz)

theorem kTag_one {K : V → St → Prop} {s : St} {tg : Tag} {xs : List V} {y : V} {sz lo : Nat} (hf : FamAt tg xs sz lo s.h) (hlo : lo ≤ s.h.length)
    (hK : ∀ (r : Nat) (H' : List Ob), lo ≤ r → H'[r]? = some (.fam (xs.length + 1) sz) → (tg = .fam r ∨ r = s.h.length) → s.h.length ≤ H'.length → (∀ q, q < s.h.length → tg ≠ .fam q → H'[q]? = s.h[q]?) →
      (∀ (h : List Ob) (p : Nat) (s0 : Ob), h.length ≤ lo → HP h p s0 s.h → HP h p s0 H') → K (.sl (.fam r) (xs ++ [y])) { s with h := H' }) : kTag sz xs [y] K s tg := by
  rcases hf with ⟨rfl, rfl⟩ | ⟨r, rfl, h1, h2⟩
  · exact hK s.h.length (s.h ++ [.fam (0 + 1) sz]) hlo (by simp) (.inr rfl) (by simp) (fun q hq _ => List.getElem?_append_left hq) (fun h p s0 _ hp => hp.app _)
  · have hlt := (List.getElem?_eq_some_iff.1 h2).1
    simp only [k_tag_f, h2, k_grow]
    refine ⟨trivial, trivial, hK r (s.h.set r (.fam (xs.length + 1) sz)) h1 (by rw [List.getElem?_set_self hlt]) (.inl rfl) (by simp) (fun q hq hne => List.getElem?_set_ne (fun e => hne (by rw [e]))) (fun h p s0 hl hp => hp.far (by omega) _)⟩

theorem FamAt.up {tg : Tag} {xs : List V} {sz lo : Nat} {H H' : List Ob} (h : FamAt tg xs sz lo H) (hk : ∀ r, tg = .fam r → H'[r]? = H[r]?) : FamAt tg xs sz lo H' := by
  rcases h with h | ⟨r, h1, h2, h3⟩
  · exact .inl h
  · exact .inr ⟨r, h1, h2, by rw [hk r h1]; exact h3⟩

/-- So many variables. -/
theorem many6 (q : Int) (h1 : 0 ≤ q) (h2 : q < 6) : ∃ m : Int, (m = 0 ∨ m = 1 ∨ m = 2) ∧ iaddrV 1 (.sl .clip [.int .i64 0, .int .i64 0, .int .i64 0, .int .i64 2, .int .i64 2, .int .i64 1]) (.int .i64 q) = some (.elp (.int .i64 m) 0) := by
  have : q = 0 ∨ q = 1 ∨ q = 2 ∨ q = 3 ∨ q = 4 ∨ q = 5 := by omega
  rcases this with rfl | rfl | rfl | rfl | rfl | rfl
  · exact ⟨0, by omega, rfl⟩
  · exact ⟨0, by omega, rfl⟩
  · exact ⟨0, by omega, rfl⟩
  · exact ⟨2, by omega, rfl⟩
  · exact ⟨2, by omega, rfl⟩
  · exact ⟨1, by omega, rfl⟩
theorem name3 (n : Int) (h1 : 0 ≤ n) (h2 : n < 5) : ∃ x : Nm, x ≠ [113] ∧ iaddrV 1 (.sl .clip [.str [104], .str [116], .str [95]]) (.int .i64 (n.tmod 3)) = some (.elp (.str x) 0) := by
  have : n = 0 ∨ n = 1 ∨ n = 2 ∨ n = 3 ∨ n = 4 := by omega
  rcases this with rfl | rfl | rfl | rfl | rfl
  · exact ⟨[104], by decide, rfl⟩
  · exact ⟨[116], by decide, rfl⟩
  · exact ⟨[95], by decide, rfl⟩
  · exact ⟨[104], by decide, rfl⟩
  · exact ⟨[116], by decide, rfl⟩

abbrev AltL := List (Nm × List Nm × Tm)
def toA : AltL → Alts
  | [] => .nil
  | x :: l => .cons x.1 x.2.1 x.2.2 (toA l)
theorem toA_v (l : AltL) : alVs (toA l) = l.map fun x => alV x.1 x.2.1 x.2.2 := by
  induction l with
  | nil => simp [toA, alVs]
  | cons x l ih => simp [toA, alVs_cons, ih]
theorem toA_ok {m : Nat} {l : AltL} (h : ∀ x ∈ l, x.2.1.length ≤ 10 ∧ MkT m x.2.2) : okAlts [113] (toA l) = true ∧ shA (toA l) = true ∧ szA (toA l) ≤ l.length * (2 * 5 ^ m) := by
  induction l with
  | nil => simp [toA, okAlts, shA, szA]
  | cons x l ih =>
    obtain ⟨h1, h2, h3⟩ := ih fun y hy => h y (by simp [hy])
    obtain ⟨g1, g2⟩ := h x (by simp)
    have g3 := g2.ok
    have g4 := g2.sh
    have g5 := g2.sz
    refine ⟨by simp [toA, okAlts, g1, g3, h1], by simp [toA, shA, g1, g4, h2], ?_⟩
    simp only [toA, szA, List.length_cons, Nat.add_mul]
    omega
theorem mk_caseT {m : Nat} (ty : Ty) {t : Tm} {l : AltL} (ht : MkT m t) (hl : l.length ≤ 3) (h : ∀ x ∈ l, x.2.1.length ≤ 10 ∧ MkT m x.2.2) : MkT (m + 1) (.mk 10 [] 0 ty (.cons t .nil) (toA l) .nil) := by
  obtain ⟨h1, h2, h3⟩ := toA_ok h
  have g1 := ht.ok
  have g2 := ht.sh
  have g3 := ht.sz
  refine ⟨by simp [okTm, okTms, okBinds, g1, h1], by simp [shT, shL, shB, Binds.names, g2, h2], ?_⟩
  have hm : l.length * (2 * 5 ^ m) ≤ 3 * (2 * 5 ^ m) := Nat.mul_le_mul_right _ hl
  have : 1 ≤ 5 ^ m := Nat.one_le_pow _ _ (by omega)
  simp only [szT, szL, szB, Nat.pow_succ]
  omega

end Go.Tt
