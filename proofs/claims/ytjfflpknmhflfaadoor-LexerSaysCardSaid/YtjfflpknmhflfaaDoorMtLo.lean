/- The reference's operators and marks: in plain Lean. -/
import Derived.Test.YtjfflpknmhflfaaDoorMtLn
namespace Go.Mt
open Go.Am Go.Proofs
set_option maxRecDepth 100000
set_option maxHeartbeats 2000000

def MKS : Bs := [40, 41, 123, 125, 44, 59, 61, 92, 124]
def encB (c : UInt8) : Bs := (Utf8.encode (c.toNat : Int)).data.toList
def twoB : Bs → Bs
  | c :: d :: _ => [c, d]
  | _ => []
def isOp (two e s : Bs) : Bool := two == s || e == s
/-- The sign ahead, as the reference finds it. -/
def rsW (c : UInt8) (r e : Bs) : Wd :=
  if twoB (c :: r) == [45, 62] || twoB (c :: r) == [61, 62] || twoB (c :: r) == [58, 58] then some (6, twoB (c :: r), 0) else
  match OPS.find? (isOp (twoB (c :: r)) e) with
  | some s => some (5, s, 0)
  | none => if MKS.contains c then some (6, e, 0) else none
def sgW (p : Bs) : Wd := if (signT p).2 = [] then none else some ((signT p).1, (signT p).2, 0)

def enc1 (n : Nat) : Bs := (Utf8.encode (n : Int)).data.toList
theorem enc_all : ∀ n, n < 256 → (n < 128 ∧ enc1 n = [UInt8.ofNat n]) ∨ (128 ≤ n ∧ ∀ s ∈ OPS, (enc1 n == s) = false) := by decide +kernel
theorem enc_is (c : UInt8) : (c.toNat < 128 ∧ encB c = [c]) ∨ (128 ≤ c.toNat ∧ ∀ s ∈ OPS, (encB c == s) = false) := by
  have := enc_all c.toNat c.toNat_lt
  rw [UInt8.ofNat_toNat] at this
  exact this

theorem sg_one (c : UInt8) (h : c ∈ ([61, 47, 60, 62, 43, 45, 42, 58, 40, 41, 123, 125, 44, 59, 92, 124] : Bs)) : rsW c [] [c] = sgW [c] := by
  revert c
  decide +kernel
theorem sg_two (c : UInt8) (h : c ∈ ([61, 47, 60, 62, 43, 45, 42, 58, 40, 41, 123, 125, 44, 59, 92, 124] : Bs)) (d : UInt8) (hd : d ∈ ([61, 62, 58, 0] : Bs)) : rsW c [d] [c] = sgW [c, d] := by
  revert c d
  decide +kernel

theorem find_same {f g : Bs → Bool} : ∀ L : List Bs, (∀ s ∈ L, f s = g s) → L.find? f = L.find? g
  | [], _ => rfl
  | s :: L, h => by
    have h1 := h s (by simp)
    have h2 := find_same L fun x hx => h x (by simp [hx])
    simp only [List.find?, h1, h2]

theorem sg_d (c d : UInt8) (h1 : (d == 61) = false) (h2 : (d == 62) = false) (h3 : (d == 58) = false) : rsW c [d] [c] = rsW c [0] [c] ∧ sgW [c, d] = sgW [c, 0] := by
  have g1 : (61 == d) = false := by rw [BEq.comm]; exact h1
  have g2 : (62 == d) = false := by rw [BEq.comm]; exact h2
  have g3 : (58 == d) = false := by rw [BEq.comm]; exact h3
  have f1 : d ≠ 61 := by simpa using h1
  have f2 : d ≠ 62 := by simpa using h2
  have f3 : d ≠ 58 := by simpa using h3
  constructor
  · have hf : ∀ s ∈ OPS, isOp [c, d] [c] s = isOp [c, 0] [c] s := by
      intro s hs
      simp only [OPS, List.mem_cons, List.not_mem_nil, or_false] at hs
      rcases hs with rfl | rfl | rfl | rfl | rfl | rfl | rfl | rfl | rfl <;> simp [isOp, f1]
    have hg := find_same OPS hf
    simp only [rsW, twoB]
    rw [hg]
    simp [f2, f3]
  · have hs : signT [c, d] = signT [c, 0] := by
      simp [signT, foldS, OPS, MRK, stepS, List.isPrefixOf, g1, g2, g3]
    simp only [sgW, hs]

theorem sg_no (c : UInt8) (h : c ∉ ([61, 47, 60, 62, 43, 45, 42, 58, 40, 41, 123, 125, 44, 59, 92, 124] : Bs)) (r : Bs) : rsW c r (encB c) = none ∧ sgW ((c :: r).take 2) = none := by
  have he : ∀ s ∈ OPS, (encB c == s) = false := by
    rcases enc_is c with ⟨_, e⟩ | ⟨_, e⟩
    · rw [e]
      intro s hs
      simp only [List.mem_cons, List.not_mem_nil, or_false, not_or] at h
      simp only [OPS, List.mem_cons, List.not_mem_nil, or_false] at hs
      rcases hs with rfl | rfl | rfl | rfl | rfl | rfl | rfl | rfl | rfl <;> simp [h]
    · exact e
  simp only [List.mem_cons, List.not_mem_nil, or_false, not_or] at h
  have hm : MKS.contains c = false := by simp [MKS, h]
  have hp : ∀ s ∈ OPS ++ MRK, s.isPrefixOf ((c :: r).take 2) = false := by
    intro s hs
    have hc : ∀ s ∈ OPS ++ MRK, s.head? ≠ some c := by
      intro s hs hh
      simp only [OPS, MRK, List.cons_append, List.nil_append, List.mem_cons, List.not_mem_nil, or_false] at hs
      rcases hs with rfl | rfl | rfl | rfl | rfl | rfl | rfl | rfl | rfl | rfl | rfl | rfl | rfl | rfl | rfl | rfl | rfl | rfl | rfl | rfl | rfl <;> simp at hh <;> subst hh <;> simp at h
    cases hb : s.isPrefixOf ((c :: r).take 2)
    · rfl
    · exfalso
      have hpre := List.isPrefixOf_iff_prefix.1 hb
      obtain ⟨t, ht⟩ := hpre
      cases s with
      | nil =>
        have : ∀ s ∈ OPS ++ MRK, s ≠ [] := by decide
        exact this [] hs rfl
      | cons a s =>
        simp at ht
        exact hc _ hs (by rw [ht.1]; rfl)
  have fold : ∀ (k : Int) (L : List Bs), (∀ s ∈ L, s.isPrefixOf ((c :: r).take 2) = false) → ∀ o, foldS ((c :: r).take 2) k L o = o := by
    intro k L
    induction L with
    | nil => intro _ o; rfl
    | cons s L ih =>
      intro hL o
      have h0 : stepS ((c :: r).take 2) k o s = o := by
        unfold stepS
        rw [if_neg]
        rintro ⟨_, hx⟩
        rw [hL s (by simp)] at hx
        cases hx
      show foldS _ k L (stepS _ k o s) = o
      rw [h0]
      exact ih (fun x hx => hL x (by simp [hx])) o
  have hsg : signT ((c :: r).take 2) = (0, []) := by
    unfold signT
    rw [fold 5 OPS (fun s hs => hp s (by simp [hs])), fold 6 MRK (fun s hs => hp s (by simp [hs]))]
  refine ⟨?_, by unfold sgW; rw [hsg]; rfl⟩
  have two : ∀ s ∈ OPS ++ [[45, 62], [61, 62], [58, 58]], (twoB (c :: r) == s) = false := by
    intro s hs
    cases r with
    | nil =>
      cases s with
      | nil => simp [OPS] at hs
      | cons a s => rfl
    | cons d r =>
      simp only [OPS, List.cons_append, List.nil_append, List.mem_cons, List.not_mem_nil, or_false] at hs
      rcases hs with rfl | rfl | rfl | rfl | rfl | rfl | rfl | rfl | rfl | rfl | rfl | rfl <;> simp [twoB, h]
  have hf : OPS.find? (isOp (twoB (c :: r)) (encB c)) = none := by
    rw [List.find?_eq_none]
    intro s hs
    simp only [isOp, two s (by simp [hs]), he s hs, Bool.or_self, Bool.false_eq_true, not_false_eq_true]
  have t1 := two [45, 62] (by simp)
  have t2 := two [61, 62] (by simp)
  have t3 := two [58, 58] (by simp)
  simp only [rsW, t1, t2, t3, hf, hm, Bool.or_self, Bool.false_eq_true, if_false]

theorem sg_is (c : UInt8) (r : Bs) : rsW c r (encB c) = sgW ((c :: r).take 2) := by
  by_cases h : c ∈ ([61, 47, 60, 62, 43, 45, 42, 58, 40, 41, 123, 125, 44, 59, 92, 124] : Bs)
  · have he : encB c = [c] := by
      have : ∀ c ∈ ([61, 47, 60, 62, 43, 45, 42, 58, 40, 41, 123, 125, 44, 59, 92, 124] : Bs), c.toNat < 128 := by decide
      rcases enc_is c with ⟨_, e⟩ | ⟨e, _⟩
      · exact e
      · have := this c h
        omega
    rw [he]
    cases r with
    | nil => exact sg_one c h
    | cons d r =>
      show rsW c [d] [c] = sgW [c, d]
      by_cases hd : d ∈ ([61, 62, 58, 0] : Bs)
      · exact sg_two c h d hd
      · simp only [List.mem_cons, List.not_mem_nil, or_false, not_or] at hd
        obtain ⟨a1, a2⟩ := sg_d c d (by simpa using hd.1) (by simpa using hd.2.1) (by simpa using hd.2.2.1)
        rw [a1, a2]
        exact sg_two c h 0 (by simp)
  · obtain ⟨a1, a2⟩ := sg_no c h r
    rw [a1, a2]

end Go.Mt
