/- Schemes' texts tell them apart. -/
import Derived.Test.YtpknncihhgfpnaaAtM
import Derived.Test.YtpknncihhgfpnaaAtK
namespace Go.At
open Go.Am Go.Proofs
set_option maxRecDepth 100000

theorem made_inj {m m' : Nat} {t u : Ty} (ht : Made m t) (hu : Made m' u) (h : showT t = showT u) : t = u := by
  have h1 := (rd_all m t ht).2.2 (4 * m + 4 * m' + 3) [] (by omega) trivial
  have h2 := (rd_all m' u hu).2.2 (4 * m + 4 * m' + 3) [] (by omega) trivial
  rw [h, h2] at h1
  simpa using h1.symm

/-- A predicate as the maker makes it. -/
def PrOk (p : List UInt8 × Ty) : Prop := (p.1 = [69, 113] ∨ p.1 = [79, 114, 100] ∨ p.1 = [83, 104, 111, 119] ∨ p.1 = [78, 117, 109]) ∧ Made 0 p.2

def shP (p : List UInt8 × Ty) : List UInt8 := showPr p.1 p.2

/-- Reading a predicate: class, blank, type. -/
def rdPr : List UInt8 → Option ((List UInt8 × Ty) × List UInt8)
  | 69 :: r => (rdArg 4 (r.drop 2)).map fun x => (([69, 113], x.1), x.2)
  | 79 :: r => (rdArg 4 (r.drop 3)).map fun x => (([79, 114, 100], x.1), x.2)
  | 83 :: r => (rdArg 4 (r.drop 4)).map fun x => (([83, 104, 111, 119], x.1), x.2)
  | 78 :: r => (rdArg 4 (r.drop 3)).map fun x => (([78, 117, 109], x.1), x.2)
  | _ => none

theorem rd_pr (p : List UInt8 × Ty) (hp : PrOk p) (r : List UInt8) : rdPr (shP p ++ r) = some (p, r) := by
  obtain ⟨c, t⟩ := p
  obtain ⟨hc, ht⟩ := hp
  have ha := (rd_all 0 t ht).1 4 r (by omega)
  rcases hc with h | h | h | h <;> simp only at h <;> subst h <;> simp [shP, showPr, rdPr, ha]

/-- A context as text. -/
def ctxS : List (List UInt8 × Ty) → List UInt8
  | [] => []
  | [p] => shP p ++ [32, 61, 62, 32]
  | p :: q :: l => 40 :: (Lib.join (shP p :: shP q :: l.map shP) [44, 32] ++ [41, 32, 61, 62, 32])

/-- Reading the rest of a context, behind its first predicate. -/
def rdRest : Nat → List UInt8 → Option (List (List UInt8 × Ty) × List UInt8)
  | 0, _ => none
  | n + 1, 44 :: r => (rdPr (r.drop 1)).bind fun x => (rdRest n x.2).map fun y => (x.1 :: y.1, y.2)
  | _ + 1, 41 :: r => some ([], r.drop 4)
  | _ + 1, _ => none

theorem rd_rest : ∀ (l : List (List UInt8 × Ty)) (n : Nat) (r : List UInt8), (∀ p ∈ l, PrOk p) → l.length < n → rdRest n (Lib.joinTail [44, 32] (l.map shP) ++ [41, 32, 61, 62, 32] ++ r) = some (l, r)
  | [], n + 1, r, _, _ => by simp [Lib.joinTail, rdRest]
  | p :: l, n + 1, r, hl, hn => by
    have h1 := rd_pr p (hl p (by simp))
    have h2 := rd_rest l n r (fun q hq => hl q (by simp [hq])) (by simp at hn; omega)
    have e : Lib.joinTail [44, 32] (List.map shP (p :: l)) ++ [41, 32, 61, 62, 32] ++ r = 44 :: 32 :: (shP p ++ (Lib.joinTail [44, 32] (l.map shP) ++ [41, 32, 61, 62, 32] ++ r)) := by
      simp [Lib.joinTail]
    rw [e]
    simp only [rdRest, List.drop_succ_cons, List.drop_zero, h1, Option.bind_some, h2, Option.map_some]

/-- Reading a context: one predicate; many in brackets; none. -/
def rdCtx (s : List UInt8) : Option (List (List UInt8 × Ty) × List UInt8) :=
  match rdPr s with
  | some (p, r) => some ([p], r.drop 4)
  | none => match s with
    | 40 :: r => match rdPr r with
      | some (p, r') => (rdRest 4 r').map fun y => (p :: y.1, y.2)
      | none => some ([], s)
    | s => some ([], s)

/-- How types' texts begin: with no class's first letter; behind a bracket likewise. -/
def plain : List UInt8 → Bool
  | a :: r => !(a == 69 || a == 79 || a == 83 || a == 78) && (a != 40 || (match r with | b :: _ => !(b == 69 || b == 79 || b == 83 || b == 78) | [] => false))
  | [] => false

theorem plain_app {s : List UInt8} (r : List UInt8) (h : plain s = true) : plain (s ++ r) = true := by
  match s, h with
  | [a], h => simp [plain] at h ⊢; simp [h]
  | a :: b :: l, h => simpa [plain] using h

theorem plain_par {s : List UInt8} (h : plain s = true) : plain (40 :: s) = true := by
  match s, h with
  | a :: l, h => simp [plain] at h ⊢; exact h.1

theorem plain_ty {m : Nat} {t : Ty} (h : Made m t) : plain (showT t) = true ∧ plain (leftW t (showT t)) = true := by
  induction h with
  | va m => simp [showT, argsP, leftW, plain]
  | vb m => simp [showT, argsP, leftW, plain]
  | vc m => simp [showT, argsP, leftW, plain]
  | int m => simp [showT, argsP, leftW, plain]
  | bool m => simp [showT, argsP, leftW, plain]
  | list m t _ i => simp [showT, argsP, leftW, plain]
  | pair m t u _ _ i j => simp [showT, argsP, leftW, plain]
  | fn m t u _ _ i j =>
    have e : showT (.mk 3 [] [t, u]) = leftW t (showT t) ++ ([32, 45, 62, 32] ++ showT u) := by simp [showT, leftP, sndP, fstP]
    have g : plain (showT (.mk 3 [] [t, u])) = true := by rw [e]; exact plain_app _ i.2
    refine ⟨g, ?_⟩
    have : leftW (.mk 3 [] [t, u]) (showT (.mk 3 [] [t, u])) = 40 :: (showT (.mk 3 [] [t, u]) ++ [41]) := by simp [leftW]
    rw [this]
    exact plain_par (plain_app _ g)

theorem rdPr_none {a : UInt8} {r : List UInt8} (h : (a == 69 || a == 79 || a == 83 || a == 78) = false) : rdPr (a :: r) = none := by
  simp at h
  unfold rdPr
  split <;> simp_all

theorem rdCtx_plain {s : List UInt8} (h : plain s = true) : rdCtx s = some ([], s) := by
  match s, h with
  | a :: r, h =>
    simp only [plain, Bool.and_eq_true, Bool.not_eq_true'] at h
    obtain ⟨h1, h2⟩ := h
    unfold rdCtx
    rw [rdPr_none h1]
    simp only
    split
    · rename_i r' he
      simp at he
      obtain ⟨rfl, rfl⟩ := he
      match r, h2 with
      | b :: r, h2 =>
        simp only [bne_self_eq_false, Bool.false_or, Bool.not_eq_true'] at h2
        rw [rdPr_none h2]
      | [], h2 => simp at h2
    · rfl

theorem rd_ctx (l : List (List UInt8 × Ty)) (hl : ∀ p ∈ l, PrOk p) (hn : l.length ≤ 4) (s : List UInt8) (hs : plain s = true) : rdCtx (ctxS l ++ s) = some (l, s) := by
  match l, hl, hn with
  | [], _, _ => simpa [ctxS] using rdCtx_plain hs
  | [p], hl, _ =>
    have h1 := rd_pr p (hl p (by simp)) ([32, 61, 62, 32] ++ s)
    unfold rdCtx
    simp only [ctxS, List.append_assoc, h1]
    rfl
  | p :: q :: l, hl, hn =>
    have h1 := rd_pr p (hl p (by simp))
    have h2 := rd_rest (q :: l) 4 s (fun r hr => hl r (by simp [hr])) (by simp at hn ⊢; omega)
    have e : ctxS (p :: q :: l) ++ s = 40 :: (shP p ++ (Lib.joinTail [44, 32] (List.map shP (q :: l)) ++ [41, 32, 61, 62, 32] ++ s)) := by
      simp [ctxS, Lib.join_cons]
    rw [e]
    unfold rdCtx
    have g : rdPr (40 :: (shP p ++ (Lib.joinTail [44, 32] (List.map shP (q :: l)) ++ [41, 32, 61, 62, 32] ++ s))) = none := rdPr_none (by decide)
    rw [g]
    simp only [h1, h2, Option.map_some]

/-- Unlike schemes have unlike texts. -/
theorem scheme_inj {m m' : Nat} {l l' : List (List UInt8 × Ty)} {t u : Ty} (hl : ∀ p ∈ l, PrOk p) (hl' : ∀ p ∈ l', PrOk p) (hn : l.length ≤ 4) (hn' : l'.length ≤ 4) (ht : Made m t) (hu : Made m' u)
    (h : ctxS l ++ showT t = ctxS l' ++ showT u) : l = l' ∧ t = u := by
  have h1 := rd_ctx l hl hn _ (plain_ty ht).1
  have h2 := rd_ctx l' hl' hn' _ (plain_ty hu).1
  rw [h, h2] at h1
  simp at h1
  exact ⟨h1.1.symm, made_inj ht hu h1.2.symm⟩

def beqPs : List (List UInt8 × Ty) → List (List UInt8 × Ty) → Bool
  | [], [] => true
  | a :: l, b :: m => (a.1 == b.1 && beqT a.2 b.2) && beqPs l m
  | [], _ :: _ => false
  | _ :: _, [] => false

theorem beqPs_iff : ∀ a b : List (List UInt8 × Ty), beqPs a b = true ↔ a = b
  | [], [] => by simp [beqPs]
  | (a1, a2) :: l, (b1, b2) :: m => by simp [beqPs, beqT_iff, beqPs_iff l m]
  | [], _ :: _ => by simp [beqPs]
  | _ :: _, [] => by simp [beqPs]

theorem beq_show {m m' : Nat} {t u : Ty} (ht : Made m t) (hu : Made m' u) : (showT t == showT u) = beqT t u := by
  rw [Bool.eq_iff_iff, beq_iff_eq, beqT_iff]
  exact ⟨made_inj ht hu, fun h => by rw [h]⟩

theorem beq_scheme {m m' : Nat} {l l' : List (List UInt8 × Ty)} {t u : Ty} (hl : ∀ p ∈ l, PrOk p) (hl' : ∀ p ∈ l', PrOk p) (hn : l.length ≤ 4) (hn' : l'.length ≤ 4) (ht : Made m t) (hu : Made m' u) :
    (ctxS l ++ showT t == ctxS l' ++ showT u) = (beqPs l l' && beqT t u) := by
  rw [Bool.eq_iff_iff, beq_iff_eq, Bool.and_eq_true, beqT_iff, beqPs_iff]
  exact ⟨scheme_inj hl hl' hn hn' ht hu, fun h => by rw [h.1, h.2]⟩

end Go.At
