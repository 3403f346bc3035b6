/- New names for variables, and back: plain law. -/
import Derived.Test.YtgngmbnbldkgnaaDoorStX0
import Derived.Lib.ItoaNum
namespace Go.St
open Go.Am Go.Proofs

/-- What digits come to. -/
def valN (d : List UInt8) : Int := d.foldl (fun v b => 10 * v + ((b.toNat : Int) - 48)) 0
theorem valN_dec : ∀ (m u : Nat), u < 10 ^ m → valN (Lib.decDigits u) = u ∧ 1 ≤ (Lib.decDigits u).length ∧ (Lib.decDigits u).length ≤ max m 1 := by
  have dg : ∀ {k : Nat}, k < 10 → (UInt8.ofNat (48 + k)).toNat = 48 + k := fun h => by rw [UInt8.toNat_ofNat']; omega
  have snoc : ∀ (d : List UInt8) (b : UInt8), valN (d ++ [b]) = 10 * valN d + ((b.toNat : Int) - 48) := fun d b => by simp [valN, List.foldl_append]
  intro m
  induction m with
  | zero =>
    intro u h
    have : u = 0 := by simpa using h
    subst this
    rw [Lib.decDigits, dif_pos (by omega)]
    exact ⟨by simp [valN], by simp, by simp⟩
  | succ m ih =>
    intro u h
    rw [Lib.decDigits]
    split
    · rename_i h1
      refine ⟨?_, by simp, by simp <;> omega⟩
      simp only [valN, List.foldl_cons, List.foldl_nil, dg h1]; omega
    · rename_i h1
      have hm : m ≠ 0 := fun e => by subst e; simp at h; omega
      obtain ⟨g2, g3, g4⟩ := ih (u / 10) (by rw [Nat.pow_succ] at h; omega)
      exact ⟨by rw [snoc, g2, dg (by omega)]; omega, by simp, by simp; omega⟩

/-- The k-th new name. -/
def fr (k : Nat) : Nam := 63 :: Lib.itoa (k : Int)
theorem fr_eq (k : Nat) : fr k = 63 :: Lib.decDigits k := by rw [fr, Lib.itoa, if_neg (by omega)]; rfl
theorem fr_inj {i j : Nat} (hi : i < 10 ^ 6) (hj : j < 10 ^ 6) (h : fr i = fr j) : i = j := by
  rw [fr_eq, fr_eq] at h
  have h := (List.cons.inj h).2
  have a := (valN_dec 6 i hi).1
  have b := (valN_dec 6 j hj).1
  rw [h, b] at a
  omega
theorem fr_len {k : Nat} (h : k < 10 ^ 6) : 2 ≤ (fr k).length ∧ (fr k).length ≤ 7 := by
  obtain ⟨_, h1, h2⟩ := valN_dec 6 k h
  rw [fr_eq, List.length_cons]
  omega

def frs (k n : Nat) : List Nam := (List.range n).map fun i => fr (k + i)
theorem frs_len (k n : Nat) : (frs k n).length = n := by simp [frs]
theorem frs_get (k n i : Nat) (h : i < (frs k n).length) : (frs k n)[i] = fr (k + i) := by simp [frs]
theorem frs_nodup {k n : Nat} (h : k + n < 10 ^ 6) : (frs k n).Nodup := by
  refine List.nodup_iff_pairwise_ne.2 (List.pairwise_map.2 ?_)
  refine List.Pairwise.imp_of_mem (R := (· ≠ ·)) (fun {a b} ha hb hab e => hab ?_) List.nodup_range
  rw [List.mem_range] at ha hb
  have := fr_inj (by omega) (by omega) e
  omega

/-- Pairs of names and variables. -/
def zipE (A B : List Nam) : En := A.zipWith (fun a b => (a, var b)) B
theorem zipE_fst : ∀ {A B : List Nam}, A.length = B.length → (zipE A B).map (·.1) = A
  | [], [], _ => rfl
  | a :: A, b :: B, h => by
    have := zipE_fst (A := A) (B := B) (by simpa using h)
    simp only [zipE] at this
    simp only [zipE, List.zipWith_cons_cons, List.map_cons, this]
  | [], _ :: _, h => by simp at h
  | _ :: _, [], h => by simp at h
theorem zipE_len {A B : List Nam} (h : A.length = B.length) : (zipE A B).length = A.length := by simp [zipE, h]
theorem zipE_look : ∀ {A B : List Nam}, A.Nodup → A.length = B.length → ∀ (j : Nat) (h1 : j < A.length) (h2 : j < B.length), look (zipE A B) A[j] = some (var B[j])
  | a :: A, b :: B, hn, hl, 0, _, _ => by simp [zipE, look]
  | a :: A, b :: B, hn, hl, j + 1, h1, h2 => by
    have hn := List.nodup_cons.1 hn
    have ih := zipE_look hn.2 (by simpa using hl) j (by simpa using h1) (by simpa using h2)
    have hne : ¬ A[j]'(by simpa using h1) = a := fun e => hn.1 (e ▸ List.getElem_mem (by simpa using h1))
    simp only [zipE] at ih
    simp only [zipE, List.zipWith_cons_cons, look, List.getElem_cons_succ]
    first
      | (rw [if_neg hne]; exact ih)
      | (rw [if_neg (fun e => hne e.symm)]; exact ih)
  | [], _, _, _, j, h1, _ => by simp at h1
  | _ :: _, [], _, hl, j, _, _ => by simp at hl
theorem zipE_mem {A B : List Nam} {p : Nam × Ty} (h : p ∈ zipE A B) : ∃ b ∈ B, p.2 = var b := by
  induction A generalizing B with
  | nil => simp [zipE] at h
  | cons a A ih =>
    cases B with
    | nil => simp [zipE] at h
    | cons b B =>
      simp only [zipE, List.zipWith_cons_cons, List.mem_cons] at h
      rcases h with rfl | h
      · exact ⟨b, by simp, rfl⟩
      · obtain ⟨c, hc, e⟩ := ih h
        exact ⟨c, by simp [hc], e⟩

/-- There and back. -/
theorem back_ty {A B : List Nam} (hA : A.Nodup) (hB : B.Nodup) (hl : A.length = B.length) {t : Ty} (ht : fine t = true) (hv : ∀ y, occ y t = true → y ∈ A) : apT (look (zipE B A)) (apT (look (zipE A B)) t) = t := by
  have h1 : fine (apT (look (zipE A B)) t) = true := ap_fine _ (fun x u hx => by
    obtain ⟨b, _, e⟩ := zipE_mem (look_mem hx)
    simp only at e
    subst e
    rfl) t ht
  rw [ap_hat _ _ h1, ap_hat _ _ ht, hat_hat]
  rw [hat_congr (η := var) t fun y hy => ?_, hat_id t ht]
  obtain ⟨j, hj, rfl⟩ := List.getElem_of_mem (hv y hy)
  have e1 := zipE_look hA hl j hj (by omega)
  have e2 := zipE_look hB hl.symm j (by omega) hj
  have s1 : sg (look (zipE A B)) A[j] = var (B[j]'(by omega)) := by simp only [sg, e1, Option.getD_some]
  have s2 : sg (look (zipE B A)) (B[j]'(by omega)) = var A[j] := by simp only [sg, e2, Option.getD_some]
  rw [s1, var, hat_var, s2]

end Go.St
