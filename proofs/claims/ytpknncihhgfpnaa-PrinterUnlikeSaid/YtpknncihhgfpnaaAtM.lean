/- Types as the maker makes them; their texts tell them apart. -/
import Derived.Test.YtpknncihhgfpnaaAtP2
import Derived.Test.YtpknncihhgfpnaaAtMd
namespace Go.At
open Go.Am Go.Proofs
set_option maxRecDepth 100000

theorem Made.len {m : Nat} {t : Ty} (h : Made m t) : (showT t).length + 12 ≤ 16 * 2 ^ m := by
  have pw : ∀ m, 1 ≤ 2 ^ m := fun m => Nat.one_le_two_pow
  induction h with
  | va m => have := pw m; simp [showT, argsP]; omega
  | vb m => have := pw m; simp [showT, argsP]; omega
  | vc m => have := pw m; simp [showT, argsP]; omega
  | int m => have := pw m; simp [showT, argsP]; omega
  | bool m => have := pw m; simp [showT, argsP]; omega
  | list m t _ i =>
    have := argW_len t (showT t)
    have := pw m
    simp [showT, argsP, Nat.pow_succ]; omega
  | pair m t u _ _ i j =>
    have := argW_len t (showT t)
    have := argW_len u (showT u)
    simp [showT, argsP, Nat.pow_succ]; omega
  | fn m t u _ _ i j =>
    have := leftW_len t (showT t)
    simp [showT, leftP, sndP, fstP, Nat.pow_succ]; omega

/- Reading a type. -/
mutual
def rdArg : Nat → List UInt8 → Option (Ty × List UInt8)
  | 0, _ => none
  | n + 1, s => match s with
    | 97 :: r => some (.mk 1 [97] [], r)
    | 98 :: r => some (.mk 1 [98] [], r)
    | 99 :: r => some (.mk 1 [99] [], r)
    | 73 :: r => some (.mk 2 [73, 110, 116] [], r.drop 2)
    | 66 :: r => some (.mk 2 [66, 111, 111, 108] [], r.drop 3)
    | 40 :: r => (rdTy n r).map fun x => (x.1, x.2.drop 1)
    | _ => none
def rdApp : Nat → List UInt8 → Option (Ty × List UInt8)
  | 0, _ => none
  | n + 1, s => match s with
    | 76 :: r => (rdArg n (r.drop 4)).map fun x => (.mk 2 [76, 105, 115, 116] [x.1], x.2)
    | 80 :: r => (rdArg n (r.drop 4)).bind fun x => (rdArg n (x.2.drop 1)).map fun y => (.mk 2 [80, 97, 105, 114] [x.1, y.1], y.2)
    | s => rdArg n s
def rdTy : Nat → List UInt8 → Option (Ty × List UInt8)
  | 0, _ => none
  | n + 1, s => (rdApp n s).bind fun x => match x.2 with
    | 32 :: 45 :: r => (rdTy n (r.drop 2)).map fun y => (.mk 3 [] [x.1, y.1], y.2)
    | r => some (x.1, r)
end

/-- No arrow comes. -/
def noArr : List UInt8 → Prop
  | 32 :: 45 :: _ => False
  | _ => True

theorem rd_all : ∀ (m : Nat) (t : Ty), Made m t → (∀ n r, 4 * m + 4 ≤ n → rdArg n (argW t (showT t) ++ r) = some (t, r)) ∧ (∀ n r, 4 * m + 5 ≤ n → rdApp n (leftW t (showT t) ++ r) = some (t, r)) ∧ (∀ n r, 4 * m + 3 ≤ n → noArr r → rdTy n (showT t ++ r) = some (t, r)) := by
  have atom : ∀ (t : Ty) (s : List UInt8), showT t = s → leftW t s = s → argW t s = s → (∀ n r, rdArg (n + 1) (s ++ r) = some (t, r)) → (∀ n r, rdApp (n + 1) (s ++ r) = rdArg n (s ++ r)) →
      ∀ m, (∀ n r, 4 * m + 4 ≤ n → rdArg n (argW t (showT t) ++ r) = some (t, r)) ∧ (∀ n r, 4 * m + 5 ≤ n → rdApp n (leftW t (showT t) ++ r) = some (t, r)) ∧ (∀ n r, 4 * m + 3 ≤ n → noArr r → rdTy n (showT t ++ r) = some (t, r)) := by
    intro t s h1 h2 h3 h4 h5 m
    rw [h1, h2, h3]
    refine ⟨fun n r hn => ?_, fun n r hn => ?_, fun n r hn hr => ?_⟩
    · obtain ⟨k, rfl⟩ : ∃ k, n = k + 1 := ⟨n - 1, by omega⟩
      exact h4 _ _
    · obtain ⟨k, rfl⟩ : ∃ k, n = k + 1 + 1 := ⟨n - 2, by omega⟩
      rw [h5, h4]
    · obtain ⟨k, rfl⟩ : ∃ k, n = k + 1 + 1 + 1 := ⟨n - 3, by omega⟩
      simp only [rdTy, h5, h4, Option.bind_some]
      split
      · simp_all [noArr]
      · rfl
  -- from the reading of an application to that of a type
  have typ : ∀ (t : Ty) (s : List UInt8) (N : Nat), (∀ n r, N ≤ n → rdApp n (s ++ r) = some (t, r)) → ∀ n r, N + 1 ≤ n → noArr r → rdTy n (s ++ r) = some (t, r) := by
    intro t s N h n r hn hr
    obtain ⟨k, rfl⟩ : ∃ k, n = k + 1 := ⟨n - 1, by omega⟩
    simp only [rdTy, h k r (by omega), Option.bind_some]
    split
    · simp_all [noArr]
    · rfl
  have par : ∀ (t : Ty) (s : List UInt8) (N : Nat), (∀ n r, N ≤ n → noArr r → rdTy n (s ++ r) = some (t, r)) → ∀ n r, N + 1 ≤ n → rdArg n (40 :: (s ++ [41]) ++ r) = some (t, r) := by
    intro t s N h n r hn
    obtain ⟨k, rfl⟩ : ∃ k, n = k + 1 := ⟨n - 1, by omega⟩
    have := h k (41 :: r) (by omega) (by simp [noArr])
    simp only [List.cons_append, List.append_assoc, List.nil_append, rdArg, this, Option.map_some, List.drop_succ_cons, List.drop_zero]
  intro m t h
  induction h with
  | va m => exact atom _ [97] (by simp [showT, argsP]) (by simp [leftW]) (by simp [argW]) (fun n r => by simp [rdArg]) (fun n r => by simp [rdApp]) m
  | vb m => exact atom _ [98] (by simp [showT, argsP]) (by simp [leftW]) (by simp [argW]) (fun n r => by simp [rdArg]) (fun n r => by simp [rdApp]) m
  | vc m => exact atom _ [99] (by simp [showT, argsP]) (by simp [leftW]) (by simp [argW]) (fun n r => by simp [rdArg]) (fun n r => by simp [rdApp]) m
  | int m => exact atom _ [73, 110, 116] (by simp [showT, argsP]) (by simp [leftW]) (by simp [argW]) (fun n r => by simp [rdArg]) (fun n r => by simp [rdApp]) m
  | bool m => exact atom _ [66, 111, 111, 108] (by simp [showT, argsP]) (by simp [leftW]) (by simp [argW]) (fun n r => by simp [rdArg]) (fun n r => by simp [rdApp]) m
  | list m t _ i =>
    obtain ⟨ia, il, it⟩ := i
    have e : showT (.mk 2 [76, 105, 115, 116] [t]) = [76, 105, 115, 116, 32] ++ argW t (showT t) := by simp [showT, argsP]
    have app : ∀ n r, 4 * m + 5 ≤ n → rdApp n (showT (.mk 2 [76, 105, 115, 116] [t]) ++ r) = some (.mk 2 [76, 105, 115, 116] [t], r) := by
      intro n r hn
      obtain ⟨k, rfl⟩ : ∃ k, n = k + 1 := ⟨n - 1, by omega⟩
      rw [e]
      simp [rdApp, ia k r (by omega)]
    have ty := typ _ _ _ app
    have pr := par _ _ _ ty
    refine ⟨fun n r hn => ?_, fun n r hn => ?_, fun n r hn hr => ty n r (by omega) hr⟩
    · have : argW (.mk 2 [76, 105, 115, 116] [t]) (showT (.mk 2 [76, 105, 115, 116] [t])) = 40 :: (showT (.mk 2 [76, 105, 115, 116] [t]) ++ [41]) := by simp [argW]
      rw [this]
      exact pr n r (by omega)
    · have : leftW (.mk 2 [76, 105, 115, 116] [t]) (showT (.mk 2 [76, 105, 115, 116] [t])) = showT (.mk 2 [76, 105, 115, 116] [t]) := by simp [leftW]
      rw [this]
      exact app n r (by omega)
  | pair m t u _ _ i j =>
    obtain ⟨ia, il, it⟩ := i
    obtain ⟨ja, jl, jt⟩ := j
    have e : showT (.mk 2 [80, 97, 105, 114] [t, u]) = [80, 97, 105, 114, 32] ++ (argW t (showT t) ++ 32 :: argW u (showT u)) := by simp [showT, argsP]
    have app : ∀ n r, 4 * m + 5 ≤ n → rdApp n (showT (.mk 2 [80, 97, 105, 114] [t, u]) ++ r) = some (.mk 2 [80, 97, 105, 114] [t, u], r) := by
      intro n r hn
      obtain ⟨k, rfl⟩ : ∃ k, n = k + 1 := ⟨n - 1, by omega⟩
      rw [e]
      simp [rdApp, ia k _ (show 4 * m + 4 ≤ k by omega), ja k _ (show 4 * m + 4 ≤ k by omega)]
    have ty := typ _ _ _ app
    have pr := par _ _ _ ty
    refine ⟨fun n r hn => ?_, fun n r hn => ?_, fun n r hn hr => ty n r (by omega) hr⟩
    · have : argW (.mk 2 [80, 97, 105, 114] [t, u]) (showT (.mk 2 [80, 97, 105, 114] [t, u])) = 40 :: (showT (.mk 2 [80, 97, 105, 114] [t, u]) ++ [41]) := by simp [argW]
      rw [this]
      exact pr n r (by omega)
    · have : leftW (.mk 2 [80, 97, 105, 114] [t, u]) (showT (.mk 2 [80, 97, 105, 114] [t, u])) = showT (.mk 2 [80, 97, 105, 114] [t, u]) := by simp [leftW]
      rw [this]
      exact app n r (by omega)
  | fn m t u _ _ i j =>
    obtain ⟨ia, il, it⟩ := i
    obtain ⟨ja, jl, jt⟩ := j
    have e : showT (.mk 3 [] [t, u]) = leftW t (showT t) ++ (32 :: 45 :: 62 :: 32 :: showT u) := by simp [showT, leftP, sndP, fstP]
    have ty : ∀ n r, 4 * m + 6 ≤ n → noArr r → rdTy n (showT (.mk 3 [] [t, u]) ++ r) = some (.mk 3 [] [t, u], r) := by
      intro n r hn hr
      obtain ⟨k, rfl⟩ : ∃ k, n = k + 1 := ⟨n - 1, by omega⟩
      rw [e]
      simp [rdTy, il k _ (show 4 * m + 5 ≤ k by omega), jt k r (by omega) hr]
    have pr := par _ _ _ ty
    refine ⟨fun n r hn => ?_, fun n r hn => ?_, fun n r hn hr => ty n r (by omega) hr⟩
    · have : argW (.mk 3 [] [t, u]) (showT (.mk 3 [] [t, u])) = 40 :: (showT (.mk 3 [] [t, u]) ++ [41]) := by simp [argW]
      rw [this]
      exact pr n r (by omega)
    · obtain ⟨k, rfl⟩ : ∃ k, n = k + 1 := ⟨n - 1, by omega⟩
      have : leftW (.mk 3 [] [t, u]) (showT (.mk 3 [] [t, u])) = 40 :: (showT (.mk 3 [] [t, u]) ++ [41]) := by simp [leftW]
      rw [this]
      have := pr k r (by omega)
      simp only [List.cons_append] at this ⊢
      simp only [rdApp]
      exact this

end Go.At
