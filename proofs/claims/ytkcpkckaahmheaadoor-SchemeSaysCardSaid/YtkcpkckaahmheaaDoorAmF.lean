/- strings.Fields on letters below 128, taken whole by the abstract machine, by its contract, which leans on the table of blanks. -/
import Derived.Test.YtkcpkckaahmheaaDoorAmI
import Derived.Shelf.Strings.Fields
namespace Go.Am
open Go.RowKit

def asciiB : List UInt8 → Bool
  | [] => true
  | b :: l => decide (b.toNat < 128) && asciiB l
theorem asciiB_ok : ∀ {l : List UInt8}, asciiB l = true → ∀ (j : Nat) b, l[j]? = some b → b.toNat < 128
  | [], _, j, b, h => by simp at h
  | c :: l, h, j, b, hj => by
    simp only [asciiB, Bool.and_eq_true, decide_eq_true_eq] at h
    cases j with
    | zero => simp at hj; subst hj; exact h.1
    | succ j => exact asciiB_ok h.2 j b (by simpa using hj)

/-- What strings.Fields comes to. -/
def fieldsP : List V → Option V
  | [.str s] => if asciiB s = true ∧ s.length < 4294967281 then some (.sl .frozen ((Lib.fields s).map .str)) else none
  | _ => none

theorem fieldsP_ok {P : Program} {KG : List Nat} {f g t : Nat} {fn : Func} (hfn : P.funcs[f]? = some fn) (hbody : fn.body.isNone = false) (hname : (fn.name == "runtime.NumGoroutine") = false)
    (hg : P.globalNamed "strings.asciiSpace" = some g) (hk : 3000000 + g ∈ KG)
    (h1 : ∀ (s : ByteArray) (w : World), s.size < 4294967281 → (∀ (j : Nat) b, s.data.toList[j]? = some b → b.toNat < 128) → Lib.TabIs P w "strings.asciiSpace" .u8 Lib.asciiSpaceTab →
      Calls P f #[.string s] w fun e w' => e = .returned (.slice (some ⟨w.heap.size, 0, none⟩) (Lib.fields s.data.toList).length (Lib.fields s.data.toList).length) ∧ w' = w.alloc (.cells ((Lib.fields s.data.toList).map fun l => Value.string ⟨l.toArray⟩).toArray t)) (hgl : g < 1000000 := by decide) : PrimOkG P KG f fieldsP := by
  intro args v hp γ w h cargs hgo hh hargs
  obtain ⟨k1, k2, k3⟩ := hargs
  unfold fieldsP at hp
  split at hp
  · rename_i s
    split at hp
    · rename_i hs
      cases hp
      obtain ⟨cl⟩ := cargs
      match cl, k1 with
      | [x], _ =>
        have hx := k3 0 _ x rfl rfl
        cases hx with
        | str _ b hb =>
          subst hb
          obtain ⟨t1, t2, tt, fl, t3⟩ := hgo.spc g hgl hk
          have htab : Lib.TabIs P w "strings.asciiSpace" .u8 Lib.asciiSpaceTab := by
            unfold Lib.TabIs World.var?
            rw [hg]
            simp only [Option.bind_some, t3]
            rfl
          have hsz : b.size < 4294967281 := by have := hs.2; rwa [← Lib.size_eq] at this
          refine .inl ⟨?_, (h1 b w hsz (asciiB_ok hs.1) htab).mono ?_⟩
          · simp only [callFunc, Sem.run_bind, run_program, Result.andThen_ok, hfn, hname, hbody, Bool.false_eq_true, if_false, Sem.run_pure]
          rintro e w' ⟨rfl, rfl⟩
          generalize Lib.fields b.data.toList = L
          obtain ⟨hev, hh'⟩ := Ev.shutNew hh (.cells (L.map fun l => Value.string ⟨l.toArray⟩).toArray t) L.length
          refine ⟨_, rfl, _, ?_, hh', hev⟩
          have hl : (L.map V.str).length = L.length := by simp
          have key := RelV.sl (γ := γ.shut w.heap.size L.length) (w := w.alloc (.cells (L.map fun l => Value.string ⟨l.toArray⟩).toArray t)) .frozen (L.map V.str) (some ⟨w.heap.size, 0, none⟩) L.length (fun i => .string ⟨(L.getD i []).toArray⟩) 1
            (by simp) trivial (fun e => by cases e) (fun a' e => by cases e; rfl)
            (fun i x hx => by
              simp only [List.getElem?_map, Option.map_eq_some_iff] at hx
              obtain ⟨y, hy, rfl⟩ := hx
              rw [List.getD_eq_getElem?_getD, hy]
              exact .str _ _ (by simp))
            (fun i x hx => by
              simp only [List.getElem?_map, Option.map_eq_some_iff] at hx
              obtain ⟨y, hy, rfl⟩ := hx
              exact ⟨rfl, rfl⟩)
            (fun i a' hi ha j u hj => by
              cases ha
              rw [hl] at hi
              cases j with
              | succ j => simp [Value.cells] at hj
              | zero =>
                simp [Value.cells] at hj
                subst hj
                refine ⟨by simp [Gh.shut]; omega, ?_⟩
                have := World.cell?_alloc_new w (L.map fun l => Value.string ⟨l.toArray⟩).toArray t i
                simp only [Nat.zero_add, Nat.mul_one, Nat.add_zero]
                rw [this]
                simp [hi])
          rw [hl] at key
          exact key
    · cases hp
  · cases hp

/-- math/bits.Mul: the product in two words. -/
def mulP : List V → Option V
  | [.int .u64 x, .int .u64 y] => if 0 ≤ x ∧ x < 18446744073709551616 ∧ 0 ≤ y ∧ y < 18446744073709551616 then some (.tup [.int .u64 (x * y / 18446744073709551616), .int .u64 (x * y % 18446744073709551616)]) else none
  | _ => none

theorem mulP_ok {P : Program} {KG : List Nat} {f : Nat} {fn : Func} (hfn : P.funcs[f]? = some fn) (hbody : fn.body.isNone = false) (hname : (fn.name == "runtime.NumGoroutine") = false)
    (h1 : ∀ (x y : Nat) (_ : x < 18446744073709551616) (_ : y < 18446744073709551616) (w : World), Calls P f #[.int .u64 x, .int .u64 y] w fun e w' => e = .returned (.tuple #[.int .u64 ((x * y / 18446744073709551616 : Nat) : Int), .int .u64 ((x * y % 18446744073709551616 : Nat) : Int)]) ∧ w' = w) : PrimOkG P KG f mulP := by
  intro args v hp γ w h cargs hgo hh hargs
  obtain ⟨k1, k2, k3⟩ := hargs
  unfold mulP at hp
  split at hp
  · rename_i x y
    split at hp
    · rename_i hn
      cases hp
      obtain ⟨cl⟩ := cargs
      match cl, k1 with
      | [u, u'], _ =>
        have hx := k3 0 _ u rfl rfl
        have hy := k3 1 _ u' rfl rfl
        cases hx
        cases hy
        obtain ⟨m, rfl⟩ : ∃ m : Nat, x = m := ⟨x.toNat, by omega⟩
        obtain ⟨k, rfl⟩ : ∃ k : Nat, y = k := ⟨y.toNat, by omega⟩
        refine came_of hfn hbody hname hh (c := .tuple #[.int .u64 ((m * k / 18446744073709551616 : Nat) : Int), .int .u64 ((m * k % 18446744073709551616 : Nat) : Int)]) (fun w' => .tup _ _ rfl fun i x u hx hu => ?_) ((h1 m k (by omega) (by omega) w).mono ?_)
        · match i with
          | 0 => cases hx; cases hu; exact .int _ _
          | 1 => cases hx; cases hu; exact .int _ _
          | i + 2 => simp at hx
        · rintro e w' ⟨rfl, rfl⟩
          exact ⟨rfl, Below.refl _ _⟩
    · cases hp
  · cases hp

/-- strconv.Itoa of a small number. -/
def itoa1P : List V → Option V
  | [.int .i64 n] => if 0 ≤ n ∧ n < 100 then some (.str (digs n.toNat)) else none
  | _ => none

theorem itoa1_ok {P : Program} {KG : List Nat} {f : Nat} {fn : Func} (hfn : P.funcs[f]? = some fn) (hbody : fn.body.isNone = false) (hname : (fn.name == "runtime.NumGoroutine") = false)
    (h1 : ∀ (i : Nat) (_ : i < 100) (w : World), Calls P f #[.int .i64 i] w fun e w' => e = .returned (.string ⟨(Lib.decDigits i).toArray⟩) ∧ w' = w) : PrimOkG P KG f itoa1P := by
  intro args v hp γ w h cargs hgo hh hargs
  obtain ⟨k1, k2, k3⟩ := hargs
  unfold itoa1P at hp
  split at hp
  · rename_i n
    split at hp
    · rename_i hn
      cases hp
      obtain ⟨cl⟩ := cargs
      match cl, k1 with
      | [x], _ =>
        have hx := k3 0 _ x rfl rfl
        cases hx
        obtain ⟨m, rfl⟩ : ∃ m : Nat, n = m := ⟨n.toNat, by omega⟩
        refine came_of hfn hbody hname hh (c := .string ⟨(Lib.decDigits m).toArray⟩) (fun w' => .str _ _ (by rw [digs_eq (by omega)]; simp)) ((h1 m (by omega) w).mono ?_)
        rintro e w' ⟨rfl, rfl⟩
        exact ⟨rfl, Below.refl _ _⟩
    · cases hp
  · cases hp

end Go.Am
