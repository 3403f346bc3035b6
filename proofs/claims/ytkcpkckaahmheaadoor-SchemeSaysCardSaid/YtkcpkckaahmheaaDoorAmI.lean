/- internal/strconv.FormatInt at base ten, taken whole by the abstract machine, by its contract, which leans on the table of powers. -/
import Derived.Test.YtkcpkckaahmheaaDoorAmJ
import Derived.Test.YtkcpkckaahmheaaDoorAmZ
import Derived.Sort.Grow
import Derived.Deep.Draws
namespace Go.Am
open Go.RowKit Go.Sort

/-- What a number's digits come to. -/
def itoaP : List V → Option V
  | [.int .i64 n, .int .i64 10] => if -9223372036854775808 ≤ n ∧ n ≤ 9223372036854775807 then some (.str (Lib.itoa n)) else none
  | _ => none

theorem itoaP_ok {P : Program} {KG : List Nat} {f g : Nat} {fn : Func} (hfn : P.funcs[f]? = some fn) (hbody : fn.body.isNone = false) (hname : (fn.name == "runtime.NumGoroutine") = false)
    (hg : P.globalNamed "internal/strconv.uint64pow10" = some g) (hk : 2000000 + g ∈ KG)
    (h1 : ∀ (n : Int) (_ : -9223372036854775808 ≤ n) (_ : n ≤ 9223372036854775807) (w : World), Lib.TabIs P w "internal/strconv.uint64pow10" .u64 Lib.pow10Tab →
      Calls P f #[.int .i64 n, .int .i64 10] w fun e w' => e = .returned (.string ⟨(Lib.itoa n).toArray⟩) ∧ ∃ k os, w' = grow (w.drewN k) os) (hgl : g < 1000000 := by decide) : PrimOkG P KG f itoaP := by
  intro args v hp γ w h cargs hgo hh hargs
  obtain ⟨k1, k2, k3⟩ := hargs
  unfold itoaP at hp
  split at hp
  · rename_i n
    split at hp
    · rename_i hn
      cases hp
      obtain ⟨cl⟩ := cargs
      match cl, k1 with
      | [x, y], _ =>
        have hx := k3 0 _ x rfl rfl
        have hy := k3 1 _ y rfl rfl
        cases hx
        cases hy
        obtain ⟨t1, t2, t, fl, t3⟩ := hgo.tab g hgl hk
        have htab : Lib.TabIs P w "internal/strconv.uint64pow10" .u64 Lib.pow10Tab := by
          unfold Lib.TabIs World.var?
          rw [hg]
          simp only [Option.bind_some, t3]
          rfl
        refine came_of hfn hbody hname hh (c := .string ⟨(Lib.itoa n).toArray⟩) (fun w' => .str _ _ (by simp)) ((h1 n hn.1 hn.2 w htab).mono ?_)
        rintro e w' ⟨rfl, k, os, rfl⟩
        refine ⟨rfl, rfl, rfl, rfl, ?_, fun b hb => ?_⟩
        · simp [grow, World.drewN]
        · simp [grow, World.drewN, Array.getElem?_append_left hb]
    · cases hp
  · cases hp

/-- What a letter's or a count's digits come to, without a sign. -/
def utoaP : List V → Option V
  | [.int .u64 n, .int .i64 10] => if 0 ≤ n ∧ n ≤ 18446744073709551615 then some (.str (Lib.decDigits n.toNat)) else none
  | _ => none

theorem utoaP_ok {P : Program} {KG : List Nat} {f g : Nat} {fn : Func} (hfn : P.funcs[f]? = some fn) (hbody : fn.body.isNone = false) (hname : (fn.name == "runtime.NumGoroutine") = false)
    (hg : P.globalNamed "internal/strconv.uint64pow10" = some g) (hk : 2000000 + g ∈ KG)
    (h1 : ∀ (u : Nat) (_ : u < 18446744073709551616) (w : World), Lib.TabIs P w "internal/strconv.uint64pow10" .u64 Lib.pow10Tab →
      Calls P f #[.int .u64 u, .int .i64 10] w fun e w' => e = .returned (.string ⟨(Lib.decDigits u).toArray⟩) ∧ ∃ k os, w' = grow (w.drewN k) os) (hgl : g < 1000000 := by decide) : PrimOkG P KG f utoaP := by
  intro args v hp γ w h cargs hgo hh hargs
  obtain ⟨k1, k2, k3⟩ := hargs
  unfold utoaP at hp
  split at hp
  · rename_i n
    split at hp
    · rename_i hn
      cases hp
      obtain ⟨cl⟩ := cargs
      match cl, k1 with
      | [x, y], _ =>
        have hx := k3 0 _ x rfl rfl
        have hy := k3 1 _ y rfl rfl
        cases hx
        cases hy
        obtain ⟨m, rfl⟩ : ∃ m : Nat, n = m := ⟨n.toNat, by omega⟩
        obtain ⟨t1, t2, t, fl, t3⟩ := hgo.tab g hgl hk
        have htab : Lib.TabIs P w "internal/strconv.uint64pow10" .u64 Lib.pow10Tab := by
          unfold Lib.TabIs World.var?
          rw [hg]
          simp only [Option.bind_some, t3]
          rfl
        refine came_of hfn hbody hname hh (c := .string ⟨(Lib.decDigits m).toArray⟩) (fun w' => .str _ _ (by simp)) ((h1 m (by omega) w htab).mono ?_)
        rintro e w' ⟨rfl, k, os, rfl⟩
        refine ⟨rfl, rfl, rfl, rfl, ?_, fun b hb => ?_⟩
        · simp [grow, World.drewN]
        · simp [grow, World.drewN, Array.getElem?_append_left hb]
    · cases hp
  · cases hp

/-- The digits of a number below a hundred. -/
def digs (n : Nat) : List UInt8 := if n < 10 then [UInt8.ofNat (48 + n)] else [UInt8.ofNat (48 + n / 10), UInt8.ofNat (48 + n % 10)]
theorem digs_eq {n : Nat} (h : n < 100) : Lib.decDigits n = digs n := by
  rw [Lib.decDigits]
  split
  · rename_i h1; rw [digs, if_pos h1]
  · rename_i h1
    rw [Lib.decDigits, dif_pos (by omega), digs, if_neg h1]
    rfl

def itoaSP : List V → Option V
  | [.int .i64 n, .int .i64 10] => if 0 ≤ n ∧ n < 100 then some (.str (digs n.toNat)) else none
  | _ => none

theorem itoaS_ok {P : Program} {KG : List Nat} {f : Nat} {fn : Func} (hfn : P.funcs[f]? = some fn) (hbody : fn.body.isNone = false) (hname : (fn.name == "runtime.NumGoroutine") = false)
    (h1 : ∀ (i : Nat) (_ : i < 100) (w : World), Calls P f #[.int .i64 i, .int .i64 10] w fun e w' => e = .returned (.string ⟨(Lib.decDigits i).toArray⟩) ∧ w' = w) : PrimOkG P KG f itoaSP := by
  intro args v hp γ w h cargs hgo hh hargs
  obtain ⟨k1, k2, k3⟩ := hargs
  unfold itoaSP at hp
  split at hp
  · rename_i n
    split at hp
    · rename_i hn
      cases hp
      obtain ⟨cl⟩ := cargs
      match cl, k1 with
      | [x, y], _ =>
        have hx := k3 0 _ x rfl rfl
        have hy := k3 1 _ y rfl rfl
        cases hx
        cases hy
        obtain ⟨m, rfl⟩ : ∃ m : Nat, n = m := ⟨n.toNat, by omega⟩
        refine came_of hfn hbody hname hh (c := .string ⟨(Lib.decDigits m).toArray⟩) (fun w' => .str _ _ (by rw [digs_eq (by omega)]; simp)) ((h1 m (by omega) w).mono ?_)
        rintro e w' ⟨rfl, rfl⟩
        exact ⟨rfl, Below.refl _ _⟩
    · cases hp
  · cases hp

/-- A table is as the row lists it. -/
theorem tabAt_of {P : Program} {W : World} {g : Nat} {nm : String} {k : IntKind} {l : List Int} (hg : P.globalNamed nm = some g) (h : Lib.TabIs P W nm k l) : TabAt (gh0 W) W g (l.map fun z => Value.int k z).toArray := by
  unfold Lib.TabIs World.var? at h
  rw [hg] at h
  simp only [Option.bind_some] at h
  cases hh : W.heap[g]? with
  | none => rw [hh] at h; cases h
  | some o =>
    rw [hh] at h
    cases o <;> simp only [Option.some.injEq] at h <;> first | (cases h; done) | skip
    exact ⟨(Array.getElem?_eq_some_iff.1 hh).1, fun r hr => absurd hr (by simp [gh0]), _, _, by rw [hh, h]⟩

theorem tabAt_pow {P : Program} {W : World} {g : Nat} (hg : P.globalNamed "internal/strconv.uint64pow10" = some g) (h : Lib.TabIs P W "internal/strconv.uint64pow10" .u64 Lib.pow10Tab) : TabAt (gh0 W) W g powTab := tabAt_of hg h
theorem tabAt_spc {P : Program} {W : World} {g : Nat} (hg : P.globalNamed "strings.asciiSpace" = some g) (h : Lib.TabIs P W "strings.asciiSpace" .u8 Lib.asciiSpaceTab) : TabAt (gh0 W) W g spcTab := tabAt_of hg h

theorem gok_tab {P : Program} {W : World} {g : Nat} (hg : P.globalNamed "internal/strconv.uint64pow10" = some g) (h : Lib.TabIs P W "internal/strconv.uint64pow10" .u64 Lib.pow10Tab) (hgl : g < 1000000 := by decide) : GOk [2000000 + g] (gh0 W) W where
  var x hx hl := by simp at hx; omega
  sen te hte ht x hx hl := by simp at hx; omega
  tab x hl hx := by
    have : x = g := by simp at hx; omega
    subst this
    exact tabAt_pow hg h
  spc x hl hx := by simp at hx; omega
  num x hl hx := by simp at hx; omega

/-- Listed errors and tables, together. -/
theorem GOk.more {γ : Gh} {w : World} {KE KT : List Nat} (h : GOk KE γ w) (h1 : ∀ x ∈ KE, x < 2000000) (h2 : ∀ x ∈ KT, 2000000 ≤ x) (ht : ∀ g, g < 1000000 → 2000000 + g ∈ KT → TabAt γ w g powTab) (hs : ∀ g, g < 1000000 → 3000000 + g ∈ KT → TabAt γ w g spcTab) (hn : ∀ g, g < 1000000 → 4000000 + g ∈ KT → IntAt γ w g := by intro g hl hg; simp at hg; omega) : GOk (KE ++ KT) γ w := by
  have lo : ∀ x ∈ KE ++ KT, x < 2000000 → x ∈ KE := fun x hx hl => by
    rcases List.mem_append.1 hx with h | h
    · exact h
    · have := h2 x h; omega
  have hi : ∀ x ∈ KE ++ KT, 2000000 ≤ x → x ∈ KT := fun x hx hl => by
    rcases List.mem_append.1 hx with h | h
    · have := h1 x h; omega
    · exact h
  refine ⟨fun g hg hl => h.var g (lo g hg (Nat.lt_trans hl (by decide))) hl, fun te hte hm g hg hl => ?_, fun g hl hg => ht g hl (hi _ hg (Nat.le_add_right _ _)), fun g hl hg => hs g hl (hi _ hg (Nat.le_trans (by decide) (Nat.le_add_right _ _))), fun g hl hg => hn g hl (hi _ hg (Nat.le_trans (by decide) (Nat.le_add_right _ _)))⟩
  have hte' : 1000000 + te < 2000000 := Nat.add_lt_add_left hte 1000000
  obtain ⟨a, h3, h4⟩ := h.sen te hte (lo _ hm hte') g (lo g hg (Nat.lt_trans hl (by decide))) hl
  exact ⟨a, h3, fun g' hg' hl' hc => h4 g' (lo g' hg' (Nat.lt_trans hl' (by decide))) hl' hc⟩

theorem gok_nil {γ : Gh} {w : World} : GOk [] γ w := ⟨fun g hg => (by cases hg), fun te _ ht => (by cases ht), fun g _ hg => (by cases hg), fun g _ hg => (by cases hg), fun g _ hg => (by cases hg)⟩

end Go.Am
