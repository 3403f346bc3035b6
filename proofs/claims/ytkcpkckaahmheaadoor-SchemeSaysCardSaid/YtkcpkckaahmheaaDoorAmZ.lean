/- From the abstract machine to a row: the arguments; the memory behind the call; the row's end. -/
import Derived.Test.YtkcpkckaahmheaaDoorAmX
import Derived.ProofKit
namespace Go.Am
open Go.ChangeShapes Go.WideShapes Go.ChangeAt Go.RowKit

/-- At a call's begin: no object is the machine's own; what is there will not be turned. -/
def gh0 (w : World) : Gh where
  n := 0
  prot b := match w.heap[b]? with
    | some (.cells c _ _) => c.size
    | _ => 0
  rho _ := 0
  kd _ := false
  ff _ := 0
  fc _ := 0
  tk _ := ⟨0, 0, none⟩
  bd _ := none

theorem hrel0 (w : World) : HRel (gh0 w) w [] := by
  refine ⟨rfl, fun r r' h => ?_, fun r o h => by simp at h, fun b hb => ?_⟩
  · simp [gh0] at h
  · simp [gh0, Array.getElem?_eq_none hb]

theorem cellsAt0 {w : World} {b o : Nat} {u : Value} (h : w.cell? ⟨b, o, none⟩ = some u) : CellsAt (gh0 w) w b o #[u] := by
  intro j x hx
  cases j with
  | succ j => simp at hx
  | zero =>
    simp at hx
    subst hx
    refine ⟨?_, h⟩
    unfold World.cell? at h
    simp only [gh0, Nat.add_zero]
    cases hh : w.heap[b]? with
    | none => simp [hh] at h
    | some ob =>
      cases ob with
      | map es cl => simp [hh] at h
      | cells c t fr =>
        simp [hh] at h
        simpa using (Array.getElem?_eq_some_iff.1 h).1
      | _ => simp [hh] at h

section
variable {P : Program} {H : Type} {enc : TypeId × Value → H} {W : World} {base b0 : Nat} {sp : Nat → Bool} {held : Bool} {r : Reach} {t e : TypeId} {v : Value} {d : DataW H} {ps : List MemPlace}

theorem arg_int {k : IntKind} (ht : P.underlying t = some (.int k)) (hval : Value.okWide P W r b0 t v) (hd : DataW.Trod enc P W base sp held t v d ps) :
    ∃ n : Int, RelV (gh0 W) W (.int k n) v ∧ (Lit.int k n).wf = true := by
  obtain ⟨n, rfl, -, -, h⟩ := open_int ht hval hd
  exact ⟨n, .int k n, h⟩

theorem arg_bool (ht : P.underlying t = some .bool) (hval : Value.okWide P W r b0 t v) (hd : DataW.Trod enc P W base sp held t v d ps) :
    ∃ n : Bool, RelV (gh0 W) W (.bool n) v := by
  obtain ⟨n, rfl, -, -⟩ := open_bool ht hval hd
  exact ⟨n, .bool n⟩

theorem arg_str (ht : P.underlying t = some .string) (hval : Value.okWide P W r b0 t v) (hd : DataW.Trod enc P W base sp held t v d ps) :
    ∃ s : List UInt8, RelV (gh0 W) W (.str s) v ∧ s.length ≤ maxLen := by
  obtain ⟨s, rfl, -, -, h⟩ := Go.ChangeMaps.open_string ht hval hd
  exact ⟨s.data.toList, .str _ s rfl, by simpa using h⟩

theorem slice_spot (ht : P.underlying t = some (.slice e)) {a : Addr} {len cap : Nat} (hval : Value.okWide P W r b0 t (.slice (some a) len cap)) : a.spot = none := by
  simp only [Value.okWide, ht, Cell.okWide, Cell.ok] at hval
  exact hval.2.2.2.1

theorem row_rel {a : Addr} {cap : Nat} {xs : List V} {c : Nat → Value} (hl : xs.length ≤ cap) (hs : a.spot = none) (hr : ∀ (i : Nat) (x : V), xs[i]? = some x → RelV (gh0 W) W x (c i) ∧ (c i).cells = #[c i] ∧ x.isLoc = false)
    (hc : ∀ i, i < xs.length → W.cell? (a.add i) = some (c i)) : RelV (gh0 W) W (.sl .frozen xs) (.slice (some a) xs.length cap) := by
  refine .sl .frozen xs (some a) cap c 1 hl trivial (fun h => by cases h) (fun a' h => by cases h; exact hs) (fun i x hx => (hr i x hx).1) (fun i x hx => ⟨by rw [(hr i x hx).2.1]; rfl, (hr i x hx).2.2⟩) ?_
  intro i a' hi ha
  cases ha
  rw [(hr i xs[i] (List.getElem?_eq_getElem hi)).2.1]
  refine cellsAt0 ?_
  have := hc i hi
  rw [← this]
  congr 1
  unfold Addr.add
  split
  · rename_i h0; subst h0; obtain ⟨x, y, z⟩ := a; simp at hs; subst hs; rfl
  · simp

theorem arg_ints {k : IntKind} (ht : P.underlying t = some (.slice e)) (he : P.underlying e = some (.int k)) (hc : P.cellsOf e = 1) (hval : Value.okWide P W r b0 t v) (hd : DataW.Trod enc P W base sp held t v d ps) :
    ∃ zs : List Int, RelV (gh0 W) W (.sl .frozen (zs.map (.int k))) v ∧ zs.length ≤ maxLen ∧ ∀ n ∈ zs, (Lit.int k n).wf = true := by
  obtain ⟨a, len, cap, rfl⟩ := okWide_slice ht hval
  obtain ⟨fuel, hf⟩ := hd
  rcases open_ints ht he hc hf with ⟨h1, -⟩ | ⟨a', len', cap', zs, h1, -, h2, h3, h4, -, h5, h6⟩
  · simp [Value.cells] at h1
    obtain ⟨rfl, rfl, rfl⟩ := h1
    exact ⟨[], .sl .frozen [] none 0 (fun _ => .nilIface) 0 (Nat.le_refl _) trivial (fun _ => rfl) (fun a' h => by cases h) (fun i x h => by simp at h) (fun i x h => by simp at h) (fun i a' h => by simp at h), by simp, by simp⟩
  · simp [Value.cells] at h1
    obtain ⟨rfl, rfl, rfl⟩ := h1
    have hle : len ≤ zs.length := by rw [h4]; split <;> omega
    have hlen : (zs.take len).length = len := by simp; omega
    refine ⟨zs.take len, ?_, by rw [hlen]; exact Nat.le_trans h2 h3, fun n hn => h6 n (List.mem_of_mem_take hn)⟩
    have hs := slice_spot ht hval
    have := row_rel (W := W) (a := a') (cap := cap) (xs := (zs.take len).map (.int k)) (c := fun i => .int k (zs.getD i 0)) (by rw [List.length_map, hlen]; exact h2) hs ?_ ?_
    · rw [List.length_map, hlen] at this; exact this
    · intro i x hx
      simp only [List.getElem?_map, Option.map_eq_some_iff] at hx
      obtain ⟨n, hn, rfl⟩ := hx
      rw [List.getElem?_take] at hn
      split at hn
      · have : zs.getD i 0 = n := by simp [hn]
        rw [this]
        exact ⟨.int k n, rfl, rfl⟩
      · cases hn
    · intro i hi
      have : i < zs.length := by simp at hi; omega
      exact h5 i this

theorem arg_strs (ht : P.underlying t = some (.slice e)) (he : P.underlying e = some .string) (hc : P.cellsOf e = 1) (hval : Value.okWide P W r b0 t v) (hd : DataW.Trod enc P W base sp held t v d ps) :
    ∃ zs : List (List UInt8), RelV (gh0 W) W (.sl .frozen (zs.map .str)) v ∧ zs.length ≤ maxLen := by
  obtain ⟨a, len, cap, rfl⟩ := okWide_slice ht hval
  obtain ⟨fuel, hf⟩ := hd
  rcases open_strings ht he hc hf with ⟨h1, -⟩ | ⟨a', len', cap', zs, h1, -, h2, h3, h4, -, h5, h6⟩
  · simp [Value.cells] at h1
    obtain ⟨rfl, rfl, rfl⟩ := h1
    exact ⟨[], .sl .frozen [] none 0 (fun _ => .nilIface) 0 (Nat.le_refl _) trivial (fun _ => rfl) (fun a' h => by cases h) (fun i x h => by simp at h) (fun i x h => by simp at h) (fun i a' h => by simp at h), by simp⟩
  · simp [Value.cells] at h1
    obtain ⟨rfl, rfl, rfl⟩ := h1
    have hle : len ≤ zs.length := by rw [h4]; split <;> omega
    have hlen : (zs.take len).length = len := by simp; omega
    refine ⟨(zs.take len).map fun s => s.data.toList, ?_, by simp; omega⟩
    have hs := slice_spot ht hval
    have := row_rel (W := W) (a := a') (cap := cap) (xs := ((zs.take len).map fun s => s.data.toList).map .str) (c := fun i => .string (zs.getD i ByteArray.empty)) (by rw [List.length_map, List.length_map, hlen]; exact h2) hs ?_ ?_
    · rw [List.length_map, List.length_map, hlen] at this; exact this
    · intro i x hx
      simp only [List.getElem?_map, Option.map_eq_some_iff] at hx
      obtain ⟨n, ⟨s, hn, rfl⟩, rfl⟩ := hx
      rw [List.getElem?_take] at hn
      split at hn
      · have : zs.getD i ByteArray.empty = s := by simp [hn]
        rw [this]
        exact ⟨.str _ s rfl, rfl, rfl⟩
      · cases hn
    · intro i hi
      have : i < zs.length := by simp at hi; omega
      exact h5 i this

end

/-- The codes of rounds are no value's. -/
theorem RelV.setBd {γ : Gh} {w : World} {bd : Nat → Option (Array Tmp × Code × Code × Nat)} {v : V} {c : Value} (h : RelV γ w v c) : RelV { γ with bd := bd } w v c := by
  induction h with
  | bool b => exact .bool b
  | int k n => exact .int k n
  | str s b h => exact .str s b h
  | sl t xs a cap c z hcap htag hnil hspot hv hz hat ih => exact .sl t xs a cap c z hcap htag hnil hspot ih hz hat
  | ptr r off h hk => exact RelV.ptr (γ := { γ with bd := bd }) r off h hk
  | elp e off c b o he hl hat ih => exact .elp e off c b o ih hl hat
  | nilp => exact .nilp
  | mapn => exact .mapn
  | map r h hk => exact RelV.map (γ := { γ with bd := bd }) r h hk
  | fn f cap vs hs hv hl ih => exact .fn f cap vs hs ih hl
  | mfn f xs vs hs hv hl ih => exact .mfn f xs vs hs ih hl
  | nilfn => exact .nilfn
  | iface t v c h hl ih => exact .iface t v c ih hl
  | nili => exact .nili
  | agg cs vs hs hv ho ih => exact .agg cs vs hs ih ho
  | tup cs vs hs hv ih => exact .tup cs vs hs ih
  | tok g => exact RelV.tok (γ := { γ with bd := bd }) g
  | sent g t c hp hc => exact .sent g t c hp hc
  | msl r off len cap z c h hk hl he => exact RelV.msl (γ := { γ with bd := bd }) r off len cap z c h hk hl he
  | vec r ver off len z b o c h hk hv hl he => exact RelV.vec (γ := { γ with bd := bd }) r ver off len z b o c h hk hv hl he
  | vptr r ver off b o h hk hv he => exact RelV.vptr (γ := { γ with bd := bd }) r ver off b o h hk hv he
  | yld r h hk => exact RelV.yld (γ := { γ with bd := bd }) r h hk

/-- What the abstract machine says of a call, said of the program. -/
theorem entryG {P : Program} {ap : AP} {KG : List Nat} (hm : P.follows .mixedOrders = true) (ht : TableOk P ap KG) {f : Nat} {fn : Func} (hfn : P.funcs[f]? = some fn) (hbody : fn.body.isNone = false) (hname : (fn.name == "runtime.NumGoroutine") = false)
    {aargs : List V} {W : World} {args : Array Value} (hargs : ArgsRel (gh0 W) W aargs args) (hg : GOk KG (gh0 W) W) (hc : CallA ap f 0 [] aargs [] fun v _ => v = .bool true) :
    Calls P f args W fun e W' => e = .returned (.bool true) ∧ Below W.heap.size W W' := by
  have fin : ∀ c W', XPost { gh0 W with bd := bdOf P } W [] (fun v _ => v = .bool true) c W' → c = .bool true ∧ Below W.heap.size W W' := by
    rintro c W' ⟨v, h', γ', rfl, g1, g2, -, g3⟩
    refine ⟨relV_bool (lam := fun _ => 0) (s := ⟨fun _ => .undef, fun _ => none, []⟩) (.inr (.inr g1)), g3.os, g3.tape, g3.out, g3.size, fun k hk => ?_⟩
    exact (g3.heap k hk (fun r hr => by simp [gh0] at hr)).1
  have hx := xok hm ht f 0 [] aargs [] _ hc { gh0 W with bd := bdOf P } W args rfl
    ⟨hg.var, fun te hte ht g hg' hl => (hg.sen te hte ht g hg' hl).elim fun a h => ⟨a, ⟨h.1.cell, h.1.low, h.1.rho, h.1.free⟩, h.2⟩, fun g hl hg' => ⟨(hg.tab g hl hg').low, (hg.tab g hl hg').rho, (hg.tab g hl hg').cells⟩, fun g hl hg' => ⟨(hg.spc g hl hg').low, (hg.spc g hl hg').rho, (hg.spc g hl hg').cells⟩, hg.num⟩
    ⟨rfl, fun r r' h => absurd h (Nat.not_lt_zero r), fun r o h => by simp at h, (hrel0 W).far⟩ (fun b hb => by cases hb) ⟨hargs.1, hargs.2.1, fun i x u h1 h2 => (hargs.2.2 i x u h1 h2).setBd⟩
  rw [if_neg (by decide)] at hx
  rcases hx with ⟨-, h⟩ | ⟨c, W', h, -⟩
  · refine h.mono ?_
    rintro e W' ⟨c, rfl, hx⟩
    obtain ⟨rfl, hb⟩ := fin c W' hx
    exact ⟨rfl, hb⟩
  · exfalso
    simp only [callFunc, Sem.run_bind, run_program, Result.andThen_ok, hfn, hname, hbody, Bool.false_eq_true, if_false, Sem.run_pure] at h
    cases h

theorem entry {P : Program} {ap : AP} (hm : P.follows .mixedOrders = true) (ht : TableOk P ap) {f : Nat} {fn : Func} (hfn : P.funcs[f]? = some fn) (hbody : fn.body.isNone = false) (hname : (fn.name == "runtime.NumGoroutine") = false)
    {aargs : List V} {W : World} {args : Array Value} (hargs : ArgsRel (gh0 W) W aargs args) (hc : CallA ap f 0 [] aargs [] fun v _ => v = .bool true) :
    Calls P f args W fun e W' => e = .returned (.bool true) ∧ Below W.heap.size W W' :=
  entryG hm ht hfn hbody hname hargs ⟨fun g hg => (by cases hg), fun te _ ht => (by cases ht), fun g _ hg => (by cases hg), fun g _ hg => (by cases hg), fun g _ hg => (by cases hg)⟩ hc

section
variable {P : Program} {H : Type} {enc : TypeId × Value → H} {W W' : World} {sp : Nat → Bool}

def readsAll (P : Program) (ts : List TypeId) : Bool := ts.all fun t => P.readableRec t && decide (t < P.types.size)

theorem trodAll_stays (hl : laidOutB P = true) (hb : Below W.heap.size W W') : ∀ {ts : List TypeId} {vs : List Value} {ds : List (DataW H)} {ps : List MemPlace}, readsAll P ts = true → DataW.TrodAll enc P W 0 (fun _ => true) true ts vs ds ps →
    (∀ x ∈ ps, x.block < W.heap.size) → (∀ x ∈ ps, sp x.block = true) → DataW.TrodAll enc P W' 0 sp true ts vs ds ps
  | [], [], [], _, _, h, _, _ => h
  | t :: ts, v :: vs, d :: ds, ps, hr, h, hlt, hsp => by
    obtain ⟨p, q, h1, h2, rfl⟩ := h
    simp only [readsAll, List.all_cons, Bool.and_eq_true, decide_eq_true_eq] at hr
    refine ⟨p, q, WideElems.Trod_stays hl hr.1.1 hr.1.2 h1 (fun x hx => hb.same (hlt x (by simp [hx]))) (fun x hx => hsp x (by simp [hx])), ?_, rfl⟩
    exact trodAll_stays hl hb (by simpa [readsAll] using hr.2) h2 (fun x hx => hlt x (by simp [hx])) (fun x hx => hsp x (by simp [hx]))
  | [], [], _ :: _, _, _, h, _, _ => h.elim
  | [], _ :: _, _, _, _, h, _, _ => h.elim
  | _ :: _, [], _, _, _, h, _, _ => h.elim
  | _ :: _, _ :: _, [], _, _, h, _, _ => h.elim

/-- A row's end: it is true, and its arguments read as they did. -/
theorem post_true {f : Func} {s : ChangeSpec} {apart fresh handsOn : Bool} {args : Array Value} {ds gs : List (DataW H)} {before : List MemPlace} {tb : TypeId}
    (hl : laidOutB P = true) (hW : DataW.Whole enc P f.params.toList s.vars apart W args.toList ds gs before) (hb : Below W.heap.size W W') (hres : f.resultTypes = #[tb]) (hbool : P.underlying tb = some .bool)
    (hread : readsAll P f.params.toList = true) (hvars : s.vars = []) (hfn : gs = [] → (s.fn H (ds ++ gs)).results = [.lit (.bool true)] ∧ (s.fn H (ds ++ gs)).args = ds ∧ (s.fn H (ds ++ gs)).vars = []) :
    s.post enc P f apart fresh handsOn false W args (.bool true) W' := by
  have hW' := hW
  obtain ⟨p, q, hA, hV, rfl, hfz, hnd⟩ := hW
  rw [hvars] at hV
  obtain ⟨rfl, rfl⟩ := trodVars_none hV
  obtain ⟨e1, e2, e3⟩ := hfn rfl
  have hlt : ∀ x ∈ p, x.block < W.heap.size := fun x hx => hW'.lt x (by simp [hx])
  refine ⟨ds, [], p ++ [], [], p, [], hW', ?_, ?_, ?_, hb.frame _, fun h => by cases h⟩
  · rw [e1, hres]
    exact trodAll_mk1 (shut_bool hbool true)
  · rw [e2]
    exact trodAll_stays hl hb hread hA hlt (fun x hx => by simpa using hlt x hx)
  · rw [e3, hvars]
    rfl

end
end Go.Am
