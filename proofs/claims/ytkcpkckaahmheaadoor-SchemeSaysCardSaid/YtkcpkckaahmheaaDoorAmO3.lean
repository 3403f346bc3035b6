/- The abstract machine's operations are the model's: elements, maps, what lies in an interface. -/
import Derived.Test.YtkcpkckaahmheaaDoorAmO2
namespace Go.Am

section
variable {P : Program} {A : Ann} {X : CallH} {z : Start} {γ γ' : Gh} {w w' : World} {lam lam' : Nat → Nat} {s s' : St} {a : Act} {o : Oper} {K : V → St → Prop} {Qx : Exit → Act → World → Prop}

theorem sim_iaddr (t e : TypeId) (x i : Operand) (ho : o.op = .indexAddr t x i) (hu : P.underlying t = some (.slice e)) {n : Nat} (hn : sizeT P e = some n) {x' i' : AO} (hx : compX x = some x') (hi : compX i = some i') (hd : ∀ i, o.dst = some i → i < z.nt)
    (h : kSome K s (iaddrV n (ev s.r x') (ev s.r i'))) (hs : SRel z γ w lam s a) : o.wp P a w (Nx z o.dst K) Qx := by
  obtain ⟨v, hv, hK⟩ := some_of h
  have hrx := rel_x hs hx
  have hri := rel_x hs hi
  generalize ev s.r x' = vx at hv hrx
  generalize ev s.r i' = vi at hv hri
  unfold iaddrV at hv
  split at hv
  · rename_i t xs k m
    split at hv
    · rename_i hm
      unfold elemV at hv
      split at hv
      · rename_i q el hel
        split at hv
        · rename_i hsz
          cases hv
          have ei := relV_int hri
          have hr := hrx.ok rfl
          generalize hc : a.eval x = c at hr
          cases hr with
          | sl _ _ ad cap c z' hcap htag hnil hspot hvv hz hat =>
            have hlt : m.toNat < xs.length := (List.getElem?_eq_some_iff.1 hel).1
            cases ad with
            | none => have := hnil rfl; omega
            | some ad =>
              have hsp := hspot ad rfl
              obtain ⟨b, off, sp⟩ := ad
              subst hsp
              obtain ⟨hz1, hz2⟩ := hz _ _ hel
              have hzz : z' = n := by
                have := ((hvv _ _ hel).cells hz2).1
                omega
              subst hzz
              have hlt' : m < (xs.length : Int) := by omega
              refine nx_val ?_ hK hs (.inr (.inr (.elp el 0 (c m.toNat) b (off + m.toNat * z') (hvv _ _ hel) hz2 (hat _ _ hlt rfl)))) hd
              simp [execOp, ho, hc, ei, Instr.indexAt, asIntOf, run_underlying' hu, run_sizeOf' hn, hm, hlt', addr_add]
        · cases hv
      · cases hv
    · cases hv
  · split at hv
    · rename_i r off len cap zz k m hcc
      obtain ⟨hm, hlt, hzz⟩ := hcc
      cases hv
      have ei := relV_int hri
      have hr := hrx.ok rfl
      generalize hc : a.eval x = c at hr
      cases hr with
      | msl _ _ _ _ _ _ h1 h2 h3 _ =>
        have hlt' : m < (len : Int) := by omega
        refine nx_val ?_ hK hs (.inr (.inr (.ptr _ _ h1 h2))) hd
        simp [execOp, ho, hc, ei, Instr.indexAt, asIntOf, run_underlying' hu, run_sizeOf' hn, hm, hlt', addr_add]
    · cases hv
  · split at hv
    · rename_i r ver off len zz k m hcc
      obtain ⟨hm, hlt, hzz⟩ := hcc
      cases hv
      have ei := relV_int hri
      have hr := hrx.ok rfl
      generalize hc : a.eval x = c at hr
      cases hr with
      | vec _ _ _ _ _ b o c h1 h2 h3 h4 h5 =>
        have hlt' : m < (len : Int) := by omega
        refine nx_val (c := .pointer (some ⟨b, o + m.toNat * n, none⟩)) ?_ hK hs (.inr (.inr (.vptr _ _ _ _ _ h1 h2 h3 fun e => ?_))) hd
        · simp [execOp, ho, hc, ei, Instr.indexAt, asIntOf, run_underlying' hu, run_sizeOf' hn, hm, hlt', addr_add]
        · obtain ⟨rfl, rfl, _⟩ := h5 e
          exact ⟨rfl, rfl⟩
    · cases hv
  · cases hv

def posE (k : V) : List (V × V) → Option (Option Nat)
  | [] => some none
  | e :: es => match keyEq k e.1 with
    | some true => some (some 0)
    | some false => (posE k es).map (Option.map (· + 1))
    | none => none

theorem findE_pos (k : V) (es : List (V × V)) : findE k es = (posE k es).map fun p => p.bind fun j => (es[j]?).map (·.2) := by
  induction es with
  | nil => rfl
  | cons e es ih =>
    simp only [findE, posE]
    cases keyEq k e.1 with
    | none => rfl
    | some b =>
      cases b
      · simp only [ih]
        cases posE k es with
        | none => rfl
        | some p => cases p <;> simp
      · simp

theorem setE_pos (k v : V) (es : List (V × V)) : setE k v es = (posE k es).map fun p => match p with | none => es ++ [(k, v)] | some j => es.set j (k, v) := by
  induction es with
  | nil => rfl
  | cons e es ih =>
    simp only [setE, posE]
    cases keyEq k e.1 with
    | none => rfl
    | some b =>
      cases b
      · simp only [ih]
        cases posE k es with
        | none => rfl
        | some p => cases p <;> simp
      · simp

theorem posE_some {k : V} {es : List (V × V)} {j : Nat} (h : posE k es = some (some j)) : ∃ e, es[j]? = some e ∧ keyEq k e.1 = some true := by
  induction es generalizing j with
  | nil => simp [posE] at h
  | cons e es ih =>
    simp only [posE] at h
    split at h
    · rename_i hk; simp at h; subst h; exact ⟨e, rfl, hk⟩
    · cases hp : posE k es with
      | none => rw [hp] at h; simp at h
      | some p =>
        rw [hp] at h
        cases p with
        | none => simp at h
        | some i =>
          simp at h
          subst h
          exact ih hp
    · cases h

theorem bytes_eq (x y : ByteArray) : (x == y) = (x.data.toList == y.data.toList) := by
  have h : (x == y) = (x.data == y.data) := by cases x; cases y; rfl
  rw [h]
  by_cases e : x.data = y.data
  · rw [e]; simp
  · have h1 : x.data.toList ≠ y.data.toList := fun e' => e (Array.toList_inj.1 e')
    rw [beq_eq_false_iff_ne.2 e, beq_eq_false_iff_ne.2 h1]

theorem sameNow_rel {kk : KK} {d : TypeDesc} (hd : KKd kk d) {k k' : V} {c c' : Value} (hk : isKey kk k = true) (hr : RelV γ w k c) (hr' : RelV γ w k' c')
    {b : Bool} (h : keyEq k k' = some b) : Instr.sameNow d c c' = some b ∧ (b = true → Instr.sameBits 10000 c' c = true) := by
  unfold keyEq at h
  split at h
  · cases h
    cases kk <;> simp [isKey] at hk
    simp only [KKd] at hd
    subst hd
    cases hr with
    | str _ x hx =>
      cases hr' with
      | str _ y hy =>
        subst hx; subst hy
        refine ⟨by simp [Instr.sameNow, bytes_eq], fun hb => ?_⟩
        simp only [Instr.sameBits, bytes_eq]
        simp at hb ⊢
        exact hb.symm
  · split at h
    · cases h
      cases kk <;> simp [isKey] at hk
      simp only [KKd] at hd
      obtain ⟨j, rfl⟩ := hd
      subst_vars
      cases hr; cases hr'
      refine ⟨by simp [Instr.sameNow], fun hb => ?_⟩
      simp [Instr.sameBits] at hb ⊢
      exact hb.symm
    · cases h
  · cases h
    cases kk <;> simp [isKey] at hk
    simp only [KKd] at hd
    subst hd
    cases hr; cases hr'
    refine ⟨by simp [Instr.sameNow], fun hb => ?_⟩
    simp [Instr.sameBits] at hb ⊢
    exact hb.symm
  · cases h

theorem findNow_rel {kk : KK} {d : TypeDesc} (hd : KKd kk d) {k : V} {c : Value} (hk : isKey kk k = true) (hr : RelV γ w k c) :
    ∀ (es : List (V × V)) (ents : List MapEntry) (start : Nat), ents.length = es.length → (∀ (i : Nat) (x : V × V) (e : MapEntry), es[i]? = some x → ents[i]? = some e → RelV γ w x.1 e.key) →
      ∀ p, posE k es = some p → Instr.findNow d c ents start = some (p.bind fun j => (ents[j]?).map fun e => (start + j, e.val)) ∧ (∀ j, p = some j → ∃ e, ents[j]? = some e ∧ Instr.sameBits 10000 e.key c = true) := by
  intro es
  induction es with
  | nil =>
    intro ents start hl _ p hp
    cases ents with
    | nil => simp [posE] at hp; subst hp; exact ⟨rfl, fun j e => by cases e⟩
    | cons e es => simp at hl
  | cons x es ih =>
    intro ents start hl hrel p hp
    cases ents with
    | nil => simp at hl
    | cons e ents =>
      simp only [posE] at hp
      have h0 := hrel 0 x e rfl rfl
      split at hp
      · rename_i hkk
        simp at hp; subst hp
        obtain ⟨h1, h2⟩ := sameNow_rel hd hk hr h0 hkk
        refine ⟨by simp [Instr.findNow, h1], fun j ej => ?_⟩
        cases ej
        exact ⟨e, rfl, h2 rfl⟩
      · rename_i hkk
        obtain ⟨h1, _⟩ := sameNow_rel hd hk hr h0 hkk
        simp only [Option.map_eq_some_iff] at hp
        obtain ⟨p', hp', rfl⟩ := hp
        obtain ⟨i1, i2⟩ := ih ents (start + 1) (by simpa using hl) (fun i x e hx he => hrel (i + 1) x e (by simpa using hx) (by simpa using he)) p' hp'
        refine ⟨?_, fun j ej => ?_⟩
        · simp only [Instr.findNow, h1, i1]
          cases p' with
          | none => rfl
          | some j => simp [Nat.add_comm, Nat.add_left_comm]
        · cases p' with
          | none => cases ej
          | some i =>
            simp at ej
            subst ej
            exact i2 i rfl
      · cases hp

theorem run_checkKey {kk : KK} {t : TypeId} (ht : keyT P t = some kk) (e : Bool) (n : Nat) (c : Value) : (Instr.checkKey e (n + 1) t c).run P w = .ok () w := by
  obtain ⟨d, hu, hd⟩ := keyT_of ht
  simp only [Instr.checkKey, Sem.run_bind, run_underlying' hu, Result.andThen_ok]
  cases kk <;> simp only [KKd] at hd
  · obtain ⟨j, rfl⟩ := hd; rfl
  · subst hd; rfl
  · subst hd; rfl

theorem run_zeroValue {t : TypeId} {i : TypeInfo} {zv : Value} (hi : P.info? t = some i) (hz : i.zero = some zv) : (zeroValue t).run P w = .ok zv w := by
  simp [zeroValue, typeInfo, hi, hz]

theorem run_getObj {r : Nat} {x : Obj} (h : w.heap[r]? = some x) (hc : ∀ c e f, x ≠ .cells c e f) : (getObj r).run P w = .ok x w := by
  cases x <;> first | exact absurd rfl (hc _ _ _) | simp only [getObj, Sem.run, h]

theorem okV_rel {ok : Bool} {zv : Value} {zx : V} (hz : RelV γ w zx zv) {f : Option V} {g : Option Value} (hf : match f, g with | some v, some c => RelV γ w v c | none, none => True | _, _ => False) :
    RelV γ w (okV ok zx f) (if ok then .tuple #[g.getD zv, .bool g.isSome] else g.getD zv) := by
  have two : ∀ (v : V) (c : Value) (b : Bool), RelV γ w v c → RelV γ w (.tup [v, .bool b]) (.tuple #[c, .bool b]) := fun v c b h => by
    refine .tup _ _ rfl fun i x u hx hu => ?_
    rcases i with _ | _ | i
    · simp at hx hu; subst hx; subst hu; exact h
    · simp at hx hu; subst hx; subst hu; exact .bool b
    · simp at hx
  cases f with
  | none =>
    cases g with
    | none => cases ok <;> simp [okV, hz, two]
    | some c => exact hf.elim
  | some v =>
    cases g with
    | none => exact hf.elim
    | some c => cases ok <;> simp [okV, two, hf]

theorem sim_lookup (t kt e : TypeId) (m k : Operand) (ok : Bool) (ho : o.op = .lookup t m k ok) (hu : P.underlying t = some (.map kt e)) {kk : KK} (hkt : keyT P kt = some kk) {zx : V} (hz : zeroV P e = some zx)
    {m' k' : AO} (hm : compX m = some m') (hk : compX k = some k') (hd : ∀ i, o.dst = some i → i < z.nt)
    (h : kSome K s (lookV s kk zx (ev s.r k') ok (ev s.r m'))) (hs : SRel z γ w lam s a) : o.wp P a w (Nx z o.dst K) Qx := by
  obtain ⟨v, hv, hK⟩ := some_of h
  have hrm := rel_x hs hm
  have hrk := rel_x hs hk
  generalize ev s.r m' = vm at hv hrm
  generalize ev s.r k' = vk at hv hrk
  obtain ⟨i, zv, hi, hz1, hz2⟩ := zeroV_rel hz
  have hzr := (constV_rel γ w zv zx hz2).1
  have fin : ∀ (es : Array MapEntry) (g : Option Value) (f : Option V), isKey kk vk = true →
      ((a.eval m = .map none ∧ es = #[]) ∨ ∃ r clock, a.eval m = .map (some r) ∧ w.heap[r]? = some (.map es clock)) →
      (∀ d, KKd kk d → ∃ n, Instr.findNow d (a.eval k) es.toList 0 = some (g.map fun c => (n, c))) →
      (match f, g with | some v, some c => RelV γ w v c | none, none => True | _, _ => False) → v = okV ok zx f → o.wp P a w (Nx z o.dst K) Qx := by
    intro es g f hkey hes hfn hrel hvv
    obtain ⟨d, hud, hdd⟩ := keyT_of hkt
    obtain ⟨n, hn⟩ := hfn d hdd
    have hfk : (Instr.findKey kt (a.eval k) es.toList).run P w = .ok (g.map fun c => (n, c)) w := by
      simp only [Instr.findKey, Sem.run_bind, run_underlying' hud, Result.andThen_ok, hn]
      rfl
    subst hvv
    refine nx_val ?_ hK hs (.inr (.inr (okV_rel (ok := ok) hzr hrel))) hd
    rcases hes with ⟨hem, rfl⟩ | ⟨r, clock, hem, hb⟩
    · simp only [execOp, ho, hem, Instr.lookup, Sem.run_bind, run_underlying' hu, Result.andThen_ok, Sem.run_pure, run_checkKey hkt]
      simp only [] at hfk
      cases g <;> simp_all [run_zeroValue hi hz1]
    · simp only [execOp, ho, hem, Instr.lookup, Sem.run_bind, run_underlying' hu, Result.andThen_ok, run_getObj hb (by simp), run_checkKey hkt, hfk]
      cases g <;> simp [run_zeroValue hi hz1, hfk]
  unfold lookV at hv
  split at hv
  · split at hv
    · rename_i hkey
      cases hv
      have hem : a.eval m = .map none := by have := hrm.ok rfl; generalize a.eval m = c at this; cases this; rfl
      exact fin #[] none none hkey (.inl ⟨hem, rfl⟩) (fun d _ => ⟨0, rfl⟩) trivial rfl
    · cases hv
  · rename_i r
    split at hv
    · rename_i hkey
      unfold lookO at hv
      split at hv
      · rename_i es bo clock hes
        simp only [Option.map_eq_some_iff] at hv
        obtain ⟨f, hf, rfl⟩ := hv
        obtain ⟨_, _, ents, hb, hmr⟩ := hs.heap.obj r _ hes
        have hem : a.eval m = .map (some (γ.rho r)) := by have := hrm.ok rfl; generalize a.eval m = c at this; cases this; rfl
        rw [findE_pos] at hf
        simp only [Option.map_eq_some_iff] at hf
        obtain ⟨p, hp, rfl⟩ := hf
        have hkr : RelV γ w vk (a.eval k) := hrk.ok (by cases kk <;> cases vk <;> first | rfl | (simp [isKey] at hkey))
        have hfn := fun d hd => findNow_rel (γ := γ) (w := w) (d := d) hd hkey hkr es ents.toList 0 (by simpa using hmr.size) (fun i x e hx he => (hmr.rel i x e hx (by simpa using he)).1) p hp
        refine fin ents (p.bind fun j => (ents.toList[j]?).map (·.val)) (p.bind fun j => (es[j]?).map (·.2)) hkey (.inr ⟨_, clock, hem, hb⟩) (fun d hd => ?_) ?_ rfl
        · refine ⟨p.getD 0, ?_⟩
          rw [(hfn d hd).1]
          cases p with
          | none => rfl
          | some j => simp [Function.comp_def]
        · cases p with
          | none => trivial
          | some j =>
            obtain ⟨e1, he1, _⟩ := posE_some hp
            have hlt : j < ents.size := by rw [hmr.size]; exact (List.getElem?_eq_some_iff.1 he1).1
            have he2 : ents[j]? = some ents[j] := Array.getElem?_eq_getElem hlt
            simp [he1, hlt]
            exact (hmr.rel j e1 _ he1 he2).2.2.1
      · cases hv
    · cases hv
  · cases hv

theorem sim_len (t : TypeId) (x : Operand) (ty : TypeId) (ho : o.op = .call { callee := .builtin .len, args := #[x], argTypes := #[t] })
    (nk : Nat) (hu : match nk with | 0 => P.underlying t = some .string | 1 => ∃ e, P.underlying t = some (.slice e) | _ => ∃ e e', P.underlying t = some (.map e e')) {x' : AO} (hx : compX x = some x') (hd : ∀ i, o.dst = some i → i < z.nt)
    (h : kSome K s (lenV nk s (ev s.r x'))) (hs : SRel z γ w lam s a) : o.wp P a w (Nx z o.dst K) Qx := by
  obtain ⟨v, hv, hK⟩ := some_of h
  have hrx := rel_x hs hx
  generalize ev s.r x' = vx at hv hrx
  have run : ∀ c v', v = v' → (Builtin.len_ #[t] o.type #[a.eval x]).run P w = .ok c w → RelV γ w v' c → o.wp P a w (Nx z o.dst K) Qx := by
    intro c v' e hr hrel
    subst e
    refine nx_val (c := c) ?_ hK hs (.inr (.inr hrel)) hd
    simp [execOp, ho, resolve, invoke, builtin, hr]
  unfold lenV at hv
  split at hv
  · cases hv
    have hr := hrx.ok rfl
    obtain ⟨e, hu⟩ := hu
    generalize hc : a.eval x = c at hr run
    cases hr with
    | sl => exact run _ _ rfl (by simp [Builtin.len_, run_underlying' hu]; rfl) (.int _ _)
  · cases hv
    have hr := hrx.ok rfl
    obtain ⟨e, hu⟩ := hu
    generalize hc : a.eval x = c at hr run
    cases hr with
    | msl => exact run _ _ rfl (by simp [Builtin.len_, run_underlying' hu]; rfl) (.int _ _)
  · cases hv
    have hr := hrx.ok rfl
    obtain ⟨e, hu⟩ := hu
    generalize hc : a.eval x = c at hr run
    cases hr with
    | vec => exact run _ _ rfl (by simp [Builtin.len_, run_underlying' hu]; rfl) (.int _ _)
  · cases hv
    have hr := hrx.ok rfl
    generalize hc : a.eval x = c at hr run
    cases hr with
    | str b y hy => exact run _ _ rfl (by rw [← hy, ← size_list]; simp [Builtin.len_, run_underlying' hu]; rfl) (.int _ _)
  · cases hv
    have hr := hrx.ok rfl
    obtain ⟨e, e', hu⟩ := hu
    generalize hc : a.eval x = c at hr run
    cases hr
    exact run _ _ rfl (by simp [Builtin.len_, run_underlying' hu]; rfl) (.int _ _)
  · rename_i r
    unfold lenO at hv
    split at hv
    · rename_i es bo clock hes
      cases hv
      have hr := hrx.ok rfl
      obtain ⟨e, e', hu⟩ := hu
      obtain ⟨_, _, ents, hb, hmr⟩ := hs.heap.obj r _ hes
      generalize hc : a.eval x = c at hr run
      cases hr
      exact run _ _ rfl (by simp [Builtin.len_, run_underlying' hu, run_getObj hb (by simp), hmr.size]; rfl) (.int _ _)
    · cases hv
  · cases hv

theorem sim_tassert (x : Operand) (xt at_ : TypeId) (ok : Bool) (ho : o.op = .typeAssert x xt at_ ok) {d : TypeDesc} (hu : P.underlying at_ = some d) (hni : ∀ m, d ≠ .interface m) {zx : V} (hz : zeroV P at_ = some zx)
    {x' : AO} (hx : compX x = some x') (hd : ∀ i, o.dst = some i → i < z.nt)
    (h : kSome K s (assertV at_ zx ok (ev s.r x'))) (hs : SRel z γ w lam s a) : o.wp P a w (Nx z o.dst K) Qx := by
  obtain ⟨v, hv, hK⟩ := some_of h
  have hrx := rel_x hs hx
  generalize ev s.r x' = vx at hv hrx
  obtain ⟨i, zv, hi, hz1, hz2⟩ := zeroV_rel hz
  have hzr := (constV_rel γ w zv zx hz2).1
  have two : ∀ (v : V) (c : Value) (b : Bool), RelV γ w v c → RelV γ w (.tup [v, .bool b]) (.tuple #[c, .bool b]) := fun v c b h => by
    refine .tup _ _ rfl fun i x u hx hu => ?_
    rcases i with _ | _ | i
    · simp at hx hu; subst hx; subst hu; exact h
    · simp at hx hu; subst hx; subst hu; exact .bool b
    · simp at hx
  unfold assertV at hv
  split at hv
  · rename_i u vv
    cases hv
    have hr := hrx.ok rfl
    generalize hc : a.eval x = c at hr
    cases hr with
    | iface _ _ c hvc hl =>
      by_cases he : u = at_
      · subst he
        rw [if_pos rfl] at hK
        refine nx_val (c := .tuple #[c, .bool true]) ?_ hK hs (.inr (.inr (two _ _ _ hvc))) hd
        simp only [execOp, ho, hc, Instr.typeAssert, Sem.run_bind, run_underlying' hu, Result.andThen_ok]
        cases d <;> first | exact absurd rfl (hni _) | simp
      · rw [if_neg he] at hK
        refine nx_val (c := .tuple #[zv, .bool false]) ?_ hK hs (.inr (.inr (two _ _ _ hzr))) hd
        simp only [execOp, ho, hc, Instr.typeAssert, Sem.run_bind, run_underlying' hu, Result.andThen_ok]
        cases d <;> first | exact absurd rfl (hni _) | simp [he, run_zeroValue hi hz1]
  · rename_i u vv
    split at hv
    · cases hv
      have hr := hrx.ok rfl
      generalize hc : a.eval x = c at hr
      cases hr with
      | iface _ _ c hvc hl =>
        subst_vars
        refine nx_val (c := c) ?_ hK hs (.inr (.inr hvc)) hd
        simp only [execOp, ho, hc, Instr.typeAssert, Sem.run_bind, run_underlying' hu, Result.andThen_ok]
        cases d <;> first | exact absurd rfl (hni _) | simp
    · cases hv
  · cases hv
    have hr := hrx.ok rfl
    generalize hc : a.eval x = c at hr
    cases hr
    refine nx_val (c := .tuple #[zv, .bool false]) ?_ hK hs (.inr (.inr (two _ _ _ hzr))) hd
    simp only [execOp, ho, hc, Instr.typeAssert, Sem.run_bind, run_underlying' hu, Result.andThen_ok]
    cases d <;> first | exact absurd rfl (hni _) | simp [run_zeroValue hi hz1]
  · cases hv

end
end Go.Am
