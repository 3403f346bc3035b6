/- The abstract machine's operations are the model's: numbers, strings, addresses, parts. -/
import Derived.Test.YtkcpkckaahmheaaDoorAmO
namespace Go.Am

section
variable {P : Program} {A : Ann} {X : CallH} {z : Start} {γ γ' : Gh} {w w' : World} {lam lam' : Nat → Nat} {s s' : St} {a : Act} {o : Oper} {K : V → St → Prop} {Qx : Exit → Act → World → Prop}

theorem relV_int {k : IntKind} {n : Int} {c : Value} (h : RelR γ w lam s.l (.int k n) c) : c = .int k n := by have := h.ok rfl; cases this; rfl
theorem relV_bool {b : Bool} {c : Value} (h : RelR γ w lam s.l (.bool b) c) : c = .bool b := by have := h.ok rfl; cases this; rfl
theorem relV_str {b : List UInt8} {c : Value} (h : RelR γ w lam s.l (.str b) c) : ∃ x : ByteArray, c = .string x ∧ x.data.toList = b := by have := h.ok rfl; cases this; exact ⟨_, rfl, by assumption⟩

theorem eqGuard_int {op : BinOp} {t : TypeId} {x y : Operand} {j k : IntKind} {m n : Int} : (eqGuard op t x y (.int j m) (.int k n)).run P w = .ok () w := by
  cases op <;> simp [eqGuard]
theorem eqGuard_str {op : BinOp} {t : TypeId} {x y : Operand} {p q : ByteArray} : (eqGuard op t x y (.string p) (.string q)).run P w = .ok () w := by
  cases op <;> simp [eqGuard]
theorem eqGuard_bool {op : BinOp} {t : TypeId} {x y : Operand} {p q : Bool} : (eqGuard op t x y (.bool p) (.bool q)).run P w = .ok () w := by
  cases op <;> simp [eqGuard]

theorem size_list (x : ByteArray) : x.size = x.data.toList.length := by cases x; rfl

theorem sim_bin (op : BinOp) (t t' : TypeId) (x y : Operand) (ho : o.op = .binOp op t x y t') {x' y' : AO} (hx : compX x = some x') (hy : compX y = some y') (hd : ∀ i, o.dst = some i → i < z.nt)
    (h : kSome K s (binV op (ev s.r x') (ev s.r y'))) (hs : SRel z γ w lam s a) : o.wp P a w (Nx z o.dst K) Qx := by
  obtain ⟨v, hv, hK⟩ := some_of h
  have hrx := rel_x hs hx
  have hry := rel_x hs hy
  generalize ev s.r x' = vx at hv hrx
  generalize ev s.r y' = vy at hv hry
  have ints : ∀ (k k' : IntKind) (p q : Int) (c : Value), vx = .int k p → vy = .int k' q → (binOp op t (.int k p) (.int k' q)).run P w = .ok c w → RelV γ w v c → o.wp P a w (Nx z o.dst K) Qx := by
    intro k k' p q c e1 e2 hrun hrel
    subst e1; subst e2
    have ex := relV_int hrx
    have ey := relV_int hry
    refine nx_val (c := c) ?_ hK hs (.inr (.inr hrel)) hd
    simp [execOp, ho, ex, ey, eqGuard_int, hrun]
  have strs : ∀ (p q : List UInt8), vx = .str p → vy = .str q → (∀ b1 b2 : ByteArray, b1.data.toList = p → b2.data.toList = q → ∃ c, (binOp op t (.string b1) (.string b2)).run P w = .ok c w ∧ RelV γ w v c) → o.wp P a w (Nx z o.dst K) Qx := by
    intro p q e1 e2 hrun
    subst e1; subst e2
    obtain ⟨b1, ex, h1⟩ := relV_str hrx
    obtain ⟨b2, ey, h2⟩ := relV_str hry
    obtain ⟨c, hc, hrel⟩ := hrun b1 b2 h1 h2
    refine nx_val (c := c) ?_ hK hs (.inr (.inr hrel)) hd
    simp [execOp, ho, ex, ey, eqGuard_str, hc]
  unfold binV at hv
  split at hv
  case h_12 =>
    split at hv
    · rename_i hl; cases hv
      refine strs _ _ rfl rfl fun b1 b2 h1 h2 => ⟨_, ?_, .str _ (b1 ++ b2) (by simp [ByteArray.data_append, h1, h2])⟩
      have : ¬ (9223372036854775807 < (b1.size : Int) + (b2.size : Int)) := by rw [size_list, size_list, h1, h2]; omega
      simp [binOp, Op.stringOp, IntKind.max, IntKind.signed, IntKind.bits, this]
    · cases hv
  case h_13 =>
    cases hv
    refine strs _ _ rfl rfl fun b1 b2 h1 h2 => ⟨_, ?_, .bool _⟩
    simp only [binOp, Op.stringOp, Sem.run_pure, bytes_beq, h1, h2]
  case h_14 =>
    cases hv
    refine strs _ _ rfl rfl fun b1 b2 h1 h2 => ⟨_, ?_, .bool _⟩
    simp only [binOp, Op.stringOp, Sem.run_pure, bytes_beq, h1, h2]
  case h_15 =>
    cases hv
    refine strs _ _ rfl rfl fun b1 b2 h1 h2 => ⟨_, ?_, .bool _⟩
    simp only [binOp, Op.stringOp, Sem.run_pure, ByteArray.toList_eq, h1, h2]
  case h_16 => cases hv
  all_goals
    split at hv
    · cases hv
      first
      | (subst_vars; refine ints _ _ _ _ _ rfl rfl ?_ (.int _ _); simp [binOp, Op.intArith]; done)
      | (subst_vars; refine ints _ _ _ _ _ rfl rfl ?_ (.bool _); simp [binOp, Op.intCmp]; done)
      | (rename_i hk; obtain ⟨hk, hb⟩ := hk; subst hk; refine ints _ _ _ _ _ rfl rfl ?_ (.int _ _); simp [binOp, Op.intDiv, hb]; done)
    · cases hv

def KKd : KK → TypeDesc → Prop
  | .int, d => ∃ j, d = .int j
  | .str, d => d = .string
  | .bool, d => d = .bool

theorem keyT_of {t : TypeId} {k : KK} (h : keyT P t = some k) : ∃ d, P.underlying t = some d ∧ KKd k d := by
  unfold keyT at h
  split at h <;> simp at h <;> subst h
  · rename_i j e; exact ⟨_, e, j, rfl⟩
  · rename_i e; exact ⟨_, e, rfl⟩
  · rename_i e; exact ⟨_, e, rfl⟩

theorem run_underlying' {t : TypeId} {d : TypeDesc} (h : P.underlying t = some d) : (underlying t).run P w = .ok d w := by
  simp [underlying, h]

theorem equal_bool {t : TypeId} (h : P.underlying t = some .bool) (p q : Bool) : (Op.equal t (.bool p) (.bool q)).run P w = .ok (p == q) w := by
  have : ∀ d, (Op.equalIn (d + 1) t (.bool p) (.bool q)).run P w = .ok (p == q) w := fun d => by simp [Op.equalIn, run_underlying' h]
  exact this 9999

theorem sim_eqb (neg : Bool) (t t' : TypeId) (x y : Operand) (ho : o.op = .binOp (if neg then .neq else .eql) t x y t') (ht : keyT P t = some .bool) {x' y' : AO} (hx : compX x = some x') (hy : compX y = some y') (hd : ∀ i, o.dst = some i → i < z.nt)
    (h : kSome K s (eqbV neg (ev s.r x') (ev s.r y'))) (hs : SRel z γ w lam s a) : o.wp P a w (Nx z o.dst K) Qx := by
  obtain ⟨v, hv, hK⟩ := some_of h
  have hrx := rel_x hs hx
  have hry := rel_x hs hy
  generalize ev s.r x' = vx at hv hrx
  generalize ev s.r y' = vy at hv hry
  obtain ⟨d, hu, hkd⟩ := keyT_of ht
  simp only [KKd] at hkd
  subst hkd
  unfold eqbV at hv
  split at hv
  · cases hv
    have ex := relV_bool hrx
    have ey := relV_bool hry
    refine nx_val ?_ hK hs (.inr (.inr (.bool _))) hd
    cases neg <;> simp [execOp, ho, ex, ey, eqGuard_bool, binOp, equal_bool hu]
  · cases hv

theorem nilT_of {t : TypeId} {k : NK} (h : nilT P t = some k) : ∃ d, P.underlying t = some d ∧ match k with | .ptr => ∃ e, d = .pointer e | .map => ∃ a b, d = .map a b | .fn => ∃ a b c, d = .func a b c | .iface => ∃ m, d = .interface m := by
  unfold nilT at h
  split at h <;> simp at h <;> subst h <;> rename_i e
  · exact ⟨_, e, _, rfl⟩
  · exact ⟨_, e, _, _, rfl⟩
  · exact ⟨_, e, _, _, _, rfl⟩
  · exact ⟨_, e, _, rfl⟩

def nilVal : NK → Value
  | .ptr => .pointer none
  | .map => .map none
  | .fn => .nilFunc
  | .iface => .nilIface

theorem nilC_of {k : NK} {y : Operand} (h : nilC k y = true) : y = .const (nilVal k) := by
  unfold nilC at h
  split at h <;> first | rfl | cases h

theorem equal_nil {t : TypeId} {k : NK} (ht : nilT P t = some k) {v : V} {c : Value} (hr : RelV γ w v c) {b : Bool} (hb : nilV k v = some b) :
    (Op.equal t c (nilVal k)).run P w = .ok b w := by
  obtain ⟨d, hu, hd⟩ := nilT_of ht
  have key : ∀ n, (Op.equalIn (n + 1) t c (nilVal k)).run P w = .ok b w := by
    intro n
    unfold nilV at hb
    split at hb <;> (try cases hb) <;> cases hr <;> simp only [nilVal] at hd ⊢
    all_goals first
      | (obtain ⟨e, rfl⟩ := hd; simp [Op.equalIn, run_underlying' hu]; done)
      | (obtain ⟨e, e', rfl⟩ := hd; simp [Op.equalIn, run_underlying' hu]; done)
      | (obtain ⟨e, e', e'', rfl⟩ := hd; simp [Op.equalIn, run_underlying' hu]; done)
  exact key 9999

theorem sim_eqnil (neg : Bool) (t t' : TypeId) (x y : Operand) (ho : o.op = .binOp (if neg then .neq else .eql) t x y t') {k : NK} (ht : nilT P t = some k) (hc : nilC k y = true) {x' : AO} (hx : compX x = some x') (hd : ∀ i, o.dst = some i → i < z.nt)
    (h : kBool K s ((nilV k (ev s.r x')).map (xor neg))) (hs : SRel z γ w lam s a) : o.wp P a w (Nx z o.dst K) Qx := by
  have hrx := rel_x hs hx
  generalize ev s.r x' = vx at h hrx
  cases hb : nilV k vx with
  | none => rw [hb] at h; exact h.elim
  | some b =>
    rw [hb] at h
    have hl : vx.isLoc = false := by unfold nilV at hb; split at hb <;> first | rfl | cases hb
    have he := equal_nil (P := P) ht (hrx.ok hl) hb
    obtain rfl := nilC_of hc
    have hg : ∀ op, (eqGuard op t x (.const (nilVal k)) (a.eval x) (nilVal k)).run P w = .ok () w := by
      intro op
      cases k <;> cases op <;> simp [eqGuard, nilVal] <;> (split <;> simp_all)
    refine nx_val ?_ h hs (.inr (.inr (.bool _))) hd
    have ec : a.eval (.const (nilVal k)) = nilVal k := rfl
    have hbin : ∀ (neg : Bool), (binOp (if neg = true then BinOp.neq else BinOp.eql) t (a.eval x) (nilVal k)).run P w = .ok (.bool (xor neg b)) w := by
      intro neg
      generalize a.eval x = c at he
      cases k <;> cases neg <;> cases c <;> simp_all [binOp, nilVal]
    simp only [execOp, ho, Sem.run_bind, ec, hg, hbin, Result.andThen_ok, Sem.run_pure]

theorem nilS_of {y : Operand} (h : nilS y = true) : y = .const (.slice none 0 0) := by
  unfold nilS at h
  split at h <;> first | rfl | cases h

theorem sliceT_of {t : TypeId} (h : sliceT P t = true) : ∃ e, P.underlying t = some (.slice e) := by
  unfold sliceT at h
  split at h
  · exact ⟨_, by assumption⟩
  · cases h

theorem sim_nilsl (neg : Bool) (t t' : TypeId) (x y : Operand) (ho : o.op = .binOp (if neg then .neq else .eql) t x y t') (ht : sliceT P t = true) (hc : nilS y = true) {x' : AO} (hx : compX x = some x') (hd : ∀ i, o.dst = some i → i < z.nt)
    (h : kNilS neg K s (ev s.r x')) (hs : SRel z γ w lam s a) : o.wp P a w (Nx z o.dst K) Qx := by
  have hrx := rel_x hs hx
  obtain ⟨e, hu⟩ := sliceT_of ht
  obtain rfl := nilS_of hc
  generalize ev s.r x' = vx at h hrx
  have key : ∀ (c : Value) (b : Bool), a.eval x = c → (Op.equal t c (.slice none 0 0)).run P w = .ok b w → K (.bool (xor neg b)) s → o.wp P a w (Nx z o.dst K) Qx := by
    intro c b he hb hK
    refine nx_val (c := .bool (xor neg b)) ?_ hK hs (.inr (.inr (.bool _))) hd
    have ec : a.eval (.const (.slice none 0 0)) = .slice none 0 0 := rfl
    have hg : ∀ op, (eqGuard op t x (.const (.slice none 0 0)) c (.slice none 0 0)).run P w = .ok () w := by
      intro op
      cases op <;> simp [eqGuard]
    have hbin : ∀ (neg : Bool), (binOp (if neg = true then BinOp.neq else BinOp.eql) t c (.slice none 0 0)).run P w = .ok (.bool (xor neg b)) w := by
      intro neg
      cases neg <;> cases c <;> simp_all [binOp]
    simp only [execOp, ho, Sem.run_bind, ec, he, hg, hbin, Result.andThen_ok, Sem.run_pure]
  have eqs : ∀ (ad : Option Addr) (len cap : Nat), (Op.equal t (.slice ad len cap) (.slice none 0 0)).run P w = .ok ad.isNone w := by
    intro ad len cap
    have all : ∀ n, (Op.equalIn (n + 1) t (.slice ad len cap) (.slice none 0 0)).run P w = .ok ad.isNone w := by
      intro n
      cases ad <;> simp [Op.equalIn, run_underlying' hu]
    exact all 9999
  cases vx <;> first
    | exact h.elim
    | skip
  case vec r ver off len zz =>
    have hv := hrx.ok rfl
    generalize he : a.eval x = c at hv
    cases hv with
    | vec =>
      refine key _ _ he (eqs (some _) _ _) ?_
      cases neg <;> exact h
  case msl r off len cap zz =>
    have hv := hrx.ok rfl
    generalize he : a.eval x = c at hv
    cases hv with
    | msl =>
      refine key _ _ he (eqs (some _) _ _) ?_
      cases neg <;> exact h
  rename_i tag xs
  have hv := hrx.ok rfl
  generalize he : a.eval x = c at hv
  cases hv with
  | sl t xs ad cap c z hcap htag hnil hspot hv hz hat =>
    cases xs with
    | nil =>
      refine key _ _ he (eqs ad _ cap) ?_
      cases ad <;> cases neg <;> first | exact h.1 | exact h.2
    | cons y xs =>
      cases ad with
      | none =>
        have := hnil rfl
        simp at hcap
        omega
      | some ad =>
        refine key _ _ he (eqs (some ad) _ cap) ?_
        cases neg <;> exact h

theorem sim_not (t : TypeId) (x : Operand) (ho : o.op = .unOp .not t x) {x' : AO} (hx : compX x = some x') (hd : ∀ i, o.dst = some i → i < z.nt)
    (h : kSome K s (notV (ev s.r x'))) (hs : SRel z γ w lam s a) : o.wp P a w (Nx z o.dst K) Qx := by
  obtain ⟨v, hv, hK⟩ := some_of h
  have hrx := rel_x hs hx
  generalize ev s.r x' = vx at hv hrx
  unfold notV at hv
  split at hv
  · cases hv
    have ex := relV_bool hrx
    exact nx_val (by simp [execOp, ho, ex, Op.unary]) hK hs (.inr (.inr (.bool _))) hd
  · cases hv

theorem sim_neg (t : TypeId) (x : Operand) (ho : o.op = .unOp .neg t x) {x' : AO} (hx : compX x = some x') (hd : ∀ i, o.dst = some i → i < z.nt)
    (h : kSome K s (negV (ev s.r x'))) (hs : SRel z γ w lam s a) : o.wp P a w (Nx z o.dst K) Qx := by
  obtain ⟨v, hv, hK⟩ := some_of h
  have hrx := rel_x hs hx
  generalize ev s.r x' = vx at hv hrx
  unfold negV at hv
  split at hv
  · cases hv
    have ex := relV_int hrx
    exact nx_val (by simp [execOp, ho, ex, Op.unary, Op.intArith]) hK hs (.inr (.inr (.int _ _))) hd
  · cases hv

theorem sim_bmax (x y : Operand) (ts : Array TypeId) (ho : o.op = .call { callee := .builtin .max, args := #[x, y], argTypes := ts }) {x' y' : AO} (hx : compX x = some x') (hy : compX y = some y') (hd : ∀ i, o.dst = some i → i < z.nt)
    (h : kSome K s (maxV (ev s.r x') (ev s.r y'))) (hs : SRel z γ w lam s a) : o.wp P a w (Nx z o.dst K) Qx := by
  obtain ⟨v, hv, hK⟩ := some_of h
  have hrx := rel_x hs hx
  have hry := rel_x hs hy
  generalize ev s.r x' = vx at hv hrx
  generalize ev s.r y' = vy at hv hry
  unfold maxV at hv
  split at hv
  · split at hv
    · rename_i k a1 k' b1 hk
      cases hv
      have ex := relV_int hrx
      have ey := relV_int hry
      refine nx_val (c := .int k (if b1 > a1 then b1 else a1)) ?_ hK hs (.inr (.inr (.int _ _))) hd
      simp [execOp, ho, resolve, invoke, builtin, ex, ey, Builtin.max_, Builtin.max2]
    · cases hv
  · cases hv

theorem sim_bmin (x y : Operand) (ts : Array TypeId) (ho : o.op = .call { callee := .builtin .min, args := #[x, y], argTypes := ts }) {x' y' : AO} (hx : compX x = some x') (hy : compX y = some y') (hd : ∀ i, o.dst = some i → i < z.nt)
    (h : kSome K s (minV (ev s.r x') (ev s.r y'))) (hs : SRel z γ w lam s a) : o.wp P a w (Nx z o.dst K) Qx := by
  obtain ⟨v, hv, hK⟩ := some_of h
  have hrx := rel_x hs hx
  have hry := rel_x hs hy
  generalize ev s.r x' = vx at hv hrx
  generalize ev s.r y' = vy at hv hry
  unfold minV at hv
  split at hv
  · split at hv
    · rename_i k a1 k' b1 hk
      cases hv
      have ex := relV_int hrx
      have ey := relV_int hry
      refine nx_val (c := .int k (if b1 < a1 then b1 else a1)) ?_ hK hs (.inr (.inr (.int _ _))) hd
      simp [execOp, ho, resolve, invoke, builtin, ex, ey, Builtin.min_, Builtin.min2]
    · cases hv
  · cases hv

theorem sim_copy0 (t u e : TypeId) (x y : Operand) (ho : o.op = .call { callee := .builtin .copy, args := #[x, y], argTypes := #[t, u] }) (hu : P.underlying t = some (.slice e)) {n : Nat} (hn : sizeT P e = some n) {x' y' : AO} (hx : compX x = some x') (hy : compX y = some y') (hd : ∀ i, o.dst = some i → i < z.nt)
    (h : kSome K s (copyV (ev s.r x') (ev s.r y'))) (hs : SRel z γ w lam s a) : o.wp P a w (Nx z o.dst K) Qx := by
  obtain ⟨v, hv, hK⟩ := some_of h
  have hrx := rel_x hs hx
  have hry := rel_x hs hy
  generalize ev s.r x' = vx at hv hrx
  generalize ev s.r y' = vy at hv hry
  unfold copyV at hv
  split at hv
  · cases hv
    have hr := hrx.ok rfl
    have hr' := hry.ok rfl
    generalize hca : a.eval x = c at hr
    generalize hcb : a.eval y = c' at hr'
    cases hr with
    | sl _ _ ad cap f z' hcap htag hnil hspot hvv hzz hat =>
      cases hr' with
      | sl _ ys ad' cap' f' z'' hcap' htag' hnil' hspot' hvv' hzz' hat' =>
        refine nx_val (c := .int .i64 0) ?_ hK hs (.inr (.inr (.int _ _))) hd
        have hc : ∀ b : Addr, (loadCells b 0).run P w = .ok #[] w := fun b => rfl
        have hst : ∀ b : Addr, (storeCells b ([] : List Value)).run P w = .ok () w := fun b => rfl
        have hm : ∀ k, Nat.min k ([] : List V).length = 0 := fun k => Nat.min_zero k
        have hm2 : ∀ k, Nat.min k 0 = 0 := fun k => Nat.min_zero k
        cases ad <;> cases ad' <;> simp [execOp, ho, resolve, invoke, builtin, hca, hcb, Builtin.copy_, run_underlying' hu, run_sizeOf' hn, Builtin.lenOf, Builtin.firstCells, hm, hm2, hc, hst, goInt]
  · cases hv

theorem sim_mkif (t : TypeId) (x : Operand) (ho : o.op = .makeInterface t x) {d : TypeDesc} (hu : P.underlying t = some d) (hi : ∀ m, d ≠ .interface m) {x' : AO} (hx : compX x = some x') (hd : ∀ i, o.dst = some i → i < z.nt)
    (h : (ev s.r x').isLoc = false ∧ K (.iface t (ev s.r x')) s) (hs : SRel z γ w lam s a) : o.wp P a w (Nx z o.dst K) Qx := by
  refine nx_val ?_ h.2 hs (.inr (.inr (.iface t _ _ ((rel_x hs hx).ok h.1) h.1))) hd
  simp only [execOp, ho, Instr.makeInterface, Sem.run_bind, run_underlying' hu, Result.andThen_ok]
  cases d <;> first | rfl | exact absurd rfl (hi _)

theorem sim_faddr (t : TypeId) (x : Operand) (i : Nat) (ho : o.op = .fieldAddr t x i) {fs : Array Field} {f : Field} (hu : P.underlying t = some (.struct fs)) (hf : fs[i]? = some f) {n : Nat} (hn : sizeT P f.type = some n) (hn0 : 0 < n) {x' : AO} (hx : compX x = some x') (hd : ∀ i, o.dst = some i → i < z.nt)
    (h : kSome K s (faddV f.offset (ev s.r x'))) (hs : SRel z γ w lam s a) : o.wp P a w (Nx z o.dst K) Qx := by
  obtain ⟨v, hv, hK⟩ := some_of h
  have hrx := rel_x hs hx
  generalize ev s.r x' = vx at hv hrx
  have run : ∀ b off, a.eval x = .pointer (some ⟨b, off, none⟩) → (execOp a.eval o).run P w = .ok (.value (.pointer (some ⟨b, off + f.offset, none⟩))) w := by
    intro b off e
    have : n ≠ 0 := by omega
    simp [execOp, ho, e, Instr.fieldAt, run_underlying' hu, hf, Instr.sureAddr, fieldPlace, run_sizeOf' hn, this, addr_add]
  unfold faddV at hv
  split at hv
  · cases hv
    have hr := hrx.ok rfl
    generalize hc : a.eval x = c at hr
    cases hr with
    | ptr r off hlt hk => exact nx_val (run _ _ hc) hK hs (.inr (.inr (.ptr _ _ hlt hk))) hd
  · cases hv
    rcases hrx with hr | ⟨d, o', e, h1, h2⟩ | hr
    · cases hr
    · cases e
      exact nx_val (run _ _ h2) hK hs (.inr (.inl ⟨_, _, rfl, h1, rfl⟩)) hd
    · cases hr
  · cases hv
    have hr := hrx.ok rfl
    generalize hc : a.eval x = c at hr
    cases hr with
    | elp e off c b o' he hl hat => 
      refine nx_val (run _ _ hc) hK hs (.inr (.inr ?_)) hd
      rw [Nat.add_assoc]
      exact .elp _ _ c b o' he hl hat
  · cases hv
    have hr := hrx.ok rfl
    generalize hc : a.eval x = c at hr
    cases hr with
    | vptr r ver off b o' h1 h2 h3 h4 =>
      refine nx_val (run _ _ hc) hK hs (.inr (.inr (.vptr _ _ _ _ _ h1 h2 h3 fun e => ?_))) hd
      obtain ⟨rfl, rfl⟩ := h4 e
      exact ⟨rfl, rfl⟩
  · cases hv

theorem sim_aaddr (t e : TypeId) (x : Operand) (kk : IntKind) (k : Int) (ho : o.op = .indexAddr t x (.const (.int kk k))) {m : Nat} (hu : P.underlying t = some (.array m e)) {n : Nat} (hn : sizeT P e = some n) (hk0 : 0 ≤ k) (hk : k.toNat < m) {x' : AO} (hx : compX x = some x') (hd : ∀ i, o.dst = some i → i < z.nt)
    (h : kSome K s (faddV (k.toNat * n) (ev s.r x'))) (hs : SRel z γ w lam s a) : o.wp P a w (Nx z o.dst K) Qx := by
  obtain ⟨v, hv, hK⟩ := some_of h
  have hrx := rel_x hs hx
  generalize ev s.r x' = vx at hv hrx
  have hc : a.eval (.const (.int kk k)) = .int kk k := rfl
  have hkm : k < (m : Int) := by omega
  have run : ∀ b off, a.eval x = .pointer (some ⟨b, off, none⟩) → (execOp a.eval o).run P w = .ok (.value (.pointer (some ⟨b, off + k.toNat * n, none⟩))) w := by
    intro b off e
    simp [execOp, ho, e, hc, Instr.indexAt, asIntOf, run_underlying' hu, Instr.sureAddr, run_sizeOf' hn, hk0, hkm, addr_add]
  unfold faddV at hv
  split at hv
  · cases hv
    have hr := hrx.ok rfl
    generalize hc : a.eval x = c at hr
    cases hr with
    | ptr r off hlt hk => exact nx_val (run _ _ hc) hK hs (.inr (.inr (.ptr _ _ hlt hk))) hd
  · cases hv
    rcases hrx with hr | ⟨d, o', e, h1, h2⟩ | hr
    · cases hr
    · cases e
      exact nx_val (run _ _ h2) hK hs (.inr (.inl ⟨_, _, rfl, h1, rfl⟩)) hd
    · cases hr
  · cases hv
    have hr := hrx.ok rfl
    generalize hc : a.eval x = c at hr
    cases hr with
    | elp e off c b o' he hl hat =>
      refine nx_val (run _ _ hc) hK hs (.inr (.inr ?_)) hd
      rw [Nat.add_assoc]
      exact .elp _ _ c b o' he hl hat
  · cases hv
    have hr := hrx.ok rfl
    generalize hc : a.eval x = c at hr
    cases hr with
    | vptr r ver off b o' h1 h2 h3 h4 =>
      refine nx_val (run _ _ hc) hK hs (.inr (.inr (.vptr _ _ _ _ _ h1 h2 h3 fun e => ?_))) hd
      obtain ⟨rfl, rfl⟩ := h4 e
      exact ⟨rfl, rfl⟩
  · cases hv

theorem sim_field (t : TypeId) (x : Operand) (i : Nat) (ho : o.op = .field t x i) {fs : Array Field} {f : Field} (hu : P.underlying t = some (.struct fs)) (hf : fs[i]? = some f) {n : Option Nat} (hn : shapeT P f.type = some n) {x' : AO} (hx : compX x = some x') (hd : ∀ i, o.dst = some i → i < z.nt)
    (h : kSome K s (fieldV f.offset n (ev s.r x'))) (hs : SRel z γ w lam s a) : o.wp P a w (Nx z o.dst K) Qx := by
  obtain ⟨v, hv, hK⟩ := some_of h
  have hrx := rel_x hs hx
  generalize ev s.r x' = vx at hv hrx
  unfold fieldV at hv
  split at hv
  · rename_i cs
    have hr := hrx.ok rfl
    generalize hc : a.eval x = c at hr
    cases hr with
    | agg _ vs hsz hvv hone =>
      have hcr : CellsRel γ w cs vs := ⟨hsz, fun i x u hx hu => ⟨hvv i x u hx hu, hone i u hu⟩⟩
      rcases hcr.sel hv with ⟨rfl, u, hu', hru, _⟩ | ⟨m, rfl, hm, hra⟩
      · rcases shape_cases hn with ⟨_, hg⟩ | ⟨m, e, _⟩
        · refine nx_val ?_ hK hs (.inr (.inr hru)) hd
          simp [execOp, ho, hc, Instr.field, run_underlying' hu, hf, asAgg, part, run_isAgg hg, hu']
        · cases e
      · rcases shape_cases hn with ⟨e, _⟩ | ⟨m', e, hg, hsz'⟩
        · cases e
        · cases e
          refine nx_val ?_ hK hs (.inr (.inr hra)) hd
          simp [execOp, ho, hc, Instr.field, run_underlying' hu, hf, asAgg, part, run_isAgg hg, run_sizeOf' hsz']
  · cases hv

theorem sim_sindex (t : TypeId) (x i : Operand) (ho : o.op = .index t x i) (hu : P.underlying t = some .string) {x' i' : AO} (hx : compX x = some x') (hi : compX i = some i') (hd : ∀ i, o.dst = some i → i < z.nt)
    (h : kSome K s (sindexV (ev s.r x') (ev s.r i'))) (hs : SRel z γ w lam s a) : o.wp P a w (Nx z o.dst K) Qx := by
  obtain ⟨v, hv, hK⟩ := some_of h
  have hrx := rel_x hs hx
  have hri := rel_x hs hi
  generalize ev s.r x' = vx at hv hrx
  generalize ev s.r i' = vi at hv hri
  unfold sindexV at hv
  split at hv
  · split at hv
    · rename_i b k n hn
      simp only [Option.map_eq_some_iff] at hv
      obtain ⟨c, hc, rfl⟩ := hv
      obtain ⟨bb, ex, hb⟩ := relV_str hrx
      have ei := relV_int hri
      have hlt : n.toNat < bb.size := by rw [size_list, hb]; exact (List.getElem?_eq_some_iff.1 hc).1
      have hg : bb[n.toNat]? = some c := by
        rw [getElem?_pos bb n.toNat hlt]
        subst hb
        obtain ⟨h1, h2⟩ := List.getElem?_eq_some_iff.1 hc
        rw [← h2]
        rfl
      refine nx_val ?_ hK hs (.inr (.inr (.int _ _))) hd
      simp [execOp, ho, ex, ei, Instr.index, asIntOf, run_underlying' hu, hn, hg]
    · cases hv
  · cases hv

theorem sim_extract (x : Operand) (i : Nat) (ho : o.op = .extract x i) {x' : AO} (hx : compX x = some x') (hd : ∀ i, o.dst = some i → i < z.nt)
    (h : kSome K s (extractV i (ev s.r x'))) (hs : SRel z γ w lam s a) : o.wp P a w (Nx z o.dst K) Qx := by
  obtain ⟨v, hv, hK⟩ := some_of h
  have hrx := rel_x hs hx
  generalize ev s.r x' = vx at hv hrx
  unfold extractV at hv
  split at hv
  · rename_i vs
    have hr := hrx.val (by simp) (by simp)
    generalize hc : a.eval x = c at hr
    cases hr with
    | tup _ us hsz hvv =>
      have hlt : i < us.size := by rw [hsz]; exact (List.getElem?_eq_some_iff.1 hv).1
      refine nx_val (c := us[i]) ?_ hK hs (.inr (.inr (hvv i v _ hv (Array.getElem?_eq_getElem hlt)))) hd
      simp [execOp, ho, hc, Instr.extract, Array.getElem?_eq_getElem hlt]
  · cases hv

end
end Go.Am
