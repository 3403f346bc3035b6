/- The abstract machine: its rules as equations that rewrite a goal from its head on. -/
import Derived.Test.YtkcpkckaahmheaaDoorAmC
namespace Go.Am

section
variable {X : CallH} {bs : List Nat} {d : Option Nat} {s : St} {K : V → St → Prop} {Q : AX → St → Prop} {L : St → Prop}

@[simp] theorem e_skip : wpA X bs .skip Q s = Q .normal s := rfl
@[simp] theorem e_reg (l : List Ins) : wpA X bs (.reg l) Q s = wpL X bs l (Q .normal) s := rfl
@[simp] theorem e_seq (a b : AC) : wpA X bs (.seq a b) Q s = wpA X bs a (thenA (wpA X bs b Q) Q) s := rfl
@[simp] theorem e_cond (c : AO) (a b : AC) : wpA X bs (.cond c a b) Q s = condA (wpA X bs a Q) (wpA X bs b Q) s (ev s.r c) := rfl
@[simp] theorem e_block (id : Nat) (b : AC) : wpA X bs (.block id b) Q s = wpA X bs b (blockA id Q) s := rfl
@[simp] theorem e_exit (id : Nat) : wpA X bs (.exit id) Q s = Q (.exit id) s := rfl
@[simp] theorem e_ret : wpA X bs .ret Q s = Q .ret s := rfl
@[simp] theorem e_then_n (k : St → Prop) : thenA k Q .normal s = k s := rfl
@[simp] theorem e_then_e (k : St → Prop) (id : Nat) : thenA k Q (.exit id) s = Q (.exit id) s := rfl
@[simp] theorem e_then_r (k : St → Prop) : thenA k Q .ret s = Q .ret s := rfl
@[simp] theorem e_cond_t (ka kb : St → Prop) : condA ka kb s (.bool true) = ka s := by simp [condA]
@[simp] theorem e_cond_f (ka kb : St → Prop) : condA ka kb s (.bool false) = kb s := by simp [condA]
theorem condA_split {ka kb : St → Prop} {c : Bool} (ht : c = true → ka s) (hf : c = false → kb s) : condA ka kb s (.bool c) := ⟨ht, hf⟩
theorem condA_dec {ka kb : St → Prop} {p : Prop} [Decidable p] (ht : p → ka s) (hf : ¬ p → kb s) : condA ka kb s (.bool (decide p)) :=
  ⟨fun h => ht (of_decide_eq_true h), fun h => hf (of_decide_eq_false h)⟩
@[simp] theorem e_block_n (id : Nat) : blockA id Q .normal s = Q .normal s := rfl
@[simp] theorem e_block_e (id j : Nat) : blockA id Q (.exit j) s = if j = id then Q .normal s else Q (.exit j) s := rfl
@[simp] theorem e_block_r (id : Nat) : blockA id Q .ret s = Q .ret s := rfl

@[simp] theorem e_nil : wpL X bs [] L s = L s := by simp only [wpL]
@[simp] theorem e_cons (d : Option Nat) (o : AOp) (is : List Ins) : wpL X bs (⟨d, none, o⟩ :: is) L s = wpOp X bs d o s (contL X bs d is L) := by simp only [wpL]
@[simp] theorem e_guard (d : Option Nat) (j : Nat) (w : Bool) (o : AOp) (is : List Ins) : wpL X bs (⟨d, some (j, w), o⟩ :: is) L s = guardL X bs w d o is L s (s.r j) := by simp only [wpL]
@[simp] theorem e_cont (d : Option Nat) (is : List Ins) (v : V) : contL X bs d is L v s = wpL X bs is L (putD s d v) := by simp only [contL]
@[simp] theorem e_g_tt (d : Option Nat) (o : AOp) (is : List Ins) : guardL X bs true d o is L s (.bool true) = wpOp X bs d o s (contL X bs d is L) := by simp [guardL]
@[simp] theorem e_g_ff (d : Option Nat) (o : AOp) (is : List Ins) : guardL X bs false d o is L s (.bool false) = wpOp X bs d o s (contL X bs d is L) := by simp [guardL]
@[simp] theorem e_g_tf (d : Option Nat) (o : AOp) (is : List Ins) : guardL X bs true d o is L s (.bool false) = wpL X bs is L (putD s d (.tup [])) := by simp [guardL]
@[simp] theorem e_g_ft (d : Option Nat) (o : AOp) (is : List Ins) : guardL X bs false d o is L s (.bool true) = wpL X bs is L (putD s d (.tup [])) := by simp [guardL]
@[simp] theorem e_g_u (w : Bool) (d : Option Nat) (o : AOp) (is : List Ins) : guardL X bs w d o is L s (.tup []) = wpL X bs is L (putD s d (.tup [])) := by simp [guardL]
theorem guardL_split {w : Bool} {d : Option Nat} {o : AOp} {is : List Ins} {c : Bool} (ht : c = w → wpOp X bs d o s (contL X bs d is L)) (hf : c ≠ w → wpL X bs is L (putD s d (.tup []))) :
    guardL X bs w d o is L s (.bool c) := by simp only [guardL]; exact ⟨ht, hf⟩

@[simp] theorem e_put_some (r : Nat → V) (l : Nat → Option (List V)) (h : List Ob) (d : Nat) (v : V) : putD ⟨r, l, h⟩ (some d) v = ⟨put r d v, l, h⟩ := rfl
@[simp] theorem e_put_none (v : V) : putD s none v = s := rfl
@[simp] theorem put_same (r : Nat → V) (d : Nat) (v : V) : put r d v d = v := by simp [put]
@[simp] theorem put_ne (r : Nat → V) (d e : Nat) (v : V) (h : e ≠ d) : put r d v e = r e := by simp [put, h]
@[simp] theorem putL_same (r : Nat → Option (List V)) (d : Nat) (v : List V) : putL r d v d = some v := by simp [putL]
@[simp] theorem putL_ne (r : Nat → Option (List V)) (d e : Nat) (v : List V) (h : e ≠ d) : putL r d v e = r e := by simp [putL, h]
@[simp] theorem ev_t (r : Nat → V) (i : Nat) : ev r (.t i) = r i := rfl
@[simp] theorem ev_c (r : Nat → V) (v : V) : ev r (.c v) = v := rfl
@[simp] theorem start_0 (a : V) (l : List V) : startR (a :: l) 0 = a := rfl
@[simp] theorem start_s (a : V) (l : List V) (i : Nat) : startR (a :: l) (i + 1) = startR l i := rfl
@[simp] theorem start_1 (a b : V) (l : List V) : startR (a :: b :: l) 1 = b := rfl
@[simp] theorem start_2 (a b c : V) (l : List V) : startR (a :: b :: c :: l) 2 = c := rfl
@[simp] theorem start_3 (a b c e : V) (l : List V) : startR (a :: b :: c :: e :: l) 3 = e := rfl

@[simp] theorem e_mov (x : AO) : wpOp X bs d (.mov x) s K = K (ev s.r x) s := rfl
@[simp] theorem e_pick (c a b : AO) : wpOp X bs d (.pick c a b) s K = kPick (ev s.r a) (ev s.r b) K s (ev s.r c) := rfl
@[simp] theorem e_alloc (z : List V) (hp : Bool) : wpOp X bs d (.alloc z hp) s K = kNew z d K s hp := rfl
@[simp] theorem e_box (x : AO) (n : Nat) (hp : Bool) : wpOp X bs d (.box x n hp) s K = ((ev s.r x).cells.length = n ∧ (ev s.r x).isLoc = false ∧ kNew (ev s.r x).cells d K s hp) := rfl
@[simp] theorem e_fbox (x : AO) (n : Nat) : wpOp X bs d (.fbox x n) s K = ((ev s.r x).cells.length = n ∧ (ev s.r x).isLoc = false ∧ K (.elp (ev s.r x) 0) s) := rfl
@[simp] theorem e_mkarr (z : List V) (l c : AO) : wpOp X bs d (.mkarr z l c) s K = kMakeM z K s (ev s.r l) (ev s.r c) := rfl
@[simp] theorem k_makem (z : List V) (k k' : IntKind) (n m : Int) : kMakeM z K s (.int k n) (.int k' m) = (0 ≤ n ∧ n ≤ m ∧ m ≤ lim ∧ K (.msl s.h.length 0 n.toNat m.toNat z.length) { s with h := s.h ++ [.box (List.replicate m.toNat z).flatten] }) := rfl
@[simp] theorem e_appm (sz : Nat) (z : List V) (x y : AO) : wpOp X bs d (.appm sz z x y) s K = kAppm bs sz z K s (ev s.r x) (elemsOf (ev s.r y)) := rfl
@[simp] theorem k_appm_0 (sz : Nat) (z : List V) : kAppm bs sz z K s (.sl .clip []) (some []) = K (.sl .clip []) s := rfl
@[simp] theorem k_appm_n (sz : Nat) (z0 y : V) (z ys : List V) : kAppm bs sz (z0 :: z) K s (.sl .clip []) (some (y :: ys)) = ((∀ v ∈ y :: ys, v.cells.length = sz) ∧ (y :: ys).length ≤ lim ∧ ∀ c, (y :: ys).length ≤ c → K (.msl s.h.length 0 (y :: ys).length c sz) { s with h := s.h ++ [.box ((y :: ys).flatMap V.cells ++ (List.replicate (c - (y :: ys).length) (z0 :: z)).flatten)] }) := rfl
@[simp] theorem k_appm_l (sz : Nat) (y : V) (ys : List V) : kAppm bs sz [] K s (.sl .clip []) (some (y :: ys)) = ((∀ v ∈ y :: ys, v.cells.length = sz) ∧ (y :: ys).length ≤ lim ∧ K (.msl s.h.length 0 (y :: ys).length 0 sz) { s with h := s.h ++ [.box ((y :: ys).flatMap V.cells)] }) := rfl
@[simp] theorem k_appm_m (sz : Nat) (z ys : List V) (r len cap q : Nat) : kAppm bs sz z K s (.msl r 0 len cap q) (some ys) = (q = sz ∧ ys ≠ [] ∧ (∀ v ∈ ys, v.cells.length = sz) ∧ len + ys.length ≤ lim ∧ kAppm1 bs sz z r len cap ys K s s.h[r]?) := rfl
theorem k_appm_in (sz : Nat) (z ys cs : List V) (r len cap : Nat) (hc : len + ys.length ≤ cap) : kAppm1 bs sz z r len cap ys K s (some (.box cs)) =
    (len * sz + ys.length * sz ≤ cs.length ∧ okStore bs r (ys.flatMap V.cells) ∧ K (.msl r 0 (len + ys.length) cap sz) { s with h := s.h.set r (.box (splice cs (len * sz) (ys.flatMap V.cells))) }) := by simp only [kAppm1, if_pos hc]
theorem k_appm_out (sz : Nat) (z ys cs : List V) (r len cap : Nat) (hc : ¬ len + ys.length ≤ cap) : kAppm1 bs sz z r len cap ys K s (some (.box cs)) =
    (len ≤ cap ∧ len * sz ≤ cs.length ∧ ∀ c, len + ys.length ≤ c → K (.msl s.h.length 0 (len + ys.length) c sz) { s with h := s.h ++ [.box (cs.take (len * sz) ++ ys.flatMap V.cells ++ (List.replicate (c - (len + ys.length)) z).flatten)] }) := by simp only [kAppm1, if_neg hc]
@[simp] theorem k_nils_m (neg : Bool) (r o l c z : Nat) : kNilS neg K s (.msl r o l c z) = K (.bool neg) s := rfl
@[simp] theorem e_build (z : List V) (ps : List (Nat × Nat × AO)) : wpOp X bs d (.build z ps) s K = kSome K s ((buildC s.r ps z).map .agg) := rfl
@[simp] theorem e_bslice (z : List V) (n : Nat) (ps : List (Nat × AO)) : wpOp X bs d (.bslice z n ps) s K = kSome K s ((buildS s.r z.length ps (List.replicate n (oneV z))).map (.sl .clip)) := rfl
@[simp] theorem e_load (n : Option Nat) (a : AO) : wpOp X bs d (.load n a) s K = kSome K s (loadV s (ev s.r a) n) := rfl
@[simp] theorem e_store (n : Nat) (a x : AO) : wpOp X bs d (.store n a x) s K = ((ev s.r x).cells.length = n ∧ (ev s.r x).isLoc = false ∧ kStore bs (ev s.r x).cells K s (ev s.r a)) := rfl
@[simp] theorem e_loadL (n : Option Nat) (a : AO) : wpOp X bs d (.loadL n a) s K = kSome K s (loadLV s (ev s.r a) n) := rfl
@[simp] theorem e_loadX (lc : Bool) (n : Option Nat) (a : AO) (l m : List AO) : wpOp X bs d (.loadX lc n a l m) s K = (addrOk lc (ev s.r a) (evs s.r l) (evs s.r m) = true ∧ kSome K s (loadV s (ev s.r a) n)) := rfl
@[simp] theorem e_storeX (lc : Bool) (n : Nat) (a x : AO) (l m : List AO) : wpOp X bs d (.storeX lc n a x l m) s K = (addrOk lc (ev s.r a) (evs s.r l) (evs s.r m) = true ∧ (ev s.r x).cells.length = n ∧ (ev s.r x).isLoc = false ∧ kStore bs (ev s.r x).cells K s (ev s.r a)) := rfl
@[simp] theorem objOf_loc (d o : Nat) : objOf (.loc d o) = some (false, d) := rfl
@[simp] theorem objOf_ptr (d o : Nat) : objOf (.ptr d o) = some (true, d) := rfl
@[simp] theorem objOf_elp (e : V) (o : Nat) : objOf (.elp e o) = none := rfl
@[simp] theorem farL_nil (a : V) : farL a [] = true := rfl
@[simp] theorem farL_cons (a c : V) (l : List V) : farL a (c :: l) = ((objOf a != objOf c) && farL a l) := rfl
@[simp] theorem sameL_nil (a : V) : sameL a [] = true := rfl
@[simp] theorem sameL_cons (a c : V) (l : List V) : sameL a (c :: l) = ((objOf a == objOf c) && sameL a l) := rfl
@[simp] theorem addrOk_eq (lc : Bool) (a : V) (l m : List V) : addrOk lc a l m = ((!lc || !isPtr a) && farL a l && sameL a m) := rfl
@[simp] theorem e_storeL (n : Nat) (a x : AO) : wpOp X bs d (.storeL n a x) s K = (isPtr (ev s.r a) = false ∧ (ev s.r x).cells.length = n ∧ (ev s.r x).isLoc = false ∧ kStore bs (ev s.r x).cells K s (ev s.r a)) := rfl
@[simp] theorem e_nilck (x : AO) : wpOp X bs d (.nilck x) s K = kNil K s (ev s.r x) := rfl
@[simp] theorem e_bin (op : BinOp) (x y : AO) : wpOp X bs d (.bin op x y) s K = kSome K s (binV op (ev s.r x) (ev s.r y)) := rfl
@[simp] theorem e_eqnil (nk : NK) (neg : Bool) (x : AO) : wpOp X bs d (.eqnil nk neg x) s K = kBool K s ((nilV nk (ev s.r x)).map (xor neg)) := rfl
@[simp] theorem e_nilsl (neg : Bool) (x : AO) : wpOp X bs d (.nilsl neg x) s K = kNilS neg K s (ev s.r x) := rfl
@[simp] theorem k_nils_0 (neg : Bool) (t : Tag) : kNilS neg K s (.sl t []) = (K (.bool true) s ∧ K (.bool false) s) := rfl
@[simp] theorem k_nils_1 (neg : Bool) (t : Tag) (x : V) (l : List V) : kNilS neg K s (.sl t (x :: l)) = K (.bool neg) s := rfl
@[simp] theorem e_eqb (neg : Bool) (x y : AO) : wpOp X bs d (.eqb neg x y) s K = kSome K s (eqbV neg (ev s.r x) (ev s.r y)) := rfl
@[simp] theorem e_not (x : AO) : wpOp X bs d (.not x) s K = kSome K s (notV (ev s.r x)) := rfl
@[simp] theorem e_bmax (x y : AO) : wpOp X bs d (.bmax x y) s K = kSome K s (maxV (ev s.r x) (ev s.r y)) := rfl
@[simp] theorem e_copy0 (x y : AO) : wpOp X bs d (.copy0 x y) s K = kSome K s (copyV (ev s.r x) (ev s.r y)) := rfl
@[simp] theorem e_bmin (x y : AO) : wpOp X bs d (.bmin x y) s K = kSome K s (minV (ev s.r x) (ev s.r y)) := rfl
@[simp] theorem min_int (k : IntKind) (a b : Int) : minV (.int k a) (.int k b) = some (.int k (if b < a then b else a)) := by simp [minV]
@[simp] theorem max_int (k : IntKind) (a b : Int) : maxV (.int k a) (.int k b) = some (.int k (if b > a then b else a)) := by simp [maxV]
@[simp] theorem e_neg (x : AO) : wpOp X bs d (.neg x) s K = kSome K s (negV (ev s.r x)) := rfl
@[simp] theorem e_conv (c : Cv) (x : AO) : wpOp X bs d (.conv c x) s K = kSome K s (convV c (ev s.r x)) := rfl
@[simp] theorem e_mkif (t : Nat) (x : AO) : wpOp X bs d (.mkif t x) s K = ((ev s.r x).isLoc = false ∧ K (.iface t (ev s.r x)) s) := rfl
@[simp] theorem e_mkmet (f : Nat) (xs : List AO) : wpOp X bs d (.mkmet f xs) s K = (okVals (evs s.r xs) = true ∧ K (.mfn f (evs s.r xs)) s) := rfl
@[simp] theorem k_call_m (vr : Nat) (args : List V) (g : Nat) (xs : List V) : kCall X bs vr args K s (.mfn g xs) = X g vr bs (xs ++ args) s.h (kRet K s) := rfl
@[simp] theorem k_nil_m (f : Nat) (c : List V) : kNil K s (.mfn f c) = K (.mfn f c) s := rfl
@[simp] theorem cells_mfn (f : Nat) (c : List V) : V.cells (.mfn f c) = [(.mfn f c)] := rfl
@[simp] theorem isLoc_mfn (f : Nat) (c : List V) : V.isLoc (.mfn f c) = false := rfl
@[simp] theorem nilV_mf (f : Nat) (c : List V) : nilV .fn (.mfn f c) = some false := rfl
@[simp] theorem demote_mfn (f : Nat) (c : List V) : V.demote (.mfn f c) = .mfn f c := by simp [V.demote]
@[simp] theorem under_mfn (n f : Nat) (c : List V) : V.under n (.mfn f c) = underL n c := by simp [V.under]
@[simp] theorem e_mkfn (f : Nat) (cap : List AO) : wpOp X bs d (.mkfn f cap) s K = (okVals (evs s.r cap) = true ∧ K (.fn f (evs s.r cap)) s) := rfl
@[simp] theorem e_mkmap : wpOp X bs d .mkmap s K = K (.map (some s.h.length)) { s with h := s.h ++ [.map [] [] 0] } := rfl
@[simp] theorem e_mkslice (z : List V) (l c : AO) : wpOp X bs d (.mkslice z l c) s K = kMake z K s (ev s.r l) (ev s.r c) := rfl
@[simp] theorem e_slice (sz : Nat) (x : AO) (lo hi mx : Option AO) : wpOp X bs d (.slice sz x lo hi mx) s K = kSome K s (sliceV sz s.r (ev s.r x) lo hi mx) := rfl
@[simp] theorem e_faddr (off : Nat) (x : AO) : wpOp X bs d (.faddr off x) s K = kSome K s (faddV off (ev s.r x)) := rfl
@[simp] theorem e_field (off : Nat) (n : Option Nat) (x : AO) : wpOp X bs d (.field off n x) s K = kSome K s (fieldV off n (ev s.r x)) := rfl
@[simp] theorem e_iaddr (sz : Nat) (x i : AO) : wpOp X bs d (.iaddr sz x i) s K = kSome K s (iaddrV sz (ev s.r x) (ev s.r i)) := rfl
@[simp] theorem e_sindex (x i : AO) : wpOp X bs d (.sindex x i) s K = kSome K s (sindexV (ev s.r x) (ev s.r i)) := rfl
@[simp] theorem e_lookup (kk : KK) (z : V) (m k : AO) (ok : Bool) : wpOp X bs d (.lookup kk z m k ok) s K = kSome K s (lookV s kk z (ev s.r k) ok (ev s.r m)) := rfl
@[simp] theorem e_mapset (kk : KK) (m k v : AO) : wpOp X bs d (.mapset kk m k v) s K = (isKey kk (ev s.r k) = true ∧ (ev s.r v).isLoc = false ∧ kSet bs (ev s.r k) (ev s.r v) K s (ev s.r m)) := rfl
@[simp] theorem e_eqi (gl : List Nat) (neg : Bool) (x y : AO) : wpOp X bs d (.eqi gl neg x y) s K = kSome K s (eqiV gl neg (ev s.r x) (ev s.r y)) := rfl
@[simp] theorem e_tasent (gl : List Nat) (t : Nat) (z : V) (x : AO) : wpOp X bs d (.tasent gl t z x) s K = kSome K s (assentV gl t z (ev s.r x)) := rfl
@[simp] theorem e_tassert (t : Nat) (z : V) (x : AO) (ok : Bool) : wpOp X bs d (.tassert t z x ok) s K = kSome K s (assertV t z ok (ev s.r x)) := rfl
@[simp] theorem e_extract (x : AO) (i : Nat) : wpOp X bs d (.extract x i) s K = kSome K s (extractV i (ev s.r x)) := rfl
@[simp] theorem e_len (nk : Nat) (x : AO) : wpOp X bs d (.len nk x) s K = kSome K s (lenV nk s (ev s.r x)) := rfl
@[simp] theorem e_appE (sz : Nat) (x y : AO) : wpOp X bs d (.appE sz x y) s K = kAppE sz K s (ev s.r x) (ev s.r y) := rfl
theorem k_appE (sz : Nat) (x y : V) : kAppE sz K s x y = (sz = 1 ∧ (isMsl x = true → elemsOf (rdV s y) ≠ some []) ∧ kApp 1 K s (rdV s x) (elemsOf (rdV s y))) := rfl
@[simp] theorem e_textE (x : AO) : wpOp X bs d (.textE x) s K = kSome K s ((bytesV (rdV s (ev s.r x))).map .str) := rfl
@[simp] theorem e_bslM (z : List V) (n : Nat) (ps : List (Nat × AO)) : wpOp X bs d (.bslM z n ps) s K = kBslM z n K s (buildS s.r z.length ps (List.replicate n (oneV z))) := rfl
@[simp] theorem k_bslM (z : List V) (n : Nat) (xs : List V) : kBslM z n K s (some xs) = K (.msl s.h.length 0 n n z.length) { s with h := s.h ++ [.box (xs.flatMap V.cells)] } := rfl
@[simp] theorem rd_msl (r off len cap : Nat) : rdV s (.msl r off len cap 1) = rdO off len cap s.h[r]? := rfl
@[simp] theorem rd_sl (t : Tag) (xs : List V) : rdV s (.sl t xs) = .sl t xs := rfl
@[simp] theorem rd_str (b : List UInt8) : rdV s (.str b) = .str b := rfl
theorem rd_box (off len cap : Nat) (cs : List V) (h : off + len ≤ cs.length) : rdO off len cap (some (.box cs)) = .sl (if len = cap then .clip else .frozen) ((cs.drop off).take len) := by simp only [rdO, if_pos h]
@[simp] theorem isMsl_sl (t : Tag) (xs : List V) : isMsl (.sl t xs) = false := rfl
@[simp] theorem isMsl_msl (r off len cap z : Nat) : isMsl (.msl r off len cap z) = true := rfl
@[simp] theorem b_slss {x y : List UInt8} : binV .lss (.str x) (.str y) = some (.bool (Op.bytesLess x y)) := rfl
@[simp] theorem e_appV (sz : Nat) (x y : AO) : wpOp X bs d (.appV sz x y) s K = kAppV bs sz K s (ev s.r x) (elemsW s sz (ev s.r y)) := rfl
@[simp] theorem k_appV_0 (sz : Nat) (xs : List V) : kAppV bs sz K s (.sl .clip xs) (some []) = K (.sl .clip xs) s := rfl
@[simp] theorem k_appV_n (sz : Nat) (y : V) (xs ys : List V) : kAppV bs sz K s (.sl .clip xs) (some (y :: ys)) = ((∀ v ∈ xs ++ (y :: ys), v.cells.length = sz) ∧ xs.length + (y :: ys).length ≤ lim ∧ K (.vec s.h.length 0 0 (xs.length + (y :: ys).length) sz) { s with h := s.h ++ [.vec 0 sz ((xs ++ (y :: ys)).flatMap V.cells)] }) := rfl
@[simp] theorem k_appV_v0 (sz r ver len z : Nat) : kAppV bs sz K s (.vec r ver 0 len z) (some []) = K (.vec r ver 0 len z) s := rfl
@[simp] theorem k_appV_v (sz r ver len z : Nat) (y : V) (ys : List V) : kAppV bs sz K s (.vec r ver 0 len z) (some (y :: ys)) = (z = sz ∧ (∀ v ∈ y :: ys, v.cells.length = sz) ∧ len + (y :: ys).length ≤ lim ∧ kAppV1 bs sz r ver len (y :: ys) K s s.h[r]?) := rfl
@[simp] theorem k_appV1 (sz r ver len v z : Nat) (ys cs : List V) : kAppV1 bs sz r ver len ys K s (some (.vec v z cs)) = (v = ver ∧ z = sz ∧ len * sz ≤ cs.length ∧ okStore bs r (ys.flatMap V.cells) ∧ K (.vec r (ver + 1) 0 (len + ys.length) sz) { s with h := s.h.set r (.vec (ver + 1) sz (cs.take (len * sz) ++ ys.flatMap V.cells)) }) := rfl
@[simp] theorem elemsW_sl (sz : Nat) (t : Tag) (xs : List V) : elemsW s sz (.sl t xs) = some xs := rfl
@[simp] theorem elemsW_str (sz : Nat) (b : List UInt8) : elemsW s sz (.str b) = some (b.map fun b => .int .u8 b.toNat) := rfl
@[simp] theorem elemsW_vec (sz r ver off len : Nat) : elemsW s sz (.vec r ver off len sz) = elemsW1 ver off len sz s.h[r]? := by simp [elemsW]
@[simp] theorem e_copyM (sz : Nat) (x y : AO) : wpOp X bs d (.copyM sz x y) s K = kCopyM bs sz K s (ev s.r x) (ev s.r y) := rfl
@[simp] theorem k_copyM_0 (sz : Nat) (t t' : Tag) (ys : List V) : kCopyM bs sz K s (.sl t []) (.sl t' ys) = K (.int .i64 0) s := rfl
@[simp] theorem k_copyM_m (sz r off len cap z : Nat) (t : Tag) (ys : List V) : kCopyM bs sz K s (.msl r off len cap z) (.sl t ys) = (z = sz ∧ ys.length ≤ len ∧ (∀ v ∈ ys, v.cells.length = sz) ∧ kBox bs r off (ys.flatMap V.cells) (fun _ s' => K (.int .i64 ys.length) s') s s.h[r]?) := rfl
@[simp] theorem k_copyM_v (sz r ver off len z : Nat) (t : Tag) (ys : List V) : kCopyM bs sz K s (.vec r ver off len z) (.sl t ys) = (z = sz ∧ ys.length ≤ len ∧ (∀ v ∈ ys, v.cells.length = sz) ∧ kVec bs r ver off (ys.flatMap V.cells) (fun _ s' => K (.int .i64 ys.length) s') s s.h[r]?) := rfl
@[simp] theorem e_clearM (z : List V) (x : AO) : wpOp X bs d (.clearM z x) s K = kClearM bs z K s (ev s.r x) := rfl
@[simp] theorem k_clearM_0 (zc : List V) (t : Tag) : kClearM bs zc K s (.sl t []) = K (.tup []) s := rfl
@[simp] theorem k_clearM_m (zc : List V) (r off len cap z : Nat) : kClearM bs zc K s (.msl r off len cap z) = (z = zc.length ∧ kBox bs r off (List.replicate len zc).flatten K s s.h[r]?) := rfl
@[simp] theorem k_clearM_v (zc : List V) (r ver off len z : Nat) : kClearM bs zc K s (.vec r ver off len z) = (z = zc.length ∧ kVec bs r ver off (List.replicate len zc).flatten K s s.h[r]?) := rfl
@[simp] theorem e_mkvec (z : List V) (l c : AO) : wpOp X bs d (.mkvec z l c) s K = kMakeV z K s (ev s.r l) (ev s.r c) := rfl
@[simp] theorem k_makev (z : List V) (k k' : IntKind) (n m : Int) : kMakeV z K s (.int k n) (.int k' m) = (0 ≤ n ∧ n ≤ m ∧ m ≤ lim ∧ K (.vec s.h.length 0 0 n.toNat z.length) { s with h := s.h ++ [.vec 0 z.length (List.replicate n.toNat z).flatten] }) := rfl
@[simp] theorem e_bslV (z : List V) (n : Nat) (ps : List (Nat × AO)) : wpOp X bs d (.bslV z n ps) s K = kBslV z n K s (buildS s.r z.length ps (List.replicate n (oneV z))) := rfl
@[simp] theorem k_bslV (z : List V) (n : Nat) (xs : List V) : kBslV z n K s (some xs) = K (.vec s.h.length 0 0 n z.length) { s with h := s.h ++ [.vec 0 z.length (xs.flatMap V.cells)] } := rfl
@[simp] theorem rd_vec (r ver off len : Nat) : rdV s (.vec r ver off len 1) = rdW ver off len s.h[r]? := rfl
@[simp] theorem isMsl_vec (r ver off len z : Nat) : isMsl (.vec r ver off len z) = true := rfl
@[simp] theorem isPtr_vptr (r ver off : Nat) : isPtr (.vptr r ver off) = true := rfl
@[simp] theorem objOf_vptr (r ver off : Nat) : objOf (.vptr r ver off) = some (true, r) := rfl
@[simp] theorem k_store_v (xs : List V) (r ver off : Nat) : kStore bs xs K s (.vptr r ver off) = kVec bs r ver off xs K s s.h[r]? := rfl
@[simp] theorem k_vec (xs cs : List V) (r ver off v z : Nat) : kVec bs r ver off xs K s (some (.vec v z cs)) = (v = ver ∧ off + xs.length ≤ cs.length ∧ okStore bs r xs ∧ K (.tup []) { s with h := s.h.set r (.vec v z (splice cs off xs)) }) := rfl
@[simp] theorem load_v (r ver off : Nat) (n : Option Nat) (z : Nat) (cs : List V) (h : s.h[r]? = some (.vec ver z cs)) : loadV s (.vptr r ver off) n = sel cs off n := by simp [loadV, cellsAt, h]
@[simp] theorem k_nil_v (r v o : Nat) : kNil K s (.vptr r v o) = K (.vptr r v o) s := rfl
@[simp] theorem k_nilsl_v (neg : Bool) (r ver off len z : Nat) : kNilS neg K s (.vec r ver off len z) = K (.bool neg) s := rfl
@[simp] theorem fadd_v (off r v o : Nat) : faddV off (.vptr r v o) = some (.vptr r v (o + off)) := rfl
@[simp] theorem iaddr_v (sz r ver off len z : Nat) (k : IntKind) (n : Int) : iaddrV sz (.vec r ver off len z) (.int k n) = if 0 ≤ n ∧ n.toNat < len ∧ z = sz then some (.vptr r ver (off + n.toNat * sz)) else none := rfl
@[simp] theorem len_v (r ver off len z : Nat) : lenV 1 s (.vec r ver off len z) = some (.int .i64 len) := rfl
@[simp] theorem dem_v (r ver off len z : Nat) : (V.vec r ver off len z).demote = .vec r ver off len z := by simp [V.demote]
@[simp] theorem dem_vp (r ver off : Nat) : (V.vptr r ver off).demote = .vptr r ver off := by simp [V.demote]
@[simp] theorem und_v (n r ver off len z : Nat) : (V.vec r ver off len z).under n = decide (r < n) := by simp [V.under]
@[simp] theorem und_vp (n r ver off : Nat) : (V.vptr r ver off).under n = decide (r < n) := by simp [V.under]
@[simp] theorem loc_v (r ver off len z : Nat) : (V.vec r ver off len z).isLoc = false := rfl
@[simp] theorem loc_vp (r ver off : Nat) : (V.vptr r ver off).isLoc = false := rfl
@[simp] theorem cells_v (r ver off len z : Nat) : (V.vec r ver off len z).cells = [.vec r ver off len z] := rfl
@[simp] theorem cells_vp (r ver off : Nat) : (V.vptr r ver off).cells = [.vptr r ver off] := rfl
@[simp] theorem kept1_v (h h' : List Ob) (r v o : Nat) : kept1 h h' (.vptr r v o) = (h'[r]? = h[r]?) := rfl
@[simp] theorem e_append (sz : Nat) (x y : AO) : wpOp X bs d (.append sz x y) s K = kApp sz K s (ev s.r x) (elemsOf (ev s.r y)) := rfl
@[simp] theorem e_call (vr : Nat) (own : List Nat) (f : AO) (args : List AO) : wpOp X bs d (.call vr own f args) s K = (okVals (evs s.r args) = true ∧ kCall X bs vr (evArgs s.r own args 0) K s (ev s.r f)) := rfl
@[simp] theorem e_callK (vr : Nat) (own : List Nat) (f : AO) (args ks : List AO) : wpOp X bs d (.callK vr own f args ks) s K = (okVals (evs s.r args) = true ∧ kCall X bs vr (evArgs s.r own args 0) (fun v s' => keptL s.h s'.h (evs s.r ks) ∧ K v s') s (ev s.r f)) := rfl
@[simp] theorem keptL_nil (h h' : List Ob) : keptL h h' [] = True := rfl
@[simp] theorem keptL_cons (h h' : List Ob) (v : V) (vs : List V) : keptL h h' (v :: vs) = (kept1 h h' v ∧ keptL h h' vs) := rfl
@[simp] theorem kept1_p (h h' : List Ob) (r o : Nat) : kept1 h h' (.ptr r o) = (h'[r]? = h[r]?) := rfl
@[simp] theorem kept1_l (h h' : List Ob) (r o : Nat) : kept1 h h' (.loc r o) = True := rfl
@[simp] theorem kept1_e (h h' : List Ob) (e : V) (o : Nat) : kept1 h h' (.elp e o) = True := rfl
@[simp] theorem kept_refl (h : List Ob) (l : List V) : keptL h h l = True := by
  induction l with
  | nil => rfl
  | cons v l ih => cases v <;> simp [keptL, kept1, ih]
@[simp] theorem k_call (vr : Nat) (args : List V) (g : Nat) (cap : List V) : kCall X bs vr args K s (.fn g cap) = X g vr bs (args ++ cap) s.h (kRet K s) := rfl
@[simp] theorem k_call_y (vr : Nat) (args : List V) (r : Nat) : kCall X bs vr args K s (.yld r) = X r 1000001 bs args s.h (kRet K s) := rfl
@[simp] theorem e_rfunc (g : AO) (key : Nat) (kp fs : List Nat) : wpA X bs (.rfunc g key kp fs) Q s = kRf X bs key kp fs Q s (ev s.r g) := rfl
@[simp] theorem k_rf (key : Nat) (kp fs : List Nat) (f : Nat) (cap : List V) : kRf X bs key kp fs Q s (.fn f cap) = (fs.contains f = true ∧ X f 0 bs (.yld s.h.length :: cap) (s.h ++ [.loop key (capR kp s.r) 0 none]) (fun _ h => rfEnd s.h.length Q s h h[s.h.length]?)) := rfl
@[simp] theorem rf_end (r key st : Nat) (regs : List (Nat × V)) (pe : Option (Option Nat)) (h : List Ob) : rfEnd r Q s h (some (.loop key regs st pe)) = (st ≠ 1 ∧ peA Q { s with h := h.set r (.loop key regs 3 pe) } pe) := rfl
@[simp] theorem pe_n : peA Q s none = Q .normal s := rfl
@[simp] theorem pe_r : peA Q s (some none) = Q .ret s := rfl
@[simp] theorem pe_e (id : Nat) : peA Q s (some (some id)) = Q (.exit id) s := rfl
@[simp] theorem capR_nil (r : Nat → V) : capR [] r = [] := rfl
@[simp] theorem capR_cons (i : Nat) (l : List Nat) (r : Nat → V) : capR (i :: l) r = (i, capV (r i)) :: capR l r := rfl
@[simp] theorem capV_eq (v : V) : capV v = if v.isLoc = true then .undef else v := rfl
@[simp] theorem regF_nil (i : Nat) : regF [] i = .undef := rfl
@[simp] theorem regF_cons (j i : Nat) (v : V) (l : List (Nat × V)) : regF ((j, v) :: l) i = if i = j then v else regF l i := rfl
@[simp] theorem startB_nil (as : List V) (r : Nat → V) : startB [] as r = r := by simp [startB]
@[simp] theorem startB_cons (p : Nat) (ps : List Nat) (a : V) (as : List V) (r : Nat → V) : startB (p :: ps) (a :: as) r = startB ps as (put r p a) := rfl
@[simp] theorem asgP_n (k : St → Prop) : asgP k .normal s = k s := rfl
@[simp] theorem rnd_eq (r : Nat) (b : AC) (R : V → List Ob → Prop) : rnd X r bs b R s = rndO X r bs b R s s.h[r]? := rfl
@[simp] theorem rndO_eq (r key : Nat) (regs : List (Nat × V)) (b : AC) (R : V → List Ob → Prop) : rndO X r bs b R s (some (.loop key regs 0 none)) = wpA X bs b (rndP r R) { s with h := s.h.set r (.loop key regs 1 none) } := rfl
@[simp] theorem rndP_n (r : Nat) (R : V → List Ob → Prop) : rndP r R .normal s = rndE r 0 none true R s.h s.h[r]? := rfl
@[simp] theorem rndP_r (r : Nat) (R : V → List Ob → Prop) : rndP r R .ret s = rndE r 2 (some none) false R s.h s.h[r]? := rfl
@[simp] theorem rndP_e (r id : Nat) (R : V → List Ob → Prop) : rndP r R (.exit id) s = rndE r 2 (some (some id)) false R s.h s.h[r]? := rfl
@[simp] theorem rndE_eq (r st key : Nat) (pe : Option (Option Nat)) (b : Bool) (regs : List (Nat × V)) (R : V → List Ob → Prop) (h : List Ob) : rndE r st pe b R h (some (.loop key regs 1 none)) = R (.bool b) (h.set r (.loop key regs st pe)) := rfl
@[simp] theorem k_ret (v : V) (h : List Ob) : kRet K s v h = K v { s with h := h } := rfl
@[simp] theorem k_some (v : V) : kSome K s (some v) = K v s := rfl
@[simp] theorem k_bool (b : Bool) : kBool K s (some b) = K (.bool b) s := rfl
@[simp] theorem k_pick (a b : V) (c : Bool) : kPick a b K s (.bool c) = K (if c = true then a else b) s := rfl
@[simp] theorem k_new_t (z : List V) : kNew z d K s true = K (.ptr s.h.length 0) { s with h := s.h ++ [.box z] } := rfl
@[simp] theorem k_new_f (z : List V) (d : Nat) : kNew z (some d) K s false = (s.l d = none ∧ K (.loc d 0) { s with l := putL s.l d z }) := rfl
@[simp] theorem k_store_l (xs : List V) (d off : Nat) : kStore bs xs K s (.loc d off) = kLoc d off xs K s (s.l d) := rfl
@[simp] theorem k_store_p (xs : List V) (r off : Nat) : kStore bs xs K s (.ptr r off) = kBox bs r off xs K s s.h[r]? := rfl
@[simp] theorem k_loc (xs cs : List V) (d off : Nat) : kLoc d off xs K s (some cs) = (off + xs.length ≤ cs.length ∧ K (.tup []) { s with l := putL s.l d (splice cs off xs) }) := rfl
@[simp] theorem k_box (xs cs : List V) (r off : Nat) : kBox bs r off xs K s (some (.box cs)) = (off + xs.length ≤ cs.length ∧ okStore bs r xs ∧ K (.tup []) { s with h := s.h.set r (.box (splice cs off xs)) }) := rfl
@[simp] theorem k_nil_p (r o : Nat) : kNil K s (.ptr r o) = K (.ptr r o) s := rfl
@[simp] theorem k_nil_l (r o : Nat) : kNil K s (.loc r o) = K (.loc r o) s := rfl
@[simp] theorem k_nil_e (e : V) (o : Nat) : kNil K s (.elp e o) = K (.elp e o) s := rfl
@[simp] theorem k_nil_f (f : Nat) (c : List V) : kNil K s (.fn f c) = K (.fn f c) s := rfl
@[simp] theorem k_nil_i (t : Nat) (v : V) : kNil K s (.iface t v) = K (.iface t v) s := rfl
@[simp] theorem k_make (z : List V) (k k' : IntKind) (n m : Int) : kMake z K s (.int k n) (.int k' m) = (0 ≤ n ∧ n ≤ m ∧ m ≤ lim ∧ K (.sl (.fam s.h.length) (List.replicate n.toNat (oneV z))) { s with h := s.h ++ [.fam n.toNat z.length] }) := rfl
@[simp] theorem k_app_0 (sz : Nat) (t : Tag) (xs : List V) : kApp sz K s (.sl t xs) (some []) = K (.sl t xs) s := rfl
@[simp] theorem k_app_1 (sz : Nat) (t : Tag) (xs ys : List V) (y : V) : kApp sz K s (.sl t xs) (some (y :: ys)) = ((∀ v ∈ xs ++ (y :: ys), v.cells.length = sz) ∧ xs.length + (y :: ys).length ≤ lim ∧ kTag sz xs (y :: ys) K s t) := rfl
@[simp] theorem k_tag_c (sz : Nat) (xs ys : List V) : kTag sz xs ys K s .clip = K (.sl (.fam s.h.length) (xs ++ ys)) { s with h := s.h ++ [.fam (xs.length + ys.length) sz] } := rfl
@[simp] theorem k_tag_f (sz : Nat) (xs ys : List V) (r : Nat) : kTag sz xs ys K s (.fam r) = kGrow sz r xs ys K s s.h[r]? := rfl
@[simp] theorem k_grow (sz : Nat) (xs ys : List V) (r k z : Nat) : kGrow sz r xs ys K s (some (.fam k z)) = (k = xs.length ∧ z = sz ∧ K (.sl (.fam r) (xs ++ ys)) { s with h := s.h.set r (.fam (xs.length + ys.length) sz) }) := rfl
@[simp] theorem k_set (k v : V) (r : Nat) : kSet bs k v K s (.map (some r)) = kSet1 bs r k v K s s.h[r]? := rfl
@[simp] theorem k_set1 (r : Nat) (k v : V) (es : List (V × V)) (bo : List Nat) (ck : Nat) : kSet1 bs r k v K s (some (.map es bo ck)) = kSet2 bs r v K s es.length bo ck (setE k v es) := rfl
@[simp] theorem k_set2 (r : Nat) (v : V) (es : List (V × V)) (n : Nat) (bo : List Nat) (ck : Nat) : kSet2 bs r v K s n bo ck (some es) = (okStore bs r [v] ∧ K (.tup []) { s with h := s.h.set r (setOb n bo ck es) }) := rfl
@[simp] theorem e_gload (g : Nat) : wpOp X bs d (.gload g) s K = K (.sent g) s := rfl
@[simp] theorem e_range (x : AO) : wpOp X bs d (.range x) s K = kRange K s (ev s.r x) := rfl
@[simp] theorem e_next (x : AO) : wpOp X bs d (.next x) s K = kNext K s (ev s.r x) := rfl
@[simp] theorem e_entry (x : AO) : wpOp X bs d (.entry x) s K = kSome K s (entV s (ev s.r x)) := rfl
@[simp] theorem e_delete (kk : KK) (m k : AO) : wpOp X bs d (.delete kk m k) s K = (isKey kk (ev s.r k) = true ∧ kDel (ev s.r k) K s (ev s.r m)) := rfl
@[simp] theorem k_range_n : kRange K s (.map none) = K (.ptr s.h.length 0) { s with h := s.h ++ [.iter none 0 [] 0] } := rfl
@[simp] theorem k_range_s (r : Nat) : kRange K s (.map (some r)) = kRange1 r K s s.h[r]? := rfl
@[simp] theorem k_range1 (r : Nat) (es : List (V × V)) (bo : List Nat) (ck : Nat) : kRange1 r K s (some (.map es bo ck)) = K (.ptr s.h.length 0) { s with h := s.h ++ [.iter (some r) ck [] ck] } := rfl
@[simp] theorem k_next (it : Nat) : kNext K s (.ptr it 0) = kNext1 it K s s.h[it]? := rfl
@[simp] theorem k_next1_n (it since last : Nat) (seen : List Nat) : kNext1 it K s (some (.iter none since seen last)) = K (.tup [.bool false]) s := rfl
@[simp] theorem k_next1_s (it r since last : Nat) (seen : List Nat) : kNext1 it K s (some (.iter (some r) since seen last)) = kNext2 it r since seen last K s s.h[r]? := rfl
@[simp] theorem ent_ptr (it : Nat) : entV s (.ptr it 0) = entV1 s s.h[it]? := rfl
@[simp] theorem ent_iter (r since last : Nat) (seen : List Nat) : entV1 s (some (.iter (some r) since seen last)) = entV2 seen last s.h[r]? := rfl
@[simp] theorem k_del_n (k : V) : kDel k K s (.map none) = K (.tup []) s := rfl
@[simp] theorem k_del_s (k : V) (r : Nat) : kDel k K s (.map (some r)) = kDel1 r k K s s.h[r]? := rfl
@[simp] theorem k_del1 (k : V) (r : Nat) (es : List (V × V)) (bo : List Nat) (ck : Nat) : kDel1 r k K s (some (.map es bo ck)) = kDel2 r ck K s (delE k es bo) := rfl
@[simp] theorem k_del2 (r ck : Nat) (x : List (V × V) × List Nat) : kDel2 r ck K s (some x) = K (.tup []) { s with h := s.h.set r (.map x.1 x.2 ck) } := rfl
end

section
variable (n : Nat) (Q : V → List Ob → Prop) (h : List Ob)
@[simp] theorem e_retK_n (res : List AR) (ownR trunc : Bool) (s : St) : retK res ownR trunc n Q .normal s = finO ownR trunc n Q s.h (resV s res) := rfl
@[simp] theorem e_retF_n (res : List AR) (s : St) : retF res n Q .normal s = finF n Q s.h (resV s res) := rfl
@[simp] theorem e_retF_r (res : List AR) (s : St) : retF res n Q .ret s = finF n Q s.h (resV s res) := rfl
@[simp] theorem e_finF (vs : List V) : finF n Q h (some vs) = (okVals vs = true ∧ ∃ v, Frz n h (oneOf vs) v ∧ v.demote.under n = true ∧ Q v.demote (h.take n)) := rfl
@[simp] theorem e_retK_r (res : List AR) (ownR trunc : Bool) (s : St) : retK res ownR trunc n Q .ret s = finO ownR trunc n Q s.h (resV s res) := rfl
@[simp] theorem e_finO (ownR trunc : Bool) (vs : List V) : finO ownR trunc n Q h (some vs) = (okVals vs = true ∧ endK trunc n Q h (if ownR = true then oneOf vs else (oneOf vs).demote)) := rfl
@[simp] theorem e_end_t (v : V) : endK true n Q h v = (v.under n = true ∧ Q v (h.take n)) := rfl
@[simp] theorem e_end_f (v : V) : endK false n Q h v = Q v h := rfl
@[simp] theorem resV_nil (s : St) : resV s [] = some [] := rfl
@[simp] theorem resV_t (s : St) (i : Nat) (rs : List AR) : resV s (.t i :: rs) = (resV s rs).map (s.r i :: ·) := rfl
@[simp] theorem resV_c (s : St) (i : Nat) (m : Option Nat) (rs : List AR) : resV s (.cell i m :: rs) = (loadV s (s.r i) m).bind fun v => (resV s rs).map (v :: ·) := rfl
@[simp] theorem oneOf_1 (v : V) : oneOf [v] = v := rfl
@[simp] theorem oneOf_2 (v u : V) (l : List V) : oneOf (v :: u :: l) = .tup (v :: u :: l) := rfl
@[simp] theorem oneOf_0 : oneOf [] = .tup [] := rfl
end

@[simp] theorem cells_agg (cs : List V) : (V.agg cs).cells = cs := rfl
@[simp] theorem cells_bool (b : Bool) : V.cells (.bool b) = [(.bool b)] := rfl
@[simp] theorem cells_int (k : IntKind) (n : Int) : V.cells (.int k n) = [(.int k n)] := rfl
@[simp] theorem cells_str (b : List UInt8) : V.cells (.str b) = [(.str b)] := rfl
@[simp] theorem cells_sl (t : Tag) (xs : List V) : V.cells (.sl t xs) = [(.sl t xs)] := rfl
@[simp] theorem cells_ptr (r o : Nat) : V.cells (.ptr r o) = [(.ptr r o)] := rfl
@[simp] theorem cells_loc (r o : Nat) : V.cells (.loc r o) = [(.loc r o)] := rfl
@[simp] theorem cells_elp (e : V) (o : Nat) : V.cells (.elp e o) = [(.elp e o)] := rfl
@[simp] theorem cells_nilp  : V.cells .nilp = [.nilp] := rfl
@[simp] theorem cells_map (r : Option Nat) : V.cells (.map r) = [(.map r)] := rfl
@[simp] theorem cells_fn (f : Nat) (c : List V) : V.cells (.fn f c) = [(.fn f c)] := rfl
@[simp] theorem cells_nilfn  : V.cells .nilfn = [.nilfn] := rfl
@[simp] theorem cells_iface (t : Nat) (v : V) : V.cells (.iface t v) = [(.iface t v)] := rfl
@[simp] theorem cells_nili  : V.cells .nili = [.nili] := rfl
@[simp] theorem cells_tup (vs : List V) : V.cells (.tup vs) = [(.tup vs)] := rfl
@[simp] theorem cells_tok (g : Nat) : V.cells (.tok g) = [(.tok g)] := rfl
@[simp] theorem cells_sent (g : Nat) : V.cells (.sent g) = [(.sent g)] := rfl
@[simp] theorem cells_msl (r o l c z : Nat) : V.cells (.msl r o l c z) = [(.msl r o l c z)] := rfl
@[simp] theorem cells_yld (r : Nat) : V.cells (.yld r) = [(.yld r)] := rfl
@[simp] theorem isLoc_yld (r : Nat) : V.isLoc (.yld r) = false := rfl
@[simp] theorem isLoc_msl (r o l c z : Nat) : V.isLoc (.msl r o l c z) = false := rfl
@[simp] theorem cells_undef  : V.cells .undef = [.undef] := rfl
@[simp] theorem isLoc_agg (cs : List V) : V.isLoc (.agg cs) = false := rfl
@[simp] theorem isLoc_bool (b : Bool) : V.isLoc (.bool b) = false := rfl
@[simp] theorem isLoc_int (k : IntKind) (n : Int) : V.isLoc (.int k n) = false := rfl
@[simp] theorem isLoc_str (b : List UInt8) : V.isLoc (.str b) = false := rfl
@[simp] theorem isLoc_sl (t : Tag) (xs : List V) : V.isLoc (.sl t xs) = false := rfl
@[simp] theorem isLoc_ptr (r o : Nat) : V.isLoc (.ptr r o) = false := rfl
@[simp] theorem isLoc_loc (r o : Nat) : V.isLoc (.loc r o) = true := rfl
@[simp] theorem isLoc_elp (e : V) (o : Nat) : V.isLoc (.elp e o) = false := rfl
@[simp] theorem isLoc_nilp  : V.isLoc .nilp = false := rfl
@[simp] theorem isLoc_map (r : Option Nat) : V.isLoc (.map r) = false := rfl
@[simp] theorem isLoc_fn (f : Nat) (c : List V) : V.isLoc (.fn f c) = false := rfl
@[simp] theorem isLoc_nilfn  : V.isLoc .nilfn = false := rfl
@[simp] theorem isLoc_iface (t : Nat) (v : V) : V.isLoc (.iface t v) = false := rfl
@[simp] theorem isLoc_nili  : V.isLoc .nili = false := rfl
@[simp] theorem isLoc_tup (vs : List V) : V.isLoc (.tup vs) = true := rfl
@[simp] theorem isLoc_tok (g : Nat) : V.isLoc (.tok g) = false := rfl
@[simp] theorem isLoc_sent (g : Nat) : V.isLoc (.sent g) = false := rfl
@[simp] theorem demote_sent (g : Nat) : V.demote (.sent g) = .sent g := by simp only [V.demote]
@[simp] theorem under_sent (n g : Nat) : V.under n (.sent g) = true := by simp only [V.under]
@[simp] theorem nil_sent (g : Nat) : nilV .iface (.sent g) = some false := rfl
@[simp] theorem isLoc_undef  : V.isLoc .undef = true := rfl
@[simp] theorem isKey_bool (b : Bool) : isKey .bool (.bool b) = true := rfl
@[simp] theorem isKey_int (k : IntKind) (n : Int) : isKey .int (.int k n) = true := rfl
@[simp] theorem isKey_str (b : List UInt8) : isKey .str (.str b) = true := rfl
@[simp] theorem oneV_1 (v : V) : oneV [v] = v := rfl
@[simp] theorem oneV_2 (v u : V) (l : List V) : oneV (v :: u :: l) = .agg (v :: u :: l) := rfl
@[simp] theorem notV_b (b : Bool) : notV (.bool b) = some (.bool !b) := rfl
@[simp] theorem negV_i (k : IntKind) (n : Int) : negV (.int k n) = some (.int k (k.wrap (0 - n))) := rfl
@[simp] theorem fadd_p (off r o : Nat) : faddV off (.ptr r o) = some (.ptr r (o + off)) := rfl
@[simp] theorem fadd_l (off r o : Nat) : faddV off (.loc r o) = some (.loc r (o + off)) := rfl
@[simp] theorem fadd_e (off o : Nat) (e : V) : faddV off (.elp e o) = some (.elp e (o + off)) := rfl
@[simp] theorem nilV_n : nilV .ptr .nilp = some true := rfl
@[simp] theorem nilV_p (r o : Nat) : nilV .ptr (.ptr r o) = some false := rfl
@[simp] theorem nilV_m : nilV .map (.map none) = some true := rfl
@[simp] theorem nilV_ms (r : Nat) : nilV .map (.map (some r)) = some false := rfl
@[simp] theorem nilV_nf : nilV .fn .nilfn = some true := rfl
@[simp] theorem nilV_f (f : Nat) (c : List V) : nilV .fn (.fn f c) = some false := rfl
@[simp] theorem nilV_ni : nilV .iface .nili = some true := rfl
@[simp] theorem nilV_i (t : Nat) (v : V) : nilV .iface (.iface t v) = some false := rfl
@[simp] theorem okV_s (ok : Bool) (z v : V) : okV ok z (some v) = if ok = true then .tup [v, .bool true] else v := by cases ok <;> rfl
@[simp] theorem okV_n (ok : Bool) (z : V) : okV ok z none = if ok = true then .tup [z, .bool false] else z := by cases ok <;> rfl
@[simp] theorem extract_t (vs : List V) (i : Nat) : extractV i (.tup vs) = vs[i]? := rfl
@[simp] theorem conv_int (k k' : IntKind) (n : Int) : convV (.int k) (.int k' n) = some (.int k (k.wrap n)) := rfl
@[simp] theorem eqi_ss (gl : List Nat) (neg : Bool) (g g' : Nat) (h : gl.contains g = true ∧ gl.contains g' = true) : eqiV gl neg (.sent g) (.sent g') = some (.bool (xor neg (g == g'))) := by simp only [eqiV, if_pos h]
@[simp] theorem eqi_sn (gl : List Nat) (neg : Bool) (g : Nat) : eqiV gl neg (.sent g) .nili = some (.bool (xor neg false)) := rfl
@[simp] theorem eqi_ns (gl : List Nat) (neg : Bool) (g : Nat) : eqiV gl neg .nili (.sent g) = some (.bool (xor neg false)) := rfl
@[simp] theorem assent_s (gl : List Nat) (t g : Nat) (z : V) (h : gl.contains g = true) : assentV gl t z (.sent g) = some (.tup [z, .bool false]) := by simp only [assentV, if_pos h]
@[simp] theorem assent_n (gl : List Nat) (t : Nat) (z : V) : assentV gl t z .nili = some (.tup [z, .bool false]) := rfl
@[simp] theorem assent_i (gl : List Nat) (t u : Nat) (z v : V) : assentV gl t z (.iface u v) = some (if u = t then .tup [v, .bool true] else .tup [z, .bool false]) := rfl
@[simp] theorem conv_rune (k : IntKind) (n : Int) : convV .rune (.int k n) = some (.str (Utf8.encode n).data.toList) := rfl
@[simp] theorem conv_id (b : List UInt8) : convV .id (.str b) = some (.str b) := rfl
@[simp] theorem conv_bytes (b : List UInt8) (h : b.length ≤ lim) : convV .bytes (.str b) = some (.sl .frozen (b.map fun b => .int .u8 b.toNat)) := by simp [convV, h]
attribute [simp] V.demote demoteL V.under underL okVals evs

section
variable (k : IntKind) (a b : Int) (x y : List UInt8) (p q : Bool)
@[simp] theorem b_add : binV .add (.int k a) (.int k b) = some (.int k (k.wrap (a + b))) := by simp [binV]
@[simp] theorem b_sub : binV .sub (.int k a) (.int k b) = some (.int k (k.wrap (a - b))) := by simp [binV]
@[simp] theorem b_mul : binV .mul (.int k a) (.int k b) = some (.int k (k.wrap (a * b))) := by simp [binV]
@[simp] theorem b_quo (h : b ≠ 0) : binV .quo (.int k a) (.int k b) = some (.int k (k.wrap (a.tdiv b))) := by simp [binV, h]
@[simp] theorem b_rem (h : b ≠ 0) : binV .rem (.int k a) (.int k b) = some (.int k (a.tmod b)) := by simp [binV, h]
@[simp] theorem b_eql : binV .eql (.int k a) (.int k b) = some (.bool (a == b)) := by simp [binV]
@[simp] theorem b_neq : binV .neq (.int k a) (.int k b) = some (.bool (a != b)) := by simp [binV]
@[simp] theorem b_lss : binV .lss (.int k a) (.int k b) = some (.bool (decide (a < b))) := by simp [binV]
@[simp] theorem b_leq : binV .leq (.int k a) (.int k b) = some (.bool (decide (a ≤ b))) := by simp [binV]
@[simp] theorem b_gtr : binV .gtr (.int k a) (.int k b) = some (.bool (decide (a > b))) := by simp [binV]
@[simp] theorem b_geq : binV .geq (.int k a) (.int k b) = some (.bool (decide (a ≥ b))) := by simp [binV]
@[simp] theorem b_cat (h : x.length + y.length ≤ 4611686018427387904) : binV .add (.str x) (.str y) = some (.str (x ++ y)) := by simp [binV, h]
@[simp] theorem b_seq : binV .eql (.str x) (.str y) = some (.bool (x == y)) := rfl
@[simp] theorem b_sne : binV .neq (.str x) (.str y) = some (.bool (!(x == y))) := rfl
@[simp] theorem b_beq : eqbV false (.bool p) (.bool q) = some (.bool (p == q)) := by simp [eqbV]
@[simp] theorem b_bne : eqbV true (.bool p) (.bool q) = some (.bool (!(p == q))) := by simp [eqbV]
end


section
variable (s : St)
@[simp] theorem load_l (r : Nat → V) (l : Nat → Option (List V)) (h : List Ob) (d off : Nat) (n : Option Nat) : loadV ⟨r, l, h⟩ (.loc d off) n = (l d).bind fun cs => sel cs off n := by
  simp only [loadV, cellsAt]; cases l d <;> rfl
@[simp] theorem loadL_l (d off : Nat) (n : Option Nat) : loadLV s (.loc d off) n = loadV s (.loc d off) n := rfl
@[simp] theorem loadL_e (e : V) (off : Nat) (n : Option Nat) : loadLV s (.elp e off) n = loadV s (.elp e off) n := rfl
@[simp] theorem isPtr_l (d off : Nat) : isPtr (.loc d off) = false := rfl
@[simp] theorem load_e (e : V) (off : Nat) (n : Option Nat) : loadV s (.elp e off) n = sel e.cells off n := rfl
def selO (off : Nat) (n : Option Nat) : Option Ob → Option V
  | some (.box cs) => sel cs off n
  | _ => none
@[simp] theorem selO_box (cs : List V) (off : Nat) (n : Option Nat) : selO off n (some (.box cs)) = sel cs off n := rfl
@[simp] theorem load_p (r : Nat → V) (l : Nat → Option (List V)) (h : List Ob) (p off : Nat) (n : Option Nat) : loadV ⟨r, l, h⟩ (.ptr p off) n = selO off n h[p]? := by
  simp only [loadV, cellsAt, selO]; split <;> simp_all
@[simp] theorem sel_one (cs : List V) (off : Nat) : sel cs off none = cs[off]? := rfl
@[simp] theorem sel_many (cs : List V) (off n : Nat) (h : off + n ≤ cs.length) : sel cs off (some n) = some (.agg ((cs.drop off).take n)) := by simp [sel, h]
@[simp] theorem splice_all (cs xs : List V) (h : xs.length = cs.length) : splice cs 0 xs = xs := by simp [splice, h]
@[simp] theorem field_agg (cs : List V) (off : Nat) (n : Option Nat) : fieldV off n (.agg cs) = sel cs off n := rfl
@[simp] theorem iaddr_sl (sz : Nat) (t : Tag) (xs : List V) (k : IntKind) (i : Int) (h : 0 ≤ i) : iaddrV sz (.sl t xs) (.int k i) = elemV sz xs[i.toNat]? := by simp [iaddrV, h]
@[simp] theorem elemV_some (sz : Nat) (e : V) (h : e.cells.length = sz) : elemV sz (some e) = some (.elp e 0) := by simp [elemV, h]
@[simp] theorem sindex_str (b : List UInt8) (k : IntKind) (i : Int) (h : 0 ≤ i) : sindexV (.str b) (.int k i) = (b[i.toNat]?).map fun c => .int .u8 c.toNat := by simp [sindexV, h]
@[simp] theorem look_none (kk : KK) (z k : V) (ok : Bool) (h : isKey kk k = true) : lookV s kk z k ok (.map none) = some (okV ok z none) := by simp [lookV, h]
@[simp] theorem look_some (kk : KK) (z k : V) (ok : Bool) (r : Nat) (h : isKey kk k = true) : lookV s kk z k ok (.map (some r)) = lookO z k ok s.h[r]? := by simp [lookV, h]
@[simp] theorem lookO_map (z k : V) (ok : Bool) (es : List (V × V)) (bo : List Nat) (ck : Nat) : lookO z k ok (some (.map es bo ck)) = (findE k es).map (okV ok z) := rfl
@[simp] theorem assert_t (t : Nat) (z : V) (u : Nat) (v : V) : assertV t z true (.iface u v) = some (if u = t then .tup [v, .bool true] else .tup [z, .bool false]) := rfl
@[simp] theorem assert_f (t : Nat) (z : V) (v : V) : assertV t z false (.iface t v) = some v := by simp [assertV]
@[simp] theorem assert_n (t : Nat) (z : V) : assertV t z true .nili = some (.tup [z, .bool false]) := rfl
@[simp] theorem len_sl (t : Tag) (xs : List V) : lenV 1 s (.sl t xs) = some (.int .i64 xs.length) := rfl
@[simp] theorem len_msl (r o l c z : Nat) : lenV 1 s (.msl r o l c z) = some (.int .i64 l) := rfl
@[simp] theorem iaddr_msl (sz r o l c z : Nat) (k : IntKind) (i : Int) (h : 0 ≤ i ∧ i.toNat < l ∧ z = sz) : iaddrV sz (.msl r o l c z) (.int k i) = some (.ptr r (o + i.toNat * sz)) := by simp only [iaddrV, if_pos h]
@[simp] theorem len_str (b : List UInt8) : lenV 0 s (.str b) = some (.int .i64 b.length) := rfl
@[simp] theorem len_mapn : lenV 2 s (.map none) = some (.int .i64 0) := rfl
@[simp] theorem len_map (r : Nat) : lenV 2 s (.map (some r)) = lenO s.h[r]? := rfl
@[simp] theorem lenO_map (es : List (V × V)) (bo : List Nat) (ck : Nat) : lenO (some (.map es bo ck)) = some (.int .i64 es.length) := rfl
@[simp] theorem elems_sl (t : Tag) (xs : List V) : elemsOf (.sl t xs) = some xs := rfl
@[simp] theorem elems_str (b : List UInt8) : elemsOf (.str b) = some (b.map fun b => .int .u8 b.toNat) := rfl
@[simp] theorem evArgs_nil (r : Nat → V) (own : List Nat) (i : Nat) : evArgs r own [] i = [] := rfl
@[simp] theorem evArgs_cons (r : Nat → V) (own : List Nat) (i : Nat) (x : AO) (xs : List AO) : evArgs r own (x :: xs) i = (if i ∈ own then ev r x else (ev r x).demote) :: evArgs r own xs (i + 1) := rfl
@[simp] theorem buildC_nil (r : Nat → V) (cs : List V) : buildC r [] cs = some cs := rfl
@[simp] theorem buildC_cons (r : Nat → V) (cs : List V) (off n : Nat) (x : AO) (ps : List (Nat × Nat × AO)) : buildC r ((off, n, x) :: ps) cs =
    if (ev r x).cells.length = n ∧ off + n ≤ cs.length ∧ (ev r x).isLoc = false then buildC r ps (splice cs off (ev r x).cells) else none := rfl
@[simp] theorem buildS_nil (r : Nat → V) (n : Nat) (cs : List V) : buildS r n [] cs = some cs := rfl
@[simp] theorem buildS_cons (r : Nat → V) (n : Nat) (cs : List V) (i : Nat) (x : AO) (ps : List (Nat × AO)) : buildS r n ((i, x) :: ps) cs =
    if (ev r x).cells.length = n ∧ i < cs.length ∧ (ev r x).isLoc = false then buildS r n ps (cs.set i (ev r x)) else none := rfl
end
end Go.Am
