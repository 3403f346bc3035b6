/- The abstract machine run: what its code comes to, step by step, is what a call comes to. -/
import Derived.Test.YtkcpkckaahmheaaDoorAmC
namespace Go.Am

mutual
def eqV : V → V → Bool
  | .undef, .undef => true
  | .bool a, .bool b => a == b
  | .int k a, .int k' b => decide (k = k') && a == b
  | .str a, .str b => a == b
  | .sl t xs, .sl u ys => decide (t = u) && eqVs xs ys
  | .ptr r o, .ptr r' o' => r == r' && o == o'
  | .nilp, .nilp => true
  | .map a, .map b => a == b
  | .nilfn, .nilfn => true
  | .iface t v, .iface u w => t == u && eqV v w
  | .nili, .nili => true
  | .agg cs, .agg ds => eqVs cs ds
  | .sent g, .sent g' => g == g'
  | .fn f xs, .fn g ys => f == g && eqVs xs ys
  | .msl r o l c z, .msl r' o' l' c' z' => r == r' && o == o' && l == l' && c == c' && z == z'
  | .vec r o l c z, .vec r' o' l' c' z' => r == r' && o == o' && l == l' && c == c' && z == z'
  | .vptr r o l, .vptr r' o' l' => r == r' && o == o' && l == l'
  | _, _ => false
def eqVs : List V → List V → Bool
  | [], [] => true
  | x :: xs, y :: ys => eqV x y && eqVs xs ys
  | _, _ => false
end

mutual
theorem eqV_ok : ∀ {a b : V}, eqV a b = true → a = b
  | a, b, h => by
    unfold eqV at h
    split at h <;> first
      | rfl
      | (cases h; done)
      | (rw [eqVs_ok h]; done)
      | (simp only [Bool.and_eq_true, decide_eq_true_eq, beq_iff_eq] at h
         first
          | (subst h; rfl)
          | (obtain ⟨rfl, h⟩ := h; first | (subst h; rfl) | (rw [eqV_ok h]; done) | (rw [eqVs_ok h]; done))
          | (obtain ⟨⟨⟨⟨rfl, rfl⟩, rfl⟩, rfl⟩, rfl⟩ := h; rfl)
          | (obtain ⟨⟨rfl, rfl⟩, rfl⟩ := h; rfl)
          | (rw [eqVs_ok h]; done))
theorem eqVs_ok : ∀ {a b : List V}, eqVs a b = true → a = b
  | [], [], _ => rfl
  | x :: xs, y :: ys, h => by
    simp only [eqVs, Bool.and_eq_true] at h
    rw [eqV_ok h.1, eqVs_ok h.2]
  | [], _ :: _, h => by simp [eqVs] at h
  | _ :: _, [], h => by simp [eqVs] at h
end

def eqEs : List (V × V) → List (V × V) → Bool
  | [], [] => true
  | x :: xs, y :: ys => eqV x.1 y.1 && eqV x.2 y.2 && eqEs xs ys
  | _, _ => false
theorem eqEs_ok : ∀ {a b : List (V × V)}, eqEs a b = true → a = b
  | [], [], _ => rfl
  | (x, x') :: xs, (y, y') :: ys, h => by
    simp only [eqEs, Bool.and_eq_true] at h
    rw [eqV_ok h.1.1, eqV_ok h.1.2, eqEs_ok h.2]
  | [], _ :: _, h => by simp [eqEs] at h
  | _ :: _, [], h => by simp [eqEs] at h

def eqOb : Option Ob → Option Ob → Bool
  | none, none => true
  | some (.box a), some (.box b) => eqVs a b
  | some (.fam k z), some (.fam k' z') => k == k' && z == z'
  | some (.vec k z a), some (.vec k' z' b) => k == k' && z == z' && eqVs a b
  | some (.map es bo ck), some (.map es' bo' ck') => eqEs es es' && bo == bo' && ck == ck'
  | _, _ => false
theorem eqOb_ok {a b : Option Ob} (h : eqOb a b = true) : a = b := by
  unfold eqOb at h
  split at h
  · rfl
  · rw [eqVs_ok h]
  · simp only [Bool.and_eq_true, beq_iff_eq] at h; obtain ⟨rfl, rfl⟩ := h; rfl
  · simp only [Bool.and_eq_true, beq_iff_eq] at h; obtain ⟨⟨rfl, rfl⟩, h⟩ := h; rw [eqVs_ok h]
  · simp only [Bool.and_eq_true, beq_iff_eq] at h; obtain ⟨⟨h, rfl⟩, rfl⟩ := h; rw [eqEs_ok h]
  · cases h

def prefB : List Ob → List Ob → Bool
  | [], _ => true
  | o :: h, o' :: h' => eqOb (some o') (some o) && prefB h h'
  | _ :: _, [] => false
theorem prefB_ok : ∀ {h h' : List Ob}, prefB h h' = true → ∀ q, q < h.length → h'[q]? = h[q]?
  | [], _, _, q, hq => by simp at hq
  | o :: h, o' :: h', e, q, hq => by
    simp only [prefB, Bool.and_eq_true] at e
    cases q with
    | zero => simpa using eqOb_ok e.1
    | succ q => simpa using prefB_ok e.2 q (by simpa using hq)
  | _ :: _, [], e, _, _ => by simp [prefB] at e

def keptB (h h' : List Ob) : List V → Bool
  | [] => true
  | .ptr r _ :: vs => eqOb h'[r]? h[r]? && keptB h h' vs
  | .vptr r _ _ :: vs => eqOb h'[r]? h[r]? && keptB h h' vs
  | .nilfn :: vs => prefB h h' && keptB h h' vs
  | _ :: vs => keptB h h' vs
theorem keptB_ok {h h' : List Ob} : ∀ {l : List V}, keptB h h' l = true → keptL h h' l
  | [], _ => trivial
  | v :: l, e => by
    cases v <;> simp only [keptB, Bool.and_eq_true] at e <;> first
      | exact ⟨prefB_ok e.1, keptB_ok e.2⟩
      | exact ⟨eqOb_ok e.1, keptB_ok e.2⟩
      | exact ⟨trivial, keptB_ok e⟩

def xSome (s : St) (o : Option V) : Option (V × St) := o.map fun v => (v, s)

def okStoreB (r : Nat) (xs : List V) : List Nat → Bool
  | [] => true
  | b :: bs => (if r < b then underL b xs else true) && okStoreB r xs bs
theorem okStoreB_ok {r : Nat} {xs : List V} : ∀ {bs : List Nat}, okStoreB r xs bs = true → okStore bs r xs
  | [], _ => fun b hb => by cases hb
  | c :: bs, h => fun b hb hr => by
    simp only [okStoreB, Bool.and_eq_true] at h
    rcases List.mem_cons.1 hb with rfl | hb
    · simpa [hr] using h.1
    · exact okStoreB_ok h.2 b hb hr

def xStore (bs : List Nat) (xs : List V) (s : St) : V → Option (V × St)
  | .loc d off => match s.l d with
    | some cs => if off + xs.length ≤ cs.length then some (.tup [], { s with l := putL s.l d (splice cs off xs) }) else none
    | none => none
  | .ptr r off => match s.h[r]? with
    | some (.box cs) => if off + xs.length ≤ cs.length then (if okStoreB r xs bs = true then some (.tup [], { s with h := s.h.set r (.box (splice cs off xs)) }) else none) else none
    | _ => none
  | .vptr r ver off => match s.h[r]? with
    | some (.vec v z cs) => if v = ver ∧ off + xs.length ≤ cs.length then (if okStoreB r xs bs = true then some (.tup [], { s with h := s.h.set r (.vec v z (splice cs off xs)) }) else none) else none
    | _ => none
  | _ => none

def allLen (sz : Nat) : List V → Bool
  | [] => true
  | v :: vs => (v.cells.length == sz) && allLen sz vs
theorem allLen_ok {sz : Nat} : ∀ {l : List V}, allLen sz l = true → ∀ v ∈ l, v.cells.length = sz
  | [], _ => fun v hv => by cases hv
  | x :: l, h => fun v hv => by
    simp only [allLen, Bool.and_eq_true, beq_iff_eq] at h
    rcases List.mem_cons.1 hv with rfl | hv
    · exact h.1
    · exact allLen_ok h.2 v hv

def xTag (sz : Nat) (xs ys : List V) (s : St) : Tag → Option (V × St)
  | .frozen => none
  | .clip => some (.sl (.fam s.h.length) (xs ++ ys), { s with h := s.h ++ [.fam (xs.length + ys.length) sz] })
  | .fam r => match s.h[r]? with
    | some (.fam k z) => if k = xs.length ∧ z = sz then some (.sl (.fam r) (xs ++ ys), { s with h := s.h.set r (.fam (xs.length + ys.length) sz) }) else none
    | _ => none

def xApp (sz : Nat) (s : St) : V → Option (List V) → Option (V × St)
  | .sl t xs, some [] => some (.sl t xs, s)
  | .sl t xs, some (y :: ys) => if allLen sz (xs ++ (y :: ys)) = true ∧ xs.length + (y :: ys).length ≤ lim then xTag sz xs (y :: ys) s t else none
  | _, _ => none

def xAlloc (z : List V) (s : St) : Option Nat → Option (V × St)
  | some d => match s.l d with
    | none => some (.loc d 0, { s with l := putL s.l d z })
    | some _ => none
  | none => none

def xNew (z : List V) (d : Option Nat) (s : St) : Bool → Option (V × St)
  | true => some (.ptr s.h.length 0, { s with h := s.h ++ [.box z] })
  | false => xAlloc z s d

def nilOk : V → Bool
  | .ptr _ _ => true
  | .loc _ _ => true
  | .elp _ _ => true
  | .tok _ => true
  | .fn _ _ => true
  | .iface _ _ => true
  | .vptr _ _ _ => true
  | _ => false

def xMake (z : List V) (s : St) : V → V → Option (V × St)
  | .int _ n, .int _ m => if 0 ≤ n ∧ n ≤ m ∧ m ≤ lim then some (.sl (.fam s.h.length) (List.replicate n.toNat (oneV z)), { s with h := s.h ++ [.fam n.toNat z.length] }) else none
  | _, _ => none

def xMakeM (z : List V) (s : St) : V → V → Option (V × St)
  | .int _ n, .int _ m => if 0 ≤ n ∧ n ≤ m ∧ m ≤ lim then some (.msl s.h.length 0 n.toNat m.toNat z.length, { s with h := s.h ++ [.box (List.replicate m.toNat z).flatten] }) else none
  | _, _ => none

def xAppm (bs : List Nat) (sz : Nat) (zc : List V) (s : St) : V → Option (List V) → Option (V × St)
  | .sl .clip [], some [] => some (.sl .clip [], s)
  | .sl .clip [], some (y :: ys) => if allLen sz (y :: ys) = true ∧ (y :: ys).length ≤ lim ∧ zc.isEmpty = true then some (.msl s.h.length 0 (y :: ys).length 0 sz, { s with h := s.h ++ [.box ((y :: ys).flatMap V.cells)] }) else none
  | .msl r 0 len cap z, some (y :: ys) =>
    if z = sz ∧ allLen sz (y :: ys) = true ∧ len + (y :: ys).length ≤ lim ∧ len + (y :: ys).length ≤ cap then
      match s.h[r]? with
      | some (.box cs) => if len * sz + (y :: ys).length * sz ≤ cs.length ∧ okStoreB r ((y :: ys).flatMap V.cells) bs = true then some (.msl r 0 (len + (y :: ys).length) cap sz, { s with h := s.h.set r (.box (splice cs (len * sz) ((y :: ys).flatMap V.cells))) }) else none
      | _ => none
    else none
  | _, _ => none

def xAppV (bs : List Nat) (sz : Nat) (s : St) : V → Option (List V) → Option (V × St)
  | .sl .clip xs, some [] => some (.sl .clip xs, s)
  | .sl .clip xs, some (y :: ys) => if allLen sz (xs ++ (y :: ys)) = true ∧ xs.length + (y :: ys).length ≤ lim then some (.vec s.h.length 0 0 (xs.length + (y :: ys).length) sz, { s with h := s.h ++ [.vec 0 sz ((xs ++ (y :: ys)).flatMap V.cells)] }) else none
  | .vec r ver 0 len z, some [] => some (.vec r ver 0 len z, s)
  | .vec r ver 0 len z, some (y :: ys) =>
    if z = sz ∧ allLen sz (y :: ys) = true ∧ len + (y :: ys).length ≤ lim then
      match s.h[r]? with
      | some (.vec v z' cs) => if v = ver ∧ z' = sz ∧ len * sz ≤ cs.length ∧ okStoreB r ((y :: ys).flatMap V.cells) bs = true then some (.vec r (ver + 1) 0 (len + (y :: ys).length) sz, { s with h := s.h.set r (.vec (ver + 1) sz (cs.take (len * sz) ++ (y :: ys).flatMap V.cells)) }) else none
      | _ => none
    else none
  | _, _ => none

def xMakeV (z : List V) (s : St) : V → V → Option (V × St)
  | .int _ n, .int _ m => if 0 ≤ n ∧ n ≤ m ∧ m ≤ lim then some (.vec s.h.length 0 0 n.toNat z.length, { s with h := s.h ++ [.vec 0 z.length (List.replicate n.toNat z).flatten] }) else none
  | _, _ => none

def xBoxM (bs : List Nat) (r off : Nat) (xs : List V) (v : V) (s : St) : Option Ob → Option (V × St)
  | some (.box cs) => if off + xs.length ≤ cs.length ∧ okStoreB r xs bs = true then some (v, { s with h := s.h.set r (.box (splice cs off xs)) }) else none
  | _ => none
def xVecM (bs : List Nat) (r ver off : Nat) (xs : List V) (u : V) (s : St) : Option Ob → Option (V × St)
  | some (.vec v z cs) => if v = ver ∧ off + xs.length ≤ cs.length ∧ okStoreB r xs bs = true then some (u, { s with h := s.h.set r (.vec v z (splice cs off xs)) }) else none
  | _ => none
theorem xBoxM_ok {bs : List Nat} {r off : Nat} {xs : List V} {v v' : V} {s s' : St} {K : V → St → Prop} {o : Option Ob} (h : xBoxM bs r off xs v s o = some (v', s')) (hk : K v' s') : kBox bs r off xs (fun _ s' => K v s') s o := by
  unfold xBoxM at h
  split at h
  · split at h
    · rename_i h1
      simp only [Option.some.injEq, Prod.mk.injEq] at h; obtain ⟨rfl, rfl⟩ := h
      exact ⟨h1.1, okStoreB_ok h1.2, hk⟩
    · cases h
  · cases h
theorem xVecM_ok {bs : List Nat} {r ver off : Nat} {xs : List V} {v v' : V} {s s' : St} {K : V → St → Prop} {o : Option Ob} (h : xVecM bs r ver off xs v s o = some (v', s')) (hk : K v' s') : kVec bs r ver off xs (fun _ s' => K v s') s o := by
  unfold xVecM at h
  split at h
  · split at h
    · rename_i h1
      simp only [Option.some.injEq, Prod.mk.injEq] at h; obtain ⟨rfl, rfl⟩ := h
      exact ⟨h1.1, h1.2.1, okStoreB_ok h1.2.2, hk⟩
    · cases h
  · cases h
theorem kBox_tup {bs : List Nat} {r off : Nat} {xs : List V} {s : St} {K : V → St → Prop} {o : Option Ob} (h : kBox bs r off xs (fun _ s' => K (.tup []) s') s o) : kBox bs r off xs K s o := by
  unfold kBox at *; split at h <;> exact h
theorem kVec_tup {bs : List Nat} {r ver off : Nat} {xs : List V} {s : St} {K : V → St → Prop} {o : Option Ob} (h : kVec bs r ver off xs (fun _ s' => K (.tup []) s') s o) : kVec bs r ver off xs K s o := by
  unfold kVec at *; split at h <;> exact h

def xCopyM (bs : List Nat) (sz : Nat) (s : St) : V → V → Option (V × St)
  | .sl _ [], .sl _ _ => some (.int .i64 0, s)
  | .msl r off len _ z, .sl _ ys => if z = sz ∧ ys.length ≤ len ∧ allLen sz ys = true then xBoxM bs r off (ys.flatMap V.cells) (.int .i64 ys.length) s s.h[r]? else none
  | .vec r ver off len z, .sl _ ys => if z = sz ∧ ys.length ≤ len ∧ allLen sz ys = true then xVecM bs r ver off (ys.flatMap V.cells) (.int .i64 ys.length) s s.h[r]? else none
  | _, _ => none

def xClearM (bs : List Nat) (zc : List V) (s : St) : V → Option (V × St)
  | .sl _ [] => some (.tup [], s)
  | .msl r off len _ z => if z = zc.length then xBoxM bs r off (List.replicate len zc).flatten (.tup []) s s.h[r]? else none
  | .vec r ver off len z => if z = zc.length then xVecM bs r ver off (List.replicate len zc).flatten (.tup []) s s.h[r]? else none
  | _ => none

theorem xCopyM_ok {bs : List Nat} {sz : Nat} {s s' : St} {K : V → St → Prop} {v : V} {a b : V} (h : xCopyM bs sz s a b = some (v, s')) (hk : K v s') : kCopyM bs sz K s a b := by
  unfold xCopyM at h
  split at h
  · simp only [Option.some.injEq, Prod.mk.injEq] at h; obtain ⟨rfl, rfl⟩ := h; exact hk
  · split at h
    · rename_i h1; exact ⟨h1.1, h1.2.1, allLen_ok h1.2.2, xBoxM_ok (K := K) h hk⟩
    · cases h
  · split at h
    · rename_i h1; exact ⟨h1.1, h1.2.1, allLen_ok h1.2.2, xVecM_ok (K := K) h hk⟩
    · cases h
  · cases h
theorem xClearM_ok {bs : List Nat} {zc : List V} {s s' : St} {K : V → St → Prop} {v : V} {a : V} (h : xClearM bs zc s a = some (v, s')) (hk : K v s') : kClearM bs zc K s a := by
  unfold xClearM at h
  split at h
  · simp only [Option.some.injEq, Prod.mk.injEq] at h; obtain ⟨rfl, rfl⟩ := h; exact hk
  · split at h
    · rename_i h1; exact ⟨h1, kBox_tup (xBoxM_ok (K := K) h hk)⟩
    · cases h
  · split at h
    · rename_i h1; exact ⟨h1, kVec_tup (xVecM_ok (K := K) h hk)⟩
    · cases h
  · cases h

def xSet (bs : List Nat) (k v : V) (s : St) : V → Option (V × St)
  | .map (some r) => match s.h[r]? with
    | some (.map es bo ck) => match setE k v es with
      | some es' => if okStoreB r [v] bs = true then some (.tup [], { s with h := s.h.set r (setOb es.length bo ck es') }) else none
      | none => none
    | _ => none
  | _ => none

def xDel (k : V) (s : St) : V → Option (V × St)
  | .map none => some (.tup [], s)
  | .map (some r) => match s.h[r]? with
    | some (.map es bo ck) => match delE k es bo with
      | some x => some (.tup [], { s with h := s.h.set r (.map x.1 x.2 ck) })
      | none => none
    | _ => none
  | _ => none

/-- Bytes to a string, by recursion on the row. -/
def bytesX : List V → Option (List UInt8)
  | [] => some []
  | .int .u8 n :: xs => (bytesX xs).map (UInt8.ofNat n.toNat :: ·)
  | _ => none
theorem bytesX_eq (t : Tag) : ∀ xs : List V, bytesV (.sl t xs) = bytesX xs
  | [] => by simp [bytesV, bytesX]
  | x :: xs => by
    cases x with
    | int k n =>
      cases k with
      | u8 => simp [bytesV, bytesX, bytesX_eq t xs]
      | _ => simp [bytesV, bytesX]
    | _ => simp [bytesV, bytesX]
def textX : V → Option (List UInt8)
  | .sl _ xs => bytesX xs
  | _ => none
theorem textX_eq (v : V) : textX v = bytesV v := by
  cases v <;> simp [textX, bytesV, bytesX_eq]
def convX : Cv → V → Option V
  | .text, .sl _ xs => (bytesX xs).map .str
  | .text, _ => none
  | c, v => convV c v
theorem convX_eq (c : Cv) (v : V) : convX c v = convV c v := by
  cases c <;> try rfl
  cases v <;> simp [convX, convV, bytesV, bytesX_eq]

def xOp (bs : List Nat) (d : Option Nat) (o : AOp) (s : St) : Option (V × St) :=
  match o with
  | .mov x => some (ev s.r x, s)
  | .pick c a b => match ev s.r c with
    | .bool true => some (ev s.r a, s)
    | .bool false => some (ev s.r b, s)
    | _ => none
  | .alloc z hp => xNew z d s hp
  | .box x n hp => if (ev s.r x).cells.length = n ∧ (ev s.r x).isLoc = false then xNew (ev s.r x).cells d s hp else none
  | .fbox x n => if (ev s.r x).cells.length = n ∧ (ev s.r x).isLoc = false then some (.elp (ev s.r x) 0, s) else none
  | .build z ps => xSome s ((buildC s.r ps z).map .agg)
  | .bslice z n ps => xSome s ((buildS s.r z.length ps (List.replicate n (oneV z))).map (.sl .clip))
  | .load n a => xSome s (loadV s (ev s.r a) n)
  | .store n a x => if (ev s.r x).cells.length = n ∧ (ev s.r x).isLoc = false then xStore bs (ev s.r x).cells s (ev s.r a) else none
  | .loadL n a => xSome s (loadLV s (ev s.r a) n)
  | .storeL n a x => if isPtr (ev s.r a) = false ∧ (ev s.r x).cells.length = n ∧ (ev s.r x).isLoc = false then xStore bs (ev s.r x).cells s (ev s.r a) else none
  | .loadX lc n a l m => if addrOk lc (ev s.r a) (evs s.r l) (evs s.r m) = true then xSome s (loadV s (ev s.r a) n) else none
  | .storeX lc n a x l m => if addrOk lc (ev s.r a) (evs s.r l) (evs s.r m) = true ∧ (ev s.r x).cells.length = n ∧ (ev s.r x).isLoc = false then xStore bs (ev s.r x).cells s (ev s.r a) else none
  | .nilck x => if nilOk (ev s.r x) = true then some (ev s.r x, s) else none
  | .bin op x y => xSome s (binV op (ev s.r x) (ev s.r y))
  | .eqnil nk neg x => xSome s (((nilV nk (ev s.r x)).map (xor neg)).map .bool)
  | .nilsl neg x => match ev s.r x with
    | .sl _ (_ :: _) => some (.bool neg, s)
    | .msl _ _ _ _ _ => some (.bool neg, s)
    | .vec _ _ _ _ _ => some (.bool neg, s)
    | _ => none
  | .eqb neg x y => xSome s (eqbV neg (ev s.r x) (ev s.r y))
  | .eqi gl neg x y => xSome s (eqiV gl neg (ev s.r x) (ev s.r y))
  | .not x => xSome s (notV (ev s.r x))
  | .neg x => xSome s (negV (ev s.r x))
  | .bmax x y => xSome s (maxV (ev s.r x) (ev s.r y))
  | .bmin x y => xSome s (minV (ev s.r x) (ev s.r y))
  | .copy0 x y => xSome s (copyV (ev s.r x) (ev s.r y))
  | .stuck => none
  | .conv c x => xSome s (convX c (ev s.r x))
  | .mkif t x => if (ev s.r x).isLoc = false then some (.iface t (ev s.r x), s) else none
  | .mkfn f cap => if okVals (evs s.r cap) = true then some (.fn f (evs s.r cap), s) else none
  | .mkmet f xs => if okVals (evs s.r xs) = true then some (.mfn f (evs s.r xs), s) else none
  | .mkmap => some (.map (some s.h.length), { s with h := s.h ++ [.map [] [] 0] })
  | .gload g => some (.sent g, s)
  | .entry x => xSome s (entV s (ev s.r x))
  | .delete kk m k => if isKey kk (ev s.r k) = true then xDel (ev s.r k) s (ev s.r m) else none
  | .mkslice z l c => xMake z s (ev s.r l) (ev s.r c)
  | .mkarr z l c => xMakeM z s (ev s.r l) (ev s.r c)
  | .slice sz x lo hi mx => xSome s (sliceV sz s.r (ev s.r x) lo hi mx)
  | .faddr off x => xSome s (faddV off (ev s.r x))
  | .field off n x => xSome s (fieldV off n (ev s.r x))
  | .iaddr sz x i => xSome s (iaddrV sz (ev s.r x) (ev s.r i))
  | .sindex x i => xSome s (sindexV (ev s.r x) (ev s.r i))
  | .lookup kk z m k ok => xSome s (lookV s kk z (ev s.r k) ok (ev s.r m))
  | .mapset kk m k v => if isKey kk (ev s.r k) = true ∧ (ev s.r v).isLoc = false then xSet bs (ev s.r k) (ev s.r v) s (ev s.r m) else none
  | .tassert t z x ok => xSome s (assertV t z ok (ev s.r x))
  | .tasent gl t z x => xSome s (assentV gl t z (ev s.r x))
  | .extract x i => xSome s (extractV i (ev s.r x))
  | .len nk x => xSome s (lenV nk s (ev s.r x))
  | .append sz x y => xApp sz s (ev s.r x) (elemsOf (ev s.r y))
  | .appm sz z x y => xAppm bs sz z s (ev s.r x) (elemsOf (ev s.r y))
  | .appE sz x y => if sz = 1 ∧ (isMsl (ev s.r x) = false ∨ (elemsOf (rdV s (ev s.r y))).any (fun l => !l.isEmpty) = true) then xApp 1 s (rdV s (ev s.r x)) (elemsOf (rdV s (ev s.r y))) else none
  | .appV sz x y => xAppV bs sz s (ev s.r x) (elemsW s sz (ev s.r y))
  | .mkvec z l c => xMakeV z s (ev s.r l) (ev s.r c)
  | .bslV z n ps => match buildS s.r z.length ps (List.replicate n (oneV z)) with
    | some xs => some (.vec s.h.length 0 0 n z.length, { s with h := s.h ++ [.vec 0 z.length (xs.flatMap V.cells)] })
    | none => none
  | .copyM sz x y => xCopyM bs sz s (ev s.r x) (ev s.r y)
  | .clearM z x => xClearM bs z s (ev s.r x)
  | .textE x => xSome s ((textX (rdV s (ev s.r x))).map .str)
  | .bslM z n ps => match buildS s.r z.length ps (List.replicate n (oneV z)) with
    | some xs => some (.msl s.h.length 0 n n z.length, { s with h := s.h ++ [.box (xs.flatMap V.cells)] })
    | none => none
  | .range _ => none
  | .next _ => none
  | .call _ _ _ _ => none
  | .callK _ _ _ _ _ => none

section
variable {X : CallH} {bs : List Nat} {s s' : St} {K : V → St → Prop} {v : V}

theorem xSome_ok {o : Option V} (h : xSome s o = some (v, s')) (hk : K v s') : kSome K s o := by
  cases o with
  | none => cases h
  | some w => simp only [xSome, Option.map_some, Option.some.injEq, Prod.mk.injEq] at h; obtain ⟨rfl, rfl⟩ := h; exact hk

theorem xNew_ok {z : List V} {d : Option Nat} {hp : Bool} (h : xNew z d s hp = some (v, s')) (hk : K v s') : kNew z d K s hp := by
  cases hp with
  | true => simp only [xNew, Option.some.injEq, Prod.mk.injEq] at h; obtain ⟨rfl, rfl⟩ := h; exact hk
  | false =>
    simp only [xNew] at h
    cases d with
    | none => cases h
    | some d =>
      simp only [xAlloc] at h
      split at h
      · rename_i e; simp only [Option.some.injEq, Prod.mk.injEq] at h; obtain ⟨rfl, rfl⟩ := h; exact ⟨e, hk⟩
      · cases h

theorem xStore_ok {xs : List V} {a : V} (h : xStore bs xs s a = some (v, s')) (hk : K v s') : kStore bs xs K s a := by
  cases a <;> simp only [xStore] at h <;> first | (cases h; done) | skip
  · rename_i r off
    split at h
    · rename_i cs e
      split at h
      · rename_i h1
        split at h
        · rename_i h2
          simp only [Option.some.injEq, Prod.mk.injEq] at h; obtain ⟨rfl, rfl⟩ := h
          simp only [kStore]
          rw [e]
          exact ⟨h1, okStoreB_ok h2, hk⟩
        · cases h
      · cases h
    · cases h
  · rename_i d off
    split at h
    · rename_i cs e
      split at h
      · rename_i h1
        simp only [Option.some.injEq, Prod.mk.injEq] at h; obtain ⟨rfl, rfl⟩ := h
        simp only [kStore]
        rw [e]
        exact ⟨h1, hk⟩
      · cases h
    · cases h
  · rename_i r ver off
    split at h
    · rename_i v z cs e
      split at h
      · rename_i h1
        split at h
        · rename_i h2
          simp only [Option.some.injEq, Prod.mk.injEq] at h; obtain ⟨rfl, rfl⟩ := h
          simp only [kStore]
          rw [e]
          exact ⟨h1.1, h1.2, okStoreB_ok h2, hk⟩
        · cases h
      · cases h
    · cases h

theorem xApp_ok {sz : Nat} {a : V} {o : Option (List V)} (h : xApp sz s a o = some (v, s')) (hk : K v s') : kApp sz K s a o := by
  cases a <;> first | (cases h; done) | skip
  rename_i t xs
  cases o with
  | none => cases h
  | some ys =>
    cases ys with
    | nil => simp only [xApp, Option.some.injEq, Prod.mk.injEq] at h; obtain ⟨rfl, rfl⟩ := h; exact hk
    | cons y ys =>
      simp only [xApp] at h
      split at h
      · rename_i h1
        refine ⟨allLen_ok h1.1, h1.2, ?_⟩
        cases t with
        | frozen => cases h
        | clip => simp only [xTag, Option.some.injEq, Prod.mk.injEq] at h; obtain ⟨rfl, rfl⟩ := h; exact hk
        | fam r =>
          simp only [xTag] at h
          simp only [kTag]
          split at h
          · rename_i k z e
            split at h
            · rename_i h2
              simp only [Option.some.injEq, Prod.mk.injEq] at h; obtain ⟨rfl, rfl⟩ := h
              rw [e]
              exact ⟨h2.1, h2.2, hk⟩
            · cases h
          · cases h
      · cases h

theorem xAppm_ok {sz : Nat} {z : List V} {a : V} {o : Option (List V)} (h : xAppm bs sz z s a o = some (v, s')) (hk : K v s') : kAppm bs sz z K s a o := by
  unfold xAppm at h
  split at h
  · simp only [Option.some.injEq, Prod.mk.injEq] at h; obtain ⟨rfl, rfl⟩ := h; exact hk
  · split at h
    · rename_i h1
      simp only [Option.some.injEq, Prod.mk.injEq] at h; obtain ⟨rfl, rfl⟩ := h
      cases z with
      | nil => exact ⟨allLen_ok h1.1, h1.2.1, hk⟩
      | cons _ _ => simp at h1
    · cases h
  · split at h
    · rename_i h1
      split at h
      · rename_i cs e
        split at h
        · rename_i h2
          simp only [Option.some.injEq, Prod.mk.injEq] at h; obtain ⟨rfl, rfl⟩ := h
          refine ⟨h1.1, by simp, allLen_ok h1.2.1, h1.2.2.1, ?_⟩
          rw [e]
          simp only [kAppm1]
          rw [if_pos h1.2.2.2]
          exact ⟨h2.1, okStoreB_ok h2.2, hk⟩
        · cases h
      · cases h
    · cases h
  · cases h

theorem xAppV_ok {sz : Nat} {a : V} {o : Option (List V)} (h : xAppV bs sz s a o = some (v, s')) (hk : K v s') : kAppV bs sz K s a o := by
  unfold xAppV at h
  split at h
  · simp only [Option.some.injEq, Prod.mk.injEq] at h; obtain ⟨rfl, rfl⟩ := h; exact hk
  · split at h
    · rename_i h1
      simp only [Option.some.injEq, Prod.mk.injEq] at h; obtain ⟨rfl, rfl⟩ := h
      exact ⟨allLen_ok h1.1, h1.2, hk⟩
    · cases h
  · simp only [Option.some.injEq, Prod.mk.injEq] at h; obtain ⟨rfl, rfl⟩ := h; exact hk
  · split at h
    · rename_i h1
      split at h
      · rename_i v z cs e
        split at h
        · rename_i h2
          simp only [Option.some.injEq, Prod.mk.injEq] at h; obtain ⟨rfl, rfl⟩ := h
          refine ⟨h1.1, allLen_ok h1.2.1, h1.2.2, ?_⟩
          rw [e]
          exact ⟨h2.1, h2.2.1, h2.2.2.1, okStoreB_ok h2.2.2.2, hk⟩
        · cases h
      · cases h
    · cases h
  · cases h

theorem xOp_ok {d : Option Nat} {o : AOp} (h : xOp bs d o s = some (v, s')) (hk : K v s') : wpOp X bs d o s K := by
  cases o <;> simp only [xOp] at h <;> simp only [wpOp]
  case mov => simp only [Option.some.injEq, Prod.mk.injEq] at h; obtain ⟨rfl, rfl⟩ := h; exact hk
  case pick =>
    split at h
    · rename_i e; simp only [Option.some.injEq, Prod.mk.injEq] at h; obtain ⟨rfl, rfl⟩ := h; rw [e]; simpa [kPick] using hk
    · rename_i e; simp only [Option.some.injEq, Prod.mk.injEq] at h; obtain ⟨rfl, rfl⟩ := h; rw [e]; simpa [kPick] using hk
    · cases h
  case alloc => exact xNew_ok h hk
  case box =>
    split at h
    · rename_i h1; exact ⟨h1.1, h1.2, xNew_ok h hk⟩
    · cases h
  case fbox =>
    split at h
    · rename_i h1; simp only [Option.some.injEq, Prod.mk.injEq] at h; obtain ⟨rfl, rfl⟩ := h; exact ⟨h1.1, h1.2, hk⟩
    · cases h
  case store =>
    split at h
    · rename_i h1; exact ⟨h1.1, h1.2, xStore_ok h hk⟩
    · cases h
  case storeL =>
    split at h
    · rename_i h1; exact ⟨h1.1, h1.2.1, h1.2.2, xStore_ok h hk⟩
    · cases h
  case loadX =>
    split at h
    · rename_i h1; exact ⟨h1, xSome_ok h hk⟩
    · cases h
  case storeX =>
    split at h
    · rename_i h1; exact ⟨h1.1, h1.2.1, h1.2.2, xStore_ok h hk⟩
    · cases h
  case nilck x =>
    split at h
    · rename_i h1
      simp only [Option.some.injEq, Prod.mk.injEq] at h; obtain ⟨rfl, rfl⟩ := h
      revert hk h1
      cases ev s.r x <;> simp [nilOk, kNil]
    · cases h
  case eqnil nk neg x =>
    cases e : nilV nk (ev s.r x) with
    | none => rw [e] at h; cases h
    | some b =>
      rw [e] at h
      simp only [Option.map_some, xSome, Option.some.injEq, Prod.mk.injEq] at h; obtain ⟨rfl, rfl⟩ := h
      exact hk
  case nilsl neg x =>
    split at h
    · rename_i e; simp only [Option.some.injEq, Prod.mk.injEq] at h; obtain ⟨rfl, rfl⟩ := h; rw [e]; exact hk
    · rename_i e; simp only [Option.some.injEq, Prod.mk.injEq] at h; obtain ⟨rfl, rfl⟩ := h; rw [e]; exact hk
    · rename_i e; simp only [Option.some.injEq, Prod.mk.injEq] at h; obtain ⟨rfl, rfl⟩ := h; rw [e]; exact hk
    · cases h
  case mkif =>
    split at h
    · rename_i h1; simp only [Option.some.injEq, Prod.mk.injEq] at h; obtain ⟨rfl, rfl⟩ := h; exact ⟨h1, hk⟩
    · cases h
  case mkfn =>
    split at h
    · rename_i h1; simp only [Option.some.injEq, Prod.mk.injEq] at h; obtain ⟨rfl, rfl⟩ := h; exact ⟨h1, hk⟩
    · cases h
  case mkmet =>
    split at h
    · rename_i h1; simp only [Option.some.injEq, Prod.mk.injEq] at h; obtain ⟨rfl, rfl⟩ := h; exact ⟨h1, hk⟩
    · cases h
  case mkmap => simp only [Option.some.injEq, Prod.mk.injEq] at h; obtain ⟨rfl, rfl⟩ := h; exact hk
  case stuck => cases h
  case gload => simp only [Option.some.injEq, Prod.mk.injEq] at h; obtain ⟨rfl, rfl⟩ := h; exact hk
  case conv => rw [convX_eq] at h; exact xSome_ok h hk
  case range => cases h
  case next => cases h
  case call => cases h
  case callK => cases h
  case delete kk m k =>
    split at h
    · rename_i h1
      refine ⟨h1, ?_⟩
      revert h
      cases ev s.r m <;> intro h <;> first | (cases h; done) | skip
      rename_i r
      cases r with
      | none => simp only [xDel, Option.some.injEq, Prod.mk.injEq] at h; obtain ⟨rfl, rfl⟩ := h; exact hk
      | some r =>
        simp only [xDel] at h
        simp only [kDel]
        split at h
        · rename_i es bo ck e
          rw [e]
          simp only [kDel1]
          split at h
          · rename_i x e2
            rw [e2]
            simp only [Option.some.injEq, Prod.mk.injEq] at h; obtain ⟨rfl, rfl⟩ := h
            exact hk
          · cases h
        · cases h
    · cases h
  case mkslice z l c =>
    revert h
    cases ev s.r l <;> intro h <;> first | (cases h; done) | skip
    revert h
    cases ev s.r c <;> intro h <;> first | (cases h; done) | skip
    simp only [xMake] at h
    split at h
    · rename_i h1
      simp only [Option.some.injEq, Prod.mk.injEq] at h; obtain ⟨rfl, rfl⟩ := h
      exact ⟨h1.1, h1.2.1, h1.2.2, hk⟩
    · cases h
  case mkarr z l c =>
    revert h
    cases ev s.r l <;> intro h <;> first | (cases h; done) | skip
    revert h
    cases ev s.r c <;> intro h <;> first | (cases h; done) | skip
    simp only [xMakeM] at h
    split at h
    · rename_i h1
      simp only [Option.some.injEq, Prod.mk.injEq] at h; obtain ⟨rfl, rfl⟩ := h
      exact ⟨h1.1, h1.2.1, h1.2.2, hk⟩
    · cases h
  case mapset kk m k v =>
    split at h
    · rename_i h1
      refine ⟨h1.1, h1.2, ?_⟩
      revert h
      cases ev s.r m <;> intro h <;> first | (cases h; done) | skip
      rename_i r
      cases r with
      | none => cases h
      | some r =>
        simp only [xSet] at h
        simp only [kSet]
        split at h
        · rename_i es bo ck e
          rw [e]
          simp only [kSet1]
          split at h
          · rename_i x e2
            rw [e2]
            split at h
            · rename_i h2
              simp only [Option.some.injEq, Prod.mk.injEq] at h; obtain ⟨rfl, rfl⟩ := h
              exact ⟨okStoreB_ok h2, hk⟩
            · cases h
          · cases h
        · cases h
    · cases h
  case append => exact xApp_ok h hk
  case appE sz x y =>
    split at h
    · rename_i hc
      refine ⟨hc.1, fun hm hn => ?_, xApp_ok h hk⟩
      rcases hc.2 with h1 | h1
      · rw [hm] at h1; cases h1
      · rw [hn] at h1; simp at h1
    · cases h
  case appV => exact xAppV_ok h hk
  case mkvec z l c =>
    unfold xMakeV at h
    split at h
    · rename_i e1 e2
      split at h
      · rename_i h1
        simp only [Option.some.injEq, Prod.mk.injEq] at h; obtain ⟨rfl, rfl⟩ := h
        rw [e1, e2]
        exact ⟨h1.1, h1.2.1, h1.2.2, hk⟩
      · cases h
    · cases h
  case bslV z n ps =>
    split at h
    · rename_i xs e
      simp only [Option.some.injEq, Prod.mk.injEq] at h; obtain ⟨rfl, rfl⟩ := h
      rw [e]; exact hk
    · cases h
  case copyM sz x y => exact xCopyM_ok h hk
  case clearM z x => exact xClearM_ok h hk
  case textE x => rw [textX_eq] at h; exact xSome_ok h hk
  case bslM z n ps =>
    split at h
    · rename_i xs e
      simp only [Option.some.injEq, Prod.mk.injEq] at h; obtain ⟨rfl, rfl⟩ := h
      rw [e]; exact hk
    · cases h
  case appm => exact xAppm_ok h hk
  all_goals exact xSome_ok h hk
end

/-- What is handed back frozen: the rows' cells read. -/
def frzV (n : Nat) (h : List Ob) : Nat → V → Option V
  | 0, _ => none
  | m + 1, .msl r off len _ z => if n ≤ r ∧ 0 < z then match h[r]? with
    | some (.box cs) => if off + len * z ≤ cs.length then (((List.range len).map fun i => oneV ((cs.drop (off + i * z)).take z)).mapM (frzV n h m)).map (.sl .frozen) else none
    | _ => none
    else none
  | m + 1, .vec r ver off len z => if n ≤ r ∧ 0 < z then match h[r]? with
    | some (.vec v _ cs) => if v = ver ∧ off + len * z ≤ cs.length then (((List.range len).map fun i => oneV ((cs.drop (off + i * z)).take z)).mapM (frzV n h m)).map (.sl .frozen) else none
    | _ => none
    else none
  | m + 1, .sl _ xs => (xs.mapM (frzV n h m)).map (.sl .frozen)
  | m + 1, .agg xs => (xs.mapM (frzV n h m)).map .agg
  | m + 1, .tup xs => (xs.mapM (frzV n h m)).map .tup
  | _ + 1, v => some v

theorem mapM_get {f : V → Option V} : ∀ {xs ys : List V}, xs.mapM f = some ys → ys.length = xs.length ∧ ∀ (i : Nat) (x y : V), xs[i]? = some x → ys[i]? = some y → f x = some y
  | [], ys, h => by
    simp only [List.mapM_nil, Option.pure_def, Option.some.injEq] at h
    subst h
    exact ⟨rfl, fun i x y hx => by simp at hx⟩
  | x :: xs, ys, h => by
    simp only [List.mapM_cons, Option.bind_eq_bind, Option.pure_def, Option.bind_eq_some_iff, Option.some.injEq] at h
    obtain ⟨y, hy, zs, hz, rfl⟩ := h
    obtain ⟨h1, h2⟩ := mapM_get hz
    refine ⟨by simp [h1], fun i a b ha hb => ?_⟩
    cases i with
    | zero => simp only [List.getElem?_cons_zero, Option.some.injEq] at ha hb; subst ha hb; exact hy
    | succ i => simp only [List.getElem?_cons_succ] at ha hb; exact h2 i a b ha hb

theorem frzV_ok {n : Nat} {h : List Ob} : ∀ (m : Nat) {v w : V}, frzV n h m v = some w → Frz n h v w
  | 0, v, w, e => by cases v <;> simp [frzV] at e
  | m + 1, v, w, e => by
    cases v
    case msl r off len cap z =>
      simp only [frzV] at e
      split at e
      · rename_i h1
        split at e
        · rename_i cs e1
          split at e
          · rename_i h2
            simp only [Option.map_eq_some_iff] at e
            obtain ⟨ys, e2, rfl⟩ := e
            obtain ⟨g1, g2⟩ := mapM_get e2
            have hl : ys.length = len := by rw [g1]; simp
            refine .msl r off len cap z cs ys h1.1 e1 h1.2 hl h2 fun i x hx => ?_
            have hi : i < len := by have := (List.getElem?_eq_some_iff.1 hx).1; omega
            exact frzV_ok m (g2 i _ x (by simp [hi]) hx)
          · cases e
        · cases e
      · cases e
    case vec r ver off len z =>
      simp only [frzV] at e
      split at e
      · rename_i h1
        split at e
        · rename_i v z' cs e1
          split at e
          · rename_i h2
            simp only [Option.map_eq_some_iff] at e
            obtain ⟨ys, e2, rfl⟩ := e
            obtain ⟨g1, g2⟩ := mapM_get e2
            have hl : ys.length = len := by rw [g1]; simp
            obtain ⟨rfl, h2⟩ := h2
            refine .vec r v off len z z' cs ys h1.1 e1 h1.2 hl h2 fun i x hx => ?_
            have hi : i < len := by have := (List.getElem?_eq_some_iff.1 hx).1; omega
            exact frzV_ok m (g2 i _ x (by simp [hi]) hx)
          · cases e
        · cases e
      · cases e
    case sl t xs =>
      simp only [frzV, Option.map_eq_some_iff] at e
      obtain ⟨ys, e2, rfl⟩ := e
      obtain ⟨g1, g2⟩ := mapM_get e2
      exact .sl _ _ _ g1 fun i x y hx hy => frzV_ok m (g2 i x y hx hy)
    case agg xs =>
      simp only [frzV, Option.map_eq_some_iff] at e
      obtain ⟨ys, e2, rfl⟩ := e
      obtain ⟨g1, g2⟩ := mapM_get e2
      exact .agg _ _ g1 fun i x y hx hy => frzV_ok m (g2 i x y hx hy)
    case tup xs =>
      simp only [frzV, Option.map_eq_some_iff] at e
      obtain ⟨ys, e2, rfl⟩ := e
      obtain ⟨g1, g2⟩ := mapM_get e2
      exact .tup _ _ g1 fun i x y hx hy => frzV_ok m (g2 i x y hx hy)
    all_goals (simp only [frzV, Option.some.injEq] at e; subst e; exact .same _)

/-- Calls and rounds, as far as the fuel goes. -/
structure Rn where
  call : Nat → Nat → List Nat → List V → List Ob → Option (V × List Ob)
  loop : List Nat → AC → St → Option (AX × St)

def xGo (R : Rn) (bs : List Nat) (d : Option Nat) (o : AOp) (s : St) : Option (V × St) :=
  match o with
  | .call vr own f args => if okVals (evs s.r args) = true then (match ev s.r f with
    | .fn g cap => (match R.call g vr bs (evArgs s.r own args 0 ++ cap) s.h with
      | some (v, h) => some (v, { s with h := h })
      | none => none)
    | .mfn g xs => (match R.call g vr bs (xs ++ evArgs s.r own args 0) s.h with
      | some (v, h) => some (v, { s with h := h })
      | none => none)
    | .yld r => (match R.call r 1000001 bs (evArgs s.r own args 0) s.h with
      | some (v, h) => some (v, { s with h := h })
      | none => none)
    | _ => none) else none
  | .callK vr own f args ks => if okVals (evs s.r args) = true then (match ev s.r f with
    | .fn g cap => (match R.call g vr bs (evArgs s.r own args 0 ++ cap) s.h with
      | some (v, h) => if keptB s.h h (evs s.r ks) = true then some (v, { s with h := h }) else none
      | none => none)
    | .mfn g xs => (match R.call g vr bs (xs ++ evArgs s.r own args 0) s.h with
      | some (v, h) => if keptB s.h h (evs s.r ks) = true then some (v, { s with h := h }) else none
      | none => none)
    | _ => none) else none
  | o => xOp bs d o s

def xIns (R : Rn) (bs : List Nat) : List Ins → St → Option St
  | [], s => some s
  | i :: is, s => match i.guard with
    | none => (match xGo R bs i.dst i.op s with
      | some (v, s') => xIns R bs is (putD s' i.dst v)
      | none => none)
    | some (j, w) => (match s.r j with
      | .bool b => if b = w then (match xGo R bs i.dst i.op s with
          | some (v, s') => xIns R bs is (putD s' i.dst v)
          | none => none)
        else xIns R bs is (putD s i.dst (.tup []))
      | .tup [] => xIns R bs is (putD s i.dst (.tup []))
      | _ => none)

def lkR : List (Nat × V) → Nat → V
  | [], _ => .undef
  | (j, v) :: l, i => if i = j then v else lkR l i
def xForget (keep locs : List Nat) (s : St) : St :=
  { s with
    r := lkR ((keep.map fun i => (i, noLoc (s.r i))) ++ locs.map fun i => (i, locOf i (s.r i)))
    l := fun d => if d ∈ locs then s.l d else none }

theorem lkR_map (f : Nat → V) (g : Nat → V) : ∀ (l : List Nat) (i : Nat) (t : List (Nat × V)), lkR ((l.map fun i => (i, f i)) ++ t) i = if i ∈ l then f i else lkR t i
  | [], i, t => by simp
  | j :: l, i, t => by
    rw [List.map_cons, List.cons_append, lkR, lkR_map f g l i t]
    by_cases h : i = j
    · subst h; simp
    · simp [h]
theorem xForget_eq (keep locs : List Nat) (s : St) : xForget keep locs s = forget keep locs s := by
  unfold xForget forget
  congr 1
  funext i
  rw [lkR_map (fun i => noLoc (s.r i)) (fun i => noLoc (s.r i))]
  split
  · rfl
  · have := lkR_map (fun i => locOf i (s.r i)) (fun i => noLoc (s.r i)) locs i []
    rw [List.append_nil] at this
    rw [this]; rfl

/-- Behind a range over a function. -/
def peX : Option (Option Nat) → AX
  | none => .normal
  | some none => .ret
  | some (some id) => .exit id

def xRfEnd (r : Nat) (s : St) (h : List Ob) : Option Ob → Option (AX × St)
  | some (.loop key regs st pe) => if st = 1 then none else some (peX pe, { s with h := h.set r (.loop key regs 3 pe) })
  | _ => none

def xRf (R : Rn) (bs : List Nat) (key : Nat) (kp fs : List Nat) (s : St) : V → Option (AX × St)
  | .fn f cap => if fs.contains f = true then (match R.call f 0 bs (.yld s.h.length :: cap) (s.h ++ [.loop key (capR kp s.r) 0 none]) with
    | some (_, h) => xRfEnd s.h.length s h h[s.h.length]?
    | none => none) else none
  | _ => none

def xRun (R : Rn) (bs : List Nat) : AC → St → Option (AX × St)
  | .skip, s => some (.normal, s)
  | .reg l, s => match xIns R bs l s with
    | some s' => some (.normal, s')
    | none => none
  | .seq a b, s => match xRun R bs a s with
    | some (.normal, s') => xRun R bs b s'
    | r => r
  | .cond c a b, s => match ev s.r c with
    | .bool true => xRun R bs a s
    | .bool false => xRun R bs b s
    | _ => none
  | .block id b, s => match xRun R bs b s with
    | some (.exit j, s') => if j = id then some (.normal, s') else some (.exit j, s')
    | r => r
  | .loop keep locs b, s => match xRun R bs b (xForget keep locs s) with
    | some (.normal, s') => R.loop bs (.loop keep locs b) s'
    | r => r
  | .rfunc g key kp fs, s => xRf R bs key kp fs s (ev s.r g)
  | .exit id, s => some (.exit id, s)
  | .ret, s => some (.ret, s)

def xEnd (trunc : Bool) (n : Nat) (h : List Ob) (v : V) : Option (V × List Ob) :=
  match trunc with
  | true => if v.under n = true then some (v, h.take n) else none
  | false => some (v, h)

def xFin (af : AF) (n : Nat) (s : St) : Option (V × List Ob) :=
  match resV s af.res with
  | some vs => if okVals vs = true then xEnd af.trunc n s.h (if af.ownR = true then oneOf vs else (oneOf vs).demote) else none
  | none => none

def xFinF (af : AF) (n : Nat) (s : St) : Option (V × List Ob) :=
  match resV s af.res with
  | some vs => if okVals vs = true then (match frzV n s.h 40 (oneOf vs) with
    | some v => if v.demote.under n = true then some (v.demote, s.h.take n) else none
    | none => none) else none
  | none => none

def rndX (r st : Nat) (pe : Option (Option Nat)) (b : Bool) (h : List Ob) : Option Ob → Option (V × List Ob)
  | some (.loop key regs 1 none) => some (.bool b, h.set r (.loop key regs st pe))
  | _ => none

def xRndO (R : Rn) (r : Nat) (bs : List Nat) (bdy : AC) (s : St) : Option Ob → Option (V × List Ob)
  | some (.loop key regs 0 none) => (match xRun R bs bdy { s with h := s.h.set r (.loop key regs 1 none) } with
    | some (.normal, s) => rndX r 0 none true s.h s.h[r]?
    | some (.ret, s) => rndX r 2 (some none) false s.h s.h[r]?
    | some (.exit id, s) => rndX r 2 (some (some id)) false s.h s.h[r]?
    | none => none)
  | _ => none

def xYld (ap : AP) (R : Rn) (r : Nat) (bs : List Nat) (args : List V) (h : List Ob) : Option Ob → Option (V × List Ob)
  | some (.loop key regs 0 none) => (match ap key 77 with
    | some (.body ab) => if args.length = ab.ps.length then (match xRun R bs ab.asg { r := startB ab.ps args (regF regs), l := fun _ => none, h := h } with
      | some (.normal, s) => xRndO R r bs ab.bdy s s.h[r]?
      | _ => none) else none
    | _ => none)
  | _ => none

def xBody (ap : AP) (R : Rn) (f vr : Nat) (bs : List Nat) (args : List V) (h : List Ob) : Option (V × List Ob) :=
  if vr = 1000001 then xYld ap R f bs args h h[f]? else
  match ap f vr with
  | some (.body _) => none
  | some (.code af) => if args.length ≤ af.nt then (match xRun R (if af.trunc then h.length :: bs else bs) af.body { r := startR args, l := fun _ => none, h := h } with
    | some (.normal, s) => xFin af h.length s
    | some (.ret, s) => xFin af h.length s
    | _ => none) else none
  | some (.codeF af) => if args.length ≤ af.nt then (match xRun R (h.length :: bs) af.body { r := startR args, l := fun _ => none, h := h } with
    | some (.normal, s) => xFinF af h.length s
    | some (.ret, s) => xFinF af h.length s
    | _ => none) else none
  | some (.prim p) => (match p args with
    | some v => some (v, h)
    | none => none)
  | none => none

def xFuel (ap : AP) : Nat → Rn
  | 0 => ⟨fun _ _ _ _ _ => none, fun _ _ _ => none⟩
  | n + 1 => ⟨xBody ap (xFuel ap n), xRun (xFuel ap n)⟩

structure RnOk (ap : AP) (R : Rn) : Prop where
  call : ∀ f vr bs args h v h' (Q : V → List Ob → Prop), R.call f vr bs args h = some (v, h') → Q v h' → CallA ap f vr bs args h Q
  loop : ∀ bs c s e s' (Q : AX → St → Prop), R.loop bs c s = some (e, s') → Q e s' → wpA (CallA ap) bs c Q s

section
variable {ap : AP} {R : Rn} (hR : RnOk ap R) {bs : List Nat}
include hR

theorem xGo_ok {d : Option Nat} {o : AOp} {s s' : St} {v : V} {K : V → St → Prop} (h : xGo R bs d o s = some (v, s')) (hk : K v s') : wpOp (CallA ap) bs d o s K := by
  unfold xGo at h
  split at h
  · split at h
    · rename_i h1
      split at h
      · rename_i e
        split at h
        · rename_i w h2 e2
          simp only [Option.some.injEq, Prod.mk.injEq] at h; obtain ⟨rfl, rfl⟩ := h
          simp only [wpOp]
          rw [e]
          exact ⟨h1, hR.call _ _ _ _ _ _ _ _ e2 hk⟩
        · cases h
      · rename_i e
        split at h
        · rename_i w h2 e2
          simp only [Option.some.injEq, Prod.mk.injEq] at h; obtain ⟨rfl, rfl⟩ := h
          simp only [wpOp]
          rw [e]
          exact ⟨h1, hR.call _ _ _ _ _ _ _ _ e2 hk⟩
        · cases h
      · rename_i e
        split at h
        · rename_i w h2 e2
          simp only [Option.some.injEq, Prod.mk.injEq] at h; obtain ⟨rfl, rfl⟩ := h
          simp only [wpOp]
          rw [e]
          exact ⟨h1, hR.call _ _ _ _ _ _ _ _ e2 hk⟩
        · cases h
      · cases h
    · cases h
  · split at h
    · rename_i h1
      split at h
      · rename_i e
        split at h
        · rename_i w h2 e2
          split at h
          · rename_i h3
            simp only [Option.some.injEq, Prod.mk.injEq] at h; obtain ⟨rfl, rfl⟩ := h
            simp only [wpOp]
            rw [e]
            exact ⟨h1, hR.call _ _ _ _ _ _ _ _ e2 ⟨keptB_ok h3, hk⟩⟩
          · cases h
        · cases h
      · rename_i e
        split at h
        · rename_i w h2 e2
          split at h
          · rename_i h3
            simp only [Option.some.injEq, Prod.mk.injEq] at h; obtain ⟨rfl, rfl⟩ := h
            simp only [wpOp]
            rw [e]
            exact ⟨h1, hR.call _ _ _ _ _ _ _ _ e2 ⟨keptB_ok h3, hk⟩⟩
          · cases h
        · cases h
      · cases h
    · cases h
  · exact xOp_ok h hk

theorem xIns_ok : ∀ {l : List Ins} {s s' : St} {K : St → Prop}, xIns R bs l s = some s' → K s' → wpL (CallA ap) bs l K s
  | [], s, s', K, h, hk => by simp only [xIns, Option.some.injEq] at h; subst h; simpa [wpL] using hk
  | i :: is, s, s', K, h, hk => by
    simp only [xIns] at h
    simp only [wpL]
    split at h
    · rename_i e
      rw [e]
      simp only
      split at h
      · rename_i v s1 e1
        refine xGo_ok hR e1 ?_
        simp only [contL]
        exact xIns_ok h hk
      · cases h
    · rename_i j w e
      rw [e]
      simp only
      split at h
      · rename_i b e1
        rw [e1]
        simp only [guardL]
        split at h
        · rename_i hb
          split at h
          · rename_i v s1 e2
            refine ⟨fun _ => xGo_ok hR e2 ?_, fun hn => absurd hb hn⟩
            simp only [contL]
            exact xIns_ok h hk
          · cases h
        · rename_i hb
          exact ⟨fun hn => absurd hn hb, fun _ => xIns_ok h hk⟩
      · rename_i e1
        rw [e1]
        simp only [guardL]
        exact xIns_ok h hk
      · cases h

omit hR in
theorem peX_ok {pe : Option (Option Nat)} {Q : AX → St → Prop} {s : St} (h : Q (peX pe) s) : peA Q s pe := by
  rcases pe with _ | _ | _ <;> exact h

theorem xRun_ok : ∀ {c : AC} {s s' : St} {e : AX} {Q : AX → St → Prop}, xRun R bs c s = some (e, s') → Q e s' → wpA (CallA ap) bs c Q s
  | .skip, s, s', e, Q, h, hq => by simp only [xRun, Option.some.injEq, Prod.mk.injEq] at h; obtain ⟨rfl, rfl⟩ := h; exact hq
  | .exit id, s, s', e, Q, h, hq => by simp only [xRun, Option.some.injEq, Prod.mk.injEq] at h; obtain ⟨rfl, rfl⟩ := h; exact hq
  | .ret, s, s', e, Q, h, hq => by simp only [xRun, Option.some.injEq, Prod.mk.injEq] at h; obtain ⟨rfl, rfl⟩ := h; exact hq
  | .reg l, s, s', e, Q, h, hq => by
    simp only [xRun] at h
    split at h
    · rename_i s1 e1
      simp only [Option.some.injEq, Prod.mk.injEq] at h; obtain ⟨rfl, rfl⟩ := h
      exact xIns_ok hR e1 hq
    · cases h
  | .seq a b, s, s', e, Q, h, hq => by
    simp only [xRun] at h
    simp only [wpA]
    split at h
    · rename_i s1 e1
      exact xRun_ok e1 (by simp only [thenA]; exact xRun_ok h hq)
    · rename_i r hn
      refine xRun_ok h ?_
      cases e with
      | normal => exact absurd h (hn s')
      | exit => exact hq
      | ret => exact hq
  | .cond c a b, s, s', e, Q, h, hq => by
    simp only [xRun] at h
    simp only [wpA]
    split at h
    · rename_i e1; rw [e1]; exact ⟨fun _ => xRun_ok h hq, fun hn => (by cases hn)⟩
    · rename_i e1; rw [e1]; exact ⟨fun hn => (by cases hn), fun _ => xRun_ok h hq⟩
    · cases h
  | .block id b, s, s', e, Q, h, hq => by
    simp only [xRun] at h
    simp only [wpA]
    split at h
    · rename_i j s1 e1
      refine xRun_ok e1 ?_
      simp only [blockA]
      split at h
      · rename_i hj
        rw [if_pos hj]
        simp only [Option.some.injEq, Prod.mk.injEq] at h; obtain ⟨rfl, rfl⟩ := h
        exact hq
      · rename_i hj
        rw [if_neg hj]
        simp only [Option.some.injEq, Prod.mk.injEq] at h; obtain ⟨rfl, rfl⟩ := h
        exact hq
    · rename_i r hn
      refine xRun_ok h ?_
      cases e with
      | normal => exact hq
      | exit j => exact absurd h (hn j s')
      | ret => exact hq
  | .loop keep locs b, s, s', e, Q, h, hq => by
    simp only [xRun] at h
    refine wpA_loop (CallA.hle ap) ?_
    rw [xForget_eq] at h
    split at h
    · rename_i s1 e1
      refine xRun_ok e1 ?_
      simp only [thenA]
      exact hR.loop _ _ _ _ _ _ h hq
    · rename_i r hn
      refine xRun_ok h ?_
      cases e with
      | normal => exact absurd h (hn s')
      | exit => exact hq
      | ret => exact hq

  | .rfunc g key kp fs, s, s', e, Q, h, hq => by
    simp only [xRun] at h
    simp only [wpA]
    generalize ev s.r g = vg at h
    unfold xRf at h
    split at h
    · rename_i f cap
      simp only [kRf]
      split at h
      · rename_i hc
        split at h
        · rename_i v h' e1
          refine ⟨hc, hR.call _ _ _ _ _ _ _ _ e1 ?_⟩
          generalize h'[s.h.length]? = ob at h
          unfold xRfEnd at h
          split at h
          · simp only [rfEnd]
            split at h
            · cases h
            · rename_i hst
              simp only [Option.some.injEq, Prod.mk.injEq] at h
              obtain ⟨rfl, rfl⟩ := h
              refine ⟨hst, ?_⟩
              rename_i pe0 _
              exact peX_ok hq
          · cases h
        · cases h
      · cases h
    · cases h

omit hR in
theorem rndX_ok {r st : Nat} {pe : Option (Option Nat)} {b : Bool} {h h' : List Ob} {o : Option Ob} {v : V} {Q : V → List Ob → Prop} (e : rndX r st pe b h o = some (v, h')) (hq : Q v h') : rndE r st pe b Q h o := by
  unfold rndX at e
  unfold rndE
  split at e
  · simp only [Option.some.injEq, Prod.mk.injEq] at e
    obtain ⟨rfl, rfl⟩ := e
    exact hq
  · cases e

theorem xYld_ok {r : Nat} {args : List V} {h h' : List Ob} {o : Option Ob} {v : V} {Q : V → List Ob → Prop} (e : xYld ap R r bs args h o = some (v, h')) (hq : Q v h') : yldA ap (CallA ap) r bs args h Q o := by
  unfold xYld at e
  split at e
  · simp only [yldA]
    split at e
    · rename_i ab hap
      split at e
      · rename_i hn
        split at e
        · rename_i s e1
          rw [show (ap _ 77) = some (.body ab) from hap]
          refine ⟨hn, xRun_ok hR e1 ?_⟩
          simp only [asgP, rnd]
          generalize s.h[r]? = ob at e
          unfold xRndO at e
          split at e
          · simp only [rndO]
            split at e
            · rename_i s2 e3; exact xRun_ok hR e3 (rndX_ok e hq)
            · rename_i s2 e3; exact xRun_ok hR e3 (rndX_ok e hq)
            · rename_i s2 e3; exact xRun_ok hR e3 (rndX_ok e hq)
            · cases e
          · cases e
        · cases e
      · cases e
    · cases e
  · cases e

theorem xBody_ok {f vr : Nat} {args : List V} {h h' : List Ob} {v : V} {Q : V → List Ob → Prop} (e : xBody ap R f vr bs args h = some (v, h')) (hq : Q v h') : CallA ap f vr bs args h Q := by
  unfold xBody at e
  split at e
  · rename_i hv
    refine CallA.intro ?_
    unfold bodyA
    rw [if_pos hv]
    exact xYld_ok hR e hq
  rename_i hv
  split at e
  · cases e
  · rename_i af hf
    split at e
    · rename_i hn
      refine CallA.code hf hn ?_ hv
      have fin : ∀ s, xFin af h.length s = some (v, h') → finO af.ownR af.trunc h.length Q s.h (resV s af.res) := by
        intro s e
        unfold xFin at e
        split at e
        · rename_i vs e1
          split at e
          · rename_i h1
            rw [e1]
            refine ⟨h1, ?_⟩
            generalize (if af.ownR = true then oneOf vs else (oneOf vs).demote) = w at e ⊢
            unfold xEnd at e
            unfold endK
            split at e
            · rename_i ht
              split at e
              · rename_i hu
                simp only [Option.some.injEq, Prod.mk.injEq] at e; obtain ⟨rfl, rfl⟩ := e
                rw [ht]
                exact ⟨hu, hq⟩
              · cases e
            · rename_i ht
              simp only [Option.some.injEq, Prod.mk.injEq] at e; obtain ⟨rfl, rfl⟩ := e
              rw [ht]
              exact hq
          · cases e
        · cases e
      split at e
      · rename_i s e1; exact xRun_ok hR e1 (fin s e)
      · rename_i s e1; exact xRun_ok hR e1 (fin s e)
      · cases e
    · cases e
  · rename_i af hf
    split at e
    · rename_i hn
      refine CallA.codeF hf hn ?_ hv
      have fin : ∀ s, xFinF af h.length s = some (v, h') → finF h.length Q s.h (resV s af.res) := by
        intro s e
        unfold xFinF at e
        split at e
        · rename_i vs e1
          split at e
          · rename_i h1
            rw [e1]
            split at e
            · rename_i w e2
              split at e
              · rename_i hu
                simp only [Option.some.injEq, Prod.mk.injEq] at e; obtain ⟨rfl, rfl⟩ := e
                exact ⟨h1, w, frzV_ok _ e2, hu, hq⟩
              · cases e
            · cases e
          · cases e
        · cases e
      split at e
      · rename_i s e1; exact xRun_ok hR e1 (fin s e)
      · rename_i s e1; exact xRun_ok hR e1 (fin s e)
      · cases e
    · cases e
  · rename_i p hf
    split at e
    · rename_i w e1
      simp only [Option.some.injEq, Prod.mk.injEq] at e; obtain ⟨rfl, rfl⟩ := e
      exact CallA.prim hf e1 hq hv
    · cases e
  · cases e
end

theorem xFuel_ok (ap : AP) : ∀ n, RnOk ap (xFuel ap n)
  | 0 => ⟨fun _ _ _ _ _ _ _ _ h => (by cases h), fun _ _ _ _ _ _ h => (by cases h)⟩
  | n + 1 => ⟨fun _ _ _ _ _ _ _ _ h hq => xBody_ok (xFuel_ok ap n) h hq, fun _ _ _ _ _ _ h hq => xRun_ok (xFuel_ok ap n) h hq⟩

/-- It comes to true. -/
def isTrueR : Option (V × List Ob) → Bool
  | some (.bool true, _) => true
  | _ => false

theorem runs_true {ap : AP} (n : Nat) {f vr : Nat} {bs : List Nat} {args : List V} {h : List Ob} (e : isTrueR (xBody ap (xFuel ap n) f vr bs args h) = true) : CallA ap f vr bs args h fun v _ => v = .bool true := by
  cases e1 : xBody ap (xFuel ap n) f vr bs args h with
  | none => rw [e1] at e; cases e
  | some x =>
    obtain ⟨v, h'⟩ := x
    rw [e1] at e
    refine xBody_ok (xFuel_ok ap n) e1 ?_
    unfold isTrueR at e
    split at e
    · rename_i e2; cases e2; rfl
    · cases e

/-- Functions that are known whole: what they come to, in one step. -/
abbrev Ov := Nat → Nat → List V → List Ob → Option (V × List Ob)

def OvOk (ap : AP) (ov : Ov) : Prop := ∀ f vr args h v h', ov f vr args h = some (v, h') → ∀ (bs : List Nat) (Q : V → List Ob → Prop), Q v h' → CallA ap f vr bs args h Q

def xBodyO (ap : AP) (ov : Ov) (R : Rn) (f vr : Nat) (bs : List Nat) (args : List V) (h : List Ob) : Option (V × List Ob) :=
  match ov f vr args h with
  | some r => some r
  | none => xBody ap R f vr bs args h

def xFuelO (ap : AP) (ov : Ov) : Nat → Rn
  | 0 => ⟨fun _ _ _ _ _ => none, fun _ _ _ => none⟩
  | n + 1 => ⟨xBodyO ap ov (xFuelO ap ov n), xRun (xFuelO ap ov n)⟩

theorem xBodyO_ok {ap : AP} {ov : Ov} (ho : OvOk ap ov) {R : Rn} (hR : RnOk ap R) {bs : List Nat} {f vr : Nat} {args : List V} {h h' : List Ob} {v : V} {Q : V → List Ob → Prop} (e : xBodyO ap ov R f vr bs args h = some (v, h')) (hq : Q v h') : CallA ap f vr bs args h Q := by
  unfold xBodyO at e
  split at e
  · rename_i r hr
    simp only [Option.some.injEq] at e
    subst e
    exact ho _ _ _ _ _ _ hr bs Q hq
  · exact xBody_ok hR e hq

theorem xFuelO_ok {ap : AP} {ov : Ov} (ho : OvOk ap ov) : ∀ n, RnOk ap (xFuelO ap ov n)
  | 0 => ⟨fun _ _ _ _ _ _ _ _ h => (by cases h), fun _ _ _ _ _ _ h => (by cases h)⟩
  | n + 1 => ⟨fun _ _ _ _ _ _ _ _ h hq => xBodyO_ok ho (xFuelO_ok ho n) h hq, fun _ _ _ _ _ _ h hq => xRun_ok (xFuelO_ok ho n) h hq⟩

theorem runsO_true {ap : AP} {ov : Ov} (ho : OvOk ap ov) (n : Nat) {f vr : Nat} {bs : List Nat} {args : List V} {h : List Ob} (e : isTrueR (xBodyO ap ov (xFuelO ap ov n) f vr bs args h) = true) : CallA ap f vr bs args h fun v _ => v = .bool true := by
  cases e1 : xBodyO ap ov (xFuelO ap ov n) f vr bs args h with
  | none => rw [e1] at e; cases e
  | some x =>
    obtain ⟨v, h'⟩ := x
    rw [e1] at e
    refine xBodyO_ok ho (xFuelO_ok ho n) e1 ?_
    unfold isTrueR at e
    split at e
    · rename_i e2; cases e2; rfl
    · cases e

/-- What a call comes to, run. -/
theorem runsO {ap : AP} {ov : Ov} (ho : OvOk ap ov) (n : Nat) {f vr : Nat} {bs : List Nat} {args : List V} {h h' : List Ob} {v : V} {Q : V → List Ob → Prop} (e : xBodyO ap ov (xFuelO ap ov n) f vr bs args h = some (v, h')) (hq : Q v h') : CallA ap f vr bs args h Q :=
  xBodyO_ok ho (xFuelO_ok ho n) e hq

/-- From the midst of a function on. -/
def xFinE (res : List AR) (ownR trunc : Bool) (n : Nat) : Option (AX × St) → Option (V × List Ob)
  | some (.normal, s) => xFin ⟨.skip, res, ownR, trunc, 0⟩ n s
  | some (.ret, s) => xFin ⟨.skip, res, ownR, trunc, 0⟩ n s
  | _ => none

theorem xFin_ok {res : List AR} {ownR trunc : Bool} {n : Nat} {s : St} {v : V} {h' : List Ob} {Q : V → List Ob → Prop} (e : xFin ⟨.skip, res, ownR, trunc, 0⟩ n s = some (v, h')) (hq : Q v h') : finO ownR trunc n Q s.h (resV s res) := by
  unfold xFin at e
  split at e
  · rename_i vs e1
    split at e
    · rename_i h1
      simp only at e1
      rw [e1]
      refine ⟨h1, ?_⟩
      simp only at e
      generalize (if ownR = true then oneOf vs else (oneOf vs).demote) = w at e ⊢
      unfold xEnd at e
      unfold endK
      cases trunc
      · simp only [Option.some.injEq, Prod.mk.injEq] at e; obtain ⟨rfl, rfl⟩ := e
        exact hq
      · simp only at e
        split at e
        · rename_i hu
          simp only [Option.some.injEq, Prod.mk.injEq] at e; obtain ⟨rfl, rfl⟩ := e
          exact ⟨hu, hq⟩
        · cases e
    · cases e
  · cases e

theorem restO_true {ap : AP} {ov : Ov} (ho : OvOk ap ov) (n : Nat) {c : AC} {bs : List Nat} {s : St} {res : List AR} {ownR trunc : Bool} {m : Nat} (e : isTrueR (xFinE res ownR trunc m (xRun (xFuelO ap ov n) bs c s)) = true) :
    wpA (CallA ap) bs c (retK res ownR trunc m fun v _ => v = .bool true) s := by
  have key : ∀ s', isTrueR (xFin ⟨.skip, res, ownR, trunc, 0⟩ m s') = true → finO ownR trunc m (fun v _ => v = .bool true) s'.h (resV s' res) := by
    intro s' e
    cases e1 : xFin ⟨.skip, res, ownR, trunc, 0⟩ m s' with
    | none => rw [e1] at e; cases e
    | some x =>
      obtain ⟨v, h'⟩ := x
      rw [e1] at e
      refine xFin_ok e1 ?_
      unfold isTrueR at e
      split at e
      · rename_i e2; cases e2; rfl
      · cases e
  cases e1 : xRun (xFuelO ap ov n) bs c s with
  | none => rw [e1] at e; cases e
  | some x =>
    obtain ⟨ex, s'⟩ := x
    rw [e1] at e
    refine xRun_ok (xFuelO_ok ho n) e1 ?_
    cases ex <;> simp only [xFinE] at e <;> simp only [retK]
    · exact key s' e
    · cases e
    · exact key s' e

/-- The first steps of a code, run. -/
def xSteps (R : Rn) (bs : List Nat) : Nat → AC → St → Option (AC × St)
  | 0, c, s => some (c, s)
  | n + 1, .seq a b, s => match xRun R bs a s with
    | some (.normal, s') => xSteps R bs n b s'
    | _ => none
  | _, _, _ => none

def acOf : Option (AC × St) → AC
  | some x => x.1
  | none => .skip
def stAt : Option (AC × St) → St
  | some x => x.2
  | none => ⟨fun _ => .undef, fun _ => none, []⟩

theorem stepsO {ap : AP} {ov : Ov} (ho : OvOk ap ov) (N : Nat) {bs : List Nat} {Q : AX → St → Prop} : ∀ (k : Nat) {c : AC} {s : St}, (xSteps (xFuelO ap ov N) bs k c s).isSome = true →
    wpA (CallA ap) bs (acOf (xSteps (xFuelO ap ov N) bs k c s)) Q (stAt (xSteps (xFuelO ap ov N) bs k c s)) → wpA (CallA ap) bs c Q s
  | 0, c, s, _, h => h
  | k + 1, c, s, e, h => by
    cases c with
    | seq a b =>
      simp only [xSteps] at e h
      simp only [wpA]
      split at e
      · rename_i s' e1
        rw [e1] at h
        exact xRun_ok (xFuelO_ok ho N) e1 (by simp only [thenA]; exact stepsO ho N k e h)
      · cases e
    | _ => simp [xSteps] at e

/-- A law that reckons a small number of one that it is given, and goes on from there: run for each. 'k': how many steps stand ahead of the reckoning; 'r': the register that holds it. -/
theorem modO {ap : AP} {ov : Ov} (ho : OvOk ap ov) (N k : Nat) {f : Nat} {af : AF} (hf : ap f 0 = some (.code af)) {args : List V} (hn : args.length ≤ af.nt) {mid rest : AC}
    (e : (xSteps (xFuelO ap ov N) (if af.trunc then [0] else []) k af.body { r := startR args, l := fun _ => none, h := [] }).isSome = true)
    (hc : acOf (xSteps (xFuelO ap ov N) (if af.trunc then [0] else []) k af.body { r := startR args, l := fun _ => none, h := [] }) = .seq mid rest)
    (h : ∀ (r : Nat → V) (l : Nat → Option (List V)) (hh : List Ob) (s : St), s = stAt (xSteps (xFuelO ap ov N) (if af.trunc then [0] else []) k af.body { r := startR args, l := fun _ => none, h := [] }) → r = s.r → l = s.l → hh = s.h →
      wpA (CallA ap) (if af.trunc then [0] else []) (.seq mid rest) (retK af.res af.ownR af.trunc 0 fun v _ => v = .bool true) ⟨r, l, hh⟩) :
    CallA ap f 0 [] args [] fun v _ => v = .bool true := by
  refine CallA.code hf hn ?_
  rw [show ([] : List Ob).length = 0 from rfl]
  refine stepsO ho N k e ?_
  rw [hc]
  exact h _ _ _ _ rfl rfl rfl rfl

end Go.Am
