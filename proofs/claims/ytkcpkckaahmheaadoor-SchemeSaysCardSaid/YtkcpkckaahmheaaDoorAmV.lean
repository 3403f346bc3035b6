/- The abstract machine: values as trees, operations, and a calculus of weakest preconditions over them. -/
import GoSem.Core.Value
import GoSem.Core.Ast
import GoSem.Core.Code
import GoSem.Core.View
import GoSem.Core.Utf8
import GoSem.Op.String
namespace Go.Am

/-- How a slice may be appended to: not at all; always into new memory (no room behind it, or nil); as the longest of a family. -/
inductive Tag where
  | frozen
  | clip
  | fam (r : Nat)
  deriving DecidableEq

/-- Abstract values. -/
inductive V where
  | undef
  | bool (b : Bool)
  | int (k : IntKind) (n : Int)
  | str (s : List UInt8)
  | sl (t : Tag) (xs : List V)
  | ptr (r off : Nat)
  | loc (d off : Nat)
  | elp (e : V) (off : Nat)
  | nilp
  | map (r : Option Nat)
  | fn (f : Nat) (cap : List V)
  | nilfn
  | iface (t : Nat) (v : V)
  | nili
  | agg (cs : List V)
  | tup (vs : List V)
  | tok (g : Nat)
  | sent (g : Nat)
  | msl (r off len cap z : Nat)
  | yld (r : Nat)
  | mfn (f : Nat) (xs : List V)
  | vec (r ver off len z : Nat)
  | vptr (r ver off : Nat)
  deriving Inhabited

def V.cells : V → List V
  | .agg cs => cs
  | v => [v]

/-- What a register may hold and memory may not. -/
def V.isLoc : V → Bool
  | .loc _ _ => true
  | .undef => true
  | .tup _ => true
  | _ => false

mutual
def V.demote : V → V
  | .sl _ xs => .sl .frozen (demoteL xs)
  | .iface t v => .iface t v.demote
  | .agg cs => .agg (demoteL cs)
  | .tup vs => .tup (demoteL vs)
  | .undef => .undef
  | .bool b => .bool b
  | .int k n => .int k n
  | .str s => .str s
  | .ptr r o => .ptr r o
  | .loc d o => .loc d o
  | .elp e o => .elp e o
  | .nilp => .nilp
  | .map r => .map r
  | .fn f cap => .fn f cap
  | .nilfn => .nilfn
  | .nili => .nili
  | .tok g => .tok g
  | .sent g => .sent g
  | .msl r o l c z => .msl r o l c z
  | .yld r => .yld r
  | .mfn f xs => .mfn f xs
  | .vec r v o l z => .vec r v o l z
  | .vptr r v o => .vptr r v o
def demoteL : List V → List V
  | [] => []
  | v :: vs => v.demote :: demoteL vs
end

mutual
def V.under (n : Nat) : V → Bool
  | .sl t xs => (match t with | .fam r => decide (r < n) | _ => true) && underL n xs
  | .iface _ v => v.under n
  | .agg cs => underL n cs
  | .tup vs => underL n vs
  | .undef => true
  | .bool _ => true
  | .int _ _ => true
  | .str _ => true
  | .ptr r _ => decide (r < n)
  | .loc _ _ => false
  | .elp e _ => e.under n
  | .nilp => true
  | .map r => (match r with | some r => decide (r < n) | none => true)
  | .fn _ cap => underL n cap
  | .nilfn => true
  | .nili => true
  | .tok _ => true
  | .sent _ => true
  | .msl r _ _ _ _ => decide (r < n)
  | .yld r => decide (r < n)
  | .mfn _ xs => underL n xs
  | .vec r _ _ _ _ => decide (r < n)
  | .vptr r _ _ => decide (r < n)
def underL (n : Nat) : List V → Bool
  | [] => true
  | v :: vs => v.under n && underL n vs
end

theorem demoteL_eq (l : List V) : demoteL l = l.map V.demote := by
  induction l with
  | nil => rfl
  | cons v vs ih => simp [demoteL, ih]

theorem underL_eq (n : Nat) (l : List V) : underL n l = l.all (V.under n) := by
  induction l with
  | nil => rfl
  | cons v vs ih => simp [underL, ih]

/-- Objects of the abstract heap: cells behind pointers; how long a family's longest slice is; maps (entries, when each came, the clock); goings through a map. -/
inductive Ob where
  | box (cs : List V)
  | fam (k z : Nat)
  | map (es : List (V × V)) (bo : List Nat) (ck : Nat)
  | iter (m : Option Nat) (since : Nat) (seen : List Nat) (last : Nat)
  | loop (key : Nat) (regs : List (Nat × V)) (st : Nat) (pe : Option (Option Nat))   -- a range over a function: its body's number, registers, state (ready, in a round, done, over), the jump to be done
  | vec (ver z : Nat) (cs : List V)   -- a row that may be turned and grows: its version; what is of an older one is dead
  deriving Inhabited

/-- Operands. -/
inductive AO where
  | t (i : Nat)
  | c (v : V)
  deriving Inhabited

/-- What a map's keys are. -/
inductive KK where
  | int | str | bool
  deriving DecidableEq, Inhabited

/-- What may be nil. -/
inductive NK where
  | ptr | map | fn | iface
  deriving DecidableEq, Inhabited

inductive Cv where
  | int (k : IntKind)       -- to a kind of integers
  | bytes                   -- a string to bytes
  | text                    -- bytes to a string
  | id                      -- a string to a string
  | rune                    -- a number to the letter of it
  deriving Inhabited

/-- Operations, their types resolved. -/
inductive AOp where
  | mov (x : AO)
  | pick (c a b : AO)
  | alloc (z : List V) (hp : Bool)
  | box (x : AO) (n : Nat) (hp : Bool)
  | fbox (x : AO) (n : Nat)
  | build (z : List V) (ps : List (Nat × Nat × AO))
  | bslice (z : List V) (n : Nat) (ps : List (Nat × AO))
  | load (n : Option Nat) (a : AO)
  | store (n : Nat) (a x : AO)
  | loadL (n : Option Nat) (a : AO)
  | storeL (n : Nat) (a x : AO)
  | loadX (lc : Bool) (n : Option Nat) (a : AO) (l m : List AO)
  | storeX (lc : Bool) (n : Nat) (a x : AO) (l m : List AO)
  | nilck (x : AO)
  | bin (op : BinOp) (x y : AO)
  | eqnil (nk : NK) (neg : Bool) (x : AO)
  | nilsl (neg : Bool) (x : AO)
  | eqb (neg : Bool) (x y : AO)
  | eqi (gl : List Nat) (neg : Bool) (x y : AO)
  | not (x : AO)
  | neg (x : AO)
  | bmax (x y : AO)
  | bmin (x y : AO)
  | copy0 (x y : AO)
  | stuck
  | conv (c : Cv) (x : AO)
  | mkif (t : Nat) (x : AO)
  | mkfn (f : Nat) (cap : List AO)
  | mkmet (f : Nat) (xs : List AO)
  | mkmap
  | mkslice (z : List V) (l c : AO)
  | mkarr (z : List V) (l c : AO)
  | slice (sz : Nat) (x : AO) (lo hi mx : Option AO)
  | faddr (off : Nat) (x : AO)
  | field (off : Nat) (n : Option Nat) (x : AO)
  | iaddr (sz : Nat) (x i : AO)
  | sindex (x i : AO)
  | lookup (kk : KK) (z : V) (m k : AO) (ok : Bool)
  | mapset (kk : KK) (m k v : AO)
  | gload (g : Nat)
  | range (x : AO)
  | next (x : AO)
  | entry (x : AO)
  | delete (kk : KK) (m k : AO)
  | tassert (t : Nat) (z : V) (x : AO) (ok : Bool)
  | tasent (gl : List Nat) (t : Nat) (z : V) (x : AO)
  | extract (x : AO) (i : Nat)
  | call (vr : Nat) (own : List Nat) (f : AO) (args : List AO)
  | callK (vr : Nat) (own : List Nat) (f : AO) (args : List AO) (ks : List AO)
  | len (nk : Nat) (x : AO)
  | append (sz : Nat) (x y : AO)
  | appm (sz : Nat) (z : List V) (x y : AO)
  | appE (sz : Nat) (x y : AO)
  | textE (x : AO)
  | bslM (z : List V) (n : Nat) (ps : List (Nat × AO))
  | appV (sz : Nat) (x y : AO)
  | mkvec (z : List V) (l c : AO)
  | bslV (z : List V) (n : Nat) (ps : List (Nat × AO))
  | copyM (sz : Nat) (x y : AO)
  | clearM (z : List V) (x : AO)
  deriving Inhabited

structure Ins where
  dst : Option Nat
  guard : Option (Nat × Bool)
  op : AOp
  deriving Inhabited

inductive AC where
  | skip
  | reg (l : List Ins)
  | seq (a b : AC)
  | cond (c : AO) (a b : AC)
  | block (id : Nat) (b : AC)
  | loop (keep : List Nat) (locs : List Nat) (b : AC)
  | rfunc (g : AO) (key : Nat) (kp fs : List Nat)
  | exit (id : Nat)
  | ret
  deriving Inhabited

inductive AX where
  | normal
  | exit (id : Nat)
  | ret

/-- The state of an activation: registers, local variables with an address, the heap. -/
structure St where
  r : Nat → V
  l : Nat → Option (List V)
  h : List Ob

def put (r : Nat → V) (d : Nat) (v : V) : Nat → V := fun e => if e = d then v else r e
def putL (l : Nat → Option (List V)) (d : Nat) (v : List V) : Nat → Option (List V) := fun e => if e = d then some v else l e

def ev (r : Nat → V) : AO → V
  | .t i => r i
  | .c v => v

/-- Of a row of cells: one; or so many as one value. -/
def sel (cs : List V) (off : Nat) : Option Nat → Option V
  | none => cs[off]?
  | some n => if off + n ≤ cs.length then some (.agg ((cs.drop off).take n)) else none

def splice (cs : List V) (off : Nat) (xs : List V) : List V := cs.take off ++ xs ++ cs.drop (off + xs.length)

/-- What lies behind an address. -/
def cellsAt (s : St) : V → Option (List V × Nat)
  | .loc d off => (s.l d).map fun cs => (cs, off)
  | .elp e off => some (e.cells, off)
  | .ptr r off => match s.h[r]? with
    | some (.box cs) => some (cs, off)
    | _ => none
  | .vptr r ver off => match s.h[r]? with
    | some (.vec v _ cs) => if v = ver then some (cs, off) else none
    | _ => none
  | _ => none

def loadV (s : St) (a : V) (n : Option Nat) : Option V := (cellsAt s a).bind fun x => sel x.1 x.2 n

def isPtr : V → Bool
  | .ptr _ _ => true
  | .vptr _ _ _ => true
  | _ => false

def loadLV (s : St) (a : V) (n : Option Nat) : Option V := if isPtr a = true then none else loadV s a n

/-- Which object an address is of. -/
def objOf : V → Option (Bool × Nat)
  | .loc d _ => some (false, d)
  | .ptr r _ => some (true, r)
  | .vptr r _ _ => some (true, r)
  | _ => none
/-- Of no object of these; of the object of each of these. -/
def farL (a : V) : List V → Bool
  | [] => true
  | c :: l => (objOf a != objOf c) && farL a l
def sameL (a : V) : List V → Bool
  | [] => true
  | c :: l => (objOf a == objOf c) && sameL a l
def addrOk (lc : Bool) (a : V) (l m : List V) : Bool := (!lc || !isPtr a) && farL a l && sameL a m

/-- A store may not put an address of a block that will be dropped into an older one. -/
def okStore (bs : List Nat) (r : Nat) (xs : List V) : Prop := ∀ b ∈ bs, r < b → underL b xs = true

def kBox (bs : List Nat) (r off : Nat) (xs : List V) (K : V → St → Prop) (s : St) : Option Ob → Prop
  | some (.box cs) => off + xs.length ≤ cs.length ∧ okStore bs r xs ∧ K (.tup []) { s with h := s.h.set r (.box (splice cs off xs)) }
  | _ => False

def kVec (bs : List Nat) (r ver off : Nat) (xs : List V) (K : V → St → Prop) (s : St) : Option Ob → Prop
  | some (.vec v z cs) => v = ver ∧ off + xs.length ≤ cs.length ∧ okStore bs r xs ∧ K (.tup []) { s with h := s.h.set r (.vec v z (splice cs off xs)) }
  | _ => False

def kLoc (d off : Nat) (xs : List V) (K : V → St → Prop) (s : St) : Option (List V) → Prop
  | some cs => off + xs.length ≤ cs.length ∧ K (.tup []) { s with l := putL s.l d (splice cs off xs) }
  | none => False

def kStore (bs : List Nat) (xs : List V) (K : V → St → Prop) (s : St) : V → Prop
  | .loc d off => kLoc d off xs K s (s.l d)
  | .ptr r off => kBox bs r off xs K s s.h[r]?
  | .vptr r ver off => kVec bs r ver off xs K s s.h[r]?
  | _ => False

def binV : BinOp → V → V → Option V
  | .add, .int k a, .int k' b => if k = k' then some (.int k (k.wrap (a + b))) else none
  | .sub, .int k a, .int k' b => if k = k' then some (.int k (k.wrap (a - b))) else none
  | .mul, .int k a, .int k' b => if k = k' then some (.int k (k.wrap (a * b))) else none
  | .quo, .int k a, .int k' b => if k = k' ∧ b ≠ 0 then some (.int k (k.wrap (a.tdiv b))) else none
  | .rem, .int k a, .int k' b => if k = k' ∧ b ≠ 0 then some (.int k (a.tmod b)) else none
  | .eql, .int k a, .int k' b => if k = k' then some (.bool (a == b)) else none
  | .neq, .int k a, .int k' b => if k = k' then some (.bool (a != b)) else none
  | .lss, .int k a, .int k' b => if k = k' then some (.bool (decide (a < b))) else none
  | .leq, .int k a, .int k' b => if k = k' then some (.bool (decide (a ≤ b))) else none
  | .gtr, .int k a, .int k' b => if k = k' then some (.bool (decide (a > b))) else none
  | .geq, .int k a, .int k' b => if k = k' then some (.bool (decide (a ≥ b))) else none
  | .add, .str a, .str b => if a.length + b.length ≤ 4611686018427387904 then some (.str (a ++ b)) else none
  | .eql, .str a, .str b => some (.bool (a == b))
  | .neq, .str a, .str b => some (.bool (!(a == b)))
  | .lss, .str a, .str b => some (.bool (Op.bytesLess a b))
  | _, _, _ => none

def eqbV (neg : Bool) : V → V → Option V
  | .bool a, .bool b => some (.bool (xor neg (a == b)))
  | _, _ => none

/-- Is it nil? -/
def nilV : NK → V → Option Bool
  | .ptr, .nilp => some true
  | .ptr, .ptr _ _ => some false
  | .ptr, .vptr _ _ _ => some false
  | .ptr, .tok _ => some false
  | .map, .map none => some true
  | .map, .map (some _) => some false
  | .fn, .nilfn => some true
  | .fn, .fn _ _ => some false
  | .fn, .mfn _ _ => some false
  | .iface, .nili => some true
  | .iface, .iface _ _ => some false
  | .iface, .sent _ => some false
  | _, _ => none

def keyEq : V → V → Option Bool
  | .str a, .str b => some (a == b)
  | .int k a, .int k' b => if k = k' then some (a == b) else none
  | .bool a, .bool b => some (a == b)
  | _, _ => none

def findE (k : V) : List (V × V) → Option (Option V)
  | [] => some none
  | e :: es => match keyEq k e.1 with
    | some true => some (some e.2)
    | some false => findE k es
    | none => none

def setE (k v : V) : List (V × V) → Option (List (V × V))
  | [] => some [(k, v)]
  | e :: es => match keyEq k e.1 with
    | some true => some ((k, v) :: es)
    | some false => (setE k v es).map (e :: ·)
    | none => none

def isKey : KK → V → Bool
  | .str, .str _ => true
  | .int, .int _ _ => true
  | .bool, .bool _ => true
  | _, _ => false

def buildC (r : Nat → V) : List (Nat × Nat × AO) → List V → Option (List V)
  | [], cs => some cs
  | (off, n, x) :: ps, cs =>
    if (ev r x).cells.length = n ∧ off + n ≤ cs.length ∧ (ev r x).isLoc = false then buildC r ps (splice cs off (ev r x).cells) else none

def buildS (r : Nat → V) (n : Nat) : List (Nat × AO) → List V → Option (List V)
  | [], cs => some cs
  | (i, x) :: ps, cs => if (ev r x).cells.length = n ∧ i < cs.length ∧ (ev r x).isLoc = false then buildS r n ps (cs.set i (ev r x)) else none

/-- The elements to append: a slice's, or a string's bytes. -/
def elemsOf : V → Option (List V)
  | .sl _ xs => some xs
  | .str s => some (s.map fun b => .int .u8 b.toNat)
  | _ => none

def lim : Nat := 4294967296

/-- The greatest element, in bytes. -/
def maxEl : Nat := 16384

def kGrow (sz r : Nat) (xs ys : List V) (K : V → St → Prop) (s : St) : Option Ob → Prop
  | some (.fam k z) => k = xs.length ∧ z = sz ∧ K (.sl (.fam r) (xs ++ ys)) { s with h := s.h.set r (.fam (xs.length + ys.length) sz) }
  | _ => False

def kTag (sz : Nat) (xs ys : List V) (K : V → St → Prop) (s : St) : Tag → Prop
  | .frozen => False
  | .clip => K (.sl (.fam s.h.length) (xs ++ ys)) { s with h := s.h ++ [.fam (xs.length + ys.length) sz] }
  | .fam r => kGrow sz r xs ys K s s.h[r]?

def kApp (sz : Nat) (K : V → St → Prop) (s : St) : V → Option (List V) → Prop
  | .sl t xs, some [] => K (.sl t xs) s
  | .sl t xs, some (y :: ys) => (∀ v ∈ xs ++ (y :: ys), v.cells.length = sz) ∧ xs.length + (y :: ys).length ≤ lim ∧ kTag sz xs (y :: ys) K s t
  | _, _ => False

/-- Appending to a row that may be turned: where it lies, or into new memory, whose room is not known. -/
def kAppm1 (bs : List Nat) (sz : Nat) (zc : List V) (r len cap : Nat) (ys : List V) (K : V → St → Prop) (s : St) : Option Ob → Prop
  | some (.box cs) =>
    if len + ys.length ≤ cap then len * sz + ys.length * sz ≤ cs.length ∧ okStore bs r (ys.flatMap V.cells) ∧ K (.msl r 0 (len + ys.length) cap sz) { s with h := s.h.set r (.box (splice cs (len * sz) (ys.flatMap V.cells))) }
    else len ≤ cap ∧ len * sz ≤ cs.length ∧ ∀ c, len + ys.length ≤ c → K (.msl s.h.length 0 (len + ys.length) c sz) { s with h := s.h ++ [.box (cs.take (len * sz) ++ ys.flatMap V.cells ++ (List.replicate (c - (len + ys.length)) zc).flatten)] }
  | _ => False

/-- Appending to an empty row of no room: into new memory. With no blank told: its room is not asked for (told as 0), and nothing may be appended to it again. -/
def kAppn (sz : Nat) (zc ys : List V) (K : V → St → Prop) (s : St) : Prop :=
  match zc with
  | [] => K (.msl s.h.length 0 ys.length 0 sz) { s with h := s.h ++ [.box (ys.flatMap V.cells)] }
  | z0 :: zs => ∀ c, ys.length ≤ c → K (.msl s.h.length 0 ys.length c sz) { s with h := s.h ++ [.box (ys.flatMap V.cells ++ (List.replicate (c - ys.length) (z0 :: zs)).flatten)] }

def kAppm (bs : List Nat) (sz : Nat) (zc : List V) (K : V → St → Prop) (s : St) : V → Option (List V) → Prop
  | .sl .clip [], some [] => K (.sl .clip []) s
  | .sl .clip [], some (y :: ys) => (∀ v ∈ y :: ys, v.cells.length = sz) ∧ (y :: ys).length ≤ lim ∧ kAppn sz zc (y :: ys) K s
  | .msl r 0 len cap z, some ys => z = sz ∧ ys ≠ [] ∧ (∀ v ∈ ys, v.cells.length = sz) ∧ len + ys.length ≤ lim ∧ kAppm1 bs sz zc r len cap ys K s s.h[r]?
  | _, _ => False

def bytesV : V → Option (List UInt8)
  | .sl _ [] => some []
  | .sl t (.int .u8 n :: xs) => (bytesV (.sl t xs)).map (UInt8.ofNat n.toNat :: ·)
  | _ => none

/-- A row of bytes, of texts that may be turned, as it is now. -/
def rdO (off len cap : Nat) : Option Ob → V
  | some (.box cs) => if off + len ≤ cs.length then .sl (if len = cap then .clip else .frozen) ((cs.drop off).take len) else .undef
  | _ => .undef

def rdW (ver off len : Nat) : Option Ob → V
  | some (.vec v _ cs) => if v = ver ∧ off + len ≤ cs.length then .sl .frozen ((cs.drop off).take len) else .undef
  | _ => .undef

def rdV (s : St) : V → V
  | .msl r off len cap 1 => rdO off len cap s.h[r]?
  | .vec r ver off len 1 => rdW ver off len s.h[r]?
  | v => v

def isMsl : V → Bool
  | .msl _ _ _ _ _ => true
  | .vec _ _ _ _ _ => true
  | _ => false

/-- Appending where rows are read that may be turned. -/
def kAppE (sz : Nat) (K : V → St → Prop) (s : St) (x y : V) : Prop :=
  sz = 1 ∧ (isMsl x = true → elemsOf (rdV s y) ≠ some []) ∧ kApp 1 K s (rdV s x) (elemsOf (rdV s y))

def oneV : List V → V
  | [v] => v
  | z => .agg z

/-- Cells as elements of so many each. -/
def rowsOf (cs : List V) (z : Nat) : Nat → Nat → List V
  | _, 0 => []
  | off, n + 1 => oneV ((cs.drop off).take z) :: rowsOf cs z (off + z) n

def elemsW1 (ver off len z : Nat) : Option Ob → Option (List V)
  | some (.vec v _ cs) => if v = ver ∧ 0 < z ∧ off + len * z ≤ cs.length then some (rowsOf cs z off len) else none
  | _ => none

/-- The elements to append, of a row that grows, too. -/
def elemsW (s : St) (sz : Nat) : V → Option (List V)
  | .vec r ver off len z => if z = sz then elemsW1 ver off len z s.h[r]? else none
  | v => elemsOf v

def kAppV1 (bs : List Nat) (sz r ver len : Nat) (ys : List V) (K : V → St → Prop) (s : St) : Option Ob → Prop
  | some (.vec v z cs) => v = ver ∧ z = sz ∧ len * sz ≤ cs.length ∧ okStore bs r (ys.flatMap V.cells) ∧ K (.vec r (ver + 1) 0 (len + ys.length) sz) { s with h := s.h.set r (.vec (ver + 1) sz (cs.take (len * sz) ++ ys.flatMap V.cells)) }
  | _ => False

/-- Appending to a row that grows; a full one is laid anew. -/
def kAppV (bs : List Nat) (sz : Nat) (K : V → St → Prop) (s : St) : V → Option (List V) → Prop
  | .sl .clip xs, some [] => K (.sl .clip xs) s
  | .sl .clip xs, some (y :: ys) => (∀ v ∈ xs ++ (y :: ys), v.cells.length = sz) ∧ xs.length + (y :: ys).length ≤ lim ∧ K (.vec s.h.length 0 0 (xs.length + (y :: ys).length) sz) { s with h := s.h ++ [.vec 0 sz ((xs ++ (y :: ys)).flatMap V.cells)] }
  | .vec r ver 0 len z, some [] => K (.vec r ver 0 len z) s
  | .vec r ver 0 len z, some (y :: ys) => z = sz ∧ (∀ v ∈ y :: ys, v.cells.length = sz) ∧ len + (y :: ys).length ≤ lim ∧ kAppV1 bs sz r ver len (y :: ys) K s s.h[r]?
  | _, _ => False

def kMakeV (z : List V) (K : V → St → Prop) (s : St) : V → V → Prop
  | .int _ n, .int _ m => 0 ≤ n ∧ n ≤ m ∧ m ≤ lim ∧ K (.vec s.h.length 0 0 n.toNat z.length) { s with h := s.h ++ [.vec 0 z.length (List.replicate n.toNat z).flatten] }
  | _, _ => False

def kBslV (z : List V) (n : Nat) (K : V → St → Prop) (s : St) : Option (List V) → Prop
  | some xs => K (.vec s.h.length 0 0 n z.length) { s with h := s.h ++ [.vec 0 z.length (xs.flatMap V.cells)] }
  | none => False

def kBslM (z : List V) (n : Nat) (K : V → St → Prop) (s : St) : Option (List V) → Prop
  | some xs => K (.msl s.h.length 0 n n z.length) { s with h := s.h ++ [.box (xs.flatMap V.cells)] }
  | none => False

def bnd (r : Nat → V) (d : Nat) : Option AO → Option Nat
  | none => some d
  | some x => match ev r x with
    | .int _ n => if 0 ≤ n then some n.toNat else none
    | _ => none

def sliceV (sz : Nat) (r : Nat → V) (x : V) (lo hi mx : Option AO) : Option V :=
  match sz, x with
  | sz + 1, .sl t xs => (bnd r 0 lo).bind fun a => (bnd r xs.length hi).bind fun b =>
    if a ≤ b ∧ b ≤ xs.length ∧ (a = 0 ∨ ∀ x ∈ xs, x.cells.length = sz + 1) then
      match mx with
      | none => some (.sl (if a = 0 ∧ b = xs.length then t else .frozen) ((xs.drop a).take (b - a)))
      | some m => (bnd r 0 (some m)).bind fun c => if c = b then some (.sl .clip ((xs.drop a).take (b - a))) else none
    else none
  | sz + 1, .msl q off len cap z => (bnd r 0 lo).bind fun a => (bnd r len hi).bind fun b =>
    if a ≤ b ∧ b ≤ len ∧ z = sz + 1 ∧ len ≤ cap then
      match mx with
      | none => some (.msl q (if cap = a then off else off + a * (sz + 1)) (b - a) (cap - a) z)
      | some _ => none
    else none
  | sz + 1, .vec q ver off len z => (bnd r 0 lo).bind fun a => (bnd r len hi).bind fun b =>
    if a ≤ b ∧ b ≤ len ∧ z = sz + 1 then
      match mx with
      | none => some (if a = 0 then .vec q ver off b z else if a < len then .vec q ver (off + a * (sz + 1)) (b - a) z else .sl .frozen [])
      | some m => (bnd r 0 (some m)).bind fun c => if c = b ∧ a = 0 then some (.vec q ver off b z) else none
    else none
  | 0, .str s => match mx with
    | none => (bnd r 0 lo).bind fun a => (bnd r s.length hi).bind fun b => if a ≤ b ∧ b ≤ s.length then some (.str ((s.drop a).take (b - a))) else none
    | some _ => none
  | _, _ => none

/-- What is called: function, variant, the bases, arguments, heap, what holds behind it. -/
abbrev CallH := Nat → Nat → List Nat → List V → List Ob → (V → List Ob → Prop) → Prop

def evArgs (r : Nat → V) (own : List Nat) : List AO → Nat → List V
  | [], _ => []
  | x :: xs, i => (if i ∈ own then ev r x else (ev r x).demote) :: evArgs r own xs (i + 1)

def evs (r : Nat → V) : List AO → List V
  | [] => []
  | x :: xs => ev r x :: evs r xs

def okVals : List V → Bool
  | [] => true
  | v :: vs => !v.isLoc && okVals vs

def kSome (K : V → St → Prop) (s : St) : Option V → Prop
  | some v => K v s
  | none => False

def kPick (a b : V) (K : V → St → Prop) (s : St) : V → Prop
  | .bool x => K (if x = true then a else b) s
  | _ => False

def kAlloc (z : List V) (K : V → St → Prop) (s : St) : Option Nat → Prop
  | some d => s.l d = none ∧ K (.loc d 0) { s with l := putL s.l d z }
  | none => False

def kNew (z : List V) (d : Option Nat) (K : V → St → Prop) (s : St) : Bool → Prop
  | true => K (.ptr s.h.length 0) { s with h := s.h ++ [.box z] }
  | false => kAlloc z K s d

def kNil (K : V → St → Prop) (s : St) : V → Prop
  | .ptr r o => K (.ptr r o) s
  | .loc d o => K (.loc d o) s
  | .elp e o => K (.elp e o) s
  | .tok g => K (.tok g) s
  | .fn f c => K (.fn f c) s
  | .mfn f c => K (.mfn f c) s
  | .vptr r v o => K (.vptr r v o) s
  | .iface t v => K (.iface t v) s
  | _ => False

def kBool (K : V → St → Prop) (s : St) : Option Bool → Prop
  | some b => K (.bool b) s
  | none => False

/-- Is a slice nil? Of one without elements that is not known. -/
def kNilS (neg : Bool) (K : V → St → Prop) (s : St) : V → Prop
  | .sl _ [] => K (.bool true) s ∧ K (.bool false) s
  | .sl _ (_ :: _) => K (.bool neg) s
  | .msl _ _ _ _ _ => K (.bool neg) s
  | .vec _ _ _ _ _ => K (.bool neg) s
  | _ => False

def notV : V → Option V
  | .bool b => some (.bool !b)
  | _ => none

def negV : V → Option V
  | .int k n => some (.int k (k.wrap (0 - n)))
  | _ => none

def maxV : V → V → Option V
  | .int k a, .int k' b => if k = k' then some (.int k (if b > a then b else a)) else none
  | _, _ => none

def minV : V → V → Option V
  | .int k a, .int k' b => if k = k' then some (.int k (if b < a then b else a)) else none
  | _, _ => none

/-- Copying into a row without elements: nothing. -/
def copyV : V → V → Option V
  | .sl _ [], .sl _ _ => some (.int .i64 0)
  | _, _ => none

def convV : Cv → V → Option V
  | .int k, .int _ n => some (.int k (k.wrap n))
  | .id, .str b => some (.str b)
  | .bytes, .str b => if b.length ≤ lim then some (.sl .frozen (b.map fun b => .int .u8 b.toNat)) else none
  | .text, v => (bytesV v).map .str
  | .rune, .int _ n => some (.str (Utf8.encode n).data.toList)
  | _, _ => none

def kMake (z : List V) (K : V → St → Prop) (s : St) : V → V → Prop
  | .int _ n, .int _ m => 0 ≤ n ∧ n ≤ m ∧ m ≤ lim ∧ K (.sl (.fam s.h.length) (List.replicate n.toNat (oneV z))) { s with h := s.h ++ [.fam n.toNat z.length] }
  | _, _ => False

/-- A row that may be turned. -/
def kMakeM (z : List V) (K : V → St → Prop) (s : St) : V → V → Prop
  | .int _ n, .int _ m => 0 ≤ n ∧ n ≤ m ∧ m ≤ lim ∧ K (.msl s.h.length 0 n.toNat m.toNat z.length) { s with h := s.h ++ [.box (List.replicate m.toNat z).flatten] }
  | _, _ => False

/-- Copying into a row that may be turned: all of the other fits. -/
def kCopyM (bs : List Nat) (sz : Nat) (K : V → St → Prop) (s : St) : V → V → Prop
  | .sl _ [], .sl _ _ => K (.int .i64 0) s
  | .msl r off len _ z, .sl _ ys => z = sz ∧ ys.length ≤ len ∧ (∀ v ∈ ys, v.cells.length = sz) ∧ kBox bs r off (ys.flatMap V.cells) (fun _ s' => K (.int .i64 ys.length) s') s s.h[r]?
  | .vec r ver off len z, .sl _ ys => z = sz ∧ ys.length ≤ len ∧ (∀ v ∈ ys, v.cells.length = sz) ∧ kVec bs r ver off (ys.flatMap V.cells) (fun _ s' => K (.int .i64 ys.length) s') s s.h[r]?
  | _, _ => False

/-- A row's elements as blank ones. -/
def kClearM (bs : List Nat) (zc : List V) (K : V → St → Prop) (s : St) : V → Prop
  | .sl _ [] => K (.tup []) s
  | .msl r off len _ z => z = zc.length ∧ kBox bs r off (List.replicate len zc).flatten K s s.h[r]?
  | .vec r ver off len z => z = zc.length ∧ kVec bs r ver off (List.replicate len zc).flatten K s s.h[r]?
  | _ => False

def faddV (off : Nat) : V → Option V
  | .ptr r o => some (.ptr r (o + off))
  | .loc d o => some (.loc d (o + off))
  | .elp e o => some (.elp e (o + off))
  | .vptr r v o => some (.vptr r v (o + off))
  | _ => none

def fieldV (off : Nat) (n : Option Nat) : V → Option V
  | .agg cs => sel cs off n
  | _ => none

def elemV (sz : Nat) : Option V → Option V
  | some e => if e.cells.length = sz then some (.elp e 0) else none
  | none => none

def iaddrV (sz : Nat) : V → V → Option V
  | .sl _ xs, .int _ n => if 0 ≤ n then elemV sz xs[n.toNat]? else none
  | .msl r off len _ z, .int _ n => if 0 ≤ n ∧ n.toNat < len ∧ z = sz then some (.ptr r (off + n.toNat * sz)) else none
  | .vec r ver off len z, .int _ n => if 0 ≤ n ∧ n.toNat < len ∧ z = sz then some (.vptr r ver (off + n.toNat * sz)) else none
  | _, _ => none

def sindexV : V → V → Option V
  | .str b, .int _ n => if 0 ≤ n then (b[n.toNat]?).map fun c => .int .u8 c.toNat else none
  | _, _ => none

def okV (ok : Bool) (z : V) : Option V → V
  | some v => if ok then .tup [v, .bool true] else v
  | none => if ok then .tup [z, .bool false] else z

def lookO (z k : V) (ok : Bool) : Option Ob → Option V
  | some (.map es _ _) => (findE k es).map (okV ok z)
  | _ => none

def lookV (s : St) (kk : KK) (z k : V) (ok : Bool) : V → Option V
  | .map none => if isKey kk k then some (okV ok z none) else none
  | .map (some r) => if isKey kk k then lookO z k ok s.h[r]? else none
  | _ => none

/-- A map behind a store: a new entry is the youngest. -/
def setOb (n : Nat) (bo : List Nat) (ck : Nat) (es : List (V × V)) : Ob := if es.length = n then .map es bo ck else .map es (bo ++ [ck]) (ck + 1)

def kSet2 (bs : List Nat) (r : Nat) (v : V) (K : V → St → Prop) (s : St) (n : Nat) (bo : List Nat) (ck : Nat) : Option (List (V × V)) → Prop
  | some es => okStore bs r [v] ∧ K (.tup []) { s with h := s.h.set r (setOb n bo ck es) }
  | none => False

def kSet1 (bs : List Nat) (r : Nat) (k v : V) (K : V → St → Prop) (s : St) : Option Ob → Prop
  | some (.map es bo ck) => kSet2 bs r v K s es.length bo ck (setE k v es)
  | _ => False

def kSet (bs : List Nat) (k v : V) (K : V → St → Prop) (s : St) : V → Prop
  | .map (some r) => kSet1 bs r k v K s s.h[r]?
  | _ => False

/-- A map is gone through. -/
def kRange1 (r : Nat) (K : V → St → Prop) (s : St) : Option Ob → Prop
  | some (.map _ _ ck) => K (.ptr s.h.length 0) { s with h := s.h ++ [.iter (some r) ck [] ck] }
  | _ => False

def kRange (K : V → St → Prop) (s : St) : V → Prop
  | .map none => K (.ptr s.h.length 0) { s with h := s.h ++ [.iter none 0 [] 0] }
  | .map (some r) => kRange1 r K s s.h[r]?
  | _ => False

/-- One entry that is left, whichever; or there is none. No entry came since the going began. -/
def kNext2 (it r since : Nat) (seen : List Nat) (last : Nat) (K : V → St → Prop) (s : St) : Option Ob → Prop
  | some (.map es bo ck) => es.length = bo.length ∧ (∀ b ∈ bo, b < since) ∧ since ≤ last ∧ ((∀ b ∈ bo, b ∈ seen) → K (.tup [.bool false]) s) ∧
      ∀ (i : Nat) (k v : V) (b : Nat), es[i]? = some (k, v) → bo[i]? = some b → b ∉ seen → K (.tup [.bool true, k, v]) { s with h := s.h.set it (.iter (some r) since (seen ++ [b]) ck) }
  | _ => False

def kNext1 (it : Nat) (K : V → St → Prop) (s : St) : Option Ob → Prop
  | some (.iter none _ _ _) => K (.tup [.bool false]) s
  | some (.iter (some r) since seen last) => kNext2 it r since seen last K s s.h[r]?
  | _ => False

def kNext (K : V → St → Prop) (s : St) : V → Prop
  | .ptr it 0 => kNext1 it K s s.h[it]?
  | _ => False

/-- The entry that came at a time. -/
def bornE (b : Nat) : List (V × V) → List Nat → Option V
  | e :: es, c :: bo => if c = b then some (.tup [e.1, e.2]) else bornE b es bo
  | _, _ => none

def entV2 (seen : List Nat) (last : Nat) : Option Ob → Option V
  | some (.map es bo ck) => if ck = last ∧ es.length = bo.length then seen.getLast?.bind fun b => bornE b es bo else none
  | _ => none

def entV1 (s : St) : Option Ob → Option V
  | some (.iter (some r) _ seen last) => entV2 seen last s.h[r]?
  | _ => none

def entV (s : St) : V → Option V
  | .ptr it 0 => entV1 s s.h[it]?
  | _ => none

/-- Without a key's entry. -/
def delE (k : V) : List (V × V) → List Nat → Option (List (V × V) × List Nat)
  | e :: es, b :: bo => match keyEq k e.1 with
    | some true => some (es, bo)
    | some false => (delE k es bo).map fun x => (e :: x.1, b :: x.2)
    | none => none
  | [], [] => some ([], [])
  | _, _ => none

def kDel2 (r ck : Nat) (K : V → St → Prop) (s : St) : Option (List (V × V) × List Nat) → Prop
  | some x => K (.tup []) { s with h := s.h.set r (.map x.1 x.2 ck) }
  | none => False

def kDel1 (r : Nat) (k : V) (K : V → St → Prop) (s : St) : Option Ob → Prop
  | some (.map es bo ck) => kDel2 r ck K s (delE k es bo)
  | _ => False

def kDel (k : V) (K : V → St → Prop) (s : St) : V → Prop
  | .map none => K (.tup []) s
  | .map (some r) => kDel1 r k K s s.h[r]?
  | _ => False

def assertV (t : Nat) (z : V) : Bool → V → Option V
  | true, .iface u v => some (if u = t then .tup [v, .bool true] else .tup [z, .bool false])
  | false, .iface u v => if u = t then some v else none
  | true, .nili => some (.tup [z, .bool false])
  | _, _ => none

/-- Is it of that type? A listed error is not. -/
def assentV (gl : List Nat) (t : Nat) (z : V) : V → Option V
  | .sent g => if gl.contains g = true then some (.tup [z, .bool false]) else none
  | v => assertV t z true v

/-- Two errors: listed ones are as they are named. -/
def eqiV (gl : List Nat) (neg : Bool) : V → V → Option V
  | .sent g, .sent g' => if gl.contains g = true ∧ gl.contains g' = true then some (.bool (xor neg (g == g'))) else none
  | .sent _, .nili => some (.bool (xor neg false))
  | .nili, .sent _ => some (.bool (xor neg false))
  | _, _ => none

def extractV (i : Nat) : V → Option V
  | .tup vs => vs[i]?
  | _ => none

def lenO : Option Ob → Option V
  | some (.map es _ _) => some (.int .i64 es.length)
  | _ => none

def lenV (nk : Nat) (s : St) (v : V) : Option V :=
  match nk, v with
  | 1, .sl _ xs => some (.int .i64 xs.length)
  | 1, .msl _ _ len _ _ => some (.int .i64 len)
  | 1, .vec _ _ _ len _ => some (.int .i64 len)
  | 0, .str b => some (.int .i64 b.length)
  | 2, .map none => some (.int .i64 0)
  | 2, .map (some r) => lenO s.h[r]?
  | _, _ => none

def kRet (K : V → St → Prop) (s : St) (v : V) (h : List Ob) : Prop := K v { s with h := h }

/-- The objects that these values point to are as they were. -/
def kept1 (h h' : List Ob) : V → Prop
  | .ptr r _ => h'[r]? = h[r]?
  | .vptr r _ _ => h'[r]? = h[r]?
  | .nilfn => ∀ q, q < h.length → h'[q]? = h[q]?   -- a mark: all
  | _ => True
def keptL (h h' : List Ob) : List V → Prop
  | [] => True
  | v :: vs => kept1 h h' v ∧ keptL h h' vs

section
variable (X : CallH) (bs : List Nat)

def kCall (vr : Nat) (args : List V) (K : V → St → Prop) (s : St) : V → Prop
  | .fn g cap => X g vr bs (args ++ cap) s.h (kRet K s)
  | .yld r => X r 1000001 bs args s.h (kRet K s)
  | .mfn g xs => X g vr bs (xs ++ args) s.h (kRet K s)
  | _ => False

def wpOp (d : Option Nat) (o : AOp) (s : St) (K : V → St → Prop) : Prop :=
  match o with
  | .mov x => K (ev s.r x) s
  | .pick c a b => kPick (ev s.r a) (ev s.r b) K s (ev s.r c)
  | .alloc z hp => kNew z d K s hp
  | .box x n hp => (ev s.r x).cells.length = n ∧ (ev s.r x).isLoc = false ∧ kNew (ev s.r x).cells d K s hp
  | .fbox x n => (ev s.r x).cells.length = n ∧ (ev s.r x).isLoc = false ∧ K (.elp (ev s.r x) 0) s
  | .build z ps => kSome K s ((buildC s.r ps z).map .agg)
  | .bslice z n ps => kSome K s ((buildS s.r z.length ps (List.replicate n (oneV z))).map (.sl .clip))
  | .load n a => kSome K s (loadV s (ev s.r a) n)
  | .store n a x => (ev s.r x).cells.length = n ∧ (ev s.r x).isLoc = false ∧ kStore bs (ev s.r x).cells K s (ev s.r a)
  | .loadL n a => kSome K s (loadLV s (ev s.r a) n)
  | .storeL n a x => isPtr (ev s.r a) = false ∧ (ev s.r x).cells.length = n ∧ (ev s.r x).isLoc = false ∧ kStore bs (ev s.r x).cells K s (ev s.r a)
  | .loadX lc n a l m => addrOk lc (ev s.r a) (evs s.r l) (evs s.r m) = true ∧ kSome K s (loadV s (ev s.r a) n)
  | .storeX lc n a x l m => addrOk lc (ev s.r a) (evs s.r l) (evs s.r m) = true ∧ (ev s.r x).cells.length = n ∧ (ev s.r x).isLoc = false ∧ kStore bs (ev s.r x).cells K s (ev s.r a)
  | .nilck x => kNil K s (ev s.r x)
  | .bin op x y => kSome K s (binV op (ev s.r x) (ev s.r y))
  | .eqnil nk neg x => kBool K s ((nilV nk (ev s.r x)).map (xor neg))
  | .nilsl neg x => kNilS neg K s (ev s.r x)
  | .eqb neg x y => kSome K s (eqbV neg (ev s.r x) (ev s.r y))
  | .eqi gl neg x y => kSome K s (eqiV gl neg (ev s.r x) (ev s.r y))
  | .not x => kSome K s (notV (ev s.r x))
  | .neg x => kSome K s (negV (ev s.r x))
  | .bmax x y => kSome K s (maxV (ev s.r x) (ev s.r y))
  | .bmin x y => kSome K s (minV (ev s.r x) (ev s.r y))
  | .copy0 x y => kSome K s (copyV (ev s.r x) (ev s.r y))
  | .stuck => False
  | .conv c x => kSome K s (convV c (ev s.r x))
  | .mkif t x => (ev s.r x).isLoc = false ∧ K (.iface t (ev s.r x)) s
  | .mkfn f cap => okVals (evs s.r cap) = true ∧ K (.fn f (evs s.r cap)) s
  | .mkmet f xs => okVals (evs s.r xs) = true ∧ K (.mfn f (evs s.r xs)) s
  | .mkmap => K (.map (some s.h.length)) { s with h := s.h ++ [.map [] [] 0] }
  | .gload g => K (.sent g) s
  | .range x => kRange K s (ev s.r x)
  | .next x => kNext K s (ev s.r x)
  | .entry x => kSome K s (entV s (ev s.r x))
  | .delete kk m k => isKey kk (ev s.r k) = true ∧ kDel (ev s.r k) K s (ev s.r m)
  | .mkslice z l c => kMake z K s (ev s.r l) (ev s.r c)
  | .mkarr z l c => kMakeM z K s (ev s.r l) (ev s.r c)
  | .slice sz x lo hi mx => kSome K s (sliceV sz s.r (ev s.r x) lo hi mx)
  | .faddr off x => kSome K s (faddV off (ev s.r x))
  | .field off n x => kSome K s (fieldV off n (ev s.r x))
  | .iaddr sz x i => kSome K s (iaddrV sz (ev s.r x) (ev s.r i))
  | .sindex x i => kSome K s (sindexV (ev s.r x) (ev s.r i))
  | .lookup kk z m k ok => kSome K s (lookV s kk z (ev s.r k) ok (ev s.r m))
  | .mapset kk m k v => isKey kk (ev s.r k) = true ∧ (ev s.r v).isLoc = false ∧ kSet bs (ev s.r k) (ev s.r v) K s (ev s.r m)
  | .tassert t z x ok => kSome K s (assertV t z ok (ev s.r x))
  | .tasent gl t z x => kSome K s (assentV gl t z (ev s.r x))
  | .extract x i => kSome K s (extractV i (ev s.r x))
  | .len nk x => kSome K s (lenV nk s (ev s.r x))
  | .append sz x y => kApp sz K s (ev s.r x) (elemsOf (ev s.r y))
  | .appm sz z x y => kAppm bs sz z K s (ev s.r x) (elemsOf (ev s.r y))
  | .appE sz x y => kAppE sz K s (ev s.r x) (ev s.r y)
  | .textE x => kSome K s ((bytesV (rdV s (ev s.r x))).map .str)
  | .appV sz x y => kAppV bs sz K s (ev s.r x) (elemsW s sz (ev s.r y))
  | .mkvec z l c => kMakeV z K s (ev s.r l) (ev s.r c)
  | .bslV z n ps => kBslV z n K s (buildS s.r z.length ps (List.replicate n (oneV z)))
  | .copyM sz x y => kCopyM bs sz K s (ev s.r x) (ev s.r y)
  | .clearM z x => kClearM bs z K s (ev s.r x)
  | .bslM z n ps => kBslM z n K s (buildS s.r z.length ps (List.replicate n (oneV z)))
  | .call vr own f args => okVals (evs s.r args) = true ∧ kCall X bs vr (evArgs s.r own args 0) K s (ev s.r f)
  | .callK vr own f args ks => okVals (evs s.r args) = true ∧ kCall X bs vr (evArgs s.r own args 0) (fun v s' => keptL s.h s'.h (evs s.r ks) ∧ K v s') s (ev s.r f)

def putD (s : St) (d : Option Nat) (v : V) : St :=
  match d with
  | some d => { s with r := put s.r d v }
  | none => s

mutual
def wpL : List Ins → (St → Prop) → St → Prop
  | [], K, s => K s
  | i :: is, K, s => match i.guard with
    | none => wpOp X bs i.dst i.op s (contL i.dst is K)
    | some (j, w) => guardL w i.dst i.op is K s (s.r j)
def contL (d : Option Nat) (is : List Ins) (K : St → Prop) (v : V) (s : St) : Prop := wpL is K (putD s d v)
def guardL (w : Bool) (d : Option Nat) (op : AOp) (is : List Ins) (K : St → Prop) (s : St) : V → Prop
  | .bool b => (b = w → wpOp X bs d op s (contL d is K)) ∧ (b ≠ w → wpL is K (putD s d (.tup [])))
  | .tup [] => wpL is K (putD s d (.tup []))
  | _ => False
end

end
end Go.Am
