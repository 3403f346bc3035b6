/- From the program's code to the abstract machine's: types resolved, regions in the order of the text. -/
import Derived.Test.YtkcpkckaahmheaaDoorAmC
import GoSem.Core.Program
import GoSem.Core.Region
namespace Go.Am

def constF : Value → Option V
  | .bool b => some (.bool b)
  | .int k n => some (.int k n)
  | .string s => some (.str s.data.toList)
  | .pointer none => some .nilp
  | .slice none 0 0 => some (.sl .clip [])
  | .map none => some (.map none)
  | .nilFunc => some .nilfn
  | .nilIface => some .nili
  | _ => none
def constL : List Value → Option (List V)
  | [] => some []
  | v :: vs => (constF v).bind fun x => (constL vs).map (x :: ·)
def constV : Value → Option V
  | .agg cs => (constL cs.toList).map .agg
  | v => constF v

/-- What is laid down beside the code: which slots' blocks are more than the activation's own; what a loop keeps; how a callee is called. -/
structure Ann where
  hp : List Nat := []
  keep : List (Nat × List Nat × List Nat) := []
  cal : List (Nat × Nat × List Nat) := []
  gl : List Nat := []
  fz : List Nat := []
  mu : List Nat := []
  fi : Nat := 0                      -- the function's number
  rk : List (Nat × List Nat) := []   -- its ranges over functions: what registers a round sees
  rf : List Nat := []                -- what functions are ranged over
  kc : List Nat := []                -- addresses whose objects calls leave as they were

def Ann.loop (a : Ann) (r : Nat) : List Nat × List Nat := (a.keep.find? (·.1 == r)).elim ([], []) (·.2)
def Ann.call (a : Ann) (f : Nat) : Nat × List Nat := (a.cal.find? (·.1 == f)).elim (0, []) (·.2)

section
variable (P : Program) (A : Ann)

def compX : Operand → Option AO
  | .tmp t => some (.t t)
  | .const v => (constV v).map .c
  | .func f => some (.c (.fn f []))
  | .global _ => none

def compXs : List Operand → Option (List AO)
  | [] => some []
  | x :: xs => (compX x).bind fun y => (compXs xs).map (y :: ·)

def zeroV (t : TypeId) : Option V := (P.info? t).bind fun i => i.zero.bind fun z => constV z
def zeroC (t : TypeId) : Option (List V) := (zeroV P t).map V.cells
def sizeT (t : TypeId) : Option Nat := (P.info? t).map (·.size)
def isAggT (t : TypeId) : Option Bool := (P.underlying t).map fun
  | .struct _ | .array _ _ => true
  | _ => false
/-- How a value of a type is read: one cell, or so many. -/
def shapeT (t : TypeId) : Option (Option Nat) := (isAggT P t).bind fun g => if g then (sizeT P t).map some else some none

def compParts (places : List (Nat × Nat)) : List (Nat × Operand) → Option (List (Nat × Nat × AO))
  | [] => some []
  | (i, x) :: ps => (places[i]?).bind fun f => (compX x).bind fun y => (compParts places ps).map ((f.1, f.2, y) :: ·)

def placesT (fs : Array Field) : Option (List (Nat × Nat)) := fs.toList.mapM fun f => (P.info? f.type).map fun i => (f.offset, i.size)

/-- Where an array's elements lie. -/
def placesA (n sz : Nat) : List (Nat × Nat) := (List.range n).map fun i => (i * sz, sz)

def compIdx : List (Nat × Operand) → Option (List (Nat × AO))
  | [] => some []
  | (i, x) :: ps => (compX x).bind fun y => (compIdx ps).map ((i, y) :: ·)

def keyT (t : TypeId) : Option KK := match P.underlying t with
  | some (.int _) => some .int
  | some .string => some .str
  | some .bool => some .bool
  | _ => none
def nilT (t : TypeId) : Option NK := match P.underlying t with
  | some (.pointer _) => some .ptr
  | some (.map _ _) => some .map
  | some (.func _ _ _) => some .fn
  | some (.interface _) => some .iface
  | _ => none
def nilC : NK → Operand → Bool
  | .ptr, .const (.pointer none) => true
  | .map, .const (.map none) => true
  | .fn, .const .nilFunc => true
  | .iface, .const .nilIface => true
  | _, _ => false

def sliceT (t : TypeId) : Bool := match P.underlying t with
  | some (.slice _) => true
  | _ => false
def nilS : Operand → Bool
  | .const (.slice none 0 0) => true
  | _ => false

/-- Listed errors, and whether all are pointers of one type: their number in the list is 1000000 and the type. -/
def senG : List Nat := A.gl.filter fun g => decide (g < 1000000)
def errT (te : TypeId) : Bool := match P.underlying te with
  | some (.pointer e) => (P.info? te).any (fun i => i.comparable) && (P.info? e).any (fun i => i.size != 0)
  | _ => false
def senOk : Bool := A.gl.any fun n => decide (1000000 ≤ n) && decide (n < 2000000) && errT P (n - 1000000)

def optX : Option Operand → Option (Option AO)
  | none => some none
  | some x => (compX x).map some

def compOp (d : Option Nat) : Op → Option AOp
  | .move x => (compX x).map .mov
  | .assign x => (compX x).map .mov
  | .pick c a b => (compX c).bind fun c => (compX a).bind fun a => (compX b).map fun b => .pick c a b
  | .alloc e => (zeroC P e).bind fun z => d.map fun d => .alloc z (A.hp.contains d)
  | .box e x => (sizeT P e).bind fun n => (compX x).bind fun x => d.map fun d => if A.fz.contains d = true then .fbox x n else .box x n (A.hp.contains d)
  | .build t ps => (zeroV P t).bind fun z => match z, P.underlying t with
    | .agg z, some (.struct fs) => (placesT P fs).bind fun pl => (compParts pl ps.toList).map fun ps => .build z ps
    | .agg z, some (.array n e) => (sizeT P e).bind fun sz => (compParts (placesA n sz) ps.toList).map fun ps => .build z ps
    | _, _ => none
  | .buildSlice t n ps => match P.underlying t with
    | some (.slice e) => (zeroC P e).bind fun z => (sizeT P e).bind fun m => (compIdx ps.toList).bind fun ps => if 0 < z.length ∧ z.length = m ∧ n * z.length ≤ 16777216 then some (if d.any (A.mu.contains ·) = true then .bslM z n ps else if d.any (fun d => A.mu.contains (d + 2000000)) = true then .bslV z n ps else .bslice z n ps) else none
    | _ => none
  | .load t (.global g) => if A.gl.contains g = true ∧ g < 1000000 ∧ shapeT P t = some none then some (.gload g) else none
  | .load t a => (shapeT P t).bind fun n => (compX a).map fun a => .load n a
  | .store t a x => (sizeT P t).bind fun n => (compX a).bind fun a => (compX x).map fun x => .store n a x
  | .nilCheck x => (compX x).map .nilck
  | .binOp op t x y _ =>
    if sliceT P t = true then
      if nilS y = true then match op with
        | .eql => (compX x).map fun x => .nilsl false x
        | .neq => (compX x).map fun x => .nilsl true x
        | _ => none
      else none
    else if keyT P t = some .bool then match op with
      | .eql => (compX x).bind fun x => (compX y).map fun y => .eqb false x y
      | .neq => (compX x).bind fun x => (compX y).map fun y => .eqb true x y
      | _ => none
    else if (keyT P t).isSome then (compX x).bind fun x => (compX y).map fun y => .bin op x y
    else (nilT P t).bind fun nk => if nilC nk y then match op with
      | .eql => (compX x).map fun x => .eqnil nk false x
      | .neq => (compX x).map fun x => .eqnil nk true x
      | _ => none
    else if nk = .iface ∧ senOk P A = true then match op with
      | .eql => (compX x).bind fun x => (compX y).map fun y => .eqi (senG A) false x y
      | .neq => (compX x).bind fun x => (compX y).map fun y => .eqi (senG A) true x y
      | _ => none
    else none
  | .unOp .not _ x => (compX x).map .not
  | .unOp .neg _ x => (compX x).map .neg
  | .convert s t x => match P.underlying s, P.underlying t with
    | some (.int _), some (.int k) => (compX x).map fun x => .conv (.int k) x
    | some .string, some .string => (compX x).map fun x => .conv .id x
    | some (.int _), some .string => (compX x).map fun x => .conv .rune x
    | some .string, some (.slice e) => match P.underlying e with
      | some (.int .u8) => (compX x).map fun x => .conv .bytes x
      | _ => none
    | some (.slice e), some .string => match P.underlying e with
      | some (.int .u8) => (compX x).map fun x => if d.any (fun d => A.mu.contains (d + 1000000)) = true then .textE x else .conv .text x
      | _ => none
    | _, _ => none
  | .makeInterface t x => match P.underlying t with
    | some (.interface _) => none
    | some _ => (compX x).map fun x => .mkif t x
    | none => none
  | .makeFunc (.func f) first cap => if first.isEmpty then (compXs cap.toList).map fun c => .mkfn f c else if cap.isEmpty then (compXs first.toList).map fun c => .mkmet f c else none
  | .makeMap _ none => some .mkmap
  | .makeSlice t l c => match P.underlying t with
    | some (.slice e) => (zeroC P e).bind fun z => (P.info? e).bind fun i => (compX l).bind fun l => (compX c).bind fun c =>
      if i.bytes ≤ maxEl ∧ 0 < z.length ∧ z.length = i.size then some (if d.any (A.mu.contains ·) = true then .mkarr z l c else if d.any (fun d => A.mu.contains (d + 2000000)) = true then .mkvec z l c else .mkslice z l c) else none
    | _ => none
  | .slice t x lo hi mx => match P.underlying t with
    | some (.slice e) => (sizeT P e).bind fun n => (compX x).bind fun x => (optX lo).bind fun lo => (optX hi).bind fun hi => (optX mx).bind fun mx => if 0 < n ∧ (mx.isNone ∨ hi.isSome) then some (.slice n x lo hi mx) else none
    | some .string => (compX x).bind fun x => (optX lo).bind fun lo => (optX hi).bind fun hi => if mx.isNone then some (.slice 0 x lo hi none) else none
    | _ => none
  | .fieldAddr t x i => match P.underlying t with
    | some (.struct fs) => (fs[i]?).bind fun f => (sizeT P f.type).bind fun n => if 0 < n then (compX x).map fun x => .faddr f.offset x else none
    | _ => none
  | .field t x i => match P.underlying t with
    | some (.struct fs) => (fs[i]?).bind fun f => (shapeT P f.type).bind fun n => (compX x).map fun x => .field f.offset n x
    | _ => none
  | .indexAddr t x i => match P.underlying t with
    | some (.slice e) => (sizeT P e).bind fun n => (compX x).bind fun x => (compX i).map fun i => .iaddr n x i
    | some (.array n e) => match i with
      | .const (.int _ k) => (sizeT P e).bind fun sz => if 0 ≤ k ∧ k.toNat < n then (compX x).map (.faddr (k.toNat * sz)) else none
      | _ => none
    | _ => none
  | .index t x i => match P.underlying t with
    | some .string => (compX x).bind fun x => (compX i).map fun i => .sindex x i
    | _ => none
  | .lookup t m k ok => match P.underlying t with
    | some (.map kt e) => (keyT P kt).bind fun kk => (zeroV P e).bind fun z => (compX m).bind fun m => (compX k).map fun k => .lookup kk z m k ok
    | _ => none
  | .mapUpdate t m k v => match P.underlying t with
    | some (.map kt _) => (keyT P kt).bind fun kk => (compX m).bind fun m => (compX k).bind fun k => (compX v).map fun v => .mapset kk m k v
    | _ => none
  | .insert t m k v => match P.underlying t with
    | some (.map kt _) => (keyT P kt).bind fun kk => (compX m).bind fun m => (compX k).bind fun k => (compX v).map fun v => .mapset kk m k v
    | _ => none
  | .range t x => match P.underlying t with
    | some (.map _ _) => (compX x).map .range
    | _ => none
  | .next x str => if str then none else (compX x).map .next
  | .entry x => (compX x).map .entry
  | .call { callee := .builtin .delete, args, argTypes } => match args.toList, argTypes.toList with
    | [m, k], [t, _] => match P.underlying t with
      | some (.map kt _) => (keyT P kt).bind fun kk => (compX m).bind fun m => (compX k).map fun k => .delete kk m k
      | _ => none
    | _, _ => none
  | .typeAssert x _ a ok => match P.underlying a with
    | some (.interface _) => none
    | some _ => (zeroV P a).bind fun z => (compX x).map fun x => if ok = true ∧ senOk P A = true ∧ A.gl.contains (1000000 + a) = false then .tasent (senG A) a z x else .tassert a z x ok
    | none => none
  | .extract x i => (compX x).map fun x => .extract x i
  | .call { callee := .value f, args, .. } => (compX f).bind fun x => (compXs args.toList).map fun as =>
    match f with
    | .func g => .call ((A.call g).1 % 1000) (A.call g).2 x as
    | _ => .call 0 [] x as
  | .call { callee := .builtin .max, args, .. } => match args.toList with
    | [x, y] => (compX x).bind fun x => (compX y).map fun y => .bmax x y
    | _ => none
  | .call { callee := .builtin .min, args, .. } => match args.toList with
    | [x, y] => (compX x).bind fun x => (compX y).map fun y => .bmin x y
    | _ => none
  | .call { callee := .builtin .copy, args, argTypes } => match args.toList, argTypes.toList with
    | [x, y], [t, _] => match P.underlying t with
      | some (.slice e) => (sizeT P e).bind fun n => (compX x).bind fun x => (compX y).map fun y => if d.any (A.mu.contains ·) = true ∧ 0 < n then .copyM n x y else .copy0 x y
      | _ => none
    | _, _ => none
  | .call { callee := .builtin .clear, args, argTypes } => match args.toList, argTypes.toList with
    | [x], [t] => match P.underlying t with
      | some (.slice e) => (zeroC P e).bind fun z => (compX x).bind fun x => if 0 < z.length then some (.clearM z x) else none
      | _ => none
    | _, _ => none
  | .call { callee := .builtin .len, args, argTypes } => match args.toList, argTypes.toList with
    | [x], [t] => match P.underlying t with
      | some .string => (compX x).map (.len 0)
      | some (.slice _) => (compX x).map (.len 1)
      | some (.map _ _) => (compX x).map (.len 2)
      | _ => none
    | _, _ => none
  | .call { callee := .builtin .append, args, argTypes } => match args.toList, argTypes.toList with
    | [x, y], [t, u] => match P.underlying t, P.underlying u with
      | some (.slice e), some (.slice _) => (P.info? e).bind fun i => (zeroC P e).bind fun z => (compX x).bind fun x => (compX y).bind fun y =>
        if i.bytes ≤ maxEl ∧ 0 < i.size ∧ z.length = i.size then some (if d.any (A.mu.contains ·) = true then .appm i.size (if d.any (A.fz.contains ·) = true then [] else z) x y else if d.any (fun d => A.mu.contains (d + 1000000)) = true then .appE i.size x y else if d.any (fun d => A.mu.contains (d + 2000000)) = true then .appV i.size x y else .append i.size x y) else none
      | some (.slice e), some .string => (P.info? e).bind fun i => (zeroC P e).bind fun z => (compX x).bind fun x => (compX y).bind fun y =>
        if i.bytes ≤ maxEl ∧ i.size = 1 ∧ z.length = 1 then some (if d.any (fun d => A.mu.contains (d + 2000000)) = true then .appV i.size x y else .append i.size x y) else none
      | _, _ => none
    | _, _ => none
  | _ => none

/-- What is not taken stands still. -/
def compOpS (d : Option Nat) (o : Op) : Option AOp := some ((compOp P A d o).getD .stuck)

def compIns (nt : Nat) (ops : Array Oper) (o : Oper) : Option Ins :=
  if o.dst.all (· < nt) then
    (compOpS P A o.dst o.op).bind fun op => match o.guard with
      | none => some ⟨o.dst, none, op⟩
      | some (j, w) => ((ops[j]?).bind (·.dst)).bind fun d => if d < nt then some ⟨o.dst, some (d, w), op⟩ else none
  else none

def compInss (nt : Nat) (ops : Array Oper) : List Oper → Option (List Ins)
  | [] => some []
  | o :: os => (compIns P A nt ops o).bind fun i => (compInss nt ops os).map (i :: ·)

def firstRegion : Code → Nat
  | .region id _ _ => id
  | .seq a _ => firstRegion a
  | .block _ b => firstRegion b
  | .loop b => firstRegion b
  | .scope b => firstRegion b
  | _ => 0

/-- What an operation looks at and turns: registers alone; its activation's own variables; the heap. -/
inductive Grp where
  | pure | readL | read | newL | setL | heap | store | call
  deriving DecidableEq

def AOp.grp : AOp → Grp
  | .load _ _ => .read
  | .loadL _ _ => .readL
  | .store _ _ _ => .store
  | .storeL _ _ _ => .setL
  | .loadX lc _ _ _ _ => if lc then .readL else .read
  | .storeX lc _ _ _ _ _ => if lc then .setL else .store
  | .alloc _ hp => if hp then .heap else .newL
  | .box _ _ hp => if hp then .heap else .newL
  | .lookup .. => .read
  | .len nk _ => if nk = 2 then .read else .pure
  | .mapset .. => .heap
  | .append .. => .heap
  | .mkmap => .heap
  | .range _ => .heap
  | .next _ => .call
  | .entry _ => .read
  | .delete .. => .heap
  | .mkslice .. => .heap
  | .mkarr .. => .heap
  | .appm .. => .heap
  | .appE .. => .heap
  | .appV .. => .heap
  | .mkvec .. => .heap
  | .bslV .. => .heap
  | .bslM .. => .heap
  | .copyM .. => .call
  | .clearM .. => .call
  | .textE _ => .read
  | .call .. => .call
  | .callK .. => .call
  | .nilsl .. => .call
  | .stuck => .call
  | _ => .pure

/-- May the second stand ahead of the first? -/
def Grp.apart : Grp → Grp → Bool
  | .pure, _ => true
  | _, .pure => true
  | .readL, .readL => true
  | .readL, .read => true
  | .read, .readL => true
  | .read, .read => true
  | .readL, .newL => true
  | .read, .newL => true
  | .readL, .heap => true
  | .readL, .call => true
  | .heap, .readL => true
  | .call, .readL => true
  | .newL, .heap => true
  | .newL, .call => true
  | .heap, .newL => true
  | .call, .newL => true
  | .setL, .heap => true
  | .setL, .call => true
  | .heap, .setL => true
  | .call, .setL => true
  | _, _ => false

def AO.reg : AO → List Nat
  | .t i => [i]
  | .c _ => []

def regsO : Option AO → List Nat
  | some x => x.reg
  | none => []

def AOp.reads : AOp → List Nat
  | .mov x => x.reg
  | .pick c a b => c.reg ++ a.reg ++ b.reg
  | .alloc _ _ => []
  | .box x _ _ => x.reg
  | .fbox x _ => x.reg
  | .build _ ps => ps.flatMap fun p => p.2.2.reg
  | .bslice _ _ ps => ps.flatMap fun p => p.2.reg
  | .load _ a => a.reg
  | .store _ a x => a.reg ++ x.reg
  | .loadL _ a => a.reg
  | .storeL _ a x => a.reg ++ x.reg
  | .loadX _ _ a l m => a.reg ++ l.flatMap AO.reg ++ m.flatMap AO.reg
  | .storeX _ _ a x l m => a.reg ++ x.reg ++ l.flatMap AO.reg ++ m.flatMap AO.reg
  | .nilck x => x.reg
  | .bin _ x y => x.reg ++ y.reg
  | .eqnil _ _ x => x.reg
  | .nilsl _ x => x.reg
  | .eqb _ x y => x.reg ++ y.reg
  | .eqi _ _ x y => x.reg ++ y.reg
  | .not x => x.reg
  | .neg x => x.reg
  | .bmax x y => x.reg ++ y.reg
  | .bmin x y => x.reg ++ y.reg
  | .copy0 x y => x.reg ++ y.reg
  | .copyM _ x y => x.reg ++ y.reg
  | .clearM _ x => x.reg
  | .stuck => []
  | .conv _ x => x.reg
  | .mkif _ x => x.reg
  | .mkfn _ cap => cap.flatMap AO.reg
  | .mkmet _ xs => xs.flatMap AO.reg
  | .mkmap => []
  | .mkslice _ l c => l.reg ++ c.reg
  | .mkarr _ l c => l.reg ++ c.reg
  | .slice _ x lo hi mx => x.reg ++ regsO lo ++ regsO hi ++ regsO mx
  | .faddr _ x => x.reg
  | .field _ _ x => x.reg
  | .iaddr _ x i => x.reg ++ i.reg
  | .sindex x i => x.reg ++ i.reg
  | .lookup _ _ m k _ => m.reg ++ k.reg
  | .mapset _ m k v => m.reg ++ k.reg ++ v.reg
  | .gload _ => []
  | .range x => x.reg
  | .next x => x.reg
  | .entry x => x.reg
  | .delete _ m k => m.reg ++ k.reg
  | .tassert _ _ x _ => x.reg
  | .tasent _ _ _ x => x.reg
  | .extract x _ => x.reg
  | .call _ _ f args => f.reg ++ args.flatMap AO.reg
  | .callK _ _ f args ks => f.reg ++ args.flatMap AO.reg ++ ks.flatMap AO.reg
  | .len _ x => x.reg
  | .append _ x y => x.reg ++ y.reg
  | .appm _ _ x y => x.reg ++ y.reg
  | .appE _ x y => x.reg ++ y.reg
  | .appV _ x y => x.reg ++ y.reg
  | .mkvec _ l c => l.reg ++ c.reg
  | .bslV _ _ ps => ps.flatMap fun p => p.2.reg
  | .textE x => x.reg
  | .bslM _ _ ps => ps.flatMap fun p => p.2.reg

def Ins.reads (i : Ins) : List Nat := i.op.reads ++ (match i.guard with | some (j, _) => [j] | none => [])

/-- What is loaded from where, with what is known of it; what is stored where. -/
def AOp.ldA : AOp → Option (AO × List AO × List AO)
  | .load _ a => some (a, [], [])
  | .loadL _ a => some (a, [], [])
  | .loadX _ _ a l m => some (a, l, m)
  | _ => none
def AOp.stA : AOp → Option (AO × List AO × List AO)
  | .store _ a _ => some (a, [], [])
  | .storeL _ a _ => some (a, [], [])
  | .storeX _ _ a _ l m => some (a, l, m)
  | _ => none

def AO.isT (i : Nat) : AO → Bool
  | .t j => i == j
  | .c _ => false
def hasT (l : List AO) : AO → Bool
  | .t i => l.any (AO.isT i)
  | .c _ => false

/-- It is known that the two are of different objects. -/
def farA : Option (AO × List AO × List AO) → Option (AO × List AO × List AO) → Bool
  | some (a, l, m), some (b, l', m') => hasT l b || m'.any (hasT l) || hasT l' a || m.any (hasT l')
  | _, _ => false

/-- What a call leaves as it was; whether a load is of that. -/
def AOp.kpA : AOp → Option (List AO)
  | .callK _ _ _ _ ks => some ks
  | _ => none
def kpFar : Option (AO × List AO × List AO) → Option (List AO) → Bool
  | some (a, _, m), some ks => hasT ks a || m.any (hasT ks)
  | _, _ => false

/-- It leaves all as it was. -/
def isAll : AO → Bool
  | .c .nilfn => true
  | _ => false
def allK : Option (List AO) → Bool
  | some ks => ks.any isAll
  | none => false

/-- It makes the heap greater, or a family longer, and leaves what can be loaded. -/
def AOp.grows : AOp → Bool
  | .append .. => true
  | .mkslice .. => true
  | .mkarr .. => true
  | .mkmap => true
  | .box _ _ hp => hp
  | .alloc _ hp => hp
  | _ => false

def AOp.newLoc : AOp → Bool
  | .alloc _ hp => !hp
  | .box _ _ hp => !hp
  | _ => false

def AOp.farOp (x y : AOp) : Bool := farA x.ldA y.stA || farA x.stA y.ldA || farA x.stA y.stA || (x.newLoc && y.newLoc) || kpFar x.ldA y.kpA || kpFar y.ldA x.kpA || (x.ldA.isSome && (allK y.kpA || y.grows))

/-- May the second stand ahead of the first? -/
def apart (x y : Ins) : Bool :=
  (x.dst.all fun d => !y.reads.contains d && y.dst != some d) && (y.dst.all fun d => !x.reads.contains d) && (x.op.grp.apart y.op.grp || x.op.farOp y.op)

/-- What lies ahead of an operation, a bit each: what it names, and what lies ahead of that. -/
def anc1 (acc : List Nat) : List Edge → Nat
  | [] => 0
  | e :: es => if Region.binds .any e then (1 <<< e.on) ||| (acc.getD e.on 0) ||| anc1 acc es else anc1 acc es

def ancL : List Oper → List Nat → List Nat
  | [], acc => acc
  | o :: os, acc => ancL os (acc ++ [anc1 acc o.after.toList])

/-- Does j lie ahead of i? -/
def ahead (anc : List Nat) (j i : Nat) : Bool := (anc.getD i 0).testBit j

/-- Where an address was made of another by a field's place in this region: that one. -/
def baseN (is : List Ins) : Nat → AO → AO
  | n + 1, .t i => match is.find? fun x => x.dst == some i with
    | some ⟨_, _, .faddr _ b⟩ => baseN is n b
    | some ⟨_, _, .nilck b⟩ => baseN is n b
    | some ⟨_, _, .mov b⟩ => baseN is n b
    | _ => .t i
  | _, a => a
def baseA (is : List Ins) (a : AO) : AO := baseN is 6 a

def isNew (is : List Ins) : AO → Bool
  | .t i => is.any fun x => x.dst == some i
  | .c _ => true

/-- In a region whose order is open a load or a store that may stand either way round with what turns the heap is of the activation's own. -/
def localise (kp : List Nat) (ops : Array Oper) (is : List Ins) : List Ins :=
  let anc := ancL ops.toList []
  is.zipIdx.map fun (x, i) =>
    let loose (f : Grp → Bool) : Bool := is.zipIdx.any fun (y, j) => f y.op.grp && i != j && !ahead anc j i && !ahead anc i j
    match x.op with
    | .load n a => if (baseA is a).reg.any kp.contains = false && loose (fun g => g == .heap || g == .call || g == .store) then { x with op := .loadL n a } else x
    | .store n a v => if (baseA is a).reg.any kp.contains = false && loose (fun g => g == .heap || g == .call || g == .read) then { x with op := .storeL n a v } else x
    | _ => x

def markAs (e : Bool) (far same : List AO) : Ins → Ins
  | ⟨d, g, op⟩ => match e, op with
    | false, .load n a => ⟨d, g, .loadX false n a far same⟩
    | false, .loadL n a => ⟨d, g, .loadX true n a far same⟩
    | false, .store n a v => ⟨d, g, .storeX false n a v far same⟩
    | false, .storeL n a v => ⟨d, g, .storeX true n a v far same⟩
    | _, op => ⟨d, g, op⟩

def markK (ks : List AO) : Ins → Ins
  | ⟨d, g, op⟩ => match ks, op with
    | k :: ks, .call vr own f args => ⟨d, g, .callK vr own f args (k :: ks)⟩
    | _, op => ⟨d, g, op⟩

/-- Two that may stand either way round are marked: what is known of their addresses. -/
def marked (ops : Array Oper) (is : List Ins) : List Ins :=
  let anc := ancL ops.toList []
  is.zipIdx.map fun (x, i) =>
    let others := is.zipIdx.filterMap fun (y, j) =>
      if i != j && !ahead anc j i && !ahead anc i j && !(if j < i then x.op.grp.apart y.op.grp || y.op.grp.apart x.op.grp else x.op.grp.apart y.op.grp || y.op.grp.apart x.op.grp) then
        match (if x.op.stA.isSome then x.op.stA else x.op.ldA), (if y.op.stA.isSome then y.op.stA else y.op.ldA) with
        | some (a, _, _), some (b, _, _) => if x.op.stA.isSome || y.op.stA.isSome then some (a, b) else none
        | _, _ => none
      else none
    let far := others.filterMap fun (_, b) => if isNew is (baseA is b) then none else some (baseA is b)
    let same := others.filterMap fun (a, b) => if !isNew is (baseA is a) && isNew is (baseA is b) && isNew is a then some (baseA is a) else if !isNew is (baseA is a) && isNew is a then some (baseA is a) else none
    let loose (f : Ins → Bool) : List Ins := is.zipIdx.filterMap fun (y, j) => if i != j && !ahead anc j i && !ahead anc i j && f y then some y else none
    let kb := match x.op.ldA with
      | some (a, _, _) => if x.op.grp == .read && isNew is a && !isNew is (baseA is a) && !(loose fun y => y.op.grp == .call).isEmpty then [baseA is a] else []
      | none => []
    let ks := if x.op.grp == .call then (is.zipIdx.filterMap fun (y, j) => if i != j && !ahead anc j i && !ahead anc i j && y.op.grp == .read then some (y, j) else none).filterMap fun (y, j) => match y.op.ldA with
      | some (b, _, _) => if isNew is b then (if isNew is (baseA is b) then (if j < i then some (.c .nilfn) else none) else some (baseA is b)) else some b
      | none => none else []
    markK ks (markAs (others.isEmpty && kb.isEmpty) far (same ++ kb) x)

/-- A region's instructions, as they are walked where its order is open. -/
inductive Js (kp : List Nat) (ops : Array Oper) (is : List Ins) : List Ins → Prop
  | loc : Js kp ops is (localise kp ops is)
  | mk : Js kp ops is (marked ops (localise kp ops is))

def edgesOk (ops : Array Oper) : Bool := ops.toList.zipIdx.all fun (o, i) => o.after.all fun e => !Region.binds .any e || decide (e.on < i)

def drawIn (anc : List Nat) (is : List Ins) : Bool := is.zipIdx.all fun (y, i) => is.zipIdx.all fun (x, j) => !decide (j < i) || ahead anc j i || apart x y

/-- A region whose order is open: may it be walked in the order of its text? -/
def drawOk (ops : Array Oper) (is : List Ins) : Bool :=
  edgesOk ops && drawIn (ancL ops.toList []) is

/-- The ranges over functions in a code, in its text's order. -/
def rfs : Code → List (Array Tmp × Code × Code)
  | .seq a b => rfs a ++ rfs b
  | .cond _ a b => rfs a ++ rfs b
  | .block _ b => rfs b
  | .loop b => rfs b
  | .rangeFunc _ ps x y => [(ps, x, y)]
  | _ => []

/-- A round's body by its number: parameters, what assigns them, body, how many registers. -/
def bdOf (key : Nat) : Option (Array Tmp × Code × Code × Nat) :=
  (P.funcs[key / 64]?).bind fun fn => fn.body.bind fun c => ((rfs c)[key % 64]?).map fun t => (t.1, t.2.1, t.2.2, fn.ntmps)

/-- It may be ranged over: it has a body. -/
def iterOk (f : Nat) : Bool := (P.funcs[f]?).any fun fn => fn.body.isSome && !(fn.name == "runtime.NumGoroutine")

/-- A row of bytes that is laid and told to be a text's: two operations that go together. -/
def isU8 (e : TypeId) : Bool := match P.underlying e with
  | some (.int .u8) => true
  | _ => false
def litOk (o p : Oper) : Option Nat := match o.op, p.op, o.dst with
  | .buildSlice t n _, .convert t1 t2 (.tmp d), some d' => if d = d' ∧ t1 = t ∧ t2 = t ∧ 0 < n ∧ o.guard.isNone = true ∧ p.guard.isNone = true ∧ (P.underlying t).any (fun u => match u with | .slice e => isU8 P e | _ => false) = true then some d else none
  | _, _, _ => none
def isBsl : AOp → Bool
  | .bslice _ _ _ => true
  | _ => false
def lits : List Oper → List Ins → List Ins
  | o :: p :: os, i :: j :: is => match litOk P o p, isBsl i.op with
    | some d, true => i :: ⟨p.dst, none, .mov (.t d)⟩ :: lits os is
    | _, _ => i :: lits (p :: os) (j :: is)
  | _, is => is

def compC (nt : Nat) : Nat → Code → Option AC
  | _, .skip => some .skip
  | _, .region _ ops draw => (compInss P A nt ops ops.toList).bind fun l => if draw then (if drawOk ops (localise (A.hp ++ A.kc) ops l) then some (.reg (localise (A.hp ++ A.kc) ops l)) else if drawOk ops (marked ops (localise (A.hp ++ A.kc) ops l)) then some (.reg (marked ops (localise (A.hp ++ A.kc) ops l))) else some (.reg [⟨none, none, .stuck⟩])) else some (.reg (lits P ops.toList l))
  | i, .seq a b => (compC nt i a).bind fun x => (compC nt (i + (rfs a).length) b).map fun y => .seq x y
  | i, .cond c a b => (compX c).bind fun c => (compC nt i a).bind fun x => (compC nt (i + (rfs a).length) b).map fun y => .cond c x y
  | i, .block id b => (compC nt i b).map fun b => .block id b
  | i, .loop b => (compC nt i b).map fun c => .loop (A.loop (firstRegion b)).1 (A.loop (firstRegion b)).2 c
  | i, .rangeFunc g _ _ _ => if i < 64 ∧ A.rf.all (iterOk P) = true then (compX g).map fun g => .rfunc g (A.fi * 64 + i) ((A.rk.find? (·.1 == i)).elim [] (·.2)) A.rf else some (.reg [⟨none, none, .stuck⟩])
  | _, .label _ => some .skip
  | _, .exit id => some (.exit id)
  | _, .ret => some .ret
  | _, _ => some (.reg [⟨none, none, .stuck⟩])

/-- A round's body. -/
def compB (t : Array Tmp × Code × Code × Nat) : Option AB :=
  if t.1.toList.all (· < t.2.2.2) then (compC P A t.2.2.2 64 t.2.1).bind fun x => (compC P A t.2.2.2 64 t.2.2.1).map fun y => { ps := t.1.toList, asg := x, bdy := y } else none

def compR : List ResultVar → Option (List AR)
  | [] => some []
  | .tmp t :: rs => (compR rs).map (.t t :: ·)
  | .cell a t :: rs => (shapeT P t).bind fun n => (compR rs).map (.cell a n :: ·)

def compF (ownR trunc : Bool) (fn : Func) : Option AF :=
  if fn.name == "runtime.NumGoroutine" then none else
    fn.body.bind fun c => (compC P A fn.ntmps 0 c).bind fun b => (compR P fn.results.toList).map fun r => { body := b, res := r, ownR, trunc, nt := fn.ntmps }

end
end Go.Am
