/- The abstract machine: pure values, local values, local heaps, and the operations on them. Generic over any program. -/
import Derived.Calls
import Derived.Orders
import Derived.LoopN
namespace Ab
open Go

/-- Pure values: what never changes any more. -/
inductive PV where
  | int (k : IntKind) (n : Int)
  | bool (b : Bool)
  | flt (k : FloatKind) (b : Nat)
  | str (l : List UInt8)
  | sl (es : List PV)
  | agg (cs : List PV)
  | nilp
  | ip (cs : List PV) (off : Nat)
  | fn (f : FuncId) (caps : List PV)
  | nilfn
  | nilif
  | iface (t : TypeId) (p : PV)
  | top
  deriving Inhabited

/-- Values of a running function. -/
inductive V where
  | pv (p : PV)
  | ptr (id off : Nat)
  | sln (id off len sz : Nat) (ag : Bool)
  | slt (es : List PV) (tok : Nat)
  | slx (es : List PV)
  | nils
  | agg (cs : List V)
  | fn (f : FuncId) (caps : List V)
  | tup (vs : List V)
  deriving Inhabited

inductive Ent where
  | dead
  | blk (cs : List V) (t : Option TypeId)
  | tok
  | frz (cs : List PV)
  deriving Inhabited

abbrev Heap := List Ent

def PV.cells : PV → List PV
  | .agg cs => cs
  | p => [p]

def PV.isCell : PV → Bool
  | .agg _ => false
  | _ => true

def V.cells : V → List V
  | .pv p => p.cells.map .pv
  | .agg cs => cs
  | v => [v]

def V.isCell : V → Bool
  | .pv p => p.isCell
  | .agg _ => false
  | .tup _ => false
  | _ => true

/-- All pure? -/
def pures : List V → Option (List PV)
  | [] => some []
  | .pv p :: vs => match pures vs with | some ps => some (p :: ps) | none => none
  | _ :: _ => none

def mkAgg (cs : List V) : V :=
  match pures cs with
  | some ps => .pv (.agg ps)
  | none => .agg cs

def mkFn (f : FuncId) (cs : List V) : V :=
  match pures cs with
  | some ps => .pv (.fn f ps)
  | none => .fn f cs

def mkVal (ag : Bool) (cs : List V) : Option V :=
  if ag then some (mkAgg cs) else
    match cs with
    | [v] => some v
    | _ => none

def mkPV (ag : Bool) (cs : List PV) : PV := if ag then .agg cs else cs.headD default

def chunks {α : Type} (sz : Nat) : Nat → List α → List (List α)
  | 0, _ => []
  | n + 1, l => l.take sz :: chunks sz n (l.drop sz)

/-- A part of a list, wholly inside. -/
def cut {α : Type} (l : List α) (off n : Nat) : Option (List α) := if off + n ≤ l.length then some ((l.drop off).take n) else none

/-- Writes a part of a list. -/
def splice {α : Type} (l : List α) (off : Nat) (new : List α) : List α := l.take off ++ new ++ l.drop (off + new.length)

/-- What a value is without its rights: no block is looked into. -/
def weak : V → Option PV
  | .pv p => some p
  | .slt es _ => some (.sl es)
  | .slx es => some (.sl es)
  | .nils => some (.sl [])
  | .agg cs => (weakL cs).map .agg
  | .fn f cs => (weakL cs).map (.fn f)
  | _ => none
where
  weakL : List V → Option (List PV)
  | [] => some []
  | v :: vs => match weak v, weakL vs with
    | some p, some ps => some (p :: ps)
    | _, _ => none

def ent (h : Heap) (i : Nat) : Ent := (h[i]?).getD .dead

/-- Several values, one behind the other. -/
def snapLF (f : V → Heap → Option (PV × Heap)) : List V → Heap → Option (List PV × Heap)
  | [], h => some ([], h)
  | v :: vs, h => match f v h with
    | some (p, h) => match snapLF f vs h with
      | some (ps, h) => some (p :: ps, h)
      | none => none
    | none => none

/-- A value as a pure one: the blocks that it leads to are frozen. -/
def snap : Nat → V → Heap → Option (PV × Heap)
  | 0, _, _ => none
  | n + 1, v, h =>
    match v with
    | .pv p => some (p, h)
    | .slt es _ => some (.sl es, h)
    | .slx es => some (.sl es, h)
    | .nils => some (.sl [], h)
    | .agg cs => match snapLF (snap n) cs h with
      | some (ps, h) => some (.agg ps, h)
      | none => none
    | .fn f cs => match snapLF (snap n) cs h with
      | some (ps, h) => some (.fn f ps, h)
      | none => none
    | .ptr id off => match ent h id with
      | .frz ps => some (.ip ps off, h)
      | .blk cs _ => match snapLF (snap n) cs (h.set id .dead) with
        | some (ps, h) => some (.ip ps off, h.set id (.frz ps))
        | none => none
      | _ => none
    | .sln id off len sz ag => match ent h id with
      | .frz ps => match cut ps off (len * sz) with
        | some cs => if ag || sz == 1 then some (.sl ((chunks sz len cs).map (mkPV ag)), h) else none
        | none => none
      | .blk cs _ => match snapLF (snap n) cs (h.set id .dead) with
        | some (ps, h) => match cut ps off (len * sz) with
          | some cs => if ag || sz == 1 then some (.sl ((chunks sz len cs).map (mkPV ag)), h.set id (.frz ps)) else none
          | none => none
        | none => none
      | _ => none
    | .tup _ => none

def snapL (n : Nat) (vs : List V) (h : Heap) : Option (List PV × Heap) := snapLF (snap n) vs h

inductive AOperand where
  | tmp (t : Nat)
  | val (v : V)
  deriving Inhabited

inductive Cv where
  | int (k : IntKind)
  | flt (k : FloatKind)
  | strBytes
  | bytesStr
  | strStr
  deriving Inhabited, DecidableEq

/-- Kinds of cells that are compared. -/
inductive Lf where
  | int (k : IntKind)
  | bool
  | str
  deriving DecidableEq, Inhabited

inductive NilK where
  | ptr | sl | fn
  deriving DecidableEq, Inhabited

/-- How '==' goes at a type. -/
inductive EqK where
  | no
  | bool
  | nil (k : NilK)
  | cells (ls : List Lf)
  deriving Inhabited

/-- Operations of package unsafe, and functions without a body that hand on or make memory. -/
inductive SpK where
  | noEscape
  | toUnsafe
  | ofUnsafe (u : TypeId) (sz : Nat)
  | capOf
  | mkRoom (e : TypeId)
  | sliceKeep (sz : Nat)
  | sliceData
  | usString (e : TypeId)
  | samePtr (op : BinOp)
  | fdiv (k : FloatKind)
  | later (idle : List (FuncId × Nat))
  deriving Inhabited

/-- Operations: what the type table says is resolved. -/
inductive AOp where
  | move (x : AOperand)
  | pick (c a b : AOperand)
  | new (t : TypeId) (z : List V)
  | box (x : AOperand)
  | load (ag : Bool) (size : Nat) (a : AOperand)
  | store (size : Nat) (a x : AOperand)
  | nilCheck (x : AOperand)
  | bin (op : BinOp) (ek : EqK) (x y : AOperand)
  | un (op : UnOp) (x : AOperand)
  | conv (c : Cv) (x : AOperand)
  | mkFn (f : FuncId) (caps : List AOperand)
  | mkSlice (ag : Bool) (zero : List V) (bytes : Nat) (len cap : AOperand)
  | sliceStr (x : AOperand) (lo hi : Option AOperand)
  | sliceSl (sz : Nat) (x : AOperand) (lo hi : Option AOperand)
  | sliceArr (sz n : Nat) (ag : Bool) (x : AOperand) (lo hi : Option AOperand)
  | faddr (off : Nat) (x : AOperand)
  | field (off size : Nat) (ag : Bool) (x : AOperand)
  | iaddrArr (len sz : Nat) (x i : AOperand)
  | iaddrSl (sz : Nat) (x i : AOperand)
  | idxStr (x i : AOperand)
  | idxArr (len sz : Nat) (ag : Bool) (x i : AOperand)
  | build (zero : List V) (parts : List (Nat × Nat × AOperand))
  | buildSl (ag mu : Bool) (sz : Nat) (zero : List V) (len : Nat) (parts : List (Nat × AOperand))
  | lenOf (st : Bool) (x : AOperand)
  | lenArr (n : Nat)
  | append (ag mu : Bool) (sz bytes : Nat) (te : TypeId) (x y : AOperand)
  | copy (sz : Nat) (x y : AOperand)
  | minmax (mx : Bool) (xs : List AOperand)
  | call (f : FuncId) (args : List AOperand)
  | callv (f : AOperand) (args : List AOperand)
  | extract (x : AOperand) (i : Nat)
  | mkIface (t : TypeId) (x : AOperand)
  | mark (x : AOperand)
  | special (k : SpK) (xs : List AOperand)
  deriving Inhabited

structure AOper where
  dst : Option Nat
  op : AOp
  guard : Option (Nat × Bool)
  after : List Nat
  deriving Inhabited

inductive ACode where
  | skip
  | region (ops : List AOper) (draw : Bool)
  | seq (a b : ACode)
  | cond (c : AOperand) (thn els : ACode)
  | block (id : Nat) (body : ACode)
  | loop (body : ACode)
  | exit (id : Nat)
  | ret
  | bad
  deriving Inhabited

inductive AResult where
  | tmp (t : Nat)
  | cell (t : Nat) (ag : Bool) (size : Nat)
  deriving Inhabited

structure AFunc where
  ntmps : Nat
  results : List AResult
  body : ACode
  deriving Inhabited

inductive AExit where
  | normal
  | exit (id : Nat)
  | ret
  deriving Inhabited

/-- The surroundings: functions, those that may write what they are handed, library answers. -/
structure Env where
  func : FuncId → Option AFunc
  raw : FuncId → Bool
  ext : FuncId → List PV → Option (List PV)

structure St where
  tmps : List V
  heap : Heap
  deriving Inhabited

def St.eval (tmps : List V) : AOperand → Option V
  | .tmp t => tmps[t]?
  | .val v => some v

def evals (tmps : List V) : List AOperand → Option (List V)
  | [] => some []
  | x :: xs => match St.eval tmps x, evals tmps xs with
    | some v, some vs => some (v :: vs)
    | _, _ => none

def natOf? (v : V) : Option Nat :=
  match v with
  | .pv (.int _ n) => if 0 ≤ n then some n.toNat else none
  | _ => none

def intBin (op : BinOp) (k : IntKind) (a : Int) (k' : IntKind) (b : Int) : Option PV :=
  match op with
  | .shl => if b < 0 then none else some (.int k (k.wrap (a * 2 ^ min b.toNat k.bits)))
  | .shr => if b < 0 then none else some (.int k (a.fdiv (2 ^ min b.toNat k.bits)))
  | op => if k ≠ k' then none else
    match op with
    | .add => some (.int k (k.wrap (a + b)))
    | .sub => some (.int k (k.wrap (a - b)))
    | .mul => some (.int k (k.wrap (a * b)))
    | .quo => if b = 0 then none else some (.int k (k.wrap (a.tdiv b)))
    | .rem => if b = 0 then none else some (.int k (a.tmod b))
    | .and => some (.int k (k.wrap (BitVec.ofInt k.bits a &&& BitVec.ofInt k.bits b).toNat))
    | .or => some (.int k (k.wrap (BitVec.ofInt k.bits a ||| BitVec.ofInt k.bits b).toNat))
    | .xor => some (.int k (k.wrap (BitVec.ofInt k.bits a ^^^ BitVec.ofInt k.bits b).toNat))
    | .andNot => some (.int k (k.wrap (BitVec.ofInt k.bits a &&& ~~~(BitVec.ofInt k.bits b)).toNat))
    | .eql => some (.bool (a == b))
    | .neq => some (.bool (a != b))
    | .lss => some (.bool (a < b))
    | .leq => some (.bool (a ≤ b))
    | .gtr => some (.bool (a > b))
    | .geq => some (.bool (a ≥ b))
    | _ => none

/-- Not a number. -/
def nanB (k : FloatKind) (b : Nat) : Bool := (k.decode b).isNaN

/-- What is told of two numbers with a point: none of what is not a number. -/
def fltOrd (k : FloatKind) (a b : Nat) : Option Ordering := if nanB k a || nanB k b then none else k.format.order a b

def fltBin (op : BinOp) (k : FloatKind) (a : Nat) (k' : FloatKind) (b : Nat) : Option PV :=
  if k ≠ k' then none else
  match op with
  | .eql => some (.bool (fltOrd k a b == some .eq))
  | .neq => some (.bool (fltOrd k a b != some .eq))
  | .lss => some (.bool (fltOrd k a b == some .lt))
  | .leq => some (.bool (fltOrd k a b == some .lt || fltOrd k a b == some .eq))
  | .gtr => some (.bool (fltOrd k a b == some .gt))
  | .geq => some (.bool (fltOrd k a b == some .gt || fltOrd k a b == some .eq))
  | .add => if nanB k a || nanB k b then none else (k.format.add a b).map (.flt k)
  | .sub => if nanB k a || nanB k b then none else (k.format.sub a b).map (.flt k)
  | .mul => if nanB k a || nanB k b then none else (k.format.mul a b).map (.flt k)
  | .quo => if nanB k a || nanB k b then none else (k.format.div a b).map (.flt k)
  | _ => none

def strBin (op : BinOp) (a b : List UInt8) : Option PV :=
  match op with
  | .add => if a.length + b.length ≤ 4611686018427387904 then some (.str (a ++ b)) else none
  | .eql => some (.bool (a == b))
  | .neq => some (.bool (!(a == b)))
  | .lss => some (.bool (Op.bytesLess a b))
  | .leq => some (.bool (Op.bytesLess a b || a == b))
  | .gtr => some (.bool (!(Op.bytesLess a b || a == b)))
  | .geq => some (.bool (!Op.bytesLess a b))
  | _ => none

/-- Two cells that hold a number, a truth or a text: alike? -/
def eqCell : Lf → PV → PV → Option Bool
  | .int k, .int k1 a, .int k2 b => if k1 = k ∧ k2 = k then some (a == b) else none
  | .bool, .bool a, .bool b => some (a == b)
  | .str, .str a, .str b => some (a == b)
  | _, _, _ => none

def eqCells : List Lf → List PV → List PV → Option Bool
  | [], [], [] => some true
  | l :: ls, a :: as, b :: bs => match eqCell l a b, eqCells ls as bs with
    | some x, some y => some (x && y)
    | _, _ => none
  | _, _, _ => none

/-- Whether a value is nil, where that can be told. -/
def isNil? : NilK → V → Option Bool
  | .ptr, .pv .nilp => some true
  | .ptr, .pv (.ip _ _) => some false
  | .ptr, .ptr _ _ => some false
  | .sl, .nils => some true
  | .sl, .slx _ => some false
  | .sl, .slt _ _ => some false
  | .sl, .sln _ _ _ _ _ => some false
  | .sl, .pv (.sl (_ :: _)) => some false
  | .fn, .pv .nilfn => some true
  | .fn, .pv (.fn _ _) => some false
  | .fn, .fn _ _ => some false
  | _, _ => none

def eqRes (op : BinOp) (r : Bool) : Option V :=
  match op with
  | .eql => some (.pv (.bool r))
  | .neq => some (.pv (.bool (!r)))
  | _ => none

def eqNil (k : NilK) (x y : V) : Option Bool :=
  match isNil? k x, isNil? k y with
  | some a, some b => if a || b then some (a && b) else none
  | _, _ => none

def binA (op : BinOp) (ek : EqK) (x y : V) : Option V :=
  match ek with
  | .no => match x, y with
    | .pv (.int k a), .pv (.int k' b) => (intBin op k a k' b).map .pv
    | .pv (.str a), .pv (.str b) => (strBin op a b).map .pv
    | .pv (.flt k a), .pv (.flt k' b) => (fltBin op k a k' b).map .pv
    | _, _ => none
  | .bool => match x, y with
    | .pv (.bool a), .pv (.bool b) => eqRes op (a == b)
    | _, _ => none
  | .nil k => match eqNil k x y with
    | some r => eqRes op r
    | none => none
  | .cells ls => match x, y with
    | .pv (.agg as), .pv (.agg bs) => match eqCells ls as bs with
      | some r => eqRes op r
      | none => none
    | _, _ => none

def unA (op : UnOp) (x : V) : Option V :=
  match op, x with
  | .neg, .pv (.int k n) => some (.pv (.int k (k.wrap (0 - n))))
  | .xor, .pv (.int k n) => some (.pv (.int k (k.wrap (BitVec.ofInt k.bits (if k.signed then -1 else k.max) ^^^ BitVec.ofInt k.bits n).toNat)))
  | .not, .pv (.bool b) => some (.pv (.bool !b))
  | _, _ => none

/-- The bytes of a pure slice of bytes. -/
def bytesOf? : List PV → Option (List UInt8)
  | [] => some []
  | .int .u8 n :: ps => match bytesOf? ps with
    | some l => some (UInt8.ofNat n.toNat :: l)
    | none => none
  | _ :: _ => none

/-- A slice's elements, where they are pure. -/
def pureElems (h : Heap) : V → Option (List PV)
  | .pv (.sl es) => some es
  | .slt es _ => some es
  | .slx es => some es
  | .nils => some []
  | .sln id off len sz ag => match ent h id with
    | .frz ps => match cut ps off (len * sz) with
      | some cs => if ag || sz == 1 then some ((chunks sz len cs).map (mkPV ag)) else none
      | none => none
    | .blk cs _ => match cut cs off (len * sz) with
      | some cs => match weak.weakL cs with
        | some ps => if ag || sz == 1 then some ((chunks sz len ps).map (mkPV ag)) else none
        | none => none
      | none => none
    | _ => none
  | _ => none

def convA (c : Cv) (x : V) (h : Heap) : Option V :=
  match c, x with
  | .int k, .pv (.int _ n) => some (.pv (.int k (k.wrap n)))
  | .flt k, .pv (.int _ n) => some (.pv (.flt k (k.nearest n)))
  | .strBytes, .pv (.str l) => some (.pv (.sl (l.map fun b => .int .u8 b.toNat)))
  | .bytesStr, x => match pureElems h x with
    | some ps => (bytesOf? ps).map fun l => .pv (.str l)
    | none => none
  | .strStr, .pv (.str l) => some (.pv (.str l))
  | _, _ => none

/-- Where a pointer leads: the cells behind it. -/
def loadA (h : Heap) (ag : Bool) (size : Nat) : V → Option V
  | .ptr id off => match ent h id with
    | .blk cs _ => match cut cs off size with
      | some cs => mkVal ag cs
      | none => none
    | .frz ps => match cut ps off size with
      | some ps => mkVal ag (ps.map .pv)
      | none => none
    | _ => none
  | .pv (.ip ps off) => match cut ps off size with
    | some ps => mkVal ag (ps.map .pv)
    | none => none
  | _ => none

def storeA (h : Heap) (size : Nat) (a x : V) : Option Heap :=
  match a with
  | .ptr id off => match ent h id with
    | .blk cs t =>
      if x.cells.length = size ∧ off + size ≤ cs.length ∧ x.cells.all V.isCell = true then some (h.set id (.blk (splice cs off x.cells) t)) else none
    | _ => none
  | _ => none

def bounds (len : Nat) (lo hi : Option V) : Option (Nat × Nat) :=
  match (match hi with | some v => natOf? v | none => some len), (match lo with | some v => natOf? v | none => some 0) with
  | some h, some l => if l ≤ h ∧ h ≤ len then some (l, h) else none
  | _, _ => none

def strideOk (sz : Nat) : List PV → Bool
  | [] => true
  | e :: _ => e.cells.length == sz

def sliceSlA (sz : Nat) (x : V) (lo hi : Option V) : Option V :=
  match x with
  | .pv (.sl es) => match bounds es.length lo hi with
    | some (l, h) => if strideOk sz es then some (.pv (.sl ((es.drop l).take (h - l)))) else none
    | none => none
  | .slt es _ => match bounds es.length lo hi with
    | some (l, h) => if strideOk sz es then some (.pv (.sl ((es.drop l).take (h - l)))) else none
    | none => none
  | .slx es => match bounds es.length lo hi with
    | some (l, h) => if strideOk sz es then some (.pv (.sl ((es.drop l).take (h - l)))) else none
    | none => none
  | .nils => match bounds 0 lo hi with
    | some _ => some .nils
    | none => none
  | .sln id off len sz' ag => match bounds len lo hi with
    | some (l, h) => if sz' = sz then (if l = h then some (.pv (.sl [])) else some (.sln id (off + l * sz) (h - l) sz ag)) else none
    | none => none
  | _ => none

def sliceStrA (x : V) (lo hi : Option V) : Option V :=
  match x with
  | .pv (.str s) => match bounds s.length lo hi with
    | some (l, h) => some (.pv (.str ((s.drop l).take (h - l))))
    | none => none
  | _ => none

/-- Whether a part lies in a block. -/
def roomOk (hp : Heap) (id n : Nat) : Bool :=
  match ent hp id with
  | .blk cs _ => decide (n ≤ cs.length)
  | _ => false

def sliceArrA (hp : Heap) (sz n : Nat) (ag : Bool) (x : V) (lo hi : Option V) : Option V :=
  match x with
  | .ptr id off => match bounds n lo hi with
    | some (l, h) => if roomOk hp id (off + n * sz) = true then (if l = h then some (.pv (.sl [])) else some (.sln id (off + l * sz) (h - l) sz ag)) else none
    | none => none
  | _ => none

def faddrA (off : Nat) : V → Option V
  | .ptr id o => some (.ptr id (o + off))
  | .pv (.ip cs o) => some (.pv (.ip cs (o + off)))
  | _ => none

def partA (off size : Nat) (ag : Bool) : V → Option V
  | .pv (.agg cs) => match cut cs off size with
    | some cs => mkVal ag (cs.map .pv)
    | none => none
  | .agg cs => match cut cs off size with
    | some cs => mkVal ag cs
    | none => none
  | _ => none

def iaddrArrA (len sz : Nat) (x i : V) : Option V :=
  match natOf? i with
  | some i => if i < len then faddrA (i * sz) x else none
  | none => none

def elemAt (sz : Nat) (es : List PV) (i : Nat) : Option V :=
  match es[i]? with
  | some e => if e.cells.length = sz then some (.pv (.ip e.cells 0)) else none
  | none => none

def iaddrSlA (sz : Nat) (x i : V) : Option V :=
  match natOf? i with
  | none => none
  | some i => match x with
    | .pv (.sl es) => elemAt sz es i
    | .slt es _ => elemAt sz es i
    | .slx es => elemAt sz es i
    | .sln id off len sz' _ => if i < len ∧ sz' = sz then some (.ptr id (off + i * sz)) else none
    | _ => none

def idxStrA (x i : V) : Option V :=
  match x with
  | .pv (.str s) => match natOf? i with
    | some i => (s[i]?).map fun b => .pv (.int .u8 b.toNat)
    | none => none
  | _ => none

def idxArrA (len sz : Nat) (ag : Bool) (x i : V) : Option V :=
  match natOf? i with
  | some i => if i < len then partA (i * sz) sz ag x else none
  | none => none

def fillA (cells : List V) : List (Nat × Nat × V) → Option (List V)
  | [] => some cells
  | (off, size, v) :: rest =>
    if v.cells.length = size ∧ off + size ≤ cells.length ∧ v.cells.all V.isCell = true then fillA (splice cells off v.cells) rest else none

def lenA : V → Option Nat
  | .pv (.str s) => some s.length
  | .pv (.sl es) => some es.length
  | .slt es _ => some es.length
  | .slx es => some es.length
  | .nils => some 0
  | .sln _ _ len _ _ => some len
  | _ => none

/-- How much a slice may grow to, in bytes. -/
def growMax : Nat := 35184372088832

/-- What is appended: its cells. -/
def srcCells (h : Heap) (sz : Nat) : V → Option (List V)
  | .pv (.str s) => if sz = 1 then some (s.map fun b => .pv (.int .u8 b.toNat)) else none
  | .pv (.sl es) => if strideOk sz es then some ((es.flatMap PV.cells).map .pv) else none
  | .slt es _ => if strideOk sz es then some ((es.flatMap PV.cells).map .pv) else none
  | .slx es => if strideOk sz es then some ((es.flatMap PV.cells).map .pv) else none
  | .nils => some []
  | .sln id off len sz' _ => if sz' = sz then
      match ent h id with
      | .blk cs _ => cut cs off (len * sz)
      | .frz ps => (cut ps off (len * sz)).map (·.map .pv)
      | _ => none
    else none
  | _ => none

def isSlV : V → Bool
  | .pv (.sl _) => true
  | .slt _ _ => true
  | .slx _ => true
  | .nils => true
  | .sln _ _ _ _ _ => true
  | _ => false

/-- x is appended to; new: the new cells, n elements. -/
def appendA (h : Heap) (ag mu : Bool) (sz bytes : Nat) (te : TypeId) (x : V) (n : Nat) (new : List V) : Option (V × Heap) :=
  if n = 0 then (if isSlV x then some (x, h) else none) else
  let pure (es : List PV) (h : Heap) : Option (V × Heap) :=
    if strideOk sz es && (ag || sz == 1) && decide ((es.length + n) * bytes ≤ growMax) && decide (new.length = n * sz) then
      match weak.weakL new with
      | some ps => some (.slt (es ++ (chunks sz n ps).map (mkPV ag)) h.length, h ++ [.tok])
      | none => none
    else none
  match x with
  | .nils => if mu then
      if decide (n * bytes ≤ growMax) && decide (new.length = n * sz) && new.all V.isCell then some (.sln h.length 0 n sz ag, h ++ [.blk new (some te)]) else none
    else pure [] h
  | .slx es => if mu then none else pure es h
  | .slt es tok => match ent h tok with
    | .tok => if es.isEmpty then none else pure es (h.set tok .dead)
    | _ => none
  | .sln id off len sz' ag' => match ent h id with
    | .blk cs t => if off = 0 ∧ sz' = sz ∧ ag' = ag ∧ cs.length = len * sz ∧ (len + n) * bytes ≤ growMax ∧ new.length = n * sz ∧ new.all V.isCell = true then
        some (.sln h.length 0 (len + n) sz ag, (h.set id .dead) ++ [.blk (cs ++ new) (if t = some te then t else none)])
      else none
    | _ => none
  | _ => none

def copyA (h : Heap) (sz : Nat) (x : V) (n : Nat) (new : List V) : Option Heap :=
  if n = 0 then some h else
  match x with
  | .sln id off len sz' _ => match ent h id with
    | .blk cs t => if sz' = sz ∧ n ≤ len ∧ off + len * sz ≤ cs.length ∧ new.length = n * sz ∧ new.all V.isCell = true then some (h.set id (.blk (splice cs off new) t)) else none
    | _ => none
  | _ => none

def minmaxA (mx : Bool) : List V → Option V
  | [] => none
  | .pv (.int k a) :: rest => (rest.foldlM (fun (acc : Int) (v : V) => match v with
      | .pv (.int k' b) => if k = k' then some (if mx then (if b > acc then b else acc) else (if b < acc then b else acc)) else none
      | _ => none) a).map fun n => V.pv (.int k n)
  | _ => none

def mkRes : List PV → V
  | [p] => .pv p
  | ps => .tup (ps.map .pv)

def snapFuel : Nat := 1000

/-- A call: pure: in a heap of its own; raw: in the caller's. -/
def callA (E : Env) (pure : FuncId → List PV → Option (List PV)) (raw : FuncId → List V → Heap → Option (V × Heap)) (f : FuncId) (args : List V) (h : Heap) : Option (V × Heap) :=
  if E.raw f then
    match pures args with
    | some ps => match E.ext f ps with
      | some rs => some (mkRes rs, h)
      | none => raw f args h
    | none => raw f args h
  else
  match snapL snapFuel args h with
  | some (ps, h) => match pure f ps with
    | some rs => some (mkRes rs, h)
    | none => none
  | none => none

def inByte : PV → Bool
  | .int .u8 n => decide (0 ≤ n) && decide (n < 256)
  | _ => false

/-- One that is not a number, of which nothing else is known: no number's bits are so great. -/
def nanOf : FloatKind → Nat
  | .f32 => 23613931521
  | .f64 => 101452588805775163393

/-- A division of numbers with a point: not a number, where there is none. -/
def fdivA (k : FloatKind) : V → V → Option V
  | .pv (.flt k1 a), .pv (.flt k2 b) => if k1 = k ∧ k2 = k then
      if nanB k a || nanB k b then none else
      match k.format.div a b with
      | some r => some (.pv (.flt k r))
      | none => some (.pv (.flt k (nanOf k)))
    else none
  | _, _ => none

def specA (k : SpK) (vs : List V) (h : Heap) : Option (V × Heap) :=
  match k, vs with
  | .noEscape, [v] => some (v, h)
  | .toUnsafe, [.ptr id off] => match ent h id with
    | .blk cs _ => if off < cs.length then some (.ptr id off, h) else none
    | _ => none
  | .ofUnsafe u sz, [.ptr id off] => match ent h id with
    | .blk cs (some t) => if t = u ∧ off = 0 ∧ sz ≤ cs.length then some (.ptr id off, h) else none
    | _ => none
  | .capOf, [.nils] => some (.pv (.int .i64 0), h)
  | .mkRoom e, [.pv (.int .i64 i)] => if 0 ≤ i ∧ i.toNat ≤ growMax then some (.sln h.length 0 i.toNat 1 false, h ++ [.blk [] (some e)]) else none
  | .sliceKeep sz, [.sln id off len sz' ag, hi] => match natOf? hi with
    | some k => if k ≤ len ∧ sz' = sz then some (.sln id off k sz ag, h) else none
    | none => none
  | .sliceData, [.nils] => some (.pv .nilp, h)
  | .sliceData, [.sln id off len _ _] => if 0 < len then some (.ptr id off, h) else none
  | .usString _, [.pv .nilp, v] => match v with
    | .pv (.int .i64 0) => some (.pv (.str []), h)
    | _ => none
  | .usString e, [.ptr id off, v] => match v with
    | .pv (.int .i64 i) => match ent h id with
      | .blk cs (some t) => if t = e ∧ off = 0 ∧ 0 < i ∧ i.toNat ≤ cs.length ∧ i.toNat ≤ growMax then
          match weak.weakL (cs.take i.toNat) with
          | some ps => if ps.all inByte then match bytesOf? ps with
              | some l => some (.pv (.str l), h.set id .dead)
              | none => none
            else none
          | none => none
        else none
      | _ => none
    | _ => none
  | .later idle, [x] => match x with
    | .fn f cs => if idle.contains (f, cs.length) then some (.tup [], h) else none
    | .pv (.fn f cs) => if idle.contains (f, cs.length) then some (.tup [], h) else none
    | _ => none
  | .samePtr op, [x, y] => match x, y with
    | .ptr i a, .ptr j b => if i = j ∧ a = b then (eqRes op true).map fun v => (v, h) else none
    | x, y => (binA op (.nil .ptr) x y).map fun v => (v, h)
  | .fdiv k, [x, y] => (fdivA k x y).map fun v => (v, h)
  | _, _ => none

def opA (E : Env) (pure : FuncId → List PV → Option (List PV)) (raw : FuncId → List V → Heap → Option (V × Heap)) (ts : List V) (h : Heap) (op : AOp) : Option (V × Heap) :=
  let ev := St.eval ts
  let evo (x : Option AOperand) : Option (Option V) := match x with
    | some x => (ev x).map some
    | none => some none
  let val (v : Option V) : Option (V × Heap) := v.map fun v => (v, h)
  match op with
  | .move x => val (ev x)
  | .pick c a b => match ev c, ev a, ev b with
    | some (.pv (.bool t)), some x, some y => some (if t then x else y, h)
    | _, _, _ => none
  | .new t z => some (.ptr h.length 0, h ++ [.blk z (some t)])
  | .box x => match ev x with
    | some v => if v.cells.all V.isCell then some (.ptr h.length 0, h ++ [.blk v.cells none]) else none
    | none => none
  | .load ag size a => match ev a with
    | some a => val (loadA h ag size a)
    | none => none
  | .store size a x => match ev a, ev x with
    | some a, some x => (storeA h size a x).map fun h => (.tup [], h)
    | _, _ => none
  | .nilCheck x => match ev x with
    | some (.ptr id off) => some (.ptr id off, h)
    | some (.pv (.ip cs off)) => some (.pv (.ip cs off), h)
    | some (.pv (.fn f cs)) => some (.pv (.fn f cs), h)
    | some (.fn f cs) => some (.fn f cs, h)
    | _ => none
  | .bin op ek x y => match ev x, ev y with
    | some x, some y => val (binA op ek x y)
    | _, _ => none
  | .un op x => match ev x with
    | some x => val (unA op x)
    | none => none
  | .conv c x => match ev x with
    | some x => val (convA c x h)
    | none => none
  | .mkFn f caps => match evals ts caps with
    | some cs => some (mkFn f cs, h)
    | none => none
  | .mkSlice ag zero bytes len cap => match ev len, ev cap with
    | some l, some c => match natOf? l, natOf? c with
      | some l, some c => if l = c ∧ l * bytes ≤ growMax ∧ l ≤ growMax ∧ (ag = true ∨ zero.length = 1) ∧ (zero = [] → l = 0) then some (.sln h.length 0 l zero.length ag, h ++ [.blk ((List.replicate l zero).flatten) none]) else none
      | _, _ => none
    | _, _ => none
  | .sliceStr x lo hi => match ev x, evo lo, evo hi with
    | some x, some lo, some hi => val (sliceStrA x lo hi)
    | _, _, _ => none
  | .sliceSl sz x lo hi => match ev x, evo lo, evo hi with
    | some x, some lo, some hi => val (sliceSlA sz x lo hi)
    | _, _, _ => none
  | .sliceArr sz n ag x lo hi => match ev x, evo lo, evo hi with
    | some x, some lo, some hi => val (sliceArrA h sz n ag x lo hi)
    | _, _, _ => none
  | .faddr off x => match ev x with
    | some x => val (faddrA off x)
    | none => none
  | .field off size ag x => match ev x with
    | some x => val (partA off size ag x)
    | none => none
  | .iaddrArr len sz x i => match ev x, ev i with
    | some x, some i => val (iaddrArrA len sz x i)
    | _, _ => none
  | .iaddrSl sz x i => match ev x, ev i with
    | some x, some i => val (iaddrSlA sz x i)
    | _, _ => none
  | .idxStr x i => match ev x, ev i with
    | some x, some i => val (idxStrA x i)
    | _, _ => none
  | .idxArr len sz ag x i => match ev x, ev i with
    | some x, some i => val (idxArrA len sz ag x i)
    | _, _ => none
  | .build zero parts => match evals ts (parts.map (·.2.2)) with
    | some vs => (fillA zero ((parts.zip vs).map fun (p, v) => (p.1, p.2.1, v))).map fun cs => (mkAgg cs, h)
    | none => none
  | .buildSl ag mu sz zero len parts => match evals ts (parts.map (·.2)) with
    | some vs => if zero.length = sz ∧ (ag = true ∨ sz = 1) then
        match fillA ((List.replicate len zero).flatten) ((parts.zip vs).map fun (p, v) => (p.1 * sz, sz, v)) with
        | some cs => if mu then some (.sln h.length 0 len sz ag, h ++ [.blk cs none]) else
          match weak.weakL cs with
          | some ps => some (.slx ((chunks sz len ps).map (mkPV ag)), h)
          | none => none
        | none => none
      else none
    | none => none
  | .lenOf st x => match ev x with
    | some x => if isSlV x = !st then (match lenA x with | some n => some (.pv (.int .i64 (Int.ofNat n)), h) | none => none) else none
    | none => none
  | .lenArr n => some (.pv (.int .i64 n), h)
  | .append ag mu sz bytes te x y => match ev x, ev y with
    | some x, some y => match lenA y, srcCells h sz y with
      | some n, some new => appendA h ag mu sz bytes te x n new
      | _, _ => none
    | _, _ => none
  | .copy sz x y => match ev x, ev y with
    | some x, some y => match lenA x, lenA y, srcCells h sz y with
      | some d, some s, some new => if isSlV x = true then
        (copyA h sz x (Nat.min s d) (new.take (Nat.min s d * sz))).map fun h => (.pv (.int .i64 (Nat.min s d)), h) else none
      | _, _, _ => none
    | _, _ => none
  | .minmax mx xs => match evals ts xs with
    | some vs => val (minmaxA mx vs)
    | none => none
  | .call f args => match evals ts args with
    | some vs => callA E pure raw f vs h
    | none => none
  | .callv f args => match ev f, evals ts args with
    | some (.pv (.fn f cs)), some vs => callA E pure raw f (vs ++ cs.map .pv) h
    | some (.fn f cs), some vs => callA E pure raw f (vs ++ cs) h
    | _, _ => none
  | .extract x i => match ev x with
    | some (.tup vs) => val vs[i]?
    | _ => none
  | .mkIface t x => match ev x with
    | some v => match weak v with
      | some p => some (.pv (.iface t p), h)
      | none => none
    | none => none
  | .mark x => match ev x with
    | some (.sln id off len sz ag) => match ent h id with
      | .blk _ _ => (snap snapFuel (.sln id off len sz ag) h).map fun r => (.pv r.1, r.2)
      | _ => none
    | _ => none
  | .special k xs => match evals ts xs with
    | some vs => specA k vs h
    | none => none

def putA (ts : List V) (dst : Option Nat) (v : V) : List V :=
  match dst with
  | some d => ts.set d v
  | none => ts

/-- Whether an operation is wanted: its guard. -/
def wantA (ts : List V) : Option (Nat × Bool) → Option Bool
  | none => some true
  | some (t, want) => match ts[t]? with
    | some (.pv (.bool b)) => some (b == want)
    | some (.tup _) => some false
    | _ => none

def stepA (E : Env) (pure : FuncId → List PV → Option (List PV)) (raw : FuncId → List V → Heap → Option (V × Heap)) (o : AOper) (st : St) : Option St :=
  match wantA st.tmps o.guard with
  | some true => match opA E pure raw st.tmps st.heap o.op with
    | some (v, h) => some ⟨putA st.tmps o.dst v, h⟩
    | none => none
  | some false => some ⟨putA st.tmps o.dst (.tup []), st.heap⟩
  | none => none

def stepsA (E : Env) (pure : FuncId → List PV → Option (List PV)) (raw : FuncId → List V → Heap → Option (V × Heap)) : List AOper → St → Option St
  | [], st => some st
  | o :: os, st => match stepA E pure raw o st with
    | some st => stepsA E pure raw os st
    | none => none

end Ab
