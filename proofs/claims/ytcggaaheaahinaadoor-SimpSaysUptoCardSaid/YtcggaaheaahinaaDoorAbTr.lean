/- From the model's code to the abstract machine's: what the type table says is resolved. -/
import Derived.Test.YtcggaaheaahinaaDoorAbRun
namespace Ab
open Go


def ofVal : Value → Option V
  | .bool b => some (.pv (.bool b))
  | .int k n => some (.pv (.int k n))
  | .float k b => some (.pv (.flt k b))
  | .string s => some (.pv (.str s.data.toList))
  | .pointer none => some (.pv .nilp)
  | .slice none 0 0 => some .nils
  | .nilFunc => some (.pv .nilfn)
  | .nilIface => some (.pv .nilif)
  | _ => none

def ofVals : List Value → Option (List V)
  | [] => some []
  | v :: vs => do some ((← ofVal v) :: (← ofVals vs))

def trX [Base] : Operand → Option AOperand
  | .tmp t => some (.tmp t)
  | .const v => match v with
    | .agg vs => match ofVals vs.toList with
      | some xs => some (.val (.agg xs))
      | none => none
    | v => do some (.val (← ofVal v))
  | .func f => some (.val (.pv (.fn f [])))
  | .global g => match Base.glob g with
    | some cs => some (.val (.pv (.ip cs 0)))
    | none => none

def trXs [Base] : List Operand → Option (List AOperand)
  | [] => some []
  | x :: xs => do some ((← trX x) :: (← trXs xs))

def trXo [Base] : Option Operand → Option (Option AOperand)
  | none => some none
  | some x => do some (some (← trX x))

def aggT (P : Program) (t : TypeId) : Option Bool := (P.underlying t).map aggD
def sizeT (P : Program) (t : TypeId) : Option Nat := (P.info? t).map (·.size)
def bytesT (P : Program) (t : TypeId) : Option Nat := (P.info? t).map (·.bytes)
def zeroT (P : Program) (t : TypeId) : Option (List V) := do ofVals (← (← P.info? t).zero).cells.toList
def elemT (P : Program) (t : TypeId) : Option TypeId :=
  match P.underlying t with
  | some (.slice e) => some e
  | _ => none
def fieldT (P : Program) (t : TypeId) (f : Nat) : Option Field :=
  match P.underlying t with
  | some (.struct fs) => fs[f]?
  | _ => none

/-- The cells of a struct's fields, one behind the other. -/
def leafFields (P : Program) (lv : TypeId → Option (List Lf)) : List Field → Nat → Option (List Lf)
  | [], _ => some []
  | f :: fs, off => do
    let l ← lv f.type
    let r ← leafFields P lv fs (off + l.length)
    if f.name ≠ "_" ∧ f.offset = off ∧ l.length = P.cellsOf f.type ∧ (P.info? f.type).isSome ∧ 0 < l.length then some (l ++ r) else none

/-- The cells of a type that is compared cell by cell. -/
def leaves (P : Program) : Nat → TypeId → Option (List Lf)
  | 0, _ => none
  | d + 1, t =>
    match P.underlying t with
    | some (.int k) => some [.int k]
    | some .bool => some [.bool]
    | some .string => some [.str]
    | some (.array n e) => do
      let l ← leaves P d e
      if l.length = P.cellsOf e ∧ (P.info? e).isSome ∧ 0 < l.length then some (List.replicate n l).flatten else none
    | some (.struct fs) => if P.stoodInHeld t then none else leafFields P (leaves P d) fs.toList 0
    | _ => none

def eqK (P : Program) (t : TypeId) : Option EqK :=
  match P.underlying t with
  | some .bool => some .bool
  | some (.int _) => some .no
  | some (.float _) => some .no
  | some .string => some .no
  | some (.pointer _) => some (.nil .ptr)
  | some (.slice _) => some (.nil .sl)
  | some (.func _ _ _) => some (.nil .fn)
  | some (.array _ _) | some (.struct _) => do
    let l ← leaves P 50 t
    if P.eqGuardType P.depth t = false then some (.cells l) else none
  | _ => none

def trBin (P : Program) (op : BinOp) (t : TypeId) : Option EqK :=
  match op with
  | .eql | .neq => eqK P t
  | _ => some .no

def trConv (P : Program) (src dst : TypeId) : Option Cv :=
  match P.underlying src, P.underlying dst with
  | some (.int _), some (.int k) => some (.int k)
  | some (.int _), some (.float k) => some (.flt k)
  | some .string, some .string => some .strStr
  | some .string, some (.slice e) => match P.underlying e with
    | some (.int .u8) => some .strBytes
    | _ => none
  | some (.slice e), some .string => match P.underlying e with
    | some (.int .u8) => some .bytesStr
    | _ => none
  | _, _ => none

/-- Parts of a struct: where, how great, what. -/
def trParts [Base] (P : Program) (fs : Array Field) : List (Nat × Operand) → Option (List (Nat × Nat × AOperand))
  | [] => some []
  | (i, x) :: rest => do
    let f ← fs[i]?
    let s ← sizeT P f.type
    let a ← trX x
    some ((f.offset, s, a) :: (← trParts P fs rest))

def trItems [Base] (sz : Nat) : List (Nat × Operand) → Option (List (Nat × Nat × AOperand))
  | [] => some []
  | (i, x) :: rest => do
    let a ← trX x
    some ((i * sz, sz, a) :: (← trItems sz rest))

def trElems [Base] : List (Nat × Operand) → Option (List (Nat × AOperand))
  | [] => some []
  | (i, x) :: rest => do
    let a ← trX x
    some ((i, a) :: (← trElems rest))

def trCall [Base] (P : Program) (mu : TypeId → Bool) (c : Call) : Option AOp :=
  match c.callee with
  | .value (.func f) => do some (.call f (← trXs c.args.toList))
  | .value f => do some (.callv (← trX f) (← trXs c.args.toList))
  | .invoke _ _ => none
  | .builtin b =>
    match b, c.args.toList, c.argTypes.toList with
    | .len, [x], [t] => do
      match P.underlying t with
      | some .string => some (.lenOf true (← trX x))
      | some (.slice _) => some (.lenOf false (← trX x))
      | some (.array n _) => some (.lenArr n)
      | some (.pointer arr) => match P.underlying arr with
        | some (.array n _) => some (.lenArr n)
        | _ => none
      | _ => none
    | .append, [x, y], [t, u] => do
      let e ← elemT P t
      let ag ← aggT P e
      let sz ← sizeT P e
      let by_ ← bytesT P e
      let ok ← (match P.underlying u with
        | some (.slice _) => some true
        | some .string => some true
        | _ => none)
      if ok = true ∧ 0 < sz ∧ 0 < by_ ∧ (ag = true ∨ sz = 1) ∧ (zeroT P e).map (·.length) = some sz then some (.append ag (mu e) sz by_ e (← trX x) (← trX y)) else none
    | .copy, [x, y], [t, _] => do
      let e ← elemT P t
      let sz ← sizeT P e
      if 0 < sz then some (.copy sz (← trX x) (← trX y)) else none
    | .min, xs, _ => do some (.minmax false (← trXs xs))
    | .max, xs, _ => do some (.minmax true (← trXs xs))
    | _, _, _ => none

/-- Whether a slice that is made here is turned into itself by a conversion (a constant text as bytes). -/
def selfConv (ops : List Oper) (dst : Option Tmp) : Bool :=
  match dst with
  | none => false
  | some d => ops.any fun o => match o.op with
    | .convert s t (.tmp x) => s == t && x == d
    | _ => false

def trOp [Base] (P : Program) (mu : TypeId → Bool) (own : Bool) (o : Op) : Option AOp :=
  match o with
  | .move x => do some (.move (← trX x))
  | .assign x => do some (.move (← trX x))
  | .pick c a b => do some (.pick (← trX c) (← trX a) (← trX b))
  | .alloc t => do some (.new t (← zeroT P t))
  | .box _ x => do some (.box (← trX x))
  | .load t a => do
    let ag ← aggT P t
    let s ← sizeT P t
    some (.load ag (if ag then s else 1) (← trX a))
  | .store t a x => do some (.store (← sizeT P t) (← trX a) (← trX x))
  | .nilCheck x => do some (.nilCheck (← trX x))
  | .binOp op t x y _ => do some (.bin op (← trBin P op t) (← trX x) (← trX y))
  | .unOp op _ x => do some (.un op (← trX x))
  | .convert s d x =>
    if s = d then
      match P.underlying s with
      | some (.slice e) => match P.underlying e with
        | some (.int .u8) => do some (.mark (← trX x))
        | _ => none
      | some .string => do some (.conv .strStr (← trX x))
      | some (.int k) => do some (.conv (.int k) (← trX x))
      | _ => none
    else do some (.conv (← trConv P s d) (← trX x))
  | .makeFunc (.func f) first caps => if first.size = 0 then do some (.mkFn f (← trXs caps.toList)) else none
  | .makeSlice t l c => do
    let e ← elemT P t
    let ag ← aggT P e
    let z ← zeroT P e
    if (P.info? e).map (·.size) = some z.length ∧ 0 < z.length ∧ (ag = true ∨ z.length = 1) then some (.mkSlice ag z (← bytesT P e) (← trX l) (← trX c)) else none
  | .slice t x lo hi none => do
    match P.underlying t with
    | some .string => some (.sliceStr (← trX x) (← trXo lo) (← trXo hi))
    | some (.slice e) => some (.sliceSl (← sizeT P e) (← trX x) (← trXo lo) (← trXo hi))
    | some (.array n e) => do
      let ag ← aggT P e
      let sz ← sizeT P e
      some (.sliceArr sz n ag (← trX x) (← trXo lo) (← trXo hi))
    | _ => none
  | .fieldAddr s x f => do
    let fd ← fieldT P s f
    let sz ← sizeT P fd.type
    if 0 < sz then some (.faddr fd.offset (← trX x)) else none
  | .field t x f => do
    let fd ← fieldT P t f
    let ag ← aggT P fd.type
    let sz ← sizeT P fd.type
    some (.field fd.offset (if ag then sz else 1) ag (← trX x))
  | .indexAddr t x i => do
    match P.underlying t with
    | some (.array n e) => some (.iaddrArr n (← sizeT P e) (← trX x) (← trX i))
    | some (.slice e) => some (.iaddrSl (← sizeT P e) (← trX x) (← trX i))
    | _ => none
  | .index t x i => do
    match P.underlying t with
    | some .string => some (.idxStr (← trX x) (← trX i))
    | some (.array n e) => do
      let ag ← aggT P e
      let sz ← sizeT P e
      if ag = true ∨ sz = 1 then some (.idxArr n sz ag (← trX x) (← trX i)) else none
    | _ => none
  | .build t parts => do
    let z ← zeroT P t
    match P.underlying t with
    | some (.struct fs) => if fs.toList.all (fun f => (P.info? f.type).isSome) = true then some (.build z (← trParts P fs parts.toList)) else none
    | some (.array _ e) => some (.build z (← trItems (← sizeT P e) parts.toList))
    | _ => none
  | .buildSlice t len parts => do
    let e ← elemT P t
    let ag ← aggT P e
    let z ← zeroT P e
    if (P.info? e).map (·.size) = some z.length ∧ 0 < z.length ∧ len * z.length ≤ 2 ^ 24 then some (.buildSl ag (mu e || own) z.length z len (← trElems parts.toList)) else none
  | .call c => trCall P mu c
  | .extract x i => do some (.extract (← trX x) i)
  | .makeInterface t x => match P.underlying t with
    | some (.interface _) => none
    | some _ => do some (.mkIface t (← trX x))
    | none => none
  | _ => none

def isConst : Operand → Bool
  | .const _ => true
  | _ => false

/-- A body-less function's name. -/
def bareName (P : Program) (c : Call) : Option (String × Func) :=
  match c.callee with
  | .value (.func f) => match P.funcs[f]? with
    | some fn => if fn.body.isNone = true ∧ fn.origin = "" then some (fn.name, fn) else none
    | none => none
  | _ => none

/-- Whether a slice that is cut here is new room. -/
def keepOf (P : Program) (ops : List Oper) : Op → Bool
  | .slice _ (.tmp x) none (some _) none => ops.any fun o => o.dst == some x && match o.op with
    | .call c => match bareName P c with
      | some (n, _) => n == "internal/bytealg.MakeNoZero"
      | none => false
    | _ => false
  | _ => false

/-- Operations of package unsafe, and calls of functions without a body. -/
def trSpec [Base] (P : Program) (keep : Bool) (o : Op) : Option AOp :=
  match o with
  | .convert s d x =>
    match P.underlying s, P.underlying d with
    | some (.pointer t), some .unsafePointer => do
      let i ← P.info? t
      if i.size ≠ 0 then some (.special .toUnsafe [← trX x]) else none
    | some .unsafePointer, some (.pointer u) => if (P.info? u).isSome = true ∧ 0 < P.cellsOf u then do some (.special (.ofUnsafe u (P.cellsOf u)) [← trX x]) else none
    | _, _ => none
  | .slice t x none (some hi) none => if keep then
      match P.underlying t with
      | some (.slice e) => do some (.special (.sliceKeep (← sizeT P e)) [← trX x, ← trX hi])
      | _ => none
    else none
  | .binOp op t x y _ => match op, P.underlying t with
    | .quo, some (.float k) => do some (.special (.fdiv k) [← trX x, ← trX y])
    | op, _ => if isConst x || isConst y then none else
      match trBin P op t, P.underlying t with
      | some (.nil .ptr), some (.pointer te) => if (P.info? te).isSome then do some (.special (.samePtr op) [← trX x, ← trX y]) else none
      | _, _ => none
  | .defer c =>
    match c.callee, c.args.toList with
    | .value (.tmp t), [] => some (.special (.later Base.idle) [.tmp t])
    | _, _ => none
  | .call c =>
    match c.callee with
    | .builtin .cap => match c.args.toList, c.argTypes.toList with
      | [x], [t] => match P.underlying t with
        | some (.slice _) => do some (.special .capOf [← trX x])
        | _ => none
      | _, _ => none
    | .builtin .unsafeSliceData => match c.args.toList with
      | [x] => do some (.special .sliceData [← trX x])
      | _ => none
    | .builtin .unsafeString => match c.args.toList, c.argTypes.toList with
      | [x, y], [pt, _] => match P.underlying pt with
        | some (.pointer e) => if P.cellsOf e = 1 then do some (.special (.usString e) [← trX x, ← trX y]) else none
        | _ => none
      | _, _ => none
    | .value (.func _) => match bareName P c with
      | some (n, fn) =>
        if n = "internal/abi.NoEscape" then match c.args.toList with
          | [x] => do some (.special .noEscape [← trX x])
          | _ => none
        else if n = "internal/bytealg.MakeNoZero" then match c.args.toList, fn.resultTypes.toList with
          | [x], [t] => match P.underlying t with
            | some (.slice e) => do some (.special (.mkRoom e) [← trX x])
            | _ => none
          | _, _ => none
        else none
      | none => none
    | _ => none
  | _ => none

def trOpS [Base] (P : Program) (mu : TypeId → Bool) (own keep : Bool) (o : Op) : Option AOp :=
  match trSpec P keep o with
  | some op => some op
  | none => trOp P mu own o

def trOper [Base] (P : Program) (mu : TypeId → Bool) (ops : Array Oper) (draw : Bool) (o : Oper) : Option AOper := do
  let op ← trOpS P mu (selfConv ops.toList o.dst) (keepOf P ops.toList o.op) o.op
  let g ← (match o.guard with
    | none => some none
    | some (j, want) => match (ops[j]?).bind (·.dst) with
      | some t => some (some (t, want))
      | none => none)
  some { dst := o.dst, op := op, guard := g, after := if draw then (o.after.toList.filter (Region.binds .any ·)).map (·.on) else [] }

def trOpers [Base] (P : Program) (mu : TypeId → Bool) (ops : Array Oper) (draw : Bool) : List Oper → Option (List AOper)
  | [] => some []
  | o :: os => do some ((← trOper P mu ops draw o) :: (← trOpers P mu ops draw os))

def trCode [Base] (P : Program) (mu : TypeId → Bool) : Code → Option ACode
  | .skip => some .skip
  | .region _ ops draw => match trOpers P mu ops draw ops.toList with
    | some l => some (.region l draw)
    | none => some .bad
  | .seq a b => do some (.seq (← trCode P mu a) (← trCode P mu b))
  | .cond c a b => do some (.cond (← trX c) (← trCode P mu a) (← trCode P mu b))
  | .block id b => do some (.block id (← trCode P mu b))
  | .loop b => do some (.loop (← trCode P mu b))
  | .exit id => some (.exit id)
  | .ret => some .ret
  | .label _ => some .skip
  | _ => some .bad

def trRes (P : Program) : List ResultVar → Option (List AResult)
  | [] => some []
  | .tmp t :: rs => do some (.tmp t :: (← trRes P rs))
  | .cell t ty :: rs => do
    let ag ← aggT P ty
    let s ← sizeT P ty
    some (.cell t ag (if ag then s else 1) :: (← trRes P rs))

def trFunc [Base] (P : Program) (mu : TypeId → Bool) (fn : Func) : Option AFunc := do
  some { ntmps := fn.ntmps, results := ← trRes P fn.results.toList, body := ← trCode P mu (← fn.body) }

end Ab
