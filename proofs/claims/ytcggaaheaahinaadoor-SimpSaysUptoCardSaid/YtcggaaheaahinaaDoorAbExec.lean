/- The abstract machine's run: regions (in whatever order), code, functions. -/
import Derived.Test.YtcggaaheaahinaaDoorAbTr
import Derived.Test.YtcggaaheaahinaaDoorAbBeq
namespace Ab
open Go

def AOperand.reads : AOperand → List Nat
  | .tmp t => [t]
  | .val _ => []

def readsL (xs : List AOperand) : List Nat := xs.flatMap AOperand.reads
def readsO : Option AOperand → List Nat
  | some x => x.reads
  | none => []

def AOp.reads : AOp → List Nat
  | .move x | .box x | .nilCheck x | .un _ x | .conv _ x | .faddr _ x | .field _ _ _ x | .lenOf _ x | .extract x _ | .mkIface _ x | .mark x | .load _ _ x => x.reads
  | .pick a b c => a.reads ++ b.reads ++ c.reads
  | .new _ _ | .lenArr _ => []
  | .store _ a b | .bin _ _ a b | .iaddrArr _ _ a b | .iaddrSl _ a b | .idxStr a b | .idxArr _ _ _ a b | .append _ _ _ _ _ a b | .copy _ a b | .mkSlice _ _ _ a b => a.reads ++ b.reads
  | .mkFn _ xs | .minmax _ xs | .call _ xs | .special _ xs => readsL xs
  | .callv f xs => f.reads ++ readsL xs
  | .sliceStr x a b | .sliceSl _ x a b | .sliceArr _ _ _ x a b => x.reads ++ readsO a ++ readsO b
  | .build _ ps => readsL (ps.map (·.2.2))
  | .buildSl _ _ _ _ _ ps => readsL (ps.map (·.2))

/-- The entries that a value names itself. -/
def V.ids : V → List Nat
  | .ptr id _ => [id]
  | .sln id _ _ _ _ => [id]
  | .slt _ tok => [tok]
  | .agg cs => idsL cs
  | .fn _ cs => idsL cs
  | .tup vs => idsL vs
  | _ => []
where
  idsL : List V → List Nat
  | [] => []
  | v :: vs => V.ids v ++ idsL vs

def entIds : Ent → List Nat
  | .blk cs _ => V.ids.idsL cs
  | _ => []

def addNew (seen : List Nat) : List Nat → List Nat
  | [] => seen
  | x :: xs => if seen.contains x then addNew seen xs else addNew (seen ++ [x]) xs

/-- All that can be come to. -/
def reach (h : Heap) : Nat → List Nat → List Nat
  | 0, ids => ids
  | n + 1, ids =>
    let next := addNew ids (ids.flatMap fun i => entIds (ent h i))
    if next.length = ids.length then ids else reach h n next

def oIds (ts : List V) (x : AOperand) : List Nat := match St.eval ts x with
  | some v => v.ids
  | none => []

/-- The entries that an operation may touch. -/
def foot (ts : List V) (h : Heap) : AOp → List Nat
  | .load _ _ a => oIds ts a
  | .store _ a _ => oIds ts a
  | .append _ _ _ _ _ x y => oIds ts x ++ oIds ts y
  | .copy _ x y => oIds ts x ++ oIds ts y
  | .conv _ x => oIds ts x
  | .sliceArr _ _ _ x _ _ => oIds ts x
  | .mark x => reach h h.length (oIds ts x)
  | .special _ xs => xs.flatMap (oIds ts)
  | .call _ xs => reach h h.length (addNew [] (xs.flatMap (oIds ts)))
  | .callv f xs => reach h h.length (addNew [] (oIds ts f ++ xs.flatMap (oIds ts)))
  | _ => []

def AOp.quiet : AOp → Bool
  | .load _ _ _ => true
  | .conv _ _ => true
  | .sliceArr _ _ _ _ _ _ => true
  | _ => false

def mask (F : List Nat) (h : Heap) : Heap := h.mapIdx fun i e => if F.contains i then e else .dead
def merge (F : List Nat) (h h' : Heap) : Heap := h'.mapIdx fun i e => if F.contains i || decide (h.length ≤ i) then e else ent h i

def AOp.isCall : AOp → Bool
  | .call _ _ => true
  | .callv _ _ => true
  | _ => false

/-- The entries that an operation has turned: of those that it may touch. -/
def turned (op : AOp) (F : List Nat) (h h' : Heap) : List Nat :=
  if op.quiet then [] else (if op.isCall then F.filter fun i => !Ent.beq (ent h i) (ent h' i) else F) ++ List.range' h.length (h'.length - h.length)

structure Log where
  rd : List Nat
  wr : Option Nat
  ids : List Nat
  wids : List Nat

/-- One operation, on the entries that it may touch alone. -/
def stepM (E : Env) (pure : FuncId → List PV → Option (List PV)) (raw : FuncId → List V → Heap → Option (V × Heap)) (o : AOper) (st : St) : Option (St × Log) :=
  let gr := match o.guard with | some (t, _) => [t] | none => []
  match wantA st.tmps o.guard with
  | some true =>
    let F := foot st.tmps st.heap o.op
    match opA E pure raw st.tmps (mask F st.heap) o.op with
    | some (v, h) => if st.heap.length ≤ h.length then some (⟨putA st.tmps o.dst v, merge F st.heap h⟩, ⟨gr ++ o.op.reads, o.dst, F ++ List.range' st.heap.length (h.length - st.heap.length), turned o.op F st.heap h⟩) else none
    | none => none
  | some false => some (⟨putA st.tmps o.dst (.tup []), st.heap⟩, ⟨gr, o.dst, [], []⟩)
  | none => none

def stepsM (E : Env) (pure : FuncId → List PV → Option (List PV)) (raw : FuncId → List V → Heap → Option (V × Heap)) : List AOper → St → Option (St × List Log)
  | [], st => some (st, [])
  | o :: os, st => match stepM E pure raw o st with
    | some (st, l) => match stepsM E pure raw os st with
      | some (st, ls) => some (st, l :: ls)
      | none => none
    | none => none

def apartT (w : Option Nat) (l : List Nat) : Bool := match w with
  | some d => !l.contains d
  | none => true

def apart (a b : Log) : Bool :=
  apartT a.wr b.rd && apartT b.wr a.rd && (match a.wr, b.wr with | some x, some y => x != y | _, _ => true) &&
  (a.wids.all fun i => !b.ids.contains i) && (b.wids.all fun i => !a.ids.contains i)

/-- Those behind which an operation comes, as bits. -/
def ancOf (acc : List Nat) (m : Nat) : List Nat → Nat
  | [] => m
  | x :: xs => ancOf acc ((m ||| (1 <<< x)) ||| acc.getD x 0) xs

/-- Whom an operation comes behind, of those ahead of it. -/
def ancs : List AOper → List Nat → List Nat
  | [], acc => acc
  | o :: os, acc => ancs os (acc ++ [ancOf acc 0 o.after])

/-- Each operation comes behind earlier ones alone. -/
def ordered : List AOper → Nat → Bool
  | [], _ => true
  | o :: os, i => o.after.all (· < i) && ordered os (i + 1)

def pairsOk (as : List Nat) (ls : List Log) : Bool :=
  (List.range ls.length).all fun j => (List.range j).all fun i =>
    (as.getD j 0).testBit i || match ls[i]?, ls[j]? with
      | some a, some b => apart a b
      | _, _ => false

def regionA (E : Env) (pure : FuncId → List PV → Option (List PV)) (raw : FuncId → List V → Heap → Option (V × Heap)) (ops : List AOper) (draw : Bool) (st : St) : Option St :=
  if draw then
    match stepsM E pure raw ops st with
    | some (st, ls) => if ordered ops 0 && pairsOk (ancs ops []) ls then some st else none
    | none => none
  else stepsA E pure raw ops st

def loopA (body : St → Option (AExit × St)) : Nat → St → Option (AExit × St)
  | 0, _ => none
  | n + 1, st => match body st with
    | some (.normal, st) => loopA body n st
    | r => r

def execA (E : Env) (pure : FuncId → List PV → Option (List PV)) (raw : FuncId → List V → Heap → Option (V × Heap)) (n : Nat) : ACode → St → Option (AExit × St)
  | .skip, st => some (.normal, st)
  | .region ops draw, st => match regionA E pure raw ops draw st with
    | some st => some (.normal, st)
    | none => none
  | .seq a b, st => match execA E pure raw n a st with
    | some (.normal, st) => execA E pure raw n b st
    | r => r
  | .cond c a b, st => match St.eval st.tmps c with
    | some (.pv (.bool t)) => if t then execA E pure raw n a st else execA E pure raw n b st
    | _ => none
  | .block id b, st => match execA E pure raw n b st with
    | some (.exit id', st) => if id' = id then some (.normal, st) else some (.exit id', st)
    | r => r
  | .loop b, st => loopA (execA E pure raw n b) n st
  | .exit id, st => some (.exit id, st)
  | .ret, st => some (.ret, st)
  | .bad, _ => none

def resA (st : St) : List AResult → Option (List V)
  | [] => some []
  | .tmp t :: rs => match st.tmps[t]?, resA st rs with
    | some v, some vs => some (v :: vs)
    | _, _ => none
  | .cell t ag size :: rs => match st.tmps[t]?, resA st rs with
    | some a, some vs => match loadA st.heap ag size a with
      | some v => some (v :: vs)
      | none => none
    | _, _ => none

def oneOf : List V → V
  | [v] => v
  | vs => .tup vs

/-- The pure results. -/
def pureRes (v : V) (h : Heap) : Option (List PV) :=
  match v with
  | .tup [_] => none
  | .tup vs => (snapL snapFuel vs h).map (·.1)
  | v => (snap snapFuel v h).map fun r => [r.1]

mutual
def runF (E : Env) : Nat → FuncId → List V → Heap → Option (V × Heap)
  | 0, _, _, _ => none
  | n + 1, f, args, h =>
    match E.func f with
    | some af => if args.length ≤ af.ntmps then
        match execA E (runP E n) (runF E n) n af.body ⟨args ++ List.replicate (af.ntmps - args.length) (.tup []), h⟩ with
        | some (.normal, st) => (resA st af.results).map fun vs => (oneOf vs, st.heap)
        | some (.ret, st) => (resA st af.results).map fun vs => (oneOf vs, st.heap)
        | _ => none
      else none
    | none => none
def runP (E : Env) : Nat → FuncId → List PV → Option (List PV)
  | 0, _, _ => none
  | n + 1, f, ps => match E.ext f ps with
    | some rs => some rs
    | none => match runF E n f (ps.map .pv) [] with
      | some (v, h) => pureRes v h
      | none => none
end

end Ab
