/- The abstract machine's run for the kernel: small steps, written by recursors. -/
import Derived.Test.YtcggaaheaahinaaDoorAbMono
namespace Ab
open Go

/-- Access by the recursor itself. -/
noncomputable def getR {α : Type} (n : Nat) : List α → Option α :=
  Nat.rec (fun l => List.rec none (fun x _ _ => some x) l) (fun _ ih l => List.rec none (fun _ t _ => ih t) l) n

noncomputable def setR {α : Type} (v : α) (n : Nat) : List α → List α :=
  Nat.rec (fun l => List.rec [] (fun _ t _ => v :: t) l) (fun _ ih l => List.rec [] (fun x t _ => x :: ih t) l) n

theorem getR_eq {α : Type} : ∀ (n : Nat) (l : List α), getR n l = l[n]?
  | 0, [] => rfl
  | 0, x :: l => rfl
  | n + 1, [] => rfl
  | n + 1, x :: l => by
    show getR n l = _
    rw [getR_eq n l]; rfl

theorem setR_eq {α : Type} (v : α) : ∀ (n : Nat) (l : List α), setR v n l = l.set n v
  | 0, [] => rfl
  | 0, x :: l => rfl
  | n + 1, [] => rfl
  | n + 1, x :: l => by
    show x :: setR v n l = _
    rw [setR_eq v n l]; rfl

/-- The list is worked out, then handed on. -/
noncomputable def forceR {α β : Type} (l : List α) (k : List α → β) : β :=
  (List.rec (motive := fun _ => (List α → β) → β) (fun k => k []) (fun x _ ih k => ih fun ys => k (x :: ys)) l) k

theorem forceR_eq {α β : Type} : ∀ (l : List α) (k : List α → β), forceR l k = k l
  | [], k => rfl
  | x :: l, k => by
    show forceR l (fun ys => k (x :: ys)) = _
    rw [forceR_eq l]

def forceN {β : Type} (n : Nat) (k : Nat → β) : β := match n with
  | 0 => k 0
  | p + 1 => k (p + 1)

theorem forceN_eq {β : Type} (n : Nat) (k : Nat → β) : forceN n k = k n := by cases n <;> rfl

def forceI {β : Type} (n : Int) (k : Int → β) : β := match n with
  | .ofNat m => forceN m fun m => k (.ofNat m)
  | .negSucc m => forceN m fun m => k (.negSucc m)

theorem forceI_eq {β : Type} (n : Int) (k : Int → β) : forceI n k = k n := by cases n <;> simp [forceI, forceN_eq]

/-- Numbers and truths are worked out. -/
def forceV {β : Type} (v : V) (k : V → β) : β := match v with
  | .pv p => match p with
    | .int kd n => forceI n fun n => k (.pv (.int kd n))
    | .bool b => (match b with | true => k (.pv (.bool true)) | false => k (.pv (.bool false)))
    | p => k (.pv p)
  | v => k v

theorem forceV_eq {β : Type} (v : V) (k : V → β) : forceV v k = k v := by
  cases v with
  | pv p => cases p with
    | int kd n => simp [forceV, forceI_eq]
    | bool b => cases b <;> rfl
    | _ => rfl
  | _ => rfl

noncomputable def evF (ts : List V) (x : AOperand) : Option V := AOperand.rec (fun t => getR t ts) (fun v => some v) x

theorem evF_eq (ts : List V) (x : AOperand) : evF ts x = St.eval ts x := by
  cases x with
  | tmp t => exact getR_eq t ts
  | val v => rfl

def val1 (h : Heap) (f : V → Option V) (x : Option V) : Option (V × Heap) := match x with
  | some x => match f x with
    | some v => some (v, h)
    | none => none
  | none => none

def val2 (h : Heap) (f : V → V → Option V) (x y : Option V) : Option (V × Heap) := match x with
  | some x => match y with
    | some y => match f x y with
      | some v => some (v, h)
      | none => none
    | none => none
  | none => none

/-- An operation: those that are met often by a road of their own. -/
noncomputable def opF (E : Env) (pure : FuncId → List PV → Option (List PV)) (raw : FuncId → List V → Heap → Option (V × Heap)) (ts : List V) (h : Heap) (op : AOp) : Option (V × Heap) :=
  match op with
  | .move x => val1 h some (evF ts x)
  | .load ag size a => val1 h (loadA h ag size) (evF ts a)
  | .bin op ek x y => val2 h (binA op ek) (evF ts x) (evF ts y)
  | .un op x => val1 h (unA op) (evF ts x)
  | .conv c x => val1 h (fun x => convA c x h) (evF ts x)
  | .faddr off x => val1 h (faddrA off) (evF ts x)
  | .field off size ag x => val1 h (partA off size ag) (evF ts x)
  | .iaddrArr len sz x i => val2 h (iaddrArrA len sz) (evF ts x) (evF ts i)
  | .iaddrSl sz x i => val2 h (iaddrSlA sz) (evF ts x) (evF ts i)
  | .idxStr x i => val2 h idxStrA (evF ts x) (evF ts i)
  | .idxArr len sz ag x i => val2 h (idxArrA len sz ag) (evF ts x) (evF ts i)
  | op => opA E pure raw ts h op

theorem val1_eq (h : Heap) (f : V → Option V) (x : Option V) : val1 h f x = (match x with | some x => (f x).map (fun v => (v, h)) | none => none) := by
  unfold val1
  cases x with
  | none => rfl
  | some x => simp only; cases f x <;> rfl

theorem val2_eq (h : Heap) (f : V → V → Option V) (x y : Option V) : val2 h f x y = (match x, y with | some x, some y => (f x y).map (fun v => (v, h)) | _, _ => none) := by
  unfold val2
  cases x with
  | none => rfl
  | some x => cases y with
    | none => rfl
    | some y => simp only; cases f x y <;> rfl

theorem opF_eq (E : Env) (pure : FuncId → List PV → Option (List PV)) (raw : FuncId → List V → Heap → Option (V × Heap)) (ts : List V) (h : Heap) (op : AOp) : opF E pure raw ts h op = opA E pure raw ts h op := by
  cases op <;> simp only [opF, val1_eq, val2_eq, evF_eq, opA]
  case move x => cases St.eval ts x <;> rfl
  all_goals rfl

noncomputable def putF (ts : List V) (dst : Option Nat) (v : V) : List V :=
  match dst with
  | some d => setR v d ts
  | none => ts

theorem putF_eq (ts : List V) (dst : Option Nat) (v : V) : putF ts dst v = putA ts dst v := by
  cases dst with
  | none => rfl
  | some d => exact setR_eq v d ts

noncomputable def wantF (ts : List V) : Option (Nat × Bool) → Option Bool
  | none => some true
  | some (t, want) => match getR t ts with
    | some (.pv (.bool b)) => some (b == want)
    | some (.tup _) => some false
    | _ => none

theorem wantF_eq (ts : List V) (g : Option (Nat × Bool)) : wantF ts g = wantA ts g := by
  unfold wantF wantA
  cases g with
  | none => rfl
  | some p => obtain ⟨t, want⟩ := p; simp only [getR_eq]; rfl

/-- An operation that leaves the heap as it is. -/
def AOp.still : AOp → Bool
  | .move _ | .pick _ _ _ | .bin _ _ _ _ | .un _ _ | .faddr _ _ | .field _ _ _ _ | .iaddrArr _ _ _ _ | .iaddrSl _ _ _ | .idxStr _ _ | .idxArr _ _ _ _ _ | .lenOf _ _ | .lenArr _ | .load _ _ _ | .conv _ _ | .sliceArr _ _ _ _ _ _
  | .nilCheck _ | .sliceStr _ _ _ | .sliceSl _ _ _ _ | .minmax _ _ | .extract _ _ | .mkIface _ _ | .build _ _ | .mkFn _ _ => true
  | _ => false

theorem still_heap {E : Env} {pure : FuncId → List PV → Option (List PV)} {raw : FuncId → List V → Heap → Option (V × Heap)} {ts : List V} {h : Heap} {op : AOp} (hp : op.still = true) {v : V} {h' : Heap} (e : opA E pure raw ts h op = some (v, h')) : h' = h := by
  cases op <;> simp only [AOp.still, Bool.false_eq_true] at hp <;> simp only [opA] at e
  all_goals
    repeat' split at e
    all_goals first
      | (simp only [Option.map_eq_some_iff, Prod.mk.injEq] at e; obtain ⟨_, _, _, rfl⟩ := e; rfl)
      | (cases e; rfl)
      | cases e

noncomputable def fstepA (E : Env) (pure : FuncId → List PV → Option (List PV)) (raw : FuncId → List V → Heap → Option (V × Heap)) (o : AOper) (st : St) : Option St :=
  match wantF st.tmps o.guard with
  | some true => match opF E pure raw st.tmps st.heap o.op with
    | some (v, h) => forceV v fun v => forceR (putF st.tmps o.dst v) fun ts => match o.op.still with
      | true => some ⟨ts, st.heap⟩
      | false => forceR h fun h => some ⟨ts, h⟩
    | none => none
  | some false => forceR (putF st.tmps o.dst (.tup [])) fun ts => some ⟨ts, st.heap⟩
  | none => none

theorem fstepA_eq (E : Env) (pure : FuncId → List PV → Option (List PV)) (raw : FuncId → List V → Heap → Option (V × Heap)) (o : AOper) (st : St) : fstepA E pure raw o st = stepA E pure raw o st := by
  unfold fstepA stepA
  simp only [wantF_eq, opF_eq, putF_eq, forceV_eq, forceR_eq]
  split
  · rename_i hw
    simp only [hw]
    cases ho : opA E pure raw st.tmps st.heap o.op with
    | none => rfl
    | some r =>
      obtain ⟨v, h⟩ := r
      simp only
      cases hs : o.op.still with
      | true => rw [still_heap hs ho]
      | false => rfl
  · rename_i hw; simp only [hw]
  · rename_i hw; simp only [hw]

noncomputable def fstepsA (E : Env) (pure : FuncId → List PV → Option (List PV)) (raw : FuncId → List V → Heap → Option (V × Heap)) : List AOper → St → Option St :=
  List.rec (fun st => some st) (fun o _ ih st => match fstepA E pure raw o st with
    | some st => ih st
    | none => none)

theorem fstepsA_eq (E : Env) (pure : FuncId → List PV → Option (List PV)) (raw : FuncId → List V → Heap → Option (V × Heap)) : ∀ (os : List AOper) (st : St), fstepsA E pure raw os st = stepsA E pure raw os st
  | [], st => rfl
  | o :: os, st => by
    show (match fstepA E pure raw o st with | some st => fstepsA E pure raw os st | none => none) = _
    rw [fstepA_eq]
    simp only [stepsA]
    cases stepA E pure raw o st with
    | none => rfl
    | some st => exact fstepsA_eq E pure raw os st

noncomputable def mem (i : Nat) : List Nat → Bool := List.rec false fun x _ ih => match Nat.beq i x with
  | true => true
  | false => ih

theorem mem_eq (i : Nat) : ∀ (F : List Nat), mem i F = F.contains i
  | [] => rfl
  | x :: F => by
    show (match Nat.beq i x with | true => true | false => mem i F) = _
    rw [mem_eq i F]
    cases h : Nat.beq i x with
    | true => have := Nat.eq_of_beq_eq_true h; subst this; simp
    | false =>
      have : i ≠ x := by intro e; subst e; simp at h
      simp [this]

noncomputable def maskF (F : List Nat) (h : Heap) : Nat → Heap :=
  List.rec (fun _ => []) (fun e _ ih i => (match mem i F with | true => e | false => .dead) :: ih (i + 1)) h

theorem maskF_eq (F : List Nat) : ∀ (h : Heap) (i : Nat), maskF F h i = h.mapIdx fun j e => if F.contains (i + j) then e else .dead
  | [], i => rfl
  | e :: h, i => by
    show (match mem i F with | true => e | false => Ent.dead) :: maskF F h (i + 1) = _
    rw [maskF_eq F h, mem_eq, List.mapIdx_cons]
    simp only [Nat.add_zero]
    congr 1
    · cases F.contains i <;> rfl
    · congr 1; funext j e'; rw [Nat.add_assoc, Nat.add_comm 1 j]

theorem maskF_mask (F : List Nat) (h : Heap) : maskF F h 0 = mask F h := by
  rw [maskF_eq]; simp [mask]

noncomputable def mergeF (F : List Nat) (h' : Heap) : Nat → Heap → Heap :=
  List.rec (fun _ _ => []) (fun e' _ ih i hs => match hs with
    | [] => e' :: ih (i + 1) []
    | e :: hs => (match mem i F with | true => e' | false => e) :: ih (i + 1) hs) h'

theorem mergeF_eq (F : List Nat) : ∀ (h' : Heap) (i : Nat) (hs : Heap), mergeF F h' i hs = h'.mapIdx fun j e => if F.contains (i + j) || decide (hs.length ≤ j) then e else ent hs j
  | [], i, hs => rfl
  | e' :: h', i, [] => by
    show e' :: mergeF F h' (i + 1) [] = _
    rw [mergeF_eq F h', List.mapIdx_cons]
    simp
  | e' :: h', i, e :: hs => by
    show (match mem i F with | true => e' | false => e) :: mergeF F h' (i + 1) hs = _
    rw [mergeF_eq F h', mem_eq, List.mapIdx_cons]
    congr 1
    · simp only [Nat.add_zero, List.length_cons, ent]
      cases F.contains i <;> simp
    · congr 1; funext j e2
      rw [Nat.add_assoc, Nat.add_comm 1 j]
      simp [ent]

theorem mergeF_merge (F : List Nat) (h h' : Heap) : mergeF F h' 0 h = merge F h h' := by
  rw [mergeF_eq]; simp [merge]

def AOp.plain : AOp → Bool
  | .move _ | .pick _ _ _ | .bin _ _ _ _ | .un _ _ | .faddr _ _ | .field _ _ _ _ | .iaddrArr _ _ _ _ | .iaddrSl _ _ _ | .idxStr _ _ | .idxArr _ _ _ _ _ | .lenOf _ _ | .lenArr _ => true
  | _ => false

theorem plain_opA {E : Env} {pure : FuncId → List PV → Option (List PV)} {raw : FuncId → List V → Heap → Option (V × Heap)} {ts : List V} {op : AOp} (hp : op.plain = true) (h h2 : Heap) :
    opA E pure raw ts h op = (opA E pure raw ts h2 op).map fun r => (r.1, h) := by
  cases op <;> simp only [AOp.plain, Bool.false_eq_true] at hp <;> simp only [opA]
  all_goals
    repeat' split
    all_goals first
      | rfl
      | (simp; done)
      | (rw [Option.map_map]; rfl)

theorem plain_foot {ts : List V} {h : Heap} {op : AOp} (hp : op.plain = true) : foot ts h op = [] := by
  cases op <;> simp only [AOp.plain, Bool.false_eq_true] at hp <;> rfl

theorem merge_self (F : List Nat) (h : Heap) : merge F h (mask F h) = h := by
  apply List.ext_getElem?
  intro i
  simp only [merge, mask, List.getElem?_mapIdx, Option.map_map]
  cases hi : h[i]? with
  | none => rfl
  | some e =>
    have hlt := (List.getElem?_eq_some_iff.1 hi).1
    simp only [Option.map_some, Function.comp, ent, hi, Option.getD_some, Option.some.injEq]
    cases F.contains i <;> simp
    omega

theorem turned_none (op : AOp) (h : Heap) : turned op [] h (mask [] h) = [] := by
  unfold turned
  have : (mask [] h).length = h.length := by simp [mask]
  rw [this, Nat.sub_self]
  split
  · rfl
  · split <;> rfl

theorem merge_none (h : Heap) : merge [] h (mask [] h) = h := merge_self [] h

theorem mask_length' {F : List Nat} {h : Heap} : (mask F h).length = h.length := by simp [mask]

noncomputable def fstepM (E : Env) (pure : FuncId → List PV → Option (List PV)) (raw : FuncId → List V → Heap → Option (V × Heap)) (o : AOper) (st : St) : Option (St × Log) :=
  match wantF st.tmps o.guard with
  | some true => match o.op.plain with
    | true => match opF E pure raw st.tmps st.heap o.op with
      | some (v, _) => forceV v fun v => forceR (putF st.tmps o.dst v) fun ts => some (⟨ts, st.heap⟩, ⟨(match o.guard with | some (t, _) => [t] | none => []) ++ o.op.reads, o.dst, [], []⟩)
      | none => none
    | false => forceR (foot st.tmps st.heap o.op) fun F =>
      match opF E pure raw st.tmps (maskF F st.heap 0) o.op with
      | some (v, h) => match o.op.still with
        | true => forceV v fun v => forceR (putF st.tmps o.dst v) fun ts => some (⟨ts, st.heap⟩, ⟨(match o.guard with | some (t, _) => [t] | none => []) ++ o.op.reads, o.dst, F, turned o.op F st.heap h⟩)
        | false => forceR h fun h => match Nat.ble st.heap.length h.length with
          | true => forceV v fun v => forceR (putF st.tmps o.dst v) fun ts => forceR (mergeF F h 0 st.heap) fun h' => some (⟨ts, h'⟩, ⟨(match o.guard with | some (t, _) => [t] | none => []) ++ o.op.reads, o.dst, F ++ List.range' st.heap.length (h.length - st.heap.length), turned o.op F st.heap h⟩)
          | false => none
      | none => none
  | some false => forceR (putF st.tmps o.dst (.tup [])) fun ts => some (⟨ts, st.heap⟩, ⟨(match o.guard with | some (t, _) => [t] | none => []), o.dst, [], []⟩)
  | none => none

theorem fstepM_eq (E : Env) (pure : FuncId → List PV → Option (List PV)) (raw : FuncId → List V → Heap → Option (V × Heap)) (o : AOper) (st : St) : fstepM E pure raw o st = stepM E pure raw o st := by
  unfold fstepM stepM
  simp only [wantF_eq, opF_eq, putF_eq, forceV_eq, forceR_eq, maskF_mask, mergeF_merge]
  split
  · rename_i hw
    simp only [hw]
    cases hp : o.op.plain with
    | true =>
      simp only [plain_foot hp]
      rw [plain_opA hp (mask [] st.heap) st.heap]
      cases opA E pure raw st.tmps st.heap o.op with
      | none => rfl
      | some r =>
        simp only [Option.map_some, mask_length', Nat.le_refl, if_true, merge_none, Nat.sub_self, List.range'_zero, List.append_nil, turned_none]
        rfl
    | false =>
      simp only
      cases ho : opA E pure raw st.tmps (mask (foot st.tmps st.heap o.op) st.heap) o.op with
      | none => rfl
      | some r =>
        obtain ⟨v, h⟩ := r
        simp only
        cases hs : o.op.still with
        | true =>
          have := still_heap hs ho
          subst this
          simp only [mask_length', Nat.le_refl, if_true, merge_self, Nat.sub_self, List.range'_zero, List.append_nil]
          rfl
        | false =>
        simp only
        by_cases hle : st.heap.length ≤ h.length
        · rw [if_pos hle, Nat.ble_eq_true_of_le hle]
          rfl
        · rw [if_neg hle]
          have : Nat.ble st.heap.length h.length = false := by
            cases hb : Nat.ble st.heap.length h.length with
            | true => exact absurd (Nat.le_of_ble_eq_true hb) hle
            | false => rfl
          rw [this]
  · rename_i hw; simp only [hw]; rfl
  · rename_i hw; simp only [hw]

noncomputable def fstepsM (E : Env) (pure : FuncId → List PV → Option (List PV)) (raw : FuncId → List V → Heap → Option (V × Heap)) : List AOper → St → Option (St × List Log) :=
  List.rec (fun st => some (st, [])) (fun o _ ih st => match fstepM E pure raw o st with
    | some (st, l) => match ih st with
      | some (st, ls) => some (st, l :: ls)
      | none => none
    | none => none)

theorem fstepsM_eq (E : Env) (pure : FuncId → List PV → Option (List PV)) (raw : FuncId → List V → Heap → Option (V × Heap)) : ∀ (os : List AOper) (st : St), fstepsM E pure raw os st = stepsM E pure raw os st
  | [], st => rfl
  | o :: os, st => by
    show (match fstepM E pure raw o st with | some (st, l) => (match fstepsM E pure raw os st with | some (st, ls) => some (st, l :: ls) | none => none) | none => none) = _
    rw [fstepM_eq]
    simp only [stepsM]
    cases stepM E pure raw o st with
    | none => rfl
    | some r =>
      obtain ⟨st, l⟩ := r
      simp only
      rw [fstepsM_eq E pure raw os st]
      rfl

noncomputable def fregionA (E : Env) (pure : FuncId → List PV → Option (List PV)) (raw : FuncId → List V → Heap → Option (V × Heap)) (ops : List AOper) (draw : Bool) (st : St) : Option St :=
  match draw with
  | true => match fstepsM E pure raw ops st with
    | some (st, ls) => match ordered ops 0 && pairsOk (ancs ops []) ls with
      | true => some st
      | false => none
    | none => none
  | false => fstepsA E pure raw ops st

theorem fregionA_eq (E : Env) (pure : FuncId → List PV → Option (List PV)) (raw : FuncId → List V → Heap → Option (V × Heap)) (ops : List AOper) (draw : Bool) (st : St) : fregionA E pure raw ops draw st = regionA E pure raw ops draw st := by
  unfold fregionA regionA
  rw [fstepsA_eq, fstepsM_eq]
  cases draw with
  | false => rfl
  | true =>
    simp only [if_true]
    cases stepsM E pure raw ops st with
    | none => rfl
    | some r =>
      simp only
      cases ordered ops 0 && pairsOk (ancs ops []) r.2 <;> rfl

noncomputable def fexecA (E : Env) (pure : FuncId → List PV → Option (List PV)) (raw : FuncId → List V → Heap → Option (V × Heap)) (n : Nat) : ACode → St → Option (AExit × St)
  | .skip, st => some (.normal, st)
  | .region ops draw, st => match fregionA E pure raw ops draw st with
    | some st => some (.normal, st)
    | none => none
  | .seq a b, st => match fexecA E pure raw n a st with
    | some (.normal, st) => fexecA E pure raw n b st
    | r => r
  | .cond c a b, st => match evF st.tmps c with
    | some (.pv (.bool t)) => match t with
      | true => fexecA E pure raw n a st
      | false => fexecA E pure raw n b st
    | _ => none
  | .block id b, st => match fexecA E pure raw n b st with
    | some (.exit id', st) => match Nat.beq id' id with
      | true => some (.normal, st)
      | false => some (.exit id', st)
    | r => r
  | .loop b, st => loopA (fexecA E pure raw n b) n st
  | .exit id, st => some (.exit id, st)
  | .ret, st => some (.ret, st)
  | .bad, _ => none

theorem fexecA_eq (E : Env) (pure : FuncId → List PV → Option (List PV)) (raw : FuncId → List V → Heap → Option (V × Heap)) (n : Nat) : ∀ (c : ACode), fexecA E pure raw n c = execA E pure raw n c := by
  intro c
  induction c with
  | region ops draw => funext st; simp only [fexecA, execA, fregionA_eq]; rfl
  | seq a b iha ihb => funext st; simp only [fexecA, execA, iha, ihb]; rfl
  | cond c a b iha ihb =>
    funext st
    simp only [fexecA, execA, iha, ihb, evF_eq]
    split
    · rename_i t ht; simp only [ht]; cases t <;> rfl
    · rename_i hne
      split
      · rename_i t ht; exact absurd ht (hne t)
      · rfl
  | block id b ih =>
    funext st
    simp only [fexecA, execA, ih]
    split
    · rename_i id' st' h
      simp only [h]
      by_cases e : id' = id
      · subst e; simp
      · rw [if_neg e]
        have : Nat.beq id' id = false := by
          cases hb : Nat.beq id' id with
          | true => exact absurd (Nat.eq_of_beq_eq_true hb) e
          | false => rfl
        rw [this]
    · rename_i hne
      split
      · rename_i id' st' h; exact absurd h (hne id' st')
      · rfl
  | loop b ih => funext st; simp only [fexecA, execA, ih]
  | _ => rfl

/-- A call's depth: the runs one level down. -/
structure Runs where
  p : FuncId → List PV → Option (List PV)
  r : FuncId → List V → Heap → Option (V × Heap)

noncomputable def fcode (E : Env) (n : Nat) (ih : Runs) (f : FuncId) (args : List V) (h : Heap) : Option (V × Heap) :=
  match E.func f with
  | some af => match Nat.ble args.length af.ntmps with
    | true => forceR (args ++ List.replicate (af.ntmps - args.length) (.tup [])) fun ts => forceR h fun h => match fexecA E ih.p ih.r n af.body ⟨ts, h⟩ with
      | some (.normal, st) => (resA st af.results).map fun vs => (oneOf vs, st.heap)
      | some (.ret, st) => (resA st af.results).map fun vs => (oneOf vs, st.heap)
      | _ => none
    | false => none
  | none => none

noncomputable def fpure (E : Env) (ih : Runs) (f : FuncId) (ps : List PV) : Option (List PV) :=
  match E.ext f ps with
  | some rs => some rs
  | none => match ih.r f (ps.map .pv) [] with
    | some (v, h) => pureRes v h
    | none => none

noncomputable def frun (E : Env) (n : Nat) : Runs :=
  Nat.rec ⟨fun _ _ => none, fun _ _ _ => none⟩ (fun n ih => ⟨fpure E ih, fcode E n ih⟩) n

theorem frun_eq (E : Env) : ∀ n, frun E n = ⟨runP E n, runF E n⟩
  | 0 => by
    show Runs.mk (fun _ _ => none) (fun _ _ _ => none) = _
    congr 1
  | n + 1 => by
    have ih := frun_eq E n
    show Runs.mk (fpure E (frun E n)) (fcode E n (frun E n)) = _
    rw [ih]
    have e1 : fpure E ⟨runP E n, runF E n⟩ = runP E (n + 1) := by
      funext f ps
      simp only [fpure, runP]
      rfl
    have e2 : fcode E n ⟨runP E n, runF E n⟩ = runF E (n + 1) := by
      funext f args h
      simp only [fcode, runF, forceR_eq, fexecA_eq]
      cases E.func f with
      | none => rfl
      | some af =>
        simp only
        by_cases hle : args.length ≤ af.ntmps
        · rw [if_pos hle, Nat.ble_eq_true_of_le hle]
          rfl
        · rw [if_neg hle]
          have : Nat.ble args.length af.ntmps = false := by
            cases hb : Nat.ble args.length af.ntmps with
            | true => exact absurd (Nat.le_of_ble_eq_true hb) hle
            | false => rfl
          rw [this]
    rw [e1, e2]

theorem frun_p {E : Env} {n : Nat} {f : FuncId} {ps rs : List PV} (h : (frun E n).p f ps = some rs) : runP E n f ps = some rs := by
  rw [frun_eq] at h; exact h

/-- A table by numbers. -/
def assoc : List (Nat × AFunc) → Nat → Option AFunc
  | [], _ => none
  | (i, c) :: l, f => match Nat.beq i f with
    | true => some c
    | false => assoc l f

end Ab
