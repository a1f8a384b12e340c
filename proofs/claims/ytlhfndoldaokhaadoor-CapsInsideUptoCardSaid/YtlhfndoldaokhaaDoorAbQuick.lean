/- AbQuick: steps, walks, laws: see the remarks within. -/
import Derived.Test.YtlhfndoldaokhaaDoorAbStep
set_option linter.unusedSimpArgs false
set_option linter.unusedVariables false
-- Quick walks: temporaries as a function that is not looked into; an operation is run on its operands' values.
namespace Ab
open Go

/-- n temporaries. -/
def TL (n : Nat) (f : Nat → V) : List V := (List.range n).map f
/-- One is written. -/
def upd (f : Nat → V) (d : Option Nat) (v : V) : Nat → V := match d with
  | some d => fun i => if i = d then v else f i
  | none => f
def argF (l : List V) : Nat → V := fun i => (l[i]?).getD (.tup [])

/-- A name for temporaries, that steps carry: what it names stays unread. -/
structure Fk (f : Nat → V) : Type where
def fk {f : Nat → V} (_ : Fk f) (i : Nat) : V := f i
theorem fk_some {f : Nat → V} {d : Nat} {v : V} {i : Nat} : fk (Fk.mk (f := upd f (some d) v)) i = if i = d then v else fk (Fk.mk (f := f)) i := rfl
theorem fk_none {f : Nat → V} {v : V} {i : Nat} : fk (Fk.mk (f := upd f none v)) i = fk (Fk.mk (f := f)) i := rfl
theorem fk_arg0 {l : List V} {v : V} : fk (Fk.mk (f := argF (v :: l))) 0 = v := rfl
theorem fk_argS {l : List V} {v : V} {i : Nat} : fk (Fk.mk (f := argF (v :: l))) (i + 1) = fk (Fk.mk (f := argF l)) i := rfl
theorem fk_argN {i : Nat} : fk (Fk.mk (f := argF [])) i = .tup [] := rfl
theorem fk_map0 {l : List PV} {v : PV} : fk (Fk.mk (f := argF ((v :: l).map V.pv))) 0 = .pv v := rfl
theorem fk_mapS {l : List PV} {v : PV} {i : Nat} : fk (Fk.mk (f := argF ((v :: l).map V.pv))) (i + 1) = fk (Fk.mk (f := argF (l.map V.pv))) i := rfl
theorem fk_mapN {i : Nat} : fk (Fk.mk (f := argF (([] : List PV).map V.pv))) i = .tup [] := rfl

theorem TL_get {n : Nat} {f : Nat → V} {i : Nat} : (TL n f)[i]? = if i < n then some (f i) else none := by
  simp only [TL, List.getElem?_map]
  by_cases h : i < n
  · rw [List.getElem?_range h, if_pos h]; rfl
  · rw [List.getElem?_eq_none (by simpa using h), if_neg h]; rfl
theorem TL_set {n : Nat} {f : Nat → V} {d : Option Nat} {v : V} : putA (TL n f) d v = TL n (upd f d v) := by
  cases d with
  | none => rfl
  | some d =>
    refine List.ext_getElem? fun i => ?_
    simp only [putA, List.getElem?_set, TL_get, upd]
    by_cases h : d = i
    · subst h; simp [TL]
    · have : ¬ i = d := fun h' => h h'.symm
      simp [h, this]
theorem TL_arg {n : Nat} {l : List V} (hl : l.length ≤ n) : l ++ List.replicate (n - l.length) (.tup []) = TL n (argF l) := by
  refine List.ext_getElem? fun i => ?_
  rw [TL_get, List.getElem?_append, List.getElem?_replicate]
  by_cases h : i < l.length
  · rw [if_pos h, if_pos (by omega)]; simp [argF, h]
  · rw [if_neg h]
    by_cases h2 : i < n
    · rw [if_pos (by omega), if_pos h2]; simp [argF, List.getElem?_eq_none (Nat.le_of_not_lt h)]
    · rw [if_neg (by omega), if_neg h2]

section
variable {f : Nat → V}
/-- Operands by their values. -/
def subO (t : Fk f) : AOperand → AOperand
  | .tmp i => .val (fk t i)
  | .val v => .val v
def subL (t : Fk f) : List AOperand → List AOperand
  | [] => []
  | x :: xs => subO t x :: subL t xs
def subM (t : Fk f) : Option AOperand → Option AOperand
  | some x => some (subO t x)
  | none => none
def sub3 (t : Fk f) : List (Nat × Nat × AOperand) → List (Nat × Nat × AOperand)
  | [] => []
  | (a, b, x) :: xs => (a, b, subO t x) :: sub3 t xs
def sub2 (t : Fk f) : List (Nat × AOperand) → List (Nat × AOperand)
  | [] => []
  | (a, x) :: xs => (a, subO t x) :: sub2 t xs
def sub (t : Fk f) : AOp → AOp
  | .move x => .move (subO t x)
  | .pick c a b => .pick (subO t c) (subO t a) (subO t b)
  | .new ty z => .new ty z
  | .box x => .box (subO t x)
  | .load ag s a => .load ag s (subO t a)
  | .store s a x => .store s (subO t a) (subO t x)
  | .nilCheck x => .nilCheck (subO t x)
  | .bin o k x y => .bin o k (subO t x) (subO t y)
  | .un o x => .un o (subO t x)
  | .conv c x => .conv c (subO t x)
  | .mkFn g cs => .mkFn g (subL t cs)
  | .mkSlice ag z b l c => .mkSlice ag z b (subO t l) (subO t c)
  | .sliceStr x lo hi => .sliceStr (subO t x) (subM t lo) (subM t hi)
  | .sliceSl s x lo hi => .sliceSl s (subO t x) (subM t lo) (subM t hi)
  | .sliceArr s n ag x lo hi => .sliceArr s n ag (subO t x) (subM t lo) (subM t hi)
  | .faddr o x => .faddr o (subO t x)
  | .field o s ag x => .field o s ag (subO t x)
  | .iaddrArr l s x i => .iaddrArr l s (subO t x) (subO t i)
  | .iaddrSl s x i => .iaddrSl s (subO t x) (subO t i)
  | .idxStr x i => .idxStr (subO t x) (subO t i)
  | .idxArr l s ag x i => .idxArr l s ag (subO t x) (subO t i)
  | .build z ps => .build z (sub3 t ps)
  | .buildSl ag mu s z l ps => .buildSl ag mu s z l (sub2 t ps)
  | .lenOf st x => .lenOf st (subO t x)
  | .lenArr n => .lenArr n
  | .append ag mu s b te x y => .append ag mu s b te (subO t x) (subO t y)
  | .copy s x y => .copy s (subO t x) (subO t y)
  | .minmax mx xs => .minmax mx (subL t xs)
  | .call g xs => .call g (subL t xs)
  | .callv g xs => .callv (subO t g) (subL t xs)
  | .extract x i => .extract (subO t x) i
  | .mkIface ty x => .mkIface ty (subO t x)
  | .mark x => .mark (subO t x)
  | .special k xs => .special k (subL t xs)

/-- All temporaries that are read are there. -/
def belowO (n : Nat) : AOperand → Bool
  | .tmp i => Nat.blt i n
  | .val _ => true
def below (n : Nat) : List Nat → Bool
  | [] => true
  | i :: l => Nat.blt i n && below n l
variable {n : Nat}

theorem below_app {a b : List Nat} : below n (a ++ b) = (below n a && below n b) := by
  induction a with
  | nil => simp [below]
  | cons x a ih => simp [below, ih, Bool.and_assoc]
theorem ev_sub {x : AOperand} (h : below n x.reads = true) : St.eval (TL n f) x = St.eval [] (subO (Fk.mk (f := f)) x) := by
  cases x with
  | tmp i =>
    simp only [AOperand.reads, below, Bool.and_true] at h
    have : i < n := by simpa using h
    simp [St.eval, subO, TL_get, this, fk]
  | val v => rfl
theorem evals_sub : ∀ {xs : List AOperand}, below n (readsL xs) = true → evals (TL n f) xs = evals [] (subL (Fk.mk (f := f)) xs)
  | [], _ => rfl
  | x :: xs, h => by
    simp only [readsL, List.flatMap_cons, below_app, Bool.and_eq_true] at h
    simp only [evals, subL, ev_sub h.1, evals_sub h.2]
theorem sub3_map (t : Fk f) : ∀ ps, (sub3 t ps).map (·.2.2) = subL t (ps.map (·.2.2))
  | [] => rfl
  | (a, b, x) :: ps => by simp [sub3, subL, sub3_map t ps]
theorem sub2_map (t : Fk f) : ∀ ps, (sub2 t ps).map (·.2) = subL t (ps.map (·.2))
  | [] => rfl
  | (a, x) :: ps => by simp [sub2, subL, sub2_map t ps]
theorem sub3_zip (t : Fk f) : ∀ (ps : List (Nat × Nat × AOperand)) (vs : List V), (((sub3 t ps).zip vs).map fun (p, v) => (p.1, p.2.1, v)) = ((ps.zip vs).map fun (p, v) => (p.1, p.2.1, v))
  | [], _ => rfl
  | (a, b, x) :: ps, [] => rfl
  | (a, b, x) :: ps, v :: vs => by simp only [sub3, List.zip_cons_cons, List.map_cons, sub3_zip t ps vs]
theorem sub2_zip (t : Fk f) (sz : Nat) : ∀ (ps : List (Nat × AOperand)) (vs : List V), (((sub2 t ps).zip vs).map fun (p, v) => (p.1 * sz, sz, v)) = ((ps.zip vs).map fun (p, v) => (p.1 * sz, sz, v))
  | [], _ => rfl
  | (a, x) :: ps, [] => rfl
  | (a, x) :: ps, v :: vs => by simp only [sub2, List.zip_cons_cons, List.map_cons, sub2_zip t sz ps vs]

variable {E : Env} {p : FuncId → List PV → Option (List PV)} {r : FuncId → List V → Heap → Option (V × Heap)} {h : Heap}

theorem opA_sub {op : AOp} (hb : below n op.reads = true) : opA E p r (TL n f) h op = opA E p r [] h (sub (Fk.mk (f := f)) op) := by
  cases op
  case sliceStr x lo hi =>
    cases lo <;> cases hi <;> simp only [AOp.reads, readsO, below_app, Bool.and_eq_true, below, List.append_nil] at hb <;> simp only [opA, sub, subM, ev_sub, evals_sub, hb]
  case sliceSl s x lo hi =>
    cases lo <;> cases hi <;> simp only [AOp.reads, readsO, below_app, Bool.and_eq_true, below, List.append_nil] at hb <;> simp only [opA, sub, subM, ev_sub, evals_sub, hb]
  case sliceArr s k ag x lo hi =>
    cases lo <;> cases hi <;> simp only [AOp.reads, readsO, below_app, Bool.and_eq_true, below, List.append_nil] at hb <;> simp only [opA, sub, subM, ev_sub, evals_sub, hb]
  case build z ps =>
    simp only [AOp.reads] at hb
    simp only [opA, sub, evals_sub hb, sub3_map, sub3_zip]
  case buildSl ag mu s z l ps =>
    simp only [AOp.reads] at hb
    simp only [opA, sub, evals_sub hb, sub2_map, sub2_zip]
  all_goals
    simp only [AOp.reads, below_app, Bool.and_eq_true] at hb
    simp only [opA, sub, ev_sub, evals_sub, hb]

theorem oIds_sub {x : AOperand} (hb : below n x.reads = true) : oIds (TL n f) x = oIds [] (subO (Fk.mk (f := f)) x) := by simp only [oIds, ev_sub hb]
theorem oIdsL_sub : ∀ {xs : List AOperand}, below n (readsL xs) = true → xs.flatMap (oIds (TL n f)) = (subL (Fk.mk (f := f)) xs).flatMap (oIds [])
  | [], _ => rfl
  | x :: xs, h => by
    simp only [readsL, List.flatMap_cons, below_app, Bool.and_eq_true] at h
    simp only [List.flatMap_cons, subL, oIds_sub h.1, oIdsL_sub h.2]
theorem foot_sub {op : AOp} (hb : below n op.reads = true) : foot (TL n f) h op = foot [] h (sub (Fk.mk (f := f)) op) := by
  cases op
  all_goals
    simp only [AOp.reads, below_app, Bool.and_eq_true] at hb
    simp only [foot, sub, oIds_sub, oIdsL_sub, hb]

/-- What a function's end tells. -/
def resS (t : Fk f) (h : Heap) : List AResult → Option (List V)
  | [] => some []
  | .tmp i :: rs => match resS t h rs with
    | some vs => some (fk t i :: vs)
    | none => none
  | .cell i ag size :: rs => match resS t h rs with
    | some vs => match loadA h ag size (fk t i) with
      | some v => some (v :: vs)
      | none => none
    | none => none
def belowR (n : Nat) : List AResult → Bool
  | [] => true
  | .tmp i :: rs => Nat.blt i n && belowR n rs
  | .cell i _ _ :: rs => Nat.blt i n && belowR n rs
theorem res_sub : ∀ {rs : List AResult}, belowR n rs = true → resA ⟨TL n f, h⟩ rs = resS (Fk.mk (f := f)) h rs
  | [], _ => rfl
  | .tmp i :: rs, hb => by
    simp only [belowR, Bool.and_eq_true] at hb
    have : i < n := by simpa using hb.1
    simp only [resA, TL_get, if_pos this, resS, res_sub hb.2, fk]
    cases resS (Fk.mk (f := f)) h rs <;> rfl
  | .cell i ag size :: rs, hb => by
    simp only [belowR, Bool.and_eq_true] at hb
    have : i < n := by simpa using hb.1
    simp only [resA, TL_get, if_pos this, resS, res_sub hb.2, fk]
    cases resS (Fk.mk (f := f)) h rs <;> rfl
end

section
variable {E : Env} {n : Nat} {f : Nat → V} {h h' h1 h2 : Heap} {Q : AExit → St → Prop} {rest : ACode} {d : Option Nat} {op vop : AOp} {af : List Nat} {os : List AOper} {cs : List Bool}

theorem X.stepQ (hb : below n op.reads = true) {v : V} (s : sub (Fk.mk (f := f)) op = vop) (e : opA E (limP E) (limR E) [] h vop = some (v, h')) (k : X E (.seq (.region os false) rest) ⟨TL n (upd f d v), h'⟩ Q) :
    X E (.seq (.region (⟨d, op, none, af⟩ :: os) false) rest) ⟨TL n f, h⟩ Q :=
  X.step (by rw [opA_sub hb, s]; exact e) TL_set k

theorem wantQ {t : Nat} (ht : Nat.blt t n = true) : (TL n f)[t]? = some (fk (Fk.mk (f := f)) t) := by
  rw [TL_get, if_pos (by simpa using ht)]; rfl

theorem X.stepGtQ {t : Nat} (ht : Nat.blt t n = true) {c : Bool} (e : fk (Fk.mk (f := f)) t = .pv (.bool c)) (k1 : c = true → X E (.seq (.region (⟨d, op, none, af⟩ :: os) false) rest) ⟨TL n f, h⟩ Q)
    (k2 : c = false → X E (.seq (.region os false) rest) ⟨TL n (upd f d (.tup [])), h⟩ Q) : X E (.seq (.region (⟨d, op, some (t, true), af⟩ :: os) false) rest) ⟨TL n f, h⟩ Q := X.stepGt (by rw [wantQ ht, e]) TL_set k1 k2
theorem X.stepGfQ {t : Nat} (ht : Nat.blt t n = true) {c : Bool} (e : fk (Fk.mk (f := f)) t = .pv (.bool c)) (k1 : c = false → X E (.seq (.region (⟨d, op, none, af⟩ :: os) false) rest) ⟨TL n f, h⟩ Q)
    (k2 : c = true → X E (.seq (.region os false) rest) ⟨TL n (upd f d (.tup [])), h⟩ Q) : X E (.seq (.region (⟨d, op, some (t, false), af⟩ :: os) false) rest) ⟨TL n f, h⟩ Q := X.stepGf (by rw [wantQ ht, e]) TL_set k1 k2
theorem X.stepNQ {t : Nat} (ht : Nat.blt t n = true) {b : Bool} {l : List V} (e : fk (Fk.mk (f := f)) t = .tup l) (k : X E (.seq (.region os false) rest) ⟨TL n (upd f d (.tup [])), h⟩ Q) :
    X E (.seq (.region (⟨d, op, some (t, b), af⟩ :: os) false) rest) ⟨TL n f, h⟩ Q := X.stepN (by rw [wantQ ht, e]) TL_set k

theorem X.condQ {c : AOperand} {a b : ACode} (hb : below n c.reads = true) {t : Bool} (s : subO (Fk.mk (f := f)) c = .val (.pv (.bool t))) (h1 : t = true → X E (app a rest) ⟨TL n f, h⟩ Q) (h2 : t = false → X E (app b rest) ⟨TL n f, h⟩ Q) :
    X E (.seq (.cond c a b) rest) ⟨TL n f, h⟩ Q := X.condS (by rw [ev_sub hb, s]; rfl) h1 h2

theorem XD.calmQ {v : V} (hk : calmK op = true) (hb : below n op.reads = true) (s : sub (Fk.mk (f := f)) op = vop) (e : opA E (limP E) (limR E) [] h vop = some (v, h1)) (k : XD E os cs rest ⟨TL n (upd f d v), h⟩ Q) :
    XD E (⟨d, op, none, af⟩ :: os) (true :: cs) rest ⟨TL n f, h⟩ Q := XD.calm hk (by rw [opA_sub hb, s]; exact e) TL_set k
theorem XD.callQ {g : FuncId} {args : List AOperand} {vs : List V} {ps rs : List PV} (hb : below n (readsL args) = true) (e : evals [] (subL (Fk.mk (f := f)) args) = some vs) (e0 : pures vs = some ps) (hr : E.raw g = false) (hl : limP E g ps = some rs)
    (k : XD E os cs rest ⟨TL n (upd f d (mkRes rs)), h⟩ Q) : XD E (⟨d, .call g args, none, af⟩ :: os) (true :: cs) rest ⟨TL n f, h⟩ Q := XD.call (by rw [evals_sub hb]; exact e) e0 hr hl TL_set k
theorem XD.loudQ {v : V} {F : List Nat} (hb : below n op.reads = true) (s : sub (Fk.mk (f := f)) op = vop) (hF : foot [] h vop = F) (e : opA E (limP E) (limR E) [] (mask F h) vop = some (v, h1)) (hlen : h.length ≤ h1.length) (hm : merge F h h1 = h2)
    (k : XD E os cs rest ⟨TL n (upd f d v), h2⟩ Q) : XD E (⟨d, op, none, af⟩ :: os) (false :: cs) rest ⟨TL n f, h⟩ Q := by
  have hf : foot (TL n f) h op = F := by rw [foot_sub hb, s, hF]
  exact XD.loud (by rw [hf, opA_sub hb, s]; exact e) hlen (by rw [hf]; exact hm) TL_set k
theorem XD.stepNQ {t : Nat} (ht : Nat.blt t n = true) {b c : Bool} {l : List V} (e : fk (Fk.mk (f := f)) t = .tup l) (k : XD E os cs rest ⟨TL n (upd f d (.tup [])), h⟩ Q) :
    XD E (⟨d, op, some (t, b), af⟩ :: os) (c :: cs) rest ⟨TL n f, h⟩ Q := XD.stepN (by rw [wantQ ht, e]) TL_set k
theorem XD.stepGtQ {t : Nat} (ht : Nat.blt t n = true) {b' c : Bool} (e : fk (Fk.mk (f := f)) t = .pv (.bool b')) (k1 : b' = true → XD E (⟨d, op, none, af⟩ :: os) (c :: cs) rest ⟨TL n f, h⟩ Q)
    (k2 : b' = false → XD E os cs rest ⟨TL n (upd f d (.tup [])), h⟩ Q) : XD E (⟨d, op, some (t, true), af⟩ :: os) (c :: cs) rest ⟨TL n f, h⟩ Q := XD.stepGt (by rw [wantQ ht, e]) TL_set k1 k2
theorem XD.stepGfQ {t : Nat} (ht : Nat.blt t n = true) {b' c : Bool} (e : fk (Fk.mk (f := f)) t = .pv (.bool b')) (k1 : b' = false → XD E (⟨d, op, none, af⟩ :: os) (c :: cs) rest ⟨TL n f, h⟩ Q)
    (k2 : b' = true → XD E os cs rest ⟨TL n (upd f d (.tup [])), h⟩ Q) : XD E (⟨d, op, some (t, false), af⟩ :: os) (c :: cs) rest ⟨TL n f, h⟩ Q := XD.stepGf (by rw [wantQ ht, e]) TL_set k1 k2

/-- A function, entered. -/
theorem Has.limQ {g : FuncId} {a : AFunc} {ps rs : List PV} (H : Has E g a) (hl : ps.length ≤ a.ntmps) (hw : X E (app a.body .skip) ⟨TL a.ntmps (argF (ps.map .pv)), []⟩ (Fin a.results rs)) : limP E g ps = some rs := by
  have e := TL_arg (n := a.ntmps) (l := ps.map V.pv) (by simpa using hl)
  rw [List.length_map] at e
  exact H.lim hl e hw
theorem HasR.limQE {g : FuncId} {a : AFunc} {vs : List V} {P : V → Heap → Prop} (H : HasR E g a) (hl : vs.length ≤ a.ntmps) (hw : X E (app a.body .skip) ⟨TL a.ntmps (argF vs), h⟩ (FinE a.results P)) : ∃ v h', limR E g vs h = some (v, h') ∧ P v h' :=
  H.limE hl (TL_arg hl) hw
theorem Fin.mkQ {res : List AResult} {rs rs' : List PV} {us : List V} (hb : belowR n res = true) (e : resS (Fk.mk (f := f)) h res = some us) (h2 : pureRes (oneOf us) h = some rs') (h3 : rs' = rs) : Fin res rs .ret ⟨TL n f, h⟩ :=
  Fin.mk' (by rw [res_sub hb]; exact e) h2 h3
theorem FinE.retQ {res : List AResult} {P : V → Heap → Prop} {us : List V} (hb : belowR n res = true) (e : resS (Fk.mk (f := f)) h res = some us) (h2 : P (oneOf us) h) : FinE res P .ret ⟨TL n f, h⟩ :=
  FinE.ret (by rw [res_sub hb]; exact e) h2
theorem X.skipEQ {res : List AResult} {P : V → Heap → Prop} {us : List V} (hb : belowR n res = true) (e : resS (Fk.mk (f := f)) h res = some us) (h2 : P (oneOf us) h) : X E .skip ⟨TL n f, h⟩ (FinE res P) :=
  X.skipE (by rw [res_sub hb]; exact e) h2
theorem X.callRQ {g : FuncId} {args : List AOperand} {vs : List V} {P : V → Heap → Prop} (hb : below n (readsL args) = true) (e : evals [] (subL (Fk.mk (f := f)) args) = some vs) (hr : E.raw g = true) (hp : pures vs = none)
    (hl : ∃ v h', limR E g vs h = some (v, h') ∧ P v h') (k : ∀ v h', P v h' → X E (.seq (.region os false) rest) ⟨TL n (upd f d v), h'⟩ Q) : X E (.seq (.region (⟨d, .call g args, none, af⟩ :: os) false) rest) ⟨TL n f, h⟩ Q :=
  X.callR (by rw [evals_sub hb]; exact e) hr hp hl fun v h' hv => by rw [TL_set]; exact k v h' hv
end
attribute [simp] fk_some fk_none fk_arg0 fk_argS fk_argN fk_map0 fk_mapS fk_mapN subO subL subM sub3 sub2 sub resS
end Ab
