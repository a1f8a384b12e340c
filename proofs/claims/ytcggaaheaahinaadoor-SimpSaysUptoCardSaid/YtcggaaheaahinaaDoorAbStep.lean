/- AbStep: steps, walks, laws: see the remarks within. -/
import Derived.Test.YtcggaaheaahinaaDoorAbWalk
import Derived.KernelRfl
set_option linter.unusedSimpArgs false
set_option linter.unusedVariables false
-- Walks by steps: one operation, one choice at a time.
namespace Ab
open Go

/-- Code that runs and leaves what Q says: not to be looked into. -/
structure X (E : Env) (c : ACode) (st : St) (Q : AExit → St → Prop) : Prop where
  run : W E c st Q

theorem x_eq {E : Env} {c : ACode} {st : St} {Q : AExit → St → Prop} : X E c st Q = W E c st Q := propext ⟨fun h => h.run, fun h => ⟨h⟩⟩

namespace X
section
variable {E : Env} {ts ts' : List V} {h h' : Heap} {st st' : St} {Q Q' : AExit → St → Prop} {rest : ACode} {d : Option Nat} {op : AOp} {af : List Nat} {os : List AOper}

theorem mono {c : ACode} (h : X E c st Q) (hq : ∀ ex st, Q ex st → Q' ex st) : X E c st Q' := ⟨h.run.mono hq⟩

/-- One operation, and on. -/
theorem step {v : V} (e : opA E (limP E) (limR E) ts h op = some (v, h')) (p : putA ts d v = ts') (k : X E (.seq (.region os false) rest) ⟨ts', h'⟩ Q) :
    X E (.seq (.region (⟨d, op, none, af⟩ :: os) false) rest) ⟨ts, h⟩ Q := by
  subst p
  rw [x_eq, w_seq, w_region] at k ⊢
  simp only [regionA_text, stepsA, stepA, wantA, e] at k ⊢
  exact k

/-- One that is wanted, or not. -/
theorem stepG {t : Nat} {b c : Bool} (e : ts[t]? = some (.pv (.bool c))) (p : putA ts d (.tup []) = ts') (k1 : c = b → X E (.seq (.region (⟨d, op, none, af⟩ :: os) false) rest) ⟨ts, h⟩ Q)
    (k2 : c = !b → X E (.seq (.region os false) rest) ⟨ts', h⟩ Q) : X E (.seq (.region (⟨d, op, some (t, b), af⟩ :: os) false) rest) ⟨ts, h⟩ Q := by
  subst p
  rw [x_eq, w_seq, w_region] at k1 k2 ⊢
  by_cases hc : c = b
  · have k := k1 hc
    have hc' : (c == b) = true := by simpa using hc
    simp only [regionA_text, stepsA, stepA, wantA, e, hc'] at k ⊢
    exact k
  · have k := k2 (by cases b <;> cases c <;> simp_all)
    have hc' : (c == b) = false := by simpa using hc
    simp only [regionA_text, stepsA, stepA, wantA, e, hc'] at k ⊢
    exact k

theorem stepGt {t : Nat} {c : Bool} (e : ts[t]? = some (.pv (.bool c))) (p : putA ts d (.tup []) = ts') (k1 : c = true → X E (.seq (.region (⟨d, op, none, af⟩ :: os) false) rest) ⟨ts, h⟩ Q)
    (k2 : c = false → X E (.seq (.region os false) rest) ⟨ts', h⟩ Q) : X E (.seq (.region (⟨d, op, some (t, true), af⟩ :: os) false) rest) ⟨ts, h⟩ Q := stepG e p k1 k2
theorem stepGf {t : Nat} {c : Bool} (e : ts[t]? = some (.pv (.bool c))) (p : putA ts d (.tup []) = ts') (k1 : c = false → X E (.seq (.region (⟨d, op, none, af⟩ :: os) false) rest) ⟨ts, h⟩ Q)
    (k2 : c = true → X E (.seq (.region os false) rest) ⟨ts', h⟩ Q) : X E (.seq (.region (⟨d, op, some (t, false), af⟩ :: os) false) rest) ⟨ts, h⟩ Q := stepG e p k1 k2

/-- One that hangs on what was not wanted. -/
theorem stepN {t : Nat} {b : Bool} {l : List V} (e : ts[t]? = some (.tup l)) (p : putA ts d (.tup []) = ts') (k : X E (.seq (.region os false) rest) ⟨ts', h⟩ Q) :
    X E (.seq (.region (⟨d, op, some (t, b), af⟩ :: os) false) rest) ⟨ts, h⟩ Q := by
  subst p
  rw [x_eq, w_seq, w_region] at k ⊢
  simp only [regionA_text, stepsA, stepA, wantA, e] at k ⊢
  exact k

theorem stepZ (k : X E rest st Q) : X E (.seq (.region [] false) rest) st Q := by
  rw [x_eq] at k ⊢
  rw [w_seq, w_region]
  exact k

theorem skip (h : Q .normal st) : X E .skip st Q := ⟨W.skip h⟩
theorem skipB {k : St → Prop} {id : Nat} (h : k st) : X E .skip st (inB id (thenQ k Q)) := ⟨W.skip h⟩
theorem skipL {k : St → Prop} (h : k st) : X E .skip st (thenQ k Q) := ⟨W.skip h⟩
theorem skipS (k : X E rest st Q) : X E (.seq .skip rest) st Q := ⟨W.skipS k.run⟩
theorem retS (k : Q .ret st) : X E (.seq .ret rest) st Q := ⟨W.retS k⟩
theorem exitS {id : Nat} (k : Q (.exit id) st) : X E (.seq (.exit id) rest) st Q := ⟨W.exitS k⟩

/-- A choice, and on. -/
theorem condS {c : AOperand} {a b : ACode} {t : Bool} (hc : St.eval st.tmps c = some (.pv (.bool t))) (h1 : t = true → X E (app a rest) st Q) (h2 : t = false → X E (app b rest) st Q) : X E (.seq (.cond c a b) rest) st Q :=
  ⟨W.condS hc (fun h => (h1 h).run) (fun h => (h2 h).run)⟩

theorem blockS {id : Nat} {b : ACode} (h : X E (app b .skip) st (inB id (thenQ (fun st => X E rest st Q) Q))) : X E (.seq (.block id b) rest) st Q := by
  simp only [x_eq] at h ⊢
  exact W.blockS h

/-- A block, with what holds behind it. -/
theorem blockMid {id : Nat} {b : ACode} (M : St → Prop) (h : X E (app b .skip) st (inB id (thenQ M Q))) (k : ∀ st, M st → X E rest st Q) : X E (.seq (.block id b) rest) st Q :=
  ⟨W.blockMid M h.run fun st hm => (k st hm).run⟩

/-- A region in the text's order, and on. -/
theorem go {ops : List AOper} (h : stepsA E (limP E) (limR E) ops st = some st') (k : X E rest st' Q) : X E (.seq (.region ops false) rest) st Q := ⟨W.go h k.run⟩

/-- A region, with what holds behind it. -/
theorem goMid {ops : List AOper} (M : St → Prop) (h : X E (.seq (.region ops false) .skip) st (thenQ M fun _ _ => False)) (k : ∀ st', M st' → X E rest st' Q) : X E (.seq (.region ops false) rest) st Q := by
  simp only [x_eq] at h k ⊢
  rw [w_seq] at h ⊢
  refine h.mono fun ex st hq => ?_
  cases ex with
  | normal => exact k st (w_skip.1 hq)
  | ret => exact hq.elim
  | exit i => exact hq.elim

/-- A region in any order, and on. -/
theorem draw {ops : List AOper} {ls : List Log} (h : stepsM E (limP E) (limR E) ops st = some (st', ls)) (hp : (ordered ops 0 && pairsOk (ancs ops []) ls) = true) (k : X E rest st' Q) : X E (.seq (.region ops true) rest) st Q :=
  ⟨W.draw h hp k.run⟩

/-- A loop, by a number that falls. -/
theorem loopS {b : ACode} (I : Nat → St → Prop) (k : Nat) (h0 : I k st) (hb : ∀ k st, I k st → X E (app b .skip) st (thenQ (fun st' => ∃ k', k' < k ∧ I k' st') (thenQ (fun st => X E rest st Q) Q))) : X E (.seq (.loop b) rest) st Q := by
  simp only [x_eq] at hb ⊢
  exact W.loopS I k h0 hb

/-- Out of a block. -/
theorem here {k : St → Prop} {id : Nat} (h : k st) : inB id (thenQ k Q) (.exit id) st := .inl ⟨rfl, h⟩
theorem out {id id' : Nat} (hne : id' ≠ id) (h : Q (.exit id') st) : inB id Q (.exit id') st := .inr ⟨hne, h⟩
end
end X
end Ab

-- Regions in any order, step by step: what is calm needs no look at who touched what.
namespace Ab
open Go

/-- Operations that turn nothing. -/
def calmK : AOp → Bool
  | .move _ | .pick _ _ _ | .nilCheck _ | .bin _ _ _ _ | .un _ _ | .mkFn _ _ | .sliceStr _ _ _ | .sliceSl _ _ _ _ | .faddr _ _ | .field _ _ _ _ | .iaddrArr _ _ _ _ | .iaddrSl _ _ _ | .idxStr _ _ | .idxArr _ _ _ _ _
  | .build _ _ | .lenOf _ _ | .lenArr _ | .minmax _ _ | .extract _ _ | .mkIface _ _ | .load _ _ _ => true
  | .conv c _ => match c with | .bytesStr => false | _ => true
  | _ => false

section
variable {E : Env} {p : FuncId → List PV → Option (List PV)} {r : FuncId → List V → Heap → Option (V × Heap)} {ts : List V} {h h' : Heap}

theorem loadA_mask {F : List Nat} {ag : Bool} {sz : Nat} {a : V} (hF : ∀ i ∈ a.ids, i ∈ F) : loadA (mask F h) ag sz a = loadA h ag sz a := by
  cases a with
  | ptr id off =>
    have : ent (mask F h) id = ent h id := by rw [ent_mask, if_pos (by simpa using hF id (by simp [V.ids]))]
    simp only [loadA, this]
  | pv q => cases q <;> rfl
  | _ => rfl

theorem calm_ok {op : AOp} {v : V} (hk : calmK op = true) (e : opA E p r ts h op = some (v, h')) :
    h' = h ∧ opA E p r ts (mask (foot ts h op) h) op = some (v, mask (foot ts h op) h) ∧ turned op (foot ts h op) h (mask (foot ts h op) h) = [] := by
  have key : ∀ (o : Option V) (h1 : Heap), (o.map fun v => (v, h)) = some (v, h') → h' = h ∧ (o.map fun v => (v, h1)) = some (v, h1) := by
    intro o h1 e
    cases o with
    | none => cases e
    | some w => cases e; exact ⟨rfl, rfl⟩
  cases op <;> simp only [calmK, Bool.false_eq_true] at hk
  case load ag sz a =>
    simp only [opA] at e ⊢
    cases ha : St.eval ts a with
    | none => rw [ha] at e; cases e
    | some a' =>
      rw [ha] at e
      simp only at e ⊢
      have hm : loadA (mask (foot ts h (.load ag sz a)) h) ag sz a' = loadA h ag sz a' := loadA_mask fun i hi => by simpa [foot, oIds, ha] using hi
      rw [hm]
      obtain ⟨h1, h2⟩ := key _ (mask (foot ts h (.load ag sz a)) h) e
      exact ⟨h1, h2, by simp [turned, AOp.quiet]⟩
  case conv c x =>
    have hq : turned (.conv c x) (foot ts h (.conv c x)) h (mask (foot ts h (.conv c x)) h) = [] := by simp [turned, AOp.quiet]
    refine ⟨?_, ?_, hq⟩
    · simp only [opA] at e
      split at e
      · exact (key _ h e).1
      · cases e
    · simp only [opA] at e ⊢
      cases hx : St.eval ts x with
      | none => rw [hx] at e; cases e
      | some x' =>
        rw [hx] at e
        simp only at e ⊢
        have hm : convA c x' (mask (foot ts h (.conv c x)) h) = convA c x' h := by
          cases c <;> first | (cases hk; done) | (cases x' <;> first | rfl | (rename_i q; cases q <;> rfl))
        rw [hm]
        exact (key _ _ e).2
  all_goals
    refine ⟨?_, ?_, by simp [turned, foot, mask, AOp.quiet, AOp.isCall]⟩ <;> simp only [opA] at e ⊢ <;> (repeat' split at e) <;> (try simp only [*]) <;> first | exact (key _ h e).1 | exact (key _ _ e).2 | (cases e; rfl) | (cases e; done) | (cases e; simp_all; done) | (simp only [Option.map_map, Function.comp_def, Option.map_eq_some_iff] at e ⊢; obtain ⟨w, hw, hw2⟩ := e; cases hw2; first | rfl | exact ⟨_, hw, rfl⟩)
end

/-- What an operation reads and writes, by its text. -/
def statics (o : AOper) : List Nat × Option Nat := ((match o.guard with | some (t, _) => [t] | none => []) ++ o.op.reads, o.dst)
def statApart (a b : List Nat × Option Nat) : Bool := apartT a.2 b.1 && apartT b.2 a.1 && (match a.2, b.2 with | some x, some y => x != y | _, _ => true)
/-- A log within what the text says. -/
def LogOk (l : Log) (s : List Nat × Option Nat) (c : Bool) : Prop := (∀ i ∈ l.rd, i ∈ s.1) ∧ l.wr = s.2 ∧ (c = true → l.wids = [])
def LogsOk : List Log → List (List Nat × Option Nat) → List Bool → Prop
  | [], [], [] => True
  | l :: ls, s :: ss, c :: cs => LogOk l s c ∧ LogsOk ls ss cs
  | _, _, _ => False

theorem LogsOk.at : ∀ {ls : List Log} {ss : List (List Nat × Option Nat)} {cs : List Bool}, LogsOk ls ss cs → ls.length = ss.length ∧ ∀ (i : Nat) (s : List Nat × Option Nat) (c : Bool), ss[i]? = some s → cs[i]? = some c → ∃ l, ls[i]? = some l ∧ LogOk l s c
  | [], [], [], _ => ⟨rfl, fun i s c h => by simp at h⟩
  | l :: ls, s :: ss, c :: cs, h => by
    obtain ⟨h1, h2⟩ := LogsOk.at h.2
    refine ⟨by simp [h1], fun i s' c' hs hc => ?_⟩
    cases i with
    | zero => simp at hs hc; subst hs; subst hc; exact ⟨l, rfl, h.1⟩
    | succ i => exact h2 i s' c' (by simpa using hs) (by simpa using hc)
  | [], _ :: _, _, h => h.elim
  | [], [], _ :: _, h => h.elim
  | _ :: _, [], _, h => h.elim
  | _ :: _, _ :: _, [], h => h.elim

theorem apartT_of {w : Option Nat} {l l' : List Nat} (h : apartT w l' = true) (hl : ∀ i ∈ l, i ∈ l') : apartT w l = true := by
  cases w with
  | none => rfl
  | some d =>
    simp only [apartT, Bool.not_eq_true', List.contains_eq_mem, decide_eq_false_iff_not] at h ⊢
    exact fun hd => h (hl d hd)

/-- A region in any order, step by step. -/
structure XD (E : Env) (ops : List AOper) (cs : List Bool) (rest : ACode) (st : St) (Q : AExit → St → Prop) : Prop where
  run : ∃ st' ls, stepsM E (limP E) (limR E) ops st = some (st', ls) ∧ LogsOk ls (ops.map statics) cs ∧ X E rest st' Q

section
variable {E : Env} {ts ts' : List V} {h h1 h2 : Heap} {st : St} {Q : AExit → St → Prop} {rest : ACode} {d : Option Nat} {op : AOp} {af : List Nat} {os ops : List AOper} {cs : List Bool}

namespace XD
theorem nil (k : X E rest st Q) : XD E [] [] rest st Q := ⟨st, [], rfl, trivial, k⟩

theorem calm {v : V} (hk : calmK op = true) (e : opA E (limP E) (limR E) ts h op = some (v, h1)) (p : putA ts d v = ts') (k : XD E os cs rest ⟨ts', h⟩ Q) : XD E (⟨d, op, none, af⟩ :: os) (true :: cs) rest ⟨ts, h⟩ Q := by
  subst p
  obtain ⟨st', ls, e2, hl, hx⟩ := k.run
  obtain ⟨rfl, e3, e4⟩ := calm_ok hk e
  refine ⟨st', ⟨[] ++ op.reads, d, foot ts h1 op ++ List.range' h1.length ((mask (foot ts h1 op) h1).length - h1.length), turned op (foot ts h1 op) h1 (mask (foot ts h1 op) h1)⟩ :: ls, ?_, ⟨⟨fun i hi => by simpa [statics] using hi, rfl, fun _ => e4⟩, hl⟩, hx⟩
  simp only [stepsM, stepM, wantA, e3]
  rw [if_pos (by simp [length_mask])]
  simp only [merge_mask, e2]

theorem call {f : FuncId} {args : List AOperand} {vs : List V} {ps rs : List PV} (e : evals ts args = some vs) (e0 : pures vs = some ps) (hr : E.raw f = false) (hl : limP E f ps = some rs) (p : putA ts d (mkRes rs) = ts') (k : XD E os cs rest ⟨ts', h⟩ Q) :
    XD E (⟨d, .call f args, none, af⟩ :: os) (true :: cs) rest ⟨ts, h⟩ Q := by
  subst p
  obtain ⟨st', ls, e2, hl2, hx⟩ := k.run
  have hvs : ∀ (vs : List V) (ps : List PV), pures vs = some ps → vs = ps.map .pv := by
    intro vs
    induction vs with
    | nil => intro ps h; cases h; rfl
    | cons v vs ih =>
      intro ps h
      cases v <;> simp only [pures, reduceCtorEq] at h
      split at h
      · cases h; rename_i e; simp [ih _ e]
      · cases h
  have hv := hvs vs ps e0
  subst hv
  have hids : (args.flatMap (oIds ts)) = [] := by
    have : ∀ (args : List AOperand) (ps : List PV), evals ts args = some (ps.map .pv) → args.flatMap (oIds ts) = [] := by
      intro args
      induction args with
      | nil => intro _ _; rfl
      | cons a args ih =>
        intro ps h
        simp only [evals] at h
        split at h
        · rename_i v vs hv hvs
          cases ps with
          | nil => cases h
          | cons q qs =>
            cases h
            rw [List.flatMap_cons, ih qs hvs]
            simp [oIds, hv, V.ids]
        · cases h
    exact this args ps e
  have hfoot : foot ts h (.call f args) = [] := by simp only [foot, hids, addNew, reach_nil]
  have hop : opA E (limP E) (limR E) ts (mask [] h) (.call f args) = some (mkRes rs, mask [] h) := by
    have : snapLF (snap snapFuel) (ps.map .pv) (mask [] h) = some (ps, mask [] h) := snapLF_pvs ps
    simp only [opA, e, callA, hr, Bool.false_eq_true, if_false, snapL, this, hl]
  refine ⟨st', ⟨[] ++ (AOp.call f args).reads, d, [] ++ List.range' h.length ((mask [] h).length - h.length), turned (.call f args) [] h (mask [] h)⟩ :: ls, ?_, ⟨⟨fun i hi => by simpa [statics] using hi, rfl, fun _ => by simp [turned, length_mask]⟩, hl2⟩, hx⟩
  simp only [stepsM, stepM, wantA, hfoot, hop]
  rw [if_pos (by simp [length_mask])]
  simp only [merge_mask, e2]

/-- One that turns something: on what it may touch alone. -/
theorem loud {v : V} (e : opA E (limP E) (limR E) ts (mask (foot ts h op) h) op = some (v, h1)) (hlen : h.length ≤ h1.length) (hm : merge (foot ts h op) h h1 = h2) (p : putA ts d v = ts') (k : XD E os cs rest ⟨ts', h2⟩ Q) :
    XD E (⟨d, op, none, af⟩ :: os) (false :: cs) rest ⟨ts, h⟩ Q := by
  subst p
  subst hm
  obtain ⟨st', ls, e2, hl, hx⟩ := k.run
  refine ⟨st', ⟨[] ++ op.reads, d, foot ts h op ++ List.range' h.length (h1.length - h.length), turned op (foot ts h op) h h1⟩ :: ls, ?_, ⟨⟨fun i hi => by simpa [statics] using hi, rfl, fun h => by cases h⟩, hl⟩, hx⟩
  simp only [stepsM, stepM, wantA, e, if_pos hlen, e2]

/-- One that hangs on what was not wanted. -/
theorem stepN {t : Nat} {b c : Bool} {l : List V} (e : ts[t]? = some (.tup l)) (p : putA ts d (.tup []) = ts') (k : XD E os cs rest ⟨ts', h⟩ Q) : XD E (⟨d, op, some (t, b), af⟩ :: os) (c :: cs) rest ⟨ts, h⟩ Q := by
  subst p
  obtain ⟨st', ls, e2, hl, hx⟩ := k.run
  refine ⟨st', ⟨[t], d, [], []⟩ :: ls, ?_, ⟨⟨fun i hi => by simp at hi; subst hi; simp [statics], rfl, fun _ => rfl⟩, hl⟩, hx⟩
  simp only [stepsM, stepM, wantA, e, e2]

/-- One that is wanted, or not. -/
theorem stepG {t : Nat} {b b' c : Bool} (e : ts[t]? = some (.pv (.bool b'))) (p : putA ts d (.tup []) = ts') (k1 : b' = b → XD E (⟨d, op, none, af⟩ :: os) (c :: cs) rest ⟨ts, h⟩ Q)
    (k2 : b' = !b → XD E os cs rest ⟨ts', h⟩ Q) : XD E (⟨d, op, some (t, b), af⟩ :: os) (c :: cs) rest ⟨ts, h⟩ Q := by
  subst p
  by_cases hc : b' = b
  · obtain ⟨st', ls, e2, hl, hx⟩ := (k1 hc).run
    have hc' : (b' == b) = true := by simpa using hc
    cases ls with
    | nil => exact hl.elim
    | cons l ls =>
      refine ⟨st', ⟨[t] ++ op.reads, l.wr, l.ids, l.wids⟩ :: ls, ?_, ⟨⟨fun i hi => by simpa [statics] using hi, hl.1.2.1, hl.1.2.2⟩, hl.2⟩, hx⟩
      simp only [stepsM, stepM, wantA, e, hc'] at e2 ⊢
      split at e2
      · rename_i st1 l1 e3
        split at e2
        · rename_i st2 ls2 e4
          cases e2
          split at e3
          · rename_i v h' e5
            split at e3
            · rename_i hlen
              cases e3
              rw [if_pos hlen]
              simp only [e4, List.nil_append]
            · cases e3
          · cases e3
        · cases e2
      · cases e2
  · obtain ⟨st', ls, e2, hl, hx⟩ := (k2 (by cases b <;> cases b' <;> simp_all)).run
    have hc' : (b' == b) = false := by simpa using hc
    refine ⟨st', ⟨[t], d, [], []⟩ :: ls, ?_, ⟨⟨fun i hi => by simp at hi; subst hi; simp [statics], rfl, fun _ => rfl⟩, hl⟩, hx⟩
    simp only [stepsM, stepM, wantA, e, hc', e2]
theorem stepGt {t : Nat} {b' c : Bool} (e : ts[t]? = some (.pv (.bool b'))) (p : putA ts d (.tup []) = ts') (k1 : b' = true → XD E (⟨d, op, none, af⟩ :: os) (c :: cs) rest ⟨ts, h⟩ Q)
    (k2 : b' = false → XD E os cs rest ⟨ts', h⟩ Q) : XD E (⟨d, op, some (t, true), af⟩ :: os) (c :: cs) rest ⟨ts, h⟩ Q := stepG e p k1 k2
theorem stepGf {t : Nat} {b' c : Bool} (e : ts[t]? = some (.pv (.bool b'))) (p : putA ts d (.tup []) = ts') (k1 : b' = false → XD E (⟨d, op, none, af⟩ :: os) (c :: cs) rest ⟨ts, h⟩ Q)
    (k2 : b' = true → XD E os cs rest ⟨ts', h⟩ Q) : XD E (⟨d, op, some (t, false), af⟩ :: os) (c :: cs) rest ⟨ts, h⟩ Q := stepG e p k1 k2
end XD
end
end Ab
namespace Ab
open Go
section
variable {E : Env} {p : FuncId → List PV → Option (List PV)} {r : FuncId → List V → Heap → Option (V × Heap)}
end

section
variable {E : Env} {st : St} {Q : AExit → St → Prop} {rest : ACode} {ops : List AOper}
end
end Ab

-- The rules by which steps are worked out.
namespace Ab
open Go
attribute [simp] stepsA stepA wantA opA St.eval evals putA PV.cells V.cells PV.isCell V.isCell faddrA loadA storeA splice cut mkVal mkAgg mkFn pures lenA iaddrSlA iaddrArrA natOf? elemAt binA intBin strBin unA convA eqRes eqNil isNil? eqCell eqCells partA fillA callA mkRes snapL_eq snapLF snapLF_pvs snap_pv snap_slt snap_slx snap_nils snap_agg snap_fn snap_ptr snap_sln sliceStrA sliceSlA bounds idxStrA idxArrA srcCells strideOk isSlV weak weak.weakL chunks mkPV growMax ent_new ent_cons0 ent_consS ent_at ent_at0
attribute [simp] List.getElem?_cons_zero List.getElem?_cons_succ foot oIds V.ids V.ids.idsL ent_mask length_mask merge_mask merge_mask_set merge_mask_app merge_mask_set_app reach_nil addNew mkRes natOf_nat minmaxA Nat.min_eq_left copyA
end Ab

-- What walks lean on: functions had, their ends, numbers that fit.
namespace Ab
open Go

/-- A function as the text has it, no answer known ahead. -/
structure Has (E : Env) (f : FuncId) (c : AFunc) : Prop where
  func : E.func f = some c
  raw : E.raw f = false
  ext : ∀ ps, E.ext f ps = none

/-- One that is run in its caller's heap. -/
structure HasR (E : Env) (f : FuncId) (c : AFunc) : Prop where
  func : E.func f = some c
  raw : E.raw f = true
  ext : ∀ ps, E.ext f ps = none

/-- At a function's end. -/
structure Fin (res : List AResult) (rs : List PV) (ex : AExit) (st : St) : Prop where
  run : (ex = .normal ∨ ex = .ret) ∧ ∃ us, resA st res = some us ∧ pureRes (oneOf us) st.heap = some rs

theorem Fin.mk' {res : List AResult} {rs rs' : List PV} {us : List V} {st : St} (h : resA st res = some us) (h2 : pureRes (oneOf us) st.heap = some rs') (h3 : rs' = rs) : Fin res rs .ret st :=
  ⟨.inr rfl, us, h, h3 ▸ h2⟩

theorem Has.lim {E : Env} {f : FuncId} {af : AFunc} {ps rs : List PV} {ts : List V} (h : Has E f af) (hl : ps.length ≤ af.ntmps) (ht : ps.map .pv ++ List.replicate (af.ntmps - ps.length) (.tup []) = ts)
    (hw : X E (app af.body .skip) ⟨ts, []⟩ (Fin af.results rs)) : limP E f ps = some rs :=
  (Ans.enter (h.ext _) h.func hl (ht ▸ (W.start (hw.run.mono fun _ _ q => q.run)))).lim

/-- At the end of one that is run in its caller's heap. -/
structure FinR (res : List AResult) (v : V) (h' : Heap) (ex : AExit) (st : St) : Prop where
  run : (ex = .normal ∨ ex = .ret) ∧ ∃ us, resA st res = some us ∧ oneOf us = v ∧ st.heap = h'

theorem HasR.lim {E : Env} {f : FuncId} {af : AFunc} {vs : List V} {h h' : Heap} {v : V} {ts : List V} (H : HasR E f af) (hl : vs.length ≤ af.ntmps) (ht : vs ++ List.replicate (af.ntmps - vs.length) (.tup []) = ts)
    (hw : X E (app af.body .skip) ⟨ts, h⟩ (FinR af.results v h')) : limR E f vs h = some (v, h') :=
  (AnsR.of H.func hl (ht ▸ (W.start (hw.run.mono fun _ _ q => q.run)))).lim

theorem wrap_i64 {n : Int} (h : -9223372036854775808 ≤ n ∧ n ≤ 9223372036854775807) : IntKind.i64.wrap n = n := by
  rw [IntKind.wrap_i64]; omega

theorem drop_at {α : Type} {l : List α} {j : Nat} {y : α} (hy : l[j]? = some y) : l.drop j = y :: l.drop (j + 1) := by
  obtain ⟨hj, rfl⟩ := List.getElem?_eq_some_iff.1 hy
  exact List.drop_eq_getElem_cons hj

theorem take_at {α : Type} {l : List α} {j : Nat} {y : α} (hy : l[j]? = some y) : l.take (j + 1) = l.take j ++ [y] := by
  rw [List.take_add_one, hy]; rfl
end Ab

-- Functions that are run in their caller's heap: entered, called.
namespace Ab
open Go

/-- At the end of one that is run in its caller's heap. -/
structure FinE (res : List AResult) (P : V → Heap → Prop) (ex : AExit) (st : St) : Prop where
  run : (ex = .normal ∨ ex = .ret) ∧ ∃ us, resA st res = some us ∧ P (oneOf us) st.heap

theorem FinE.ret {res : List AResult} {P : V → Heap → Prop} {us : List V} {st : St} (h : resA st res = some us) (h2 : P (oneOf us) st.heap) : FinE res P .ret st := ⟨.inr rfl, us, h, h2⟩
theorem FinE.normal {res : List AResult} {P : V → Heap → Prop} {us : List V} {st : St} (h : resA st res = some us) (h2 : P (oneOf us) st.heap) : FinE res P .normal st := ⟨.inl rfl, us, h, h2⟩

section
variable {E : Env} {ts ts' : List V} {h h' : Heap} {Q : AExit → St → Prop} {rest : ACode} {d : Option Nat} {af : List Nat} {os : List AOper} {f : FuncId} {args : List AOperand} {vs : List V} {cs : List Bool}

theorem X.callR {P : V → Heap → Prop} (e : evals ts args = some vs) (hr : E.raw f = true) (hp : pures vs = none) (hl : ∃ v h', limR E f vs h = some (v, h') ∧ P v h') (k : ∀ v h', P v h' → X E (.seq (.region os false) rest) ⟨putA ts d v, h'⟩ Q) :
    X E (.seq (.region (⟨d, .call f args, none, af⟩ :: os) false) rest) ⟨ts, h⟩ Q := by
  obtain ⟨v, h', h1, h2⟩ := hl
  exact X.step (v := v) (h' := h') (by simp only [opA, e, callA, hr, if_true, hp, h1]) rfl (k v h' h2)

theorem XD.callR {P : V → Heap → Prop} (e : evals ts args = some vs) (hr : E.raw f = true) (hp : pures vs = none)
    (hl : ∃ v h1, limR E f vs (mask (foot ts h (.call f args)) h) = some (v, h1) ∧ h.length ≤ h1.length ∧ P v (merge (foot ts h (.call f args)) h h1)) (k : ∀ v h', P v h' → XD E os cs rest ⟨putA ts d v, h'⟩ Q) :
    XD E (⟨d, .call f args, none, af⟩ :: os) (false :: cs) rest ⟨ts, h⟩ Q := by
  obtain ⟨v, h1, g1, g2, g3⟩ := hl
  exact XD.loud (v := v) (h1 := h1) (by simp only [opA, e, callA, hr, if_true, hp, g1]) g2 rfl rfl (k v _ g3)
end
end Ab

-- States with many temporaries: those that count, the others as they are.
namespace Ab
open Go

def Pat : List (Option V) → List V → Prop
  | [], [] => True
  | none :: p, _ :: ts => Pat p ts
  | some v :: p, t :: ts => t = v ∧ Pat p ts
  | _, _ => False

def fill : List (Option V) → (Nat → V) → Nat → List V
  | [], _, _ => []
  | none :: p, f, i => f i :: fill p f (i + 1)
  | some v :: p, f, i => v :: fill p f (i + 1)

theorem fill_congr : ∀ (p : List (Option V)) (f g : Nat → V) (i : Nat), (∀ j, i ≤ j → f j = g j) → fill p f i = fill p g i
  | [], _, _, _, _ => rfl
  | none :: p, f, g, i, h => by simp only [fill]; rw [h i (Nat.le_refl _), fill_congr p f g (i + 1) fun j hj => h j (by omega)]
  | some v :: p, f, g, i, h => by simp only [fill]; rw [fill_congr p f g (i + 1) fun j hj => h j (by omega)]

theorem Pat.fill' : ∀ {p : List (Option V)} {ts : List V} (i : Nat), Pat p ts → ∃ f, ts = fill p f i
  | [], [], _, _ => ⟨fun _ => default, rfl⟩
  | none :: p, t :: ts, i, h => by
    obtain ⟨f, hf⟩ := Pat.fill' (p := p) (i + 1) h
    refine ⟨fun j => if j = i then t else f j, ?_⟩
    simp only [fill, if_true]
    rw [hf]
    congr 1
    exact fill_congr _ _ _ _ fun j hj => by rw [if_neg (by omega)]
  | some v :: p, t :: ts, i, h => by
    obtain ⟨f, hf⟩ := Pat.fill' (p := p) (i + 1) h.2
    exact ⟨f, by simp only [fill]; rw [h.1, hf]⟩
  | [], _ :: _, _, h => h.elim
  | none :: _, [], _, h => h.elim
  | some _ :: _, [], _, h => h.elim
theorem Pat.fill {p : List (Option V)} {ts : List V} (h : Pat p ts) : ∃ f, ts = Ab.fill p f 0 := Pat.fill' 0 h
end Ab

-- Quick walks: temporaries as a function that is not looked into; an operation is run on its operands' values.
namespace Ab
open Go

/-- n temporaries. -/
def TL (n : Nat) (f : Nat → V) : List V := (List.range n).map f
/-- One is written. -/
def upd (f : Nat → V) (d : Option Nat) (v : V) : Nat → V := match d with
  | some d => fun i => if i = d then v else f i
  | none => f
def argF (l : List V) : Nat → V := fun i => (l[i]?).getD (.tup [])

/-- A name for temporaries, that steps carry: what it names stays unread. -/
structure Fk (f : Nat → V) : Type where
def fk {f : Nat → V} (_ : Fk f) (i : Nat) : V := f i
theorem fk_some {f : Nat → V} {d : Nat} {v : V} {i : Nat} : fk (Fk.mk (f := upd f (some d) v)) i = if i = d then v else fk (Fk.mk (f := f)) i := rfl
theorem fk_none {f : Nat → V} {v : V} {i : Nat} : fk (Fk.mk (f := upd f none v)) i = fk (Fk.mk (f := f)) i := rfl
theorem fk_arg0 {l : List V} {v : V} : fk (Fk.mk (f := argF (v :: l))) 0 = v := rfl
theorem fk_argS {l : List V} {v : V} {i : Nat} : fk (Fk.mk (f := argF (v :: l))) (i + 1) = fk (Fk.mk (f := argF l)) i := rfl
theorem fk_argN {i : Nat} : fk (Fk.mk (f := argF [])) i = .tup [] := rfl
theorem fk_map0 {l : List PV} {v : PV} : fk (Fk.mk (f := argF ((v :: l).map V.pv))) 0 = .pv v := rfl
theorem fk_mapS {l : List PV} {v : PV} {i : Nat} : fk (Fk.mk (f := argF ((v :: l).map V.pv))) (i + 1) = fk (Fk.mk (f := argF (l.map V.pv))) i := rfl
theorem fk_mapN {i : Nat} : fk (Fk.mk (f := argF (([] : List PV).map V.pv))) i = .tup [] := rfl

theorem TL_get {n : Nat} {f : Nat → V} {i : Nat} : (TL n f)[i]? = if i < n then some (f i) else none := by
  simp only [TL, List.getElem?_map]
  by_cases h : i < n
  · rw [List.getElem?_range h, if_pos h]; rfl
  · rw [List.getElem?_eq_none (by simpa using h), if_neg h]; rfl
theorem TL_set {n : Nat} {f : Nat → V} {d : Option Nat} {v : V} : putA (TL n f) d v = TL n (upd f d v) := by
  cases d with
  | none => rfl
  | some d =>
    refine List.ext_getElem? fun i => ?_
    simp only [putA, List.getElem?_set, TL_get, upd]
    by_cases h : d = i
    · subst h; simp [TL]
    · have : ¬ i = d := fun h' => h h'.symm
      simp [h, this]
theorem TL_arg {n : Nat} {l : List V} (hl : l.length ≤ n) : l ++ List.replicate (n - l.length) (.tup []) = TL n (argF l) := by
  refine List.ext_getElem? fun i => ?_
  rw [TL_get, List.getElem?_append, List.getElem?_replicate]
  by_cases h : i < l.length
  · rw [if_pos h, if_pos (by omega)]; simp [argF, h]
  · rw [if_neg h]
    by_cases h2 : i < n
    · rw [if_pos (by omega), if_pos h2]; simp [argF, List.getElem?_eq_none (Nat.le_of_not_lt h)]
    · rw [if_neg (by omega), if_neg h2]

section
variable {f : Nat → V}
/-- Operands by their values. -/
def subO (t : Fk f) : AOperand → AOperand
  | .tmp i => .val (fk t i)
  | .val v => .val v
def subL (t : Fk f) : List AOperand → List AOperand
  | [] => []
  | x :: xs => subO t x :: subL t xs
def subM (t : Fk f) : Option AOperand → Option AOperand
  | some x => some (subO t x)
  | none => none
def sub3 (t : Fk f) : List (Nat × Nat × AOperand) → List (Nat × Nat × AOperand)
  | [] => []
  | (a, b, x) :: xs => (a, b, subO t x) :: sub3 t xs
def sub2 (t : Fk f) : List (Nat × AOperand) → List (Nat × AOperand)
  | [] => []
  | (a, x) :: xs => (a, subO t x) :: sub2 t xs
def sub (t : Fk f) : AOp → AOp
  | .move x => .move (subO t x)
  | .pick c a b => .pick (subO t c) (subO t a) (subO t b)
  | .new ty z => .new ty z
  | .box x => .box (subO t x)
  | .load ag s a => .load ag s (subO t a)
  | .store s a x => .store s (subO t a) (subO t x)
  | .nilCheck x => .nilCheck (subO t x)
  | .bin o k x y => .bin o k (subO t x) (subO t y)
  | .un o x => .un o (subO t x)
  | .conv c x => .conv c (subO t x)
  | .mkFn g cs => .mkFn g (subL t cs)
  | .mkSlice ag z b l c => .mkSlice ag z b (subO t l) (subO t c)
  | .sliceStr x lo hi => .sliceStr (subO t x) (subM t lo) (subM t hi)
  | .sliceSl s x lo hi => .sliceSl s (subO t x) (subM t lo) (subM t hi)
  | .sliceArr s n ag x lo hi => .sliceArr s n ag (subO t x) (subM t lo) (subM t hi)
  | .faddr o x => .faddr o (subO t x)
  | .field o s ag x => .field o s ag (subO t x)
  | .iaddrArr l s x i => .iaddrArr l s (subO t x) (subO t i)
  | .iaddrSl s x i => .iaddrSl s (subO t x) (subO t i)
  | .idxStr x i => .idxStr (subO t x) (subO t i)
  | .idxArr l s ag x i => .idxArr l s ag (subO t x) (subO t i)
  | .build z ps => .build z (sub3 t ps)
  | .buildSl ag mu s z l ps => .buildSl ag mu s z l (sub2 t ps)
  | .lenOf st x => .lenOf st (subO t x)
  | .lenArr n => .lenArr n
  | .append ag mu s b te x y => .append ag mu s b te (subO t x) (subO t y)
  | .copy s x y => .copy s (subO t x) (subO t y)
  | .minmax mx xs => .minmax mx (subL t xs)
  | .call g xs => .call g (subL t xs)
  | .callv g xs => .callv (subO t g) (subL t xs)
  | .extract x i => .extract (subO t x) i
  | .mkIface ty x => .mkIface ty (subO t x)
  | .mark x => .mark (subO t x)
  | .special k xs => .special k (subL t xs)

def below (n : Nat) : List Nat → Bool
  | [] => true
  | i :: l => Nat.blt i n && below n l
variable {n : Nat}

theorem below_app {a b : List Nat} : below n (a ++ b) = (below n a && below n b) := by
  induction a with
  | nil => simp [below]
  | cons x a ih => simp [below, ih, Bool.and_assoc]
theorem ev_sub {x : AOperand} (h : below n x.reads = true) : St.eval (TL n f) x = St.eval [] (subO (Fk.mk (f := f)) x) := by
  cases x with
  | tmp i =>
    simp only [AOperand.reads, below, Bool.and_true] at h
    have : i < n := by simpa using h
    simp [St.eval, subO, TL_get, this, fk]
  | val v => rfl
theorem evals_sub : ∀ {xs : List AOperand}, below n (readsL xs) = true → evals (TL n f) xs = evals [] (subL (Fk.mk (f := f)) xs)
  | [], _ => rfl
  | x :: xs, h => by
    simp only [readsL, List.flatMap_cons, below_app, Bool.and_eq_true] at h
    simp only [evals, subL, ev_sub h.1, evals_sub h.2]
theorem sub3_map (t : Fk f) : ∀ ps, (sub3 t ps).map (·.2.2) = subL t (ps.map (·.2.2))
  | [] => rfl
  | (a, b, x) :: ps => by simp [sub3, subL, sub3_map t ps]
theorem sub2_map (t : Fk f) : ∀ ps, (sub2 t ps).map (·.2) = subL t (ps.map (·.2))
  | [] => rfl
  | (a, x) :: ps => by simp [sub2, subL, sub2_map t ps]
theorem sub3_zip (t : Fk f) : ∀ (ps : List (Nat × Nat × AOperand)) (vs : List V), (((sub3 t ps).zip vs).map fun (p, v) => (p.1, p.2.1, v)) = ((ps.zip vs).map fun (p, v) => (p.1, p.2.1, v))
  | [], _ => rfl
  | (a, b, x) :: ps, [] => rfl
  | (a, b, x) :: ps, v :: vs => by simp only [sub3, List.zip_cons_cons, List.map_cons, sub3_zip t ps vs]
theorem sub2_zip (t : Fk f) (sz : Nat) : ∀ (ps : List (Nat × AOperand)) (vs : List V), (((sub2 t ps).zip vs).map fun (p, v) => (p.1 * sz, sz, v)) = ((ps.zip vs).map fun (p, v) => (p.1 * sz, sz, v))
  | [], _ => rfl
  | (a, x) :: ps, [] => rfl
  | (a, x) :: ps, v :: vs => by simp only [sub2, List.zip_cons_cons, List.map_cons, sub2_zip t sz ps vs]

variable {E : Env} {p : FuncId → List PV → Option (List PV)} {r : FuncId → List V → Heap → Option (V × Heap)} {h : Heap}

theorem opA_sub {op : AOp} (hb : below n op.reads = true) : opA E p r (TL n f) h op = opA E p r [] h (sub (Fk.mk (f := f)) op) := by
  cases op
  case sliceStr x lo hi =>
    cases lo <;> cases hi <;> simp only [AOp.reads, readsO, below_app, Bool.and_eq_true, below, List.append_nil] at hb <;> simp only [opA, sub, subM, ev_sub, evals_sub, hb]
  case sliceSl s x lo hi =>
    cases lo <;> cases hi <;> simp only [AOp.reads, readsO, below_app, Bool.and_eq_true, below, List.append_nil] at hb <;> simp only [opA, sub, subM, ev_sub, evals_sub, hb]
  case sliceArr s k ag x lo hi =>
    cases lo <;> cases hi <;> simp only [AOp.reads, readsO, below_app, Bool.and_eq_true, below, List.append_nil] at hb <;> simp only [opA, sub, subM, ev_sub, evals_sub, hb]
  case build z ps =>
    simp only [AOp.reads] at hb
    simp only [opA, sub, evals_sub hb, sub3_map, sub3_zip]
  case buildSl ag mu s z l ps =>
    simp only [AOp.reads] at hb
    simp only [opA, sub, evals_sub hb, sub2_map, sub2_zip]
  all_goals
    simp only [AOp.reads, below_app, Bool.and_eq_true] at hb
    simp only [opA, sub, ev_sub, evals_sub, hb]

theorem oIds_sub {x : AOperand} (hb : below n x.reads = true) : oIds (TL n f) x = oIds [] (subO (Fk.mk (f := f)) x) := by simp only [oIds, ev_sub hb]
theorem oIdsL_sub : ∀ {xs : List AOperand}, below n (readsL xs) = true → xs.flatMap (oIds (TL n f)) = (subL (Fk.mk (f := f)) xs).flatMap (oIds [])
  | [], _ => rfl
  | x :: xs, h => by
    simp only [readsL, List.flatMap_cons, below_app, Bool.and_eq_true] at h
    simp only [List.flatMap_cons, subL, oIds_sub h.1, oIdsL_sub h.2]
theorem foot_sub {op : AOp} (hb : below n op.reads = true) : foot (TL n f) h op = foot [] h (sub (Fk.mk (f := f)) op) := by
  cases op
  all_goals
    simp only [AOp.reads, below_app, Bool.and_eq_true] at hb
    simp only [foot, sub, oIds_sub, oIdsL_sub, hb]

/-- What a function's end tells. -/
def resS (t : Fk f) (h : Heap) : List AResult → Option (List V)
  | [] => some []
  | .tmp i :: rs => match resS t h rs with
    | some vs => some (fk t i :: vs)
    | none => none
  | .cell i ag size :: rs => match resS t h rs with
    | some vs => match loadA h ag size (fk t i) with
      | some v => some (v :: vs)
      | none => none
    | none => none
def belowR (n : Nat) : List AResult → Bool
  | [] => true
  | .tmp i :: rs => Nat.blt i n && belowR n rs
  | .cell i _ _ :: rs => Nat.blt i n && belowR n rs
theorem res_sub : ∀ {rs : List AResult}, belowR n rs = true → resA ⟨TL n f, h⟩ rs = resS (Fk.mk (f := f)) h rs
  | [], _ => rfl
  | .tmp i :: rs, hb => by
    simp only [belowR, Bool.and_eq_true] at hb
    have : i < n := by simpa using hb.1
    simp only [resA, TL_get, if_pos this, resS, res_sub hb.2, fk]
    cases resS (Fk.mk (f := f)) h rs <;> rfl
  | .cell i ag size :: rs, hb => by
    simp only [belowR, Bool.and_eq_true] at hb
    have : i < n := by simpa using hb.1
    simp only [resA, TL_get, if_pos this, resS, res_sub hb.2, fk]
    cases resS (Fk.mk (f := f)) h rs <;> rfl
end

section
variable {E : Env} {n : Nat} {f : Nat → V} {h h' h1 h2 : Heap} {Q : AExit → St → Prop} {rest : ACode} {d : Option Nat} {op vop : AOp} {af : List Nat} {os : List AOper} {cs : List Bool}

theorem X.stepQ (hb : below n op.reads = true) {v : V} (s : sub (Fk.mk (f := f)) op = vop) (e : opA E (limP E) (limR E) [] h vop = some (v, h')) (k : X E (.seq (.region os false) rest) ⟨TL n (upd f d v), h'⟩ Q) :
    X E (.seq (.region (⟨d, op, none, af⟩ :: os) false) rest) ⟨TL n f, h⟩ Q :=
  X.step (by rw [opA_sub hb, s]; exact e) TL_set k

theorem wantQ {t : Nat} (ht : Nat.blt t n = true) : (TL n f)[t]? = some (fk (Fk.mk (f := f)) t) := by
  rw [TL_get, if_pos (by simpa using ht)]; rfl

theorem X.stepGtQ {t : Nat} (ht : Nat.blt t n = true) {c : Bool} (e : fk (Fk.mk (f := f)) t = .pv (.bool c)) (k1 : c = true → X E (.seq (.region (⟨d, op, none, af⟩ :: os) false) rest) ⟨TL n f, h⟩ Q)
    (k2 : c = false → X E (.seq (.region os false) rest) ⟨TL n (upd f d (.tup [])), h⟩ Q) : X E (.seq (.region (⟨d, op, some (t, true), af⟩ :: os) false) rest) ⟨TL n f, h⟩ Q := X.stepGt (by rw [wantQ ht, e]) TL_set k1 k2
theorem X.stepGfQ {t : Nat} (ht : Nat.blt t n = true) {c : Bool} (e : fk (Fk.mk (f := f)) t = .pv (.bool c)) (k1 : c = false → X E (.seq (.region (⟨d, op, none, af⟩ :: os) false) rest) ⟨TL n f, h⟩ Q)
    (k2 : c = true → X E (.seq (.region os false) rest) ⟨TL n (upd f d (.tup [])), h⟩ Q) : X E (.seq (.region (⟨d, op, some (t, false), af⟩ :: os) false) rest) ⟨TL n f, h⟩ Q := X.stepGf (by rw [wantQ ht, e]) TL_set k1 k2
theorem X.stepNQ {t : Nat} (ht : Nat.blt t n = true) {b : Bool} {l : List V} (e : fk (Fk.mk (f := f)) t = .tup l) (k : X E (.seq (.region os false) rest) ⟨TL n (upd f d (.tup [])), h⟩ Q) :
    X E (.seq (.region (⟨d, op, some (t, b), af⟩ :: os) false) rest) ⟨TL n f, h⟩ Q := X.stepN (by rw [wantQ ht, e]) TL_set k

theorem X.condQ {c : AOperand} {a b : ACode} (hb : below n c.reads = true) {t : Bool} (s : subO (Fk.mk (f := f)) c = .val (.pv (.bool t))) (h1 : t = true → X E (app a rest) ⟨TL n f, h⟩ Q) (h2 : t = false → X E (app b rest) ⟨TL n f, h⟩ Q) :
    X E (.seq (.cond c a b) rest) ⟨TL n f, h⟩ Q := X.condS (by rw [ev_sub hb, s]; rfl) h1 h2

theorem XD.calmQ {v : V} (hk : calmK op = true) (hb : below n op.reads = true) (s : sub (Fk.mk (f := f)) op = vop) (e : opA E (limP E) (limR E) [] h vop = some (v, h1)) (k : XD E os cs rest ⟨TL n (upd f d v), h⟩ Q) :
    XD E (⟨d, op, none, af⟩ :: os) (true :: cs) rest ⟨TL n f, h⟩ Q := XD.calm hk (by rw [opA_sub hb, s]; exact e) TL_set k
theorem XD.callQ {g : FuncId} {args : List AOperand} {vs : List V} {ps rs : List PV} (hb : below n (readsL args) = true) (e : evals [] (subL (Fk.mk (f := f)) args) = some vs) (e0 : pures vs = some ps) (hr : E.raw g = false) (hl : limP E g ps = some rs)
    (k : XD E os cs rest ⟨TL n (upd f d (mkRes rs)), h⟩ Q) : XD E (⟨d, .call g args, none, af⟩ :: os) (true :: cs) rest ⟨TL n f, h⟩ Q := XD.call (by rw [evals_sub hb]; exact e) e0 hr hl TL_set k
theorem XD.loudQ {v : V} {F : List Nat} (hb : below n op.reads = true) (s : sub (Fk.mk (f := f)) op = vop) (hF : foot [] h vop = F) (e : opA E (limP E) (limR E) [] (mask F h) vop = some (v, h1)) (hlen : h.length ≤ h1.length) (hm : merge F h h1 = h2)
    (k : XD E os cs rest ⟨TL n (upd f d v), h2⟩ Q) : XD E (⟨d, op, none, af⟩ :: os) (false :: cs) rest ⟨TL n f, h⟩ Q := by
  have hf : foot (TL n f) h op = F := by rw [foot_sub hb, s, hF]
  exact XD.loud (by rw [hf, opA_sub hb, s]; exact e) hlen (by rw [hf]; exact hm) TL_set k
theorem XD.stepNQ {t : Nat} (ht : Nat.blt t n = true) {b c : Bool} {l : List V} (e : fk (Fk.mk (f := f)) t = .tup l) (k : XD E os cs rest ⟨TL n (upd f d (.tup [])), h⟩ Q) :
    XD E (⟨d, op, some (t, b), af⟩ :: os) (c :: cs) rest ⟨TL n f, h⟩ Q := XD.stepN (by rw [wantQ ht, e]) TL_set k
theorem XD.stepGtQ {t : Nat} (ht : Nat.blt t n = true) {b' c : Bool} (e : fk (Fk.mk (f := f)) t = .pv (.bool b')) (k1 : b' = true → XD E (⟨d, op, none, af⟩ :: os) (c :: cs) rest ⟨TL n f, h⟩ Q)
    (k2 : b' = false → XD E os cs rest ⟨TL n (upd f d (.tup [])), h⟩ Q) : XD E (⟨d, op, some (t, true), af⟩ :: os) (c :: cs) rest ⟨TL n f, h⟩ Q := XD.stepGt (by rw [wantQ ht, e]) TL_set k1 k2
theorem XD.stepGfQ {t : Nat} (ht : Nat.blt t n = true) {b' c : Bool} (e : fk (Fk.mk (f := f)) t = .pv (.bool b')) (k1 : b' = false → XD E (⟨d, op, none, af⟩ :: os) (c :: cs) rest ⟨TL n f, h⟩ Q)
    (k2 : b' = true → XD E os cs rest ⟨TL n (upd f d (.tup [])), h⟩ Q) : XD E (⟨d, op, some (t, false), af⟩ :: os) (c :: cs) rest ⟨TL n f, h⟩ Q := XD.stepGf (by rw [wantQ ht, e]) TL_set k1 k2

/-- A function, entered. -/
theorem Has.limQ {g : FuncId} {a : AFunc} {ps rs : List PV} (H : Has E g a) (hl : ps.length ≤ a.ntmps) (hw : X E (app a.body .skip) ⟨TL a.ntmps (argF (ps.map .pv)), []⟩ (Fin a.results rs)) : limP E g ps = some rs := by
  have e := TL_arg (n := a.ntmps) (l := ps.map V.pv) (by simpa using hl)
  rw [List.length_map] at e
  exact H.lim hl e hw
theorem Fin.mkQ {res : List AResult} {rs rs' : List PV} {us : List V} (hb : belowR n res = true) (e : resS (Fk.mk (f := f)) h res = some us) (h2 : pureRes (oneOf us) h = some rs') (h3 : rs' = rs) : Fin res rs .ret ⟨TL n f, h⟩ :=
  Fin.mk' (by rw [res_sub hb]; exact e) h2 h3
theorem FinE.retQ {res : List AResult} {P : V → Heap → Prop} {us : List V} (hb : belowR n res = true) (e : resS (Fk.mk (f := f)) h res = some us) (h2 : P (oneOf us) h) : FinE res P .ret ⟨TL n f, h⟩ :=
  FinE.ret (by rw [res_sub hb]; exact e) h2
end
attribute [simp] fk_some fk_none fk_arg0 fk_argS fk_argN fk_map0 fk_mapS fk_mapN subO subL subM sub3 sub2 sub resS
end Ab
namespace Ab
open Go
section
variable {E : Env} {n : Nat} {f : Nat → V} {h h' : Heap} {Q : AExit → St → Prop} {rest : ACode} {d : Option Nat} {af : List Nat} {os : List AOper} {g : FuncId} {args : List AOperand} {vs : List V} {P : V → Heap → Prop} {cs : List Bool}
theorem callA_raw {v : V} (hr : E.raw g = true) (hx : ∀ ps, E.ext g ps = none) (h1 : limR E g vs h = some (v, h')) : callA E (limP E) (limR E) g vs h = some (v, h') := by
  simp only [callA, hr, if_true]
  cases pures vs with
  | none => exact h1
  | some ps => simp only [hx]; exact h1
/-- A call of a function that is run in its caller's heap, whatever its arguments. -/
theorem X.callQX (hb : below n (readsL args) = true) (e : evals [] (subL (Fk.mk (f := f)) args) = some vs) (hr : E.raw g = true) (hx : ∀ ps, E.ext g ps = none)
    (hl : ∃ v h', limR E g vs h = some (v, h') ∧ P v h') (k : ∀ v h', P v h' → X E (.seq (.region os false) rest) ⟨TL n (upd f d v), h'⟩ Q) : X E (.seq (.region (⟨d, .call g args, none, af⟩ :: os) false) rest) ⟨TL n f, h⟩ Q := by
  obtain ⟨v, h', h1, h2⟩ := hl
  exact X.step (v := v) (h' := h') (by rw [opA_sub hb]; simp only [sub, opA, e]; exact callA_raw hr hx h1) TL_set (k v h' h2)
/-- In any order: on what it may touch alone. -/
theorem XD.callQX {F : List Nat} (hb : below n (readsL args) = true) (e : evals [] (subL (Fk.mk (f := f)) args) = some vs) (hF : reach h h.length (addNew [] (vs.flatMap V.ids)) = F) (hr : E.raw g = true) (hx : ∀ ps, E.ext g ps = none)
    (hl : ∃ v h1, limR E g vs (mask F h) = some (v, h1) ∧ h.length ≤ h1.length ∧ P v (merge F h h1)) (k : ∀ v h', P v h' → XD E os cs rest ⟨TL n (upd f d v), h'⟩ Q) :
    XD E (⟨d, .call g args, none, af⟩ :: os) (false :: cs) rest ⟨TL n f, h⟩ Q := by
  obtain ⟨v, h1, g1, g2, g3⟩ := hl
  have hids : ∀ (xs : List AOperand) (vs : List V), evals [] xs = some vs → xs.flatMap (oIds []) = vs.flatMap V.ids := by
    intro xs
    induction xs with
    | nil => intro vs h; cases h; rfl
    | cons x xs ih =>
      intro vs h
      simp only [evals] at h
      split at h
      · rename_i v vs' e1 e2
        cases h
        rw [List.flatMap_cons, List.flatMap_cons, ih _ e2, oIds, e1]
      · cases h
  have hfoot : foot [] h (sub (Fk.mk (f := f)) (.call g args)) = F := by rw [← hF]; simp only [sub, foot, hids _ _ e]
  exact XD.loudQ (vop := sub (Fk.mk (f := f)) (.call g args)) (v := v) (h1 := h1) (by simpa [AOp.reads] using hb) rfl hfoot (by simp only [sub, opA, e]; exact callA_raw hr hx g1) g2 rfl (k v _ g3)
end
end Ab

-- Regions in any order where something grows apart from what is read: with a list of what may be read.
namespace Ab
open Go

/-- What is read is of the list; what grows is not. -/
def kindR : AOp → Nat
  | .load _ _ _ => 1
  | .append _ _ _ _ _ _ _ => 2
  | _ => 0
def OffOk (R : List Nat) : List Log → List Nat → Prop
  | [], [] => True
  | l :: ls, k :: ks => (k = 1 → ∀ x ∈ l.ids, x ∈ R) ∧ (k = 2 → ∀ x ∈ l.wids, x ∉ R) ∧ OffOk R ls ks
  | _, _ => False
theorem OffOk.at {R : List Nat} : ∀ {ls : List Log} {ks : List Nat}, OffOk R ls ks → ∀ (i : Nat) (l : Log) (k : Nat), ls[i]? = some l → ks[i]? = some k → (k = 1 → ∀ x ∈ l.ids, x ∈ R) ∧ (k = 2 → ∀ x ∈ l.wids, x ∉ R)
  | [], [], _ => fun i l k h => by simp at h
  | l :: ls, k :: ks, h => fun i l' k' h1 h2 => by
    cases i with
    | zero => simp at h1 h2; subst h1; subst h2; exact ⟨h.1, h.2.1⟩
    | succ i => exact OffOk.at h.2.2 i l' k' (by simpa using h1) (by simpa using h2)
  | [], _ :: _, h => h.elim
  | _ :: _, [], h => h.elim

structure XR (E : Env) (R : List Nat) (ops : List AOper) (cs : List Bool) (ks : List Nat) (rest : ACode) (st : St) (Q : AExit → St → Prop) : Prop where
  run : ∃ st' ls, stepsM E (limP E) (limR E) ops st = some (st', ls) ∧ LogsOk ls (ops.map statics) cs ∧ OffOk R ls ks ∧ X E rest st' Q

section
variable {E : Env} {st : St} {Q : AExit → St → Prop} {rest : ACode} {ops : List AOper} {R : List Nat}
variable {n : Nat} {f : Nat → V} {h h1 h2 : Heap} {d : Option Nat} {op vop : AOp} {af : List Nat} {os : List AOper} {cs : List Bool} {ks : List Nat} {v : V}
theorem XR.nil (k : X E rest st Q) : XR E R [] [] [] rest st Q := ⟨st, [], rfl, trivial, trivial, k⟩
/-- What reads nothing of the heap, or what lies apart from its kind. -/
theorem XR.calmQ (hk : calmK op = true) (hb : below n op.reads = true) (s : sub (Fk.mk (f := f)) op = vop) (hF : (foot [] h vop).all (fun x => R.contains x) = true) (e : opA E (limP E) (limR E) [] h vop = some (v, h1))
    (k : XR E R os cs ks rest ⟨TL n (upd f d v), h⟩ Q) : XR E R (⟨d, op, none, af⟩ :: os) (true :: cs) (kindR op :: ks) rest ⟨TL n f, h⟩ Q := by
  obtain ⟨st', ls, e2, hl, ho, hx⟩ := k.run
  have e0 : opA E (limP E) (limR E) (TL n f) h op = some (v, h1) := by rw [opA_sub hb, s]; exact e
  have hft : foot (TL n f) h op = foot [] h vop := by rw [foot_sub hb, s]
  obtain ⟨rfl, e3, e4⟩ := calm_ok hk e0
  refine ⟨st', ⟨[] ++ op.reads, d, foot (TL n f) h1 op ++ List.range' h1.length ((mask (foot (TL n f) h1 op) h1).length - h1.length), turned op (foot (TL n f) h1 op) h1 (mask (foot (TL n f) h1 op) h1)⟩ :: ls, ?_, ⟨⟨fun i hi => by simpa [statics] using hi, rfl, fun _ => e4⟩, hl⟩, ⟨fun _ x hx => ?_, fun _ x hx => ?_, ho⟩, hx⟩
  · simp only [stepsM, stepM, wantA, e3]
    rw [if_pos (by simp [length_mask])]
    simp only [merge_mask, TL_set, e2]
  · simp only [length_mask, Nat.sub_self, List.range'_zero, List.append_nil, hft] at hx
    rw [List.all_eq_true] at hF
    simpa using hF x hx
  · rw [e4] at hx; cases hx
theorem XR.loudQ {F : List Nat} (hk : kindR op = 0) (hb : below n op.reads = true) (s : sub (Fk.mk (f := f)) op = vop) (hF : foot [] h vop = F) (e : opA E (limP E) (limR E) [] (mask F h) vop = some (v, h1)) (hlen : h.length ≤ h1.length) (hm : merge F h h1 = h2)
    (k : XR E R os cs ks rest ⟨TL n (upd f d v), h2⟩ Q) : XR E R (⟨d, op, none, af⟩ :: os) (false :: cs) (kindR op :: ks) rest ⟨TL n f, h⟩ Q := by
  subst hm
  obtain ⟨st', ls, e2, hl, ho, hx⟩ := k.run
  have hf : foot (TL n f) h op = F := by rw [foot_sub hb, s, hF]
  have e0 : opA E (limP E) (limR E) (TL n f) (mask (foot (TL n f) h op) h) op = some (v, h1) := by rw [hf, opA_sub hb, s]; exact e
  refine ⟨st', ⟨[] ++ op.reads, d, foot (TL n f) h op ++ List.range' h.length (h1.length - h.length), turned op (foot (TL n f) h op) h h1⟩ :: ls, ?_, ⟨⟨fun i hi => by simpa [statics] using hi, rfl, fun h => (by cases h)⟩, hl⟩, ⟨fun hh => (by rw [hk] at hh; cases hh), fun hh => (by rw [hk] at hh; cases hh), ho⟩, hx⟩
  simp only [stepsM, stepM, wantA, e0, if_pos hlen, TL_set, e2]
  rw [hf, e2]
theorem XR.growQ {F : List Nat} (hk : kindR op = 2) (hq : op.quiet = false) (hc : op.isCall = false) (hb : below n op.reads = true) (s : sub (Fk.mk (f := f)) op = vop) (hF : foot [] h vop = F) (hR : F.all (fun x => !R.contains x) = true) (hR2 : ∀ x ∈ R, x < h.length)
    (e : opA E (limP E) (limR E) [] (mask F h) vop = some (v, h1)) (hlen : h.length ≤ h1.length) (hm : merge F h h1 = h2)
    (k : XR E R os cs ks rest ⟨TL n (upd f d v), h2⟩ Q) : XR E R (⟨d, op, none, af⟩ :: os) (false :: cs) (kindR op :: ks) rest ⟨TL n f, h⟩ Q := by
  subst hm
  obtain ⟨st', ls, e2, hl, ho, hx⟩ := k.run
  have hf : foot (TL n f) h op = F := by rw [foot_sub hb, s, hF]
  have e0 : opA E (limP E) (limR E) (TL n f) (mask (foot (TL n f) h op) h) op = some (v, h1) := by rw [hf, opA_sub hb, s]; exact e
  refine ⟨st', ⟨[] ++ op.reads, d, foot (TL n f) h op ++ List.range' h.length (h1.length - h.length), turned op (foot (TL n f) h op) h h1⟩ :: ls, ?_, ⟨⟨fun i hi => by simpa [statics] using hi, rfl, fun h => (by cases h)⟩, hl⟩, ⟨fun hh => (by rw [hk] at hh; cases hh), fun _ x hx => ?_, ho⟩, hx⟩
  · simp only [stepsM, stepM, wantA, e0, if_pos hlen, TL_set, e2]
    rw [hf, e2]
  · simp only [turned, hq, hc, Bool.false_eq_true, if_false, hf, List.mem_append, List.mem_range'_1] at hx
    rcases hx with hx | hx
    · rw [List.all_eq_true] at hR
      simpa using hR x hx
    · intro hr
      have := hR2 x hr
      omega
end
end Ab

-- A pure call in a drawn region, whose arguments are new or no slices.
namespace Ab
open Go
section
variable {E : Env} {n : Nat} {f : Nat → V} {h h' : Heap} {Q : AExit → St → Prop} {rest : ACode} {d : Option Nat} {af : List Nat} {os : List AOper} {g : FuncId} {args : List AOperand} {vs : List V} {ps rs : List PV} {cs : List Bool}
theorem evals_ids {ts : List V} : ∀ (xs : List AOperand) (vs : List V), evals ts xs = some vs → xs.flatMap (oIds ts) = vs.flatMap V.ids := by
  intro xs
  induction xs with
  | nil => intro vs h; cases h; rfl
  | cons x xs ih =>
    intro vs h
    simp only [evals] at h
    split at h
    · rename_i v vs' e1 e2
      cases h
      rw [List.flatMap_cons, List.flatMap_cons, ih _ e2, oIds, e1]
    · cases h
end
end Ab

-- Regions in any order with calls that turn what they are handed, apart from what is read.
namespace Ab
open Go
/-- What grows touches what is there alone. -/
def Low (E : Env) : List Nat → List AOper → St → Prop
  | k :: ks, o :: os, st => ∀ st1 l, stepM E (limP E) (limR E) o st = some (st1, l) → (k = 2 → ∀ x, x ∈ l.ids ∨ x ∈ l.wids → x < st1.heap.length) ∧ Low E ks os st1
  | _, _, _ => True
structure XC (E : Env) (R : List Nat) (ops : List AOper) (cs : List Bool) (ks : List Nat) (rest : ACode) (st : St) (Q : AExit → St → Prop) : Prop where
  run : ∃ st' ls, stepsM E (limP E) (limR E) ops st = some (st', ls) ∧ LogsOk ls (ops.map statics) cs ∧ OffOk R ls ks ∧ Low E ks ops st ∧ X E rest st' Q

section
variable {E : Env} {st : St} {Q : AExit → St → Prop} {rest : ACode} {ops : List AOper} {R : List Nat}
variable {n : Nat} {f : Nat → V} {h h1 h2 : Heap} {d : Option Nat} {op vop : AOp} {af : List Nat} {os : List AOper} {cs : List Bool} {ks : List Nat} {v : V}
theorem XC.nil (k : X E rest st Q) : XC E R [] [] [] rest st Q := ⟨st, [], rfl, trivial, trivial, trivial, k⟩
theorem low_cons {o : AOper} {k : Nat} {st1 : St} {l : Log} (e : stepM E (limP E) (limR E) o st = some (st1, l)) (h1 : k = 2 → ∀ x, x ∈ l.ids ∨ x ∈ l.wids → x < st1.heap.length) (h2 : Low E ks os st1) : Low E (k :: ks) (o :: os) st := by
  intro st2 l2 e2
  rw [e] at e2
  cases e2
  exact ⟨h1, h2⟩
theorem XC.calmQ {k0 : Nat} (hk0 : Nat.beq k0 2 = false) (hk : calmK op = true) (hb : below n op.reads = true) (s : sub (Fk.mk (f := f)) op = vop) (hF : (foot [] h vop).all (fun x => R.contains x) = true) (e : opA E (limP E) (limR E) [] h vop = some (v, h1))
    (k : XC E R os cs ks rest ⟨TL n (upd f d v), h⟩ Q) : XC E R (⟨d, op, none, af⟩ :: os) (true :: cs) (k0 :: ks) rest ⟨TL n f, h⟩ Q := by
  obtain ⟨st', ls, e2, hl, ho, hlow, hx⟩ := k.run
  have e0 : opA E (limP E) (limR E) (TL n f) h op = some (v, h1) := by rw [opA_sub hb, s]; exact e
  have hft : foot (TL n f) h op = foot [] h vop := by rw [foot_sub hb, s]
  obtain ⟨rfl, e3, e4⟩ := calm_ok hk e0
  refine ⟨st', ⟨[] ++ op.reads, d, foot (TL n f) h1 op ++ List.range' h1.length ((mask (foot (TL n f) h1 op) h1).length - h1.length), turned op (foot (TL n f) h1 op) h1 (mask (foot (TL n f) h1 op) h1)⟩ :: ls, ?_, ⟨⟨fun i hi => by simpa [statics] using hi, rfl, fun _ => e4⟩, hl⟩, ⟨fun _ x hx => ?_, fun _ x hx => ?_, ho⟩, low_cons (st1 := ⟨TL n (upd f d v), h1⟩) (l := ⟨[] ++ op.reads, d, foot (TL n f) h1 op ++ List.range' h1.length ((mask (foot (TL n f) h1 op) h1).length - h1.length), turned op (foot (TL n f) h1 op) h1 (mask (foot (TL n f) h1 op) h1)⟩) ?_ ?_ hlow, hx⟩
  · simp only [stepsM, stepM, wantA, e3]
    rw [if_pos (by simp [length_mask])]
    simp only [merge_mask, TL_set, e2]
  · simp only [length_mask, Nat.sub_self, List.range'_zero, List.append_nil, hft] at hx
    rw [List.all_eq_true] at hF
    simpa using hF x hx
  · rw [e4] at hx; cases hx
  · simp only [stepM, wantA, e3]
    rw [if_pos (by simp [length_mask])]
    simp only [merge_mask, TL_set]
  · intro hk2
    rw [hk2] at hk0
    cases hk0
theorem XC.loudQ {F : List Nat} (hk : kindR op = 0) (hb : below n op.reads = true) (s : sub (Fk.mk (f := f)) op = vop) (hF : foot [] h vop = F) (e : opA E (limP E) (limR E) [] (mask F h) vop = some (v, h1)) (hlen : h.length ≤ h1.length) (hm : merge F h h1 = h2)
    (k : XC E R os cs ks rest ⟨TL n (upd f d v), h2⟩ Q) : XC E R (⟨d, op, none, af⟩ :: os) (false :: cs) (kindR op :: ks) rest ⟨TL n f, h⟩ Q := by
  subst hm
  obtain ⟨st', ls, e2, hl, ho, hlow, hx⟩ := k.run
  have hf : foot (TL n f) h op = F := by rw [foot_sub hb, s, hF]
  have e0 : opA E (limP E) (limR E) (TL n f) (mask (foot (TL n f) h op) h) op = some (v, h1) := by rw [hf, opA_sub hb, s]; exact e
  refine ⟨st', ⟨[] ++ op.reads, d, foot (TL n f) h op ++ List.range' h.length (h1.length - h.length), turned op (foot (TL n f) h op) h h1⟩ :: ls, ?_, ⟨⟨fun i hi => by simpa [statics] using hi, rfl, fun h => (by cases h)⟩, hl⟩, ⟨fun hh => (by rw [hk] at hh; cases hh), fun hh => (by rw [hk] at hh; cases hh), ho⟩, low_cons (st1 := ⟨TL n (upd f d v), merge F h h1⟩) (l := ⟨[] ++ op.reads, d, foot (TL n f) h op ++ List.range' h.length (h1.length - h.length), turned op (foot (TL n f) h op) h h1⟩) ?_ (fun hh => (by rw [hk] at hh; cases hh)) hlow, hx⟩
  · simp only [stepsM, stepM, wantA, e0, if_pos hlen, TL_set, e2]
    rw [hf, e2]
  · simp only [stepM, wantA, e0, if_pos hlen, TL_set]
    rw [hf]
theorem XC.growQ {F : List Nat} (hq : op.quiet = false) (hc : op.isCall = false) (hb : below n op.reads = true) (s : sub (Fk.mk (f := f)) op = vop) (hF : foot [] h vop = F) (hR : F.all (fun x => !R.contains x) = true) (hR2 : ∀ x ∈ R, x < h.length) (hR3 : ∀ x ∈ F, x < h.length)
    (e : opA E (limP E) (limR E) [] (mask F h) vop = some (v, h1)) (hlen : h.length ≤ h1.length) (hm : merge F h h1 = h2)
    (k : XC E R os cs ks rest ⟨TL n (upd f d v), h2⟩ Q) : XC E R (⟨d, op, none, af⟩ :: os) (false :: cs) (2 :: ks) rest ⟨TL n f, h⟩ Q := by
  subst hm
  obtain ⟨st', ls, e2, hl, ho, hlow, hx⟩ := k.run
  have hf : foot (TL n f) h op = F := by rw [foot_sub hb, s, hF]
  have e0 : opA E (limP E) (limR E) (TL n f) (mask (foot (TL n f) h op) h) op = some (v, h1) := by rw [hf, opA_sub hb, s]; exact e
  refine ⟨st', ⟨[] ++ op.reads, d, foot (TL n f) h op ++ List.range' h.length (h1.length - h.length), turned op (foot (TL n f) h op) h h1⟩ :: ls, ?_, ⟨⟨fun i hi => by simpa [statics] using hi, rfl, fun h => (by cases h)⟩, hl⟩, ⟨fun hh => (by cases hh), fun _ x hx => ?_, ho⟩, low_cons (st1 := ⟨TL n (upd f d v), merge F h h1⟩) (l := ⟨[] ++ op.reads, d, foot (TL n f) h op ++ List.range' h.length (h1.length - h.length), turned op (foot (TL n f) h op) h h1⟩) ?_ (fun _ x hx => ?_) hlow, hx⟩
  · simp only [stepsM, stepM, wantA, e0, if_pos hlen, TL_set, e2]
    rw [hf, e2]
  · simp only [turned, hq, hc, Bool.false_eq_true, if_false, hf, List.mem_append, List.mem_range'_1] at hx
    rcases hx with hx | hx
    · rw [List.all_eq_true] at hR
      simpa using hR x hx
    · intro hr
      have := hR2 x hr
      omega
  · simp only [stepM, wantA, e0, if_pos hlen, TL_set]
    rw [hf]
  · have hm2 : (merge F h h1).length = h1.length := by simp [merge]
    simp only [hm2]
    simp only [turned, hq, hc, Bool.false_eq_true, if_false, hf, List.mem_append, List.mem_range'_1, or_self] at hx
    rcases hx with hx | hx
    · have := hR3 x hx; omega
    · omega
/-- A pure call. -/
theorem XC.callP {g : FuncId} {args : List AOperand} {vs : List V} {ps rs : List PV} (hb : below n (readsL args) = true) (e : evals [] (subL (Fk.mk (f := f)) args) = some vs) (e0 : pures vs = some ps) (hr : E.raw g = false) (hl : limP E g ps = some rs)
    (k : XC E R os cs ks rest ⟨TL n (upd f d (mkRes rs)), h⟩ Q) : XC E R (⟨d, .call g args, none, af⟩ :: os) (true :: cs) (1 :: ks) rest ⟨TL n f, h⟩ Q := by
  obtain ⟨st', ls, e2, hl2, ho, hlow, hx⟩ := k.run
  have hvs : ∀ (vs : List V) (ps : List PV), pures vs = some ps → vs = ps.map .pv := by
    intro vs
    induction vs with
    | nil => intro ps h; cases h; rfl
    | cons v vs ih =>
      intro ps h
      cases v <;> simp only [pures, reduceCtorEq] at h
      split at h
      · cases h; rename_i e; simp [ih _ e]
      · cases h
  have hv := hvs vs ps e0
  subst hv
  have hids : (ps.map V.pv).flatMap V.ids = [] := by
    induction ps with
    | nil => rfl
    | cons p ps ih => simp [V.ids]
  have hft : foot (TL n f) h (.call g args) = [] := by
    have : foot [] h (sub (Fk.mk (f := f)) (.call g args)) = [] := by simp only [sub, foot, evals_ids _ _ e, hids, addNew, reach_nil]
    rw [← this]; exact foot_sub (by simpa [AOp.reads] using hb)
  have hop : opA E (limP E) (limR E) (TL n f) (mask [] h) (.call g args) = some (mkRes rs, mask [] h) := by
    have h1 : snapLF (snap snapFuel) (ps.map .pv) (mask [] h) = some (ps, mask [] h) := snapLF_pvs ps
    rw [opA_sub (by simpa [AOp.reads] using hb)]
    simp only [sub, opA, e, callA, hr, Bool.false_eq_true, if_false, snapL, h1, hl]
  refine ⟨st', ⟨[] ++ (AOp.call g args).reads, d, [] ++ List.range' h.length ((mask [] h).length - h.length), turned (.call g args) [] h (mask [] h)⟩ :: ls, ?_, ⟨⟨fun i hi => by simpa [statics] using hi, rfl, fun _ => by simp [turned, length_mask]⟩, hl2⟩, ⟨fun _ x hx => (by simp [length_mask] at hx), fun hh => (by cases hh), ho⟩, low_cons (st1 := ⟨TL n (upd f d (mkRes rs)), h⟩) (l := ⟨[] ++ (AOp.call g args).reads, d, [] ++ List.range' h.length ((mask [] h).length - h.length), turned (.call g args) [] h (mask [] h)⟩) ?_ (fun hh => (by cases hh)) hlow, hx⟩
  · simp only [stepsM, stepM, wantA, hft, hop]
    rw [if_pos (by simp [length_mask])]
    simp only [merge_mask, TL_set, e2]
  · simp only [stepM, wantA, hft, hop]
    rw [if_pos (by simp [length_mask])]
    simp only [merge_mask, TL_set]

/-- What hangs on a guard: the log, but for what is read. -/
theorem low_guard {o o' : AOper} {k : Nat} (h : Low E (k :: ks) (o :: os) st) (hs : ∀ st1 l, stepM E (limP E) (limR E) o' st = some (st1, l) → ∃ l', stepM E (limP E) (limR E) o st = some (st1, l') ∧ l'.ids = l.ids ∧ l'.wids = l.wids) : Low E (k :: ks) (o' :: os) st := by
  intro st1 l e
  obtain ⟨l', e', h1, h2⟩ := hs st1 l e
  have := h st1 l' e'
  rw [h1, h2] at this
  exact this
theorem XC.stepG {t : Nat} {b b' c : Bool} {kk : Nat} {ts : List V} (e : ts[t]? = some (.pv (.bool b'))) (k1 : b' = b → XC E R (⟨d, op, none, af⟩ :: os) (c :: cs) (kk :: ks) rest ⟨ts, h⟩ Q)
    (k2 : b' = !b → XC E R os cs ks rest ⟨putA ts d (.tup []), h⟩ Q) : XC E R (⟨d, op, some (t, b), af⟩ :: os) (c :: cs) (kk :: ks) rest ⟨ts, h⟩ Q := by
  by_cases hc : b' = b
  · obtain ⟨st', ls, e2, hl, ho, hlow, hx⟩ := (k1 hc).run
    have hc' : (b' == b) = true := by simpa using hc
    cases ls with
    | nil => exact hl.elim
    | cons l ls =>
      refine ⟨st', ⟨[t] ++ op.reads, l.wr, l.ids, l.wids⟩ :: ls, ?_, ⟨⟨fun i hi => by simpa [statics] using hi, hl.1.2.1, hl.1.2.2⟩, hl.2⟩, ⟨ho.1, ho.2.1, ho.2.2⟩, low_guard hlow ?_, hx⟩
      · simp only [stepsM, stepM, wantA, e, hc'] at e2 ⊢
        split at e2
        · rename_i st1 l1 e3
          split at e2
          · rename_i st2 ls2 e4
            cases e2
            split at e3
            · rename_i v h' e5
              split at e3
              · rename_i hlen
                cases e3
                rw [if_pos hlen]
                simp only [e4, List.nil_append]
              · cases e3
            · cases e3
          · cases e2
        · cases e2
      · intro st1 l e3
        simp only [stepM, wantA, e, hc'] at e3 ⊢
        split at e3
        · rename_i v h' e5
          split at e3
          · rename_i hlen
            cases e3
            rw [if_pos hlen]
            exact ⟨_, rfl, rfl, rfl⟩
          · cases e3
        · cases e3
  · obtain ⟨st', ls, e2, hl, ho, hlow, hx⟩ := (k2 (by cases b <;> cases b' <;> simp_all)).run
    have hc' : (b' == b) = false := by simpa using hc
    refine ⟨st', ⟨[t], d, [], []⟩ :: ls, ?_, ⟨⟨fun i hi => by simp at hi; subst hi; simp [statics], rfl, fun _ => rfl⟩, hl⟩, ⟨fun _ x hx => (by cases hx), fun _ x hx => (by cases hx), ho⟩, low_cons (st1 := ⟨putA ts d (.tup []), h⟩) (l := ⟨[t], d, [], []⟩) ?_ (fun _ x hx => by rcases hx with hx | hx <;> cases hx) hlow, hx⟩
    · simp only [stepsM, stepM, wantA, e, hc', e2]
    · simp only [stepM, wantA, e, hc']
theorem XC.stepN {t : Nat} {b c : Bool} {kk : Nat} {ts : List V} {l : List V} (e : ts[t]? = some (.tup l)) (k : XC E R os cs ks rest ⟨putA ts d (.tup []), h⟩ Q) : XC E R (⟨d, op, some (t, b), af⟩ :: os) (c :: cs) (kk :: ks) rest ⟨ts, h⟩ Q := by
  obtain ⟨st', ls, e2, hl, ho, hlow, hx⟩ := k.run
  refine ⟨st', ⟨[t], d, [], []⟩ :: ls, ?_, ⟨⟨fun i hi => by simp at hi; subst hi; simp [statics], rfl, fun _ => rfl⟩, hl⟩, ⟨fun _ x hx => (by cases hx), fun _ x hx => (by cases hx), ho⟩, low_cons (st1 := ⟨putA ts d (.tup []), h⟩) (l := ⟨[t], d, [], []⟩) ?_ (fun _ x hx => by rcases hx with hx | hx <;> cases hx) hlow, hx⟩
  · simp only [stepsM, stepM, wantA, e, e2]
  · simp only [stepM, wantA, e]
theorem XC.stepNQ {t : Nat} (ht : Nat.blt t n = true) {b c : Bool} {kk : Nat} {l : List V} (e : fk (Fk.mk (f := f)) t = .tup l) (k : XC E R os cs ks rest ⟨TL n (upd f d (.tup [])), h⟩ Q) :
    XC E R (⟨d, op, some (t, b), af⟩ :: os) (c :: cs) (kk :: ks) rest ⟨TL n f, h⟩ Q := XC.stepN (by rw [wantQ ht, e]) (by rw [TL_set]; exact k)
theorem XC.stepGtQ {t : Nat} (ht : Nat.blt t n = true) {b' c : Bool} {kk : Nat} (e : fk (Fk.mk (f := f)) t = .pv (.bool b')) (k1 : b' = true → XC E R (⟨d, op, none, af⟩ :: os) (c :: cs) (kk :: ks) rest ⟨TL n f, h⟩ Q)
    (k2 : b' = false → XC E R os cs ks rest ⟨TL n (upd f d (.tup [])), h⟩ Q) : XC E R (⟨d, op, some (t, true), af⟩ :: os) (c :: cs) (kk :: ks) rest ⟨TL n f, h⟩ Q := XC.stepG (by rw [wantQ ht, e]) k1 (by rw [TL_set]; exact k2)
theorem XC.stepGfQ {t : Nat} (ht : Nat.blt t n = true) {b' c : Bool} {kk : Nat} (e : fk (Fk.mk (f := f)) t = .pv (.bool b')) (k1 : b' = false → XC E R (⟨d, op, none, af⟩ :: os) (c :: cs) (kk :: ks) rest ⟨TL n f, h⟩ Q)
    (k2 : b' = true → XC E R os cs ks rest ⟨TL n (upd f d (.tup [])), h⟩ Q) : XC E R (⟨d, op, some (t, false), af⟩ :: os) (c :: cs) (kk :: ks) rest ⟨TL n f, h⟩ Q := XC.stepG (by rw [wantQ ht, e]) k1 (by rw [TL_set]; exact k2)
end
end Ab
