/- AbStep: steps, walks, laws: see the remarks within. -/
import Derived.Test.YtlhfndoldaokhaaDoorAbWalk
import Derived.KernelRfl
set_option linter.unusedSimpArgs false
set_option linter.unusedVariables false
-- Walks by steps: one operation, one choice at a time.
namespace Ab
open Go

/-- Code that runs and leaves what Q says: not to be looked into. -/
structure X (E : Env) (c : ACode) (st : St) (Q : AExit → St → Prop) : Prop where
  run : W E c st Q

theorem x_eq {E : Env} {c : ACode} {st : St} {Q : AExit → St → Prop} : X E c st Q = W E c st Q := propext ⟨fun h => h.run, fun h => ⟨h⟩⟩

namespace X
section
variable {E : Env} {ts ts' : List V} {h h' : Heap} {st st' : St} {Q Q' : AExit → St → Prop} {rest : ACode} {d : Option Nat} {op : AOp} {af : List Nat} {os : List AOper}

theorem mono {c : ACode} (h : X E c st Q) (hq : ∀ ex st, Q ex st → Q' ex st) : X E c st Q' := ⟨h.run.mono hq⟩

/-- One operation, and on. -/
theorem step {v : V} (e : opA E (limP E) (limR E) ts h op = some (v, h')) (p : putA ts d v = ts') (k : X E (.seq (.region os false) rest) ⟨ts', h'⟩ Q) :
    X E (.seq (.region (⟨d, op, none, af⟩ :: os) false) rest) ⟨ts, h⟩ Q := by
  subst p
  rw [x_eq, w_seq, w_region] at k ⊢
  simp only [regionA_text, stepsA, stepA, wantA, e] at k ⊢
  exact k

/-- One that is wanted, or not. -/
theorem stepG {t : Nat} {b c : Bool} (e : ts[t]? = some (.pv (.bool c))) (p : putA ts d (.tup []) = ts') (k1 : c = b → X E (.seq (.region (⟨d, op, none, af⟩ :: os) false) rest) ⟨ts, h⟩ Q)
    (k2 : c = !b → X E (.seq (.region os false) rest) ⟨ts', h⟩ Q) : X E (.seq (.region (⟨d, op, some (t, b), af⟩ :: os) false) rest) ⟨ts, h⟩ Q := by
  subst p
  rw [x_eq, w_seq, w_region] at k1 k2 ⊢
  by_cases hc : c = b
  · have k := k1 hc
    have hc' : (c == b) = true := by simpa using hc
    simp only [regionA_text, stepsA, stepA, wantA, e, hc'] at k ⊢
    exact k
  · have k := k2 (by cases b <;> cases c <;> simp_all)
    have hc' : (c == b) = false := by simpa using hc
    simp only [regionA_text, stepsA, stepA, wantA, e, hc'] at k ⊢
    exact k

theorem stepGt {t : Nat} {c : Bool} (e : ts[t]? = some (.pv (.bool c))) (p : putA ts d (.tup []) = ts') (k1 : c = true → X E (.seq (.region (⟨d, op, none, af⟩ :: os) false) rest) ⟨ts, h⟩ Q)
    (k2 : c = false → X E (.seq (.region os false) rest) ⟨ts', h⟩ Q) : X E (.seq (.region (⟨d, op, some (t, true), af⟩ :: os) false) rest) ⟨ts, h⟩ Q := stepG e p k1 k2
theorem stepGf {t : Nat} {c : Bool} (e : ts[t]? = some (.pv (.bool c))) (p : putA ts d (.tup []) = ts') (k1 : c = false → X E (.seq (.region (⟨d, op, none, af⟩ :: os) false) rest) ⟨ts, h⟩ Q)
    (k2 : c = true → X E (.seq (.region os false) rest) ⟨ts', h⟩ Q) : X E (.seq (.region (⟨d, op, some (t, false), af⟩ :: os) false) rest) ⟨ts, h⟩ Q := stepG e p k1 k2

/-- One that hangs on what was not wanted. -/
theorem stepN {t : Nat} {b : Bool} {l : List V} (e : ts[t]? = some (.tup l)) (p : putA ts d (.tup []) = ts') (k : X E (.seq (.region os false) rest) ⟨ts', h⟩ Q) :
    X E (.seq (.region (⟨d, op, some (t, b), af⟩ :: os) false) rest) ⟨ts, h⟩ Q := by
  subst p
  rw [x_eq, w_seq, w_region] at k ⊢
  simp only [regionA_text, stepsA, stepA, wantA, e] at k ⊢
  exact k

theorem stepZ (k : X E rest st Q) : X E (.seq (.region [] false) rest) st Q := by
  rw [x_eq] at k ⊢
  rw [w_seq, w_region]
  exact k

theorem skip (h : Q .normal st) : X E .skip st Q := ⟨W.skip h⟩
theorem skipB {k : St → Prop} {id : Nat} (h : k st) : X E .skip st (inB id (thenQ k Q)) := ⟨W.skip h⟩
theorem skipL {k : St → Prop} (h : k st) : X E .skip st (thenQ k Q) := ⟨W.skip h⟩
theorem skipS (k : X E rest st Q) : X E (.seq .skip rest) st Q := ⟨W.skipS k.run⟩
theorem retS (k : Q .ret st) : X E (.seq .ret rest) st Q := ⟨W.retS k⟩
theorem exitS {id : Nat} (k : Q (.exit id) st) : X E (.seq (.exit id) rest) st Q := ⟨W.exitS k⟩

/-- A choice, and on. -/
theorem condS {c : AOperand} {a b : ACode} {t : Bool} (hc : St.eval st.tmps c = some (.pv (.bool t))) (h1 : t = true → X E (app a rest) st Q) (h2 : t = false → X E (app b rest) st Q) : X E (.seq (.cond c a b) rest) st Q :=
  ⟨W.condS hc (fun h => (h1 h).run) (fun h => (h2 h).run)⟩

theorem blockS {id : Nat} {b : ACode} (h : X E (app b .skip) st (inB id (thenQ (fun st => X E rest st Q) Q))) : X E (.seq (.block id b) rest) st Q := by
  simp only [x_eq] at h ⊢
  exact W.blockS h

/-- A block, with what holds behind it. -/
theorem blockMid {id : Nat} {b : ACode} (M : St → Prop) (h : X E (app b .skip) st (inB id (thenQ M Q))) (k : ∀ st, M st → X E rest st Q) : X E (.seq (.block id b) rest) st Q :=
  ⟨W.blockMid M h.run fun st hm => (k st hm).run⟩

/-- A region in the text's order, and on. -/
theorem go {ops : List AOper} (h : stepsA E (limP E) (limR E) ops st = some st') (k : X E rest st' Q) : X E (.seq (.region ops false) rest) st Q := ⟨W.go h k.run⟩

/-- A region, with what holds behind it. -/
theorem goMid {ops : List AOper} (M : St → Prop) (h : X E (.seq (.region ops false) .skip) st (thenQ M fun _ _ => False)) (k : ∀ st', M st' → X E rest st' Q) : X E (.seq (.region ops false) rest) st Q := by
  simp only [x_eq] at h k ⊢
  rw [w_seq] at h ⊢
  refine h.mono fun ex st hq => ?_
  cases ex with
  | normal => exact k st (w_skip.1 hq)
  | ret => exact hq.elim
  | exit i => exact hq.elim

/-- A region in any order, and on. -/
theorem draw {ops : List AOper} {ls : List Log} (h : stepsM E (limP E) (limR E) ops st = some (st', ls)) (hp : (ordered ops 0 && pairsOk (ancs ops []) ls) = true) (k : X E rest st' Q) : X E (.seq (.region ops true) rest) st Q :=
  ⟨W.draw h hp k.run⟩

/-- A loop, by a number that falls. -/
theorem loopS {b : ACode} (I : Nat → St → Prop) (k : Nat) (h0 : I k st) (hb : ∀ k st, I k st → X E (app b .skip) st (thenQ (fun st' => ∃ k', k' < k ∧ I k' st') (thenQ (fun st => X E rest st Q) Q))) : X E (.seq (.loop b) rest) st Q := by
  simp only [x_eq] at hb ⊢
  exact W.loopS I k h0 hb

/-- A loop over so many rounds. -/
theorem forS {b : ACode} (n : Nat) (I : Nat → St → Prop) (h0 : I 0 st) (hb : ∀ j st, j ≤ n → I j st → X E (app b .skip) st (thenQ (fun st' => j < n ∧ I (j + 1) st') (thenQ (fun st => X E rest st Q) Q))) : X E (.seq (.loop b) rest) st Q := by
  refine loopS (fun k st => ∃ j, j ≤ n ∧ k = n - j ∧ I j st) n ⟨0, by omega, by omega, h0⟩ ?_
  rintro k st ⟨j, hj, rfl, hi⟩
  refine (hb j st hj hi).mono fun ex st' hq => ?_
  cases ex with
  | normal => exact ⟨n - (j + 1), by have := hq.1; omega, j + 1, hq.1, rfl, hq.2⟩
  | ret => exact hq
  | exit id => exact hq

/-- Out of a block. -/
theorem here {k : St → Prop} {id : Nat} (h : k st) : inB id (thenQ k Q) (.exit id) st := .inl ⟨rfl, h⟩
theorem out {id id' : Nat} (hne : id' ≠ id) (h : Q (.exit id') st) : inB id Q (.exit id') st := .inr ⟨hne, h⟩
end
end X
end Ab

-- Regions in any order, step by step: what is calm needs no look at who touched what.
namespace Ab
open Go

/-- Operations that turn nothing. -/
def calmK : AOp → Bool
  | .move _ | .pick _ _ _ | .nilCheck _ | .bin _ _ _ _ | .un _ _ | .mkFn _ _ | .sliceStr _ _ _ | .sliceSl _ _ _ _ | .faddr _ _ | .field _ _ _ _ | .iaddrArr _ _ _ _ | .iaddrSl _ _ _ | .idxStr _ _ | .idxArr _ _ _ _ _
  | .build _ _ | .lenOf _ _ | .lenArr _ | .minmax _ _ | .extract _ _ | .mkIface _ _ | .load _ _ _ => true
  | .conv c _ => match c with | .bytesStr => false | _ => true
  | _ => false

def flagK : AOp → Bool
  | .call _ _ => true
  | .callv _ _ => true
  | op => calmK op

section
variable {E : Env} {p : FuncId → List PV → Option (List PV)} {r : FuncId → List V → Heap → Option (V × Heap)} {ts : List V} {h h' : Heap}

theorem loadA_mask {F : List Nat} {ag : Bool} {sz : Nat} {a : V} (hF : ∀ i ∈ a.ids, i ∈ F) : loadA (mask F h) ag sz a = loadA h ag sz a := by
  cases a with
  | ptr id off =>
    have : ent (mask F h) id = ent h id := by rw [ent_mask, if_pos (by simpa using hF id (by simp [V.ids]))]
    simp only [loadA, this]
  | pv q => cases q <;> rfl
  | _ => rfl

theorem calm_ok {op : AOp} {v : V} (hk : calmK op = true) (e : opA E p r ts h op = some (v, h')) :
    h' = h ∧ opA E p r ts (mask (foot ts h op) h) op = some (v, mask (foot ts h op) h) ∧ turned op (foot ts h op) h (mask (foot ts h op) h) = [] := by
  have key : ∀ (o : Option V) (h1 : Heap), (o.map fun v => (v, h)) = some (v, h') → h' = h ∧ (o.map fun v => (v, h1)) = some (v, h1) := by
    intro o h1 e
    cases o with
    | none => cases e
    | some w => cases e; exact ⟨rfl, rfl⟩
  cases op <;> simp only [calmK, Bool.false_eq_true] at hk
  case load ag sz a =>
    simp only [opA] at e ⊢
    cases ha : St.eval ts a with
    | none => rw [ha] at e; cases e
    | some a' =>
      rw [ha] at e
      simp only at e ⊢
      have hm : loadA (mask (foot ts h (.load ag sz a)) h) ag sz a' = loadA h ag sz a' := loadA_mask fun i hi => by simpa [foot, oIds, ha] using hi
      rw [hm]
      obtain ⟨h1, h2⟩ := key _ (mask (foot ts h (.load ag sz a)) h) e
      exact ⟨h1, h2, by simp [turned, AOp.quiet]⟩
  case conv c x =>
    have hq : turned (.conv c x) (foot ts h (.conv c x)) h (mask (foot ts h (.conv c x)) h) = [] := by simp [turned, AOp.quiet]
    refine ⟨?_, ?_, hq⟩
    · simp only [opA] at e
      split at e
      · exact (key _ h e).1
      · cases e
    · simp only [opA] at e ⊢
      cases hx : St.eval ts x with
      | none => rw [hx] at e; cases e
      | some x' =>
        rw [hx] at e
        simp only at e ⊢
        have hm : convA c x' (mask (foot ts h (.conv c x)) h) = convA c x' h := by
          cases c <;> first | (cases hk; done) | (cases x' <;> first | rfl | (rename_i q; cases q <;> rfl))
        rw [hm]
        exact (key _ _ e).2
  all_goals
    refine ⟨?_, ?_, by simp [turned, foot, mask, AOp.quiet, AOp.isCall]⟩ <;> simp only [opA] at e ⊢ <;> (repeat' split at e) <;> (try simp only [*]) <;> first | exact (key _ h e).1 | exact (key _ _ e).2 | (cases e; rfl) | (cases e; done) | (cases e; simp_all; done) | (simp only [Option.map_map, Function.comp_def, Option.map_eq_some_iff] at e ⊢; obtain ⟨w, hw, hw2⟩ := e; cases hw2; first | rfl | exact ⟨_, hw, rfl⟩)
end

/-- What an operation reads and writes, by its text. -/
def statics (o : AOper) : List Nat × Option Nat := ((match o.guard with | some (t, _) => [t] | none => []) ++ o.op.reads, o.dst)
def statApart (a b : List Nat × Option Nat) : Bool := apartT a.2 b.1 && apartT b.2 a.1 && (match a.2, b.2 with | some x, some y => x != y | _, _ => true)
def statOk (as : List Nat) (ss : List (List Nat × Option Nat)) (cs : List Bool) : Bool :=
  (List.range ss.length).all fun j => (List.range j).all fun i => (as.getD j 0).testBit i || match ss[i]?, ss[j]?, cs[i]?, cs[j]? with
    | some a, some b, some true, some true => statApart a b
    | _, _, _, _ => false

/-- A log within what the text says. -/
def LogOk (l : Log) (s : List Nat × Option Nat) (c : Bool) : Prop := (∀ i ∈ l.rd, i ∈ s.1) ∧ l.wr = s.2 ∧ (c = true → l.wids = [])
def LogsOk : List Log → List (List Nat × Option Nat) → List Bool → Prop
  | [], [], [] => True
  | l :: ls, s :: ss, c :: cs => LogOk l s c ∧ LogsOk ls ss cs
  | _, _, _ => False

theorem LogsOk.at : ∀ {ls : List Log} {ss : List (List Nat × Option Nat)} {cs : List Bool}, LogsOk ls ss cs → ls.length = ss.length ∧ ∀ (i : Nat) (s : List Nat × Option Nat) (c : Bool), ss[i]? = some s → cs[i]? = some c → ∃ l, ls[i]? = some l ∧ LogOk l s c
  | [], [], [], _ => ⟨rfl, fun i s c h => by simp at h⟩
  | l :: ls, s :: ss, c :: cs, h => by
    obtain ⟨h1, h2⟩ := LogsOk.at h.2
    refine ⟨by simp [h1], fun i s' c' hs hc => ?_⟩
    cases i with
    | zero => simp at hs hc; subst hs; subst hc; exact ⟨l, rfl, h.1⟩
    | succ i => exact h2 i s' c' (by simpa using hs) (by simpa using hc)
  | [], _ :: _, _, h => h.elim
  | [], [], _ :: _, h => h.elim
  | _ :: _, [], _, h => h.elim
  | _ :: _, _ :: _, [], h => h.elim

theorem apartT_of {w : Option Nat} {l l' : List Nat} (h : apartT w l' = true) (hl : ∀ i ∈ l, i ∈ l') : apartT w l = true := by
  cases w with
  | none => rfl
  | some d =>
    simp only [apartT, Bool.not_eq_true', List.contains_eq_mem, decide_eq_false_iff_not] at h ⊢
    exact fun hd => h (hl d hd)

theorem pairs_of_stat {as : List Nat} {ls : List Log} {ss : List (List Nat × Option Nat)} {cs : List Bool} (h : LogsOk ls ss cs) (hs : statOk as ss cs = true) : pairsOk as ls = true := by
  obtain ⟨hl, hat⟩ := h.at
  unfold pairsOk
  unfold statOk at hs
  rw [hl]
  simp only [List.all_eq_true, List.mem_range, Bool.or_eq_true] at hs ⊢
  intro j hj i hi
  rcases hs j hj i hi with h1 | h1
  · exact .inl h1
  · right
    split at h1
    · rename_i a b hsi hsj hci hcj
      obtain ⟨la, hla, k1, k2, k3⟩ := hat i a true hsi hci
      obtain ⟨lb, hlb, m1, m2, m3⟩ := hat j b true hsj hcj
      rw [hla, hlb]
      simp only [statApart, Bool.and_eq_true] at h1
      simp only [apart, k2, m2, k3 rfl, m3 rfl, List.all_nil, Bool.and_true, Bool.and_eq_true]
      exact ⟨⟨apartT_of h1.1.1 m1, apartT_of h1.1.2 k1⟩, h1.2⟩
    · cases h1

/-- A region in any order, step by step. -/
structure XD (E : Env) (ops : List AOper) (cs : List Bool) (rest : ACode) (st : St) (Q : AExit → St → Prop) : Prop where
  run : ∃ st' ls, stepsM E (limP E) (limR E) ops st = some (st', ls) ∧ LogsOk ls (ops.map statics) cs ∧ X E rest st' Q

section
variable {E : Env} {ts ts' : List V} {h h1 h2 : Heap} {st : St} {Q : AExit → St → Prop} {rest : ACode} {d : Option Nat} {op : AOp} {af : List Nat} {os ops : List AOper} {cs : List Bool}

theorem X.drawD (cs : List Bool) (hs : (ordered ops 0 && statOk (ancs ops []) (ops.map statics) cs) = true) (k : XD E ops cs rest st Q) : X E (.seq (.region ops true) rest) st Q := by
  obtain ⟨st', ls, e, hl, hx⟩ := k.run
  rw [Bool.and_eq_true] at hs
  exact X.draw e (by rw [hs.1, pairs_of_stat hl hs.2]; rfl) hx

/-- With the functions that are run in their caller's heap. -/
def memR : List Nat → Nat → Bool
  | [], _ => false
  | x :: l, y => Nat.beq x y || memR l y
def flagR (raws : List Nat) : AOp → Bool
  | .call f _ => !memR raws f
  | op => flagK op

theorem X.draw0 (hs : (ordered ops 0 && statOk (ancs ops []) (ops.map statics) (ops.map fun o => flagK o.op)) = true) (k : XD E ops (ops.map fun o => flagK o.op) rest st Q) : X E (.seq (.region ops true) rest) st Q :=
  X.drawD _ hs k

theorem X.drawR (raws : List Nat) (hs : (ordered ops 0 && statOk (ancs ops []) (ops.map statics) (ops.map fun o => flagR raws o.op)) = true) (k : XD E ops (ops.map fun o => flagR raws o.op) rest st Q) :
    X E (.seq (.region ops true) rest) st Q := X.drawD _ hs k

namespace XD
theorem nil (k : X E rest st Q) : XD E [] [] rest st Q := ⟨st, [], rfl, trivial, k⟩

theorem calm {v : V} (hk : calmK op = true) (e : opA E (limP E) (limR E) ts h op = some (v, h1)) (p : putA ts d v = ts') (k : XD E os cs rest ⟨ts', h⟩ Q) : XD E (⟨d, op, none, af⟩ :: os) (true :: cs) rest ⟨ts, h⟩ Q := by
  subst p
  obtain ⟨st', ls, e2, hl, hx⟩ := k.run
  obtain ⟨rfl, e3, e4⟩ := calm_ok hk e
  refine ⟨st', ⟨[] ++ op.reads, d, foot ts h1 op ++ List.range' h1.length ((mask (foot ts h1 op) h1).length - h1.length), turned op (foot ts h1 op) h1 (mask (foot ts h1 op) h1)⟩ :: ls, ?_, ⟨⟨fun i hi => by simpa [statics] using hi, rfl, fun _ => e4⟩, hl⟩, hx⟩
  simp only [stepsM, stepM, wantA, e3]
  rw [if_pos (by simp [length_mask])]
  simp only [merge_mask, e2]

theorem call {f : FuncId} {args : List AOperand} {vs : List V} {ps rs : List PV} (e : evals ts args = some vs) (e0 : pures vs = some ps) (hr : E.raw f = false) (hl : limP E f ps = some rs) (p : putA ts d (mkRes rs) = ts') (k : XD E os cs rest ⟨ts', h⟩ Q) :
    XD E (⟨d, .call f args, none, af⟩ :: os) (true :: cs) rest ⟨ts, h⟩ Q := by
  subst p
  obtain ⟨st', ls, e2, hl2, hx⟩ := k.run
  have hvs : ∀ (vs : List V) (ps : List PV), pures vs = some ps → vs = ps.map .pv := by
    intro vs
    induction vs with
    | nil => intro ps h; cases h; rfl
    | cons v vs ih =>
      intro ps h
      cases v <;> simp only [pures, reduceCtorEq] at h
      split at h
      · cases h; rename_i e; simp [ih _ e]
      · cases h
  have hv := hvs vs ps e0
  subst hv
  have hids : (args.flatMap (oIds ts)) = [] := by
    have : ∀ (args : List AOperand) (ps : List PV), evals ts args = some (ps.map .pv) → args.flatMap (oIds ts) = [] := by
      intro args
      induction args with
      | nil => intro _ _; rfl
      | cons a args ih =>
        intro ps h
        simp only [evals] at h
        split at h
        · rename_i v vs hv hvs
          cases ps with
          | nil => cases h
          | cons q qs =>
            cases h
            rw [List.flatMap_cons, ih qs hvs]
            simp [oIds, hv, V.ids]
        · cases h
    exact this args ps e
  have hfoot : foot ts h (.call f args) = [] := by simp only [foot, hids, addNew, reach_nil]
  have hop : opA E (limP E) (limR E) ts (mask [] h) (.call f args) = some (mkRes rs, mask [] h) := by
    have : snapLF (snap snapFuel) (ps.map .pv) (mask [] h) = some (ps, mask [] h) := snapLF_pvs ps
    simp only [opA, e, callA, hr, Bool.false_eq_true, if_false, snapL, this, hl]
  refine ⟨st', ⟨[] ++ (AOp.call f args).reads, d, [] ++ List.range' h.length ((mask [] h).length - h.length), turned (.call f args) [] h (mask [] h)⟩ :: ls, ?_, ⟨⟨fun i hi => by simpa [statics] using hi, rfl, fun _ => by simp [turned, length_mask]⟩, hl2⟩, hx⟩
  simp only [stepsM, stepM, wantA, hfoot, hop]
  rw [if_pos (by simp [length_mask])]
  simp only [merge_mask, e2]

/-- One that turns something: on what it may touch alone. -/
theorem loud {v : V} (e : opA E (limP E) (limR E) ts (mask (foot ts h op) h) op = some (v, h1)) (hlen : h.length ≤ h1.length) (hm : merge (foot ts h op) h h1 = h2) (p : putA ts d v = ts') (k : XD E os cs rest ⟨ts', h2⟩ Q) :
    XD E (⟨d, op, none, af⟩ :: os) (false :: cs) rest ⟨ts, h⟩ Q := by
  subst p
  subst hm
  obtain ⟨st', ls, e2, hl, hx⟩ := k.run
  refine ⟨st', ⟨[] ++ op.reads, d, foot ts h op ++ List.range' h.length (h1.length - h.length), turned op (foot ts h op) h h1⟩ :: ls, ?_, ⟨⟨fun i hi => by simpa [statics] using hi, rfl, fun h => by cases h⟩, hl⟩, hx⟩
  simp only [stepsM, stepM, wantA, e, if_pos hlen, e2]

/-- One that hangs on what was not wanted. -/
theorem stepN {t : Nat} {b c : Bool} {l : List V} (e : ts[t]? = some (.tup l)) (p : putA ts d (.tup []) = ts') (k : XD E os cs rest ⟨ts', h⟩ Q) : XD E (⟨d, op, some (t, b), af⟩ :: os) (c :: cs) rest ⟨ts, h⟩ Q := by
  subst p
  obtain ⟨st', ls, e2, hl, hx⟩ := k.run
  refine ⟨st', ⟨[t], d, [], []⟩ :: ls, ?_, ⟨⟨fun i hi => by simp at hi; subst hi; simp [statics], rfl, fun _ => rfl⟩, hl⟩, hx⟩
  simp only [stepsM, stepM, wantA, e, e2]

/-- One that is wanted, or not. -/
theorem stepG {t : Nat} {b b' c : Bool} (e : ts[t]? = some (.pv (.bool b'))) (p : putA ts d (.tup []) = ts') (k1 : b' = b → XD E (⟨d, op, none, af⟩ :: os) (c :: cs) rest ⟨ts, h⟩ Q)
    (k2 : b' = !b → XD E os cs rest ⟨ts', h⟩ Q) : XD E (⟨d, op, some (t, b), af⟩ :: os) (c :: cs) rest ⟨ts, h⟩ Q := by
  subst p
  by_cases hc : b' = b
  · obtain ⟨st', ls, e2, hl, hx⟩ := (k1 hc).run
    have hc' : (b' == b) = true := by simpa using hc
    cases ls with
    | nil => exact hl.elim
    | cons l ls =>
      refine ⟨st', ⟨[t] ++ op.reads, l.wr, l.ids, l.wids⟩ :: ls, ?_, ⟨⟨fun i hi => by simpa [statics] using hi, hl.1.2.1, hl.1.2.2⟩, hl.2⟩, hx⟩
      simp only [stepsM, stepM, wantA, e, hc'] at e2 ⊢
      split at e2
      · rename_i st1 l1 e3
        split at e2
        · rename_i st2 ls2 e4
          cases e2
          split at e3
          · rename_i v h' e5
            split at e3
            · rename_i hlen
              cases e3
              rw [if_pos hlen]
              simp only [e4, List.nil_append]
            · cases e3
          · cases e3
        · cases e2
      · cases e2
  · obtain ⟨st', ls, e2, hl, hx⟩ := (k2 (by cases b <;> cases b' <;> simp_all)).run
    have hc' : (b' == b) = false := by simpa using hc
    refine ⟨st', ⟨[t], d, [], []⟩ :: ls, ?_, ⟨⟨fun i hi => by simp at hi; subst hi; simp [statics], rfl, fun _ => rfl⟩, hl⟩, hx⟩
    simp only [stepsM, stepM, wantA, e, hc', e2]
theorem stepGt {t : Nat} {b' c : Bool} (e : ts[t]? = some (.pv (.bool b'))) (p : putA ts d (.tup []) = ts') (k1 : b' = true → XD E (⟨d, op, none, af⟩ :: os) (c :: cs) rest ⟨ts, h⟩ Q)
    (k2 : b' = false → XD E os cs rest ⟨ts', h⟩ Q) : XD E (⟨d, op, some (t, true), af⟩ :: os) (c :: cs) rest ⟨ts, h⟩ Q := stepG e p k1 k2
theorem stepGf {t : Nat} {b' c : Bool} (e : ts[t]? = some (.pv (.bool b'))) (p : putA ts d (.tup []) = ts') (k1 : b' = false → XD E (⟨d, op, none, af⟩ :: os) (c :: cs) rest ⟨ts, h⟩ Q)
    (k2 : b' = true → XD E os cs rest ⟨ts', h⟩ Q) : XD E (⟨d, op, some (t, false), af⟩ :: os) (c :: cs) rest ⟨ts, h⟩ Q := stepG e p k1 k2
end XD
end
end Ab

-- The rules by which steps are worked out.
namespace Ab
open Go
attribute [simp] stepsA stepA wantA opA St.eval evals putA PV.cells V.cells PV.isCell V.isCell faddrA loadA storeA splice cut mkVal mkAgg mkFn pures lenA iaddrSlA iaddrArrA natOf? elemAt binA intBin strBin unA convA eqRes eqNil isNil? eqCell eqCells partA fillA callA mkRes snapL_eq snapLF snapLF_pvs snap_pv snap_slt snap_slx snap_nils snap_agg snap_fn snap_ptr snap_sln sliceStrA sliceSlA bounds idxStrA idxArrA srcCells strideOk isSlV weak weak.weakL chunks mkPV growMax ent_new ent_cons0 ent_consS ent_at ent_at0
attribute [simp] List.getElem?_cons_zero List.getElem?_cons_succ foot oIds V.ids V.ids.idsL ent_mask length_mask merge_mask merge_mask_set merge_mask_app merge_mask_set_app reach_nil addNew mkRes natOf_nat minmaxA Nat.min_eq_left copyA
end Ab

-- What walks lean on: functions had, their ends, numbers that fit.
namespace Ab
open Go

/-- A function as the text has it, no answer known ahead. -/
structure Has (E : Env) (f : FuncId) (c : AFunc) : Prop where
  func : E.func f = some c
  raw : E.raw f = false
  ext : ∀ ps, E.ext f ps = none

/-- One that is run in its caller's heap. -/
structure HasR (E : Env) (f : FuncId) (c : AFunc) : Prop where
  func : E.func f = some c
  raw : E.raw f = true
  ext : ∀ ps, E.ext f ps = none

/-- At a function's end. -/
structure Fin (res : List AResult) (rs : List PV) (ex : AExit) (st : St) : Prop where
  run : (ex = .normal ∨ ex = .ret) ∧ ∃ us, resA st res = some us ∧ pureRes (oneOf us) st.heap = some rs

theorem Fin.mk' {res : List AResult} {rs rs' : List PV} {us : List V} {st : St} (h : resA st res = some us) (h2 : pureRes (oneOf us) st.heap = some rs') (h3 : rs' = rs) : Fin res rs .ret st :=
  ⟨.inr rfl, us, h, h3 ▸ h2⟩

theorem Has.lim {E : Env} {f : FuncId} {af : AFunc} {ps rs : List PV} {ts : List V} (h : Has E f af) (hl : ps.length ≤ af.ntmps) (ht : ps.map .pv ++ List.replicate (af.ntmps - ps.length) (.tup []) = ts)
    (hw : X E (app af.body .skip) ⟨ts, []⟩ (Fin af.results rs)) : limP E f ps = some rs :=
  (Ans.enter (h.ext _) h.func hl (ht ▸ (W.start (hw.run.mono fun _ _ q => q.run)))).lim

/-- At the end of one that is run in its caller's heap. -/
structure FinR (res : List AResult) (v : V) (h' : Heap) (ex : AExit) (st : St) : Prop where
  run : (ex = .normal ∨ ex = .ret) ∧ ∃ us, resA st res = some us ∧ oneOf us = v ∧ st.heap = h'

theorem HasR.lim {E : Env} {f : FuncId} {af : AFunc} {vs : List V} {h h' : Heap} {v : V} {ts : List V} (H : HasR E f af) (hl : vs.length ≤ af.ntmps) (ht : vs ++ List.replicate (af.ntmps - vs.length) (.tup []) = ts)
    (hw : X E (app af.body .skip) ⟨ts, h⟩ (FinR af.results v h')) : limR E f vs h = some (v, h') :=
  (AnsR.of H.func hl (ht ▸ (W.start (hw.run.mono fun _ _ q => q.run)))).lim

theorem wrap_i64 {n : Int} (h : -9223372036854775808 ≤ n ∧ n ≤ 9223372036854775807) : IntKind.i64.wrap n = n := by
  rw [IntKind.wrap_i64]; omega

theorem drop_at {α : Type} {l : List α} {j : Nat} {y : α} (hy : l[j]? = some y) : l.drop j = y :: l.drop (j + 1) := by
  obtain ⟨hj, rfl⟩ := List.getElem?_eq_some_iff.1 hy
  exact List.drop_eq_getElem_cons hj

theorem lt_of_at {α : Type} {l : List α} {j : Nat} {y : α} (hy : l[j]? = some y) : j < l.length := (List.getElem?_eq_some_iff.1 hy).1

theorem at_of_lt {α : Type} {l : List α} {j : Nat} (h : j < l.length) : ∃ y, l[j]? = some y := ⟨_, List.getElem?_eq_getElem h⟩

theorem take_at {α : Type} {l : List α} {j : Nat} {y : α} (hy : l[j]? = some y) : l.take (j + 1) = l.take j ++ [y] := by
  rw [List.take_add_one, hy]; rfl
end Ab

-- Functions that are run in their caller's heap: entered, called.
namespace Ab
open Go

/-- At the end of one that is run in its caller's heap. -/
structure FinE (res : List AResult) (P : V → Heap → Prop) (ex : AExit) (st : St) : Prop where
  run : (ex = .normal ∨ ex = .ret) ∧ ∃ us, resA st res = some us ∧ P (oneOf us) st.heap

theorem FinE.ret {res : List AResult} {P : V → Heap → Prop} {us : List V} {st : St} (h : resA st res = some us) (h2 : P (oneOf us) st.heap) : FinE res P .ret st := ⟨.inr rfl, us, h, h2⟩
theorem FinE.normal {res : List AResult} {P : V → Heap → Prop} {us : List V} {st : St} (h : resA st res = some us) (h2 : P (oneOf us) st.heap) : FinE res P .normal st := ⟨.inl rfl, us, h, h2⟩

theorem HasR.limE {E : Env} {f : FuncId} {af : AFunc} {vs : List V} {h : Heap} {P : V → Heap → Prop} {ts : List V} (H : HasR E f af) (hl : vs.length ≤ af.ntmps) (ht : vs ++ List.replicate (af.ntmps - vs.length) (.tup []) = ts)
    (hw : X E (app af.body .skip) ⟨ts, h⟩ (FinE af.results P)) : ∃ v h', limR E f vs h = some (v, h') ∧ P v h' := by
  subst ht
  obtain ⟨n, ex, st, e, hq⟩ := W.start hw.run
  obtain ⟨hor, us, h1, h2⟩ := hq.run
  exact ⟨oneOf us, st.heap, (AnsR.of H.func hl ⟨n, ex, st, e, hor, us, h1, rfl, rfl⟩).lim, h2⟩

section
variable {E : Env} {ts ts' : List V} {h h' : Heap} {Q : AExit → St → Prop} {rest : ACode} {d : Option Nat} {af : List Nat} {os : List AOper} {f : FuncId} {args : List AOperand} {vs : List V} {cs : List Bool}

theorem X.skipE {res : List AResult} {P : V → Heap → Prop} {us : List V} {st : St} (h : resA st res = some us) (h2 : P (oneOf us) st.heap) : X E .skip st (FinE res P) := ⟨W.skip (FinE.normal h h2)⟩

theorem X.callR {P : V → Heap → Prop} (e : evals ts args = some vs) (hr : E.raw f = true) (hp : pures vs = none) (hl : ∃ v h', limR E f vs h = some (v, h') ∧ P v h') (k : ∀ v h', P v h' → X E (.seq (.region os false) rest) ⟨putA ts d v, h'⟩ Q) :
    X E (.seq (.region (⟨d, .call f args, none, af⟩ :: os) false) rest) ⟨ts, h⟩ Q := by
  obtain ⟨v, h', h1, h2⟩ := hl
  exact X.step (v := v) (h' := h') (by simp only [opA, e, callA, hr, if_true, hp, h1]) rfl (k v h' h2)

theorem mem_addNew {x : Nat} : ∀ {l seen : List Nat}, x ∈ seen → x ∈ addNew seen l
  | [], _, h => h
  | y :: l, seen, h => by
    simp only [addNew]
    split
    · exact mem_addNew h
    · exact mem_addNew (by simp [h])
theorem mem_addNew_r {x : Nat} : ∀ {l seen : List Nat}, x ∈ l → x ∈ addNew seen l
  | y :: l, seen, h => by
    simp only [addNew]
    rcases List.mem_cons.1 h with rfl | h1
    · split
      · rename_i hc; exact mem_addNew (by simpa using hc)
      · exact mem_addNew (by simp)
    · split <;> exact mem_addNew_r h1
theorem mem_reach {x : Nat} : ∀ {n : Nat} {h : Heap} {ids : List Nat}, x ∈ ids → x ∈ reach h n ids
  | 0, _, _, hx => hx
  | n + 1, h, ids, hx => by
    simp only [reach]
    split
    · exact hx
    · exact mem_reach (mem_addNew hx)
theorem addNew_len : ∀ {l seen : List Nat}, seen.length ≤ (addNew seen l).length
  | [], _ => Nat.le_refl _
  | y :: l, seen => by
    simp only [addNew]
    split
    · exact addNew_len
    · exact Nat.le_trans (by simp) (addNew_len (l := l) (seen := seen ++ [y]))
theorem addNew_same : ∀ {l seen : List Nat}, (addNew seen l).length = seen.length → ∀ x ∈ l, x ∈ seen
  | [], _, _, x, hx => by cases hx
  | y :: l, seen, h, x, hx => by
    simp only [addNew] at h
    split at h
    · rename_i hc
      rcases List.mem_cons.1 hx with rfl | h1
      · simpa using hc
      · exact addNew_same h x h1
    · have := addNew_len (l := l) (seen := seen ++ [y])
      simp at this
      omega
/-- What an entry names is reached with it. -/
theorem reach_next {x y : Nat} {h : Heap} {ids : List Nat} (hx : x ∈ ids) (hy : y ∈ entIds (ent h x)) (hn : 0 < h.length) : y ∈ reach h h.length ids := by
  obtain ⟨n, e⟩ : ∃ n, h.length = n + 1 := ⟨h.length - 1, by omega⟩
  rw [e]
  simp only [reach]
  have hm : y ∈ ids.flatMap fun i => entIds (ent h i) := List.mem_flatMap.2 ⟨x, hx, hy⟩
  split
  · rename_i hl; exact addNew_same hl y hm
  · exact mem_reach (mem_addNew_r hm)

theorem XD.callR {P : V → Heap → Prop} (e : evals ts args = some vs) (hr : E.raw f = true) (hp : pures vs = none)
    (hl : ∃ v h1, limR E f vs (mask (foot ts h (.call f args)) h) = some (v, h1) ∧ h.length ≤ h1.length ∧ P v (merge (foot ts h (.call f args)) h h1)) (k : ∀ v h', P v h' → XD E os cs rest ⟨putA ts d v, h'⟩ Q) :
    XD E (⟨d, .call f args, none, af⟩ :: os) (false :: cs) rest ⟨ts, h⟩ Q := by
  obtain ⟨v, h1, g1, g2, g3⟩ := hl
  exact XD.loud (v := v) (h1 := h1) (by simp only [opA, e, callA, hr, if_true, hp, g1]) g2 rfl rfl (k v _ g3)
end
end Ab

-- States with many temporaries: those that count, the others as they are.
namespace Ab
open Go

def Pat : List (Option V) → List V → Prop
  | [], [] => True
  | none :: p, _ :: ts => Pat p ts
  | some v :: p, t :: ts => t = v ∧ Pat p ts
  | _, _ => False

def fill : List (Option V) → (Nat → V) → Nat → List V
  | [], _, _ => []
  | none :: p, f, i => f i :: fill p f (i + 1)
  | some v :: p, f, i => v :: fill p f (i + 1)

theorem fill_congr : ∀ (p : List (Option V)) (f g : Nat → V) (i : Nat), (∀ j, i ≤ j → f j = g j) → fill p f i = fill p g i
  | [], _, _, _, _ => rfl
  | none :: p, f, g, i, h => by simp only [fill]; rw [h i (Nat.le_refl _), fill_congr p f g (i + 1) fun j hj => h j (by omega)]
  | some v :: p, f, g, i, h => by simp only [fill]; rw [fill_congr p f g (i + 1) fun j hj => h j (by omega)]

theorem Pat.fill' : ∀ {p : List (Option V)} {ts : List V} (i : Nat), Pat p ts → ∃ f, ts = fill p f i
  | [], [], _, _ => ⟨fun _ => default, rfl⟩
  | none :: p, t :: ts, i, h => by
    obtain ⟨f, hf⟩ := Pat.fill' (p := p) (i + 1) h
    refine ⟨fun j => if j = i then t else f j, ?_⟩
    simp only [fill, if_true]
    rw [hf]
    congr 1
    exact fill_congr _ _ _ _ fun j hj => by rw [if_neg (by omega)]
  | some v :: p, t :: ts, i, h => by
    obtain ⟨f, hf⟩ := Pat.fill' (p := p) (i + 1) h.2
    exact ⟨f, by simp only [fill]; rw [h.1, hf]⟩
  | [], _ :: _, _, h => h.elim
  | none :: _, [], _, h => h.elim
  | some _ :: _, [], _, h => h.elim
theorem Pat.fill {p : List (Option V)} {ts : List V} (h : Pat p ts) : ∃ f, ts = Ab.fill p f 0 := Pat.fill' 0 h
end Ab
