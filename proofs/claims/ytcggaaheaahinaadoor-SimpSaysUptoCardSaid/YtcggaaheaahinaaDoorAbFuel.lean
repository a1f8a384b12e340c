/- More fuel answers the same. -/
import Derived.Test.YtcggaaheaahinaaDoorAbSound
namespace Ab
open Go

def PLe (p p' : FuncId → List PV → Option (List PV)) : Prop := ∀ f ps rs, p f ps = some rs → p' f ps = some rs
def RLe (r r' : FuncId → List V → Heap → Option (V × Heap)) : Prop := ∀ f vs h x, r f vs h = some x → r' f vs h = some x

section
variable {E : Env} {p p' : FuncId → List PV → Option (List PV)} {r r' : FuncId → List V → Heap → Option (V × Heap)} {ts : List V} {h : Heap}

theorem callA_le (hp : PLe p p') (hr : RLe r r') {f : FuncId} {vs : List V} {x : V × Heap} (e : callA E p r f vs h = some x) : callA E p' r' f vs h = some x := by
  unfold callA at e ⊢
  split
  · rename_i hc
    rw [if_pos hc] at e
    split at e
    · rename_i ps e1
      try simp only [e1]
      split at e
      · rename_i rs e2
        try simp only [e2]
        exact e
      · rename_i e2
        try simp only [e2]
        exact hr _ _ _ _ e
    · rename_i e1
      try simp only [e1]
      exact hr _ _ _ _ e
  · rename_i hc
    rw [if_neg hc] at e
    split at e
    · rename_i ps h1 e1
      try simp only [e1]
      split at e
      · rename_i rs e2
        rw [hp _ _ _ e2]
        exact e
      · cases e
    · cases e

theorem opA_le (hp : PLe p p') (hr : RLe r r') {op : AOp} {x : V × Heap} (e : opA E p r ts h op = some x) : opA E p' r' ts h op = some x := by
  cases op
  case call f args =>
    simp only [opA] at e ⊢
    split at e
    · rename_i vs e1; try simp only [e1]
      exact callA_le hp hr e
    · cases e
  case callv f args =>
    simp only [opA] at e ⊢
    split at e
    · rename_i f cs vs e0 e1; try simp only [e0, e1]
      exact callA_le hp hr e
    · rename_i f cs vs e0 e1; try simp only [e0, e1]
      exact callA_le hp hr e
    · cases e
  all_goals exact e

theorem stepA_le (hp : PLe p p') (hr : RLe r r') {o : AOper} {st st' : St} (e : stepA E p r o st = some st') : stepA E p' r' o st = some st' := by
  unfold stepA at e ⊢
  split at e
  · rename_i hw
    try simp only [hw]
    split at e
    · rename_i v h e1; rw [opA_le hp hr e1]; exact e
    · cases e
  · rename_i hw; try simp only [hw]
    exact e
  · cases e

theorem stepsA_le (hp : PLe p p') (hr : RLe r r') : ∀ {os : List AOper} {st st' : St}, stepsA E p r os st = some st' → stepsA E p' r' os st = some st'
  | [], _, _, e => e
  | o :: os, st, st', e => by
    simp only [stepsA] at e ⊢
    split at e
    · rename_i st1 e1; rw [stepA_le hp hr e1]; exact stepsA_le hp hr e
    · cases e

theorem stepM_le (hp : PLe p p') (hr : RLe r r') {o : AOper} {st : St} {x : St × Log} (e : stepM E p r o st = some x) : stepM E p' r' o st = some x := by
  unfold stepM at e ⊢
  dsimp only at e ⊢
  split at e
  · rename_i hw
    try simp only [hw]
    split at e
    · rename_i v h e1; rw [opA_le hp hr e1]; exact e
    · cases e
  · rename_i hw; try simp only [hw]
    exact e
  · cases e

theorem stepsM_le (hp : PLe p p') (hr : RLe r r') : ∀ {os : List AOper} {st : St} {x : St × List Log}, stepsM E p r os st = some x → stepsM E p' r' os st = some x
  | [], _, _, e => e
  | o :: os, st, x, e => by
    simp only [stepsM] at e ⊢
    split at e
    · rename_i st1 l e1
      rw [stepM_le hp hr e1]
      simp only
      split at e
      · rename_i st2 ls e2; rw [stepsM_le hp hr e2]; exact e
      · cases e
    · cases e

theorem regionA_le (hp : PLe p p') (hr : RLe r r') {os : List AOper} {draw : Bool} {st st' : St} (e : regionA E p r os draw st = some st') : regionA E p' r' os draw st = some st' := by
  unfold regionA at e ⊢
  split
  · rename_i hd
    rw [if_pos hd] at e
    split at e
    · rename_i st1 ls e1; rw [stepsM_le hp hr e1]; exact e
    · cases e
  · rename_i hd
    rw [if_neg hd] at e
    exact stepsA_le hp hr e

theorem loopA_le {b b' : St → Option (AExit × St)} (hb : ∀ st x, b st = some x → b' st = some x) : ∀ {n n' : Nat}, n ≤ n' → ∀ {st : St} {x : AExit × St}, loopA b n st = some x → loopA b' n' st = some x
  | 0, _, _, st, x, e => by simp [loopA] at e
  | n + 1, 0, hn, _, _, _ => by omega
  | n + 1, n' + 1, hn, st, x, e => by
    simp only [loopA] at e ⊢
    split at e
    · rename_i st1 e1
      rw [hb _ _ e1]
      exact loopA_le hb (by omega) e
    · rename_i hne
      rw [hb _ _ e]
      obtain ⟨ex, st'⟩ := x
      cases ex with
      | normal => exact absurd e (hne st')
      | exit id => rfl
      | ret => rfl

theorem execA_le (hp : PLe p p') (hr : RLe r r') {n n' : Nat} (hn : n ≤ n') : ∀ (c : ACode) {st : St} {x : AExit × St}, execA E p r n c st = some x → execA E p' r' n' c st = some x := by
  intro c
  induction c with
  | skip => intro st x e; exact e
  | exit id => intro st x e; exact e
  | ret => intro st x e; exact e
  | bad => intro st x e; exact e
  | region os draw =>
    intro st x e
    simp only [execA] at e ⊢
    split at e
    · rename_i st1 e1; rw [regionA_le hp hr e1]; exact e
    · cases e
  | seq a b iha ihb =>
    intro st x e
    simp only [execA] at e ⊢
    split at e
    · rename_i st1 e1
      rw [iha e1]
      exact ihb e
    · rename_i hne
      rw [iha e]
      obtain ⟨ex, st'⟩ := x
      cases ex with
      | normal => exact absurd e (hne st')
      | exit id => rfl
      | ret => rfl
  | cond c a b iha ihb =>
    intro st x e
    simp only [execA] at e ⊢
    split at e
    · rename_i t ht
      try simp only [ht]
      cases t with
      | true => simp only [if_true] at e ⊢; exact iha e
      | false => simp only [Bool.false_eq_true, if_false] at e ⊢; exact ihb e
    · cases e
  | block id b ih =>
    intro st x e
    simp only [execA] at e ⊢
    split at e
    · rename_i id' st1 e1
      rw [ih e1]
      exact e
    · rename_i hne
      rw [ih e]
      obtain ⟨ex, st'⟩ := x
      cases ex with
      | normal => rfl
      | exit id' => exact absurd e (hne id' st')
      | ret => rfl
  | loop b ih =>
    intro st x e
    simp only [execA] at e ⊢
    exact loopA_le (fun st x e => ih e) hn e

end

theorem run_le (E : Env) : ∀ {n n' : Nat}, n ≤ n' → PLe (runP E n) (runP E n') ∧ RLe (runF E n) (runF E n')
  | 0, _, _ => ⟨fun f ps rs e => by simp [runP] at e, fun f vs h x e => by simp [runF] at e⟩
  | n + 1, 0, h => by omega
  | n + 1, n' + 1, h => by
    obtain ⟨hp, hr⟩ := run_le E (n := n) (n' := n') (by omega)
    refine ⟨fun f ps rs e => ?_, fun f vs h0 x e => ?_⟩
    · simp only [runP] at e ⊢
      split at e
      · rename_i rs' e1; try simp only [e1]
        exact e
      · rename_i e1
        try simp only [e1]
        split at e
        · rename_i v h1 e2
          rw [hr _ _ _ _ e2]
          exact e
        · cases e
    · simp only [runF] at e ⊢
      split at e
      case h_2 => cases e
      rename_i af e1
      try simp only [e1]
      split at e
      case isFalse => cases e
      rename_i hle
      rw [if_pos hle]
      split at e
      · rename_i st e2; rw [execA_le hp hr (by omega) _ e2]; exact e
      · rename_i st e2; rw [execA_le hp hr (by omega) _ e2]; exact e
      · cases e

/-- A pure function's answer. -/
def Ans (E : Env) (f : FuncId) (ps rs : List PV) : Prop := ∃ n, runP E n f ps = some rs

/-- A function's answer, in the caller's heap. -/
def AnsR (E : Env) (f : FuncId) (vs : List V) (h : Heap) (v : V) (h' : Heap) : Prop := ∃ n, runF E n f vs h = some (v, h')

/-- Code that runs and leaves what Q says. -/
def W (E : Env) (c : ACode) (st : St) (Q : AExit → St → Prop) : Prop := ∃ n ex st', execA E (runP E n) (runF E n) n c st = some (ex, st') ∧ Q ex st'

theorem W.mono {E : Env} {c : ACode} {st : St} {Q Q' : AExit → St → Prop} (h : W E c st Q) (hq : ∀ ex st, Q ex st → Q' ex st) : W E c st Q' := by
  obtain ⟨n, ex, st', e, q⟩ := h
  exact ⟨n, ex, st', e, hq _ _ q⟩

theorem exec_up {E : Env} {c : ACode} {st : St} {x : AExit × St} {n n' : Nat} (h : n ≤ n') (e : execA E (runP E n) (runF E n) n c st = some x) : execA E (runP E n') (runF E n') n' c st = some x :=
  execA_le (run_le E h).1 (run_le E h).2 h c e

/-- Goes on behind a normal end. -/
def thenQ (k : St → Prop) (Q : AExit → St → Prop) : AExit → St → Prop
  | .normal, st => k st
  | ex, st => Q ex st

/-- Behind a block. -/
def inB (id : Nat) (Q : AExit → St → Prop) : AExit → St → Prop
  | .exit id', st => (id' = id ∧ Q .normal st) ∨ (id' ≠ id ∧ Q (.exit id') st)
  | ex, st => Q ex st

theorem W.skip {E : Env} {st : St} {Q : AExit → St → Prop} (h : Q .normal st) : W E .skip st Q := ⟨0, _, _, rfl, h⟩
theorem W.ret {E : Env} {st : St} {Q : AExit → St → Prop} (h : Q .ret st) : W E .ret st Q := ⟨0, _, _, rfl, h⟩
theorem W.exit {E : Env} {id : Nat} {st : St} {Q : AExit → St → Prop} (h : Q (.exit id) st) : W E (.exit id) st Q := ⟨0, _, _, rfl, h⟩

theorem W.seq {E : Env} {a b : ACode} {st : St} {Q : AExit → St → Prop} (h : W E a st (thenQ (fun st => W E b st Q) Q)) : W E (.seq a b) st Q := by
  obtain ⟨n, ex, st', e, q⟩ := h
  cases ex with
  | normal =>
    obtain ⟨n2, ex2, st2, e2, q2⟩ := q
    refine ⟨max n n2, ex2, st2, ?_, q2⟩
    simp only [execA]
    rw [exec_up (Nat.le_max_left _ _) e]
    exact exec_up (Nat.le_max_right _ _) e2
  | exit id =>
    refine ⟨n, .exit id, st', ?_, q⟩
    simp only [execA]
    rw [e]
  | ret =>
    refine ⟨n, .ret, st', ?_, q⟩
    simp only [execA]
    rw [e]

theorem W.cond {E : Env} {c : AOperand} {a b : ACode} {st : St} {t : Bool} {Q : AExit → St → Prop} (hc : St.eval st.tmps c = some (.pv (.bool t))) (h1 : t = true → W E a st Q) (h2 : t = false → W E b st Q) : W E (.cond c a b) st Q := by
  cases t with
  | true =>
    obtain ⟨n, ex, st', e, q⟩ := h1 rfl
    exact ⟨n, ex, st', by simp only [execA, hc, if_true]; exact e, q⟩
  | false =>
    obtain ⟨n, ex, st', e, q⟩ := h2 rfl
    exact ⟨n, ex, st', by simp only [execA, hc, Bool.false_eq_true, if_false]; exact e, q⟩

theorem W.block {E : Env} {id : Nat} {b : ACode} {st : St} {Q : AExit → St → Prop} (h : W E b st (inB id Q)) : W E (.block id b) st Q := by
  obtain ⟨n, ex, st', e, q⟩ := h
  cases ex with
  | normal => exact ⟨n, .normal, st', by simp only [execA, e], q⟩
  | ret => exact ⟨n, .ret, st', by simp only [execA, e], q⟩
  | exit id' =>
    by_cases hid : id' = id
    · subst hid
      exact ⟨n, .normal, st', by simp only [execA, e, if_true], (q.resolve_right fun h => h.1 rfl).2⟩
    · exact ⟨n, .exit id', st', by simp only [execA, e, if_neg hid], (q.resolve_left fun h => hid h.1).2⟩

/-- A loop, by a number that falls. -/
theorem W.loop {E : Env} {b : ACode} {Q : AExit → St → Prop} (I : Nat → St → Prop) (hb : ∀ k st, I k st → W E b st (thenQ (fun st' => ∃ k', k' < k ∧ I k' st') Q)) : ∀ k st, I k st → W E (.loop b) st Q := by
  have key : ∀ k st, I k st → ∃ n ex st', loopA (execA E (runP E n) (runF E n) n b) n st = some (ex, st') ∧ Q ex st' := by
    intro k
    induction k using Nat.strongRecOn with
    | ind k ih =>
      intro st hI
      obtain ⟨n, ex, st', e, q⟩ := hb k st hI
      cases ex with
      | normal =>
        obtain ⟨k', hk, hI'⟩ := q
        obtain ⟨n2, ex2, st2, e2, q2⟩ := ih k' hk st' hI'
        refine ⟨max n n2 + 1, ex2, st2, ?_, q2⟩
        simp only [loopA]
        rw [exec_up (n' := max n n2 + 1) (by omega) e]
        exact loopA_le (fun st x e => exec_up (n' := max n n2 + 1) (by omega) e) (by omega) e2
      | exit id =>
        refine ⟨n + 1, .exit id, st', ?_, q⟩
        simp only [loopA]
        rw [exec_up (n' := n + 1) (by omega) e]
      | ret =>
        refine ⟨n + 1, .ret, st', ?_, q⟩
        simp only [loopA]
        rw [exec_up (n' := n + 1) (by omega) e]
  intro k st hI
  obtain ⟨n, ex, st', e, q⟩ := key k st hI
  exact ⟨n, ex, st', by simp only [execA]; exact e, q⟩

theorem W.region {E : Env} {ops : List AOper} {draw : Bool} {st st' : St} {n : Nat} {Q : AExit → St → Prop} (h : regionA E (runP E n) (runF E n) ops draw st = some st') (hq : Q .normal st') : W E (.region ops draw) st Q :=
  ⟨n, .normal, st', by simp only [execA, h], hq⟩

/-- A function, entered. -/
theorem AnsR.of {E : Env} {f : FuncId} {af : AFunc} {vs : List V} {h : Heap} {v : V} {h' : Heap} (hf : E.func f = some af) (hl : vs.length ≤ af.ntmps)
    (hw : W E af.body ⟨vs ++ List.replicate (af.ntmps - vs.length) (.tup []), h⟩ fun ex st => (ex = .normal ∨ ex = .ret) ∧ ∃ us, resA st af.results = some us ∧ oneOf us = v ∧ st.heap = h') : AnsR E f vs h v h' := by
  obtain ⟨n, ex, st, e, hor, us, h1, rfl, rfl⟩ := hw
  refine ⟨n + 1, ?_⟩
  simp only [runF, hf]
  rw [if_pos hl, e]
  rcases hor with rfl | rfl <;> simp [h1]

theorem Ans.of {E : Env} {f : FuncId} {ps rs : List PV} {v : V} {h' : Heap} (hx : E.ext f ps = none) (hr : AnsR E f (ps.map .pv) [] v h') (hp : pureRes v h' = some rs) : Ans E f ps rs := by
  obtain ⟨n, e⟩ := hr
  exact ⟨n + 1, by simp only [runP, hx, e, hp]⟩

theorem Ans.ext {E : Env} {f : FuncId} {ps rs : List PV} (hx : E.ext f ps = some rs) : Ans E f ps rs := ⟨1, by simp only [runP, hx]⟩

end Ab
