/- Symbolic steps of the abstract machine: rules for code with variables in it. -/
import Derived.Test.YtcggaaheaahinaaDoorAbFuel
namespace Ab
open Go

/-- Some fuel, and all beyond. -/
theorem Ans.up {E : Env} {f : FuncId} {ps rs : List PV} (h : Ans E f ps rs) : ∃ n0, ∀ n, n0 ≤ n → runP E n f ps = some rs := by
  obtain ⟨n, e⟩ := h
  exact ⟨n, fun n' hn => (run_le E hn).1 _ _ _ e⟩

theorem AnsR.up {E : Env} {f : FuncId} {vs : List V} {h : Heap} {v : V} {h' : Heap} (e : AnsR E f vs h v h') : ∃ n0, ∀ n, n0 ≤ n → runF E n f vs h = some (v, h') := by
  obtain ⟨n, e⟩ := e
  exact ⟨n, fun n' hn => (run_le E hn).2 _ _ _ _ e⟩

/-- A region: some fuel, and all beyond. -/
def Reg (E : Env) (ops : List AOper) (draw : Bool) (st st' : St) : Prop := ∃ n0, ∀ n, n0 ≤ n → regionA E (runP E n) (runF E n) ops draw st = some st'

/-- Steps in the text's order. -/
def Steps' (E : Env) (ops : List AOper) (st st' : St) : Prop := ∃ n0, ∀ n, n0 ≤ n → stepsA E (runP E n) (runF E n) ops st = some st'

theorem Reg.of {E : Env} {ops : List AOper} {st st' : St} (h : Steps' E ops st st') : Reg E ops false st st' := by
  obtain ⟨n, h⟩ := h
  exact ⟨n, fun k hk => by simpa [regionA] using h k hk⟩

theorem Steps'.nil {E : Env} {st : St} : Steps' E [] st st := ⟨0, fun _ _ => rfl⟩

theorem Steps'.cons {E : Env} {o : AOper} {os : List AOper} {st st1 st2 : St} (h1 : ∃ n0, ∀ n, n0 ≤ n → stepA E (runP E n) (runF E n) o st = some st1) (h2 : Steps' E os st1 st2) : Steps' E (o :: os) st st2 := by
  obtain ⟨n, h1⟩ := h1
  obtain ⟨k, h2⟩ := h2
  exact ⟨max n k, fun i hi => by simp only [stepsA, h1 i (by omega)]; exact h2 i (by omega)⟩

/-- One operation that is no call. -/
theorem Steps'.op {E : Env} {d : Option Nat} {op : AOp} {os : List AOper} {ts : List V} {h : Heap} {v : V} {h' : Heap} {st2 : St} (h1 : ∀ p r, opA E p r ts h op = some (v, h')) (h2 : Steps' E os ⟨putA ts d v, h'⟩ st2) :
    Steps' E (⟨d, op, none, []⟩ :: os) ⟨ts, h⟩ st2 :=
  .cons ⟨0, fun n _ => by simp only [stepA, wantA, h1]⟩ h2

/-- A call of a pure function. -/
theorem Steps'.call {E : Env} {d : Option Nat} {f : FuncId} {args : List AOperand} {os : List AOper} {ts : List V} {h h' : Heap} {vs : List V} {ps rs : List PV} {st2 : St} (hr : E.raw f = false) (h0 : evals ts args = some vs) (h1 : snapL snapFuel vs h = some (ps, h')) (ha : Ans E f ps rs)
    (h2 : Steps' E os ⟨putA ts d (mkRes rs), h'⟩ st2) : Steps' E (⟨d, .call f args, none, []⟩ :: os) ⟨ts, h⟩ st2 := by
  obtain ⟨n, ha⟩ := ha.up
  refine .cons ⟨n, fun k hk => ?_⟩ h2
  simp only [stepA, wantA, opA, h0, callA, hr, Bool.false_eq_true, if_false, h1, ha k hk]

/-- A pure function, entered. -/
theorem Ans.enter {E : Env} {f : FuncId} {af : AFunc} {ps rs : List PV} (hx : E.ext f ps = none) (hf : E.func f = some af) (hl : ps.length ≤ af.ntmps)
    (hw : W E af.body ⟨ps.map .pv ++ List.replicate (af.ntmps - ps.length) (.tup []), []⟩ fun ex st => (ex = .normal ∨ ex = .ret) ∧ ∃ us, resA st af.results = some us ∧ pureRes (oneOf us) st.heap = some rs) : Ans E f ps rs := by
  obtain ⟨n, ex, st, e, hor, us, h1, h2⟩ := hw
  refine Ans.of (h' := st.heap) (v := oneOf us) hx ⟨n + 1, ?_⟩ h2
  simp only [runF, hf, List.length_map]
  rw [if_pos hl, e]
  rcases hor with rfl | rfl <;> simp [h1]

theorem ent_new {h : Heap} {e : Ent} : ent (h ++ [e]) h.length = e := by simp [ent]
theorem ent_cons0 {e : Ent} {h : Heap} : ent (e :: h) 0 = e := by rfl
theorem ent_consS {e : Ent} {h : Heap} {n : Nat} : ent (e :: h) (n + 1) = ent h n := by rfl

/-- A natural number as an index. -/
theorem natOf_nat {k : IntKind} {j : Nat} : natOf? (.pv (.int k (j : Int))) = some j := by simp [natOf?]

section
variable {E : Env} {p : FuncId → List PV → Option (List PV)} {r : FuncId → List V → Heap → Option (V × Heap)} {ts : List V} {h : Heap}

theorem mkAgg_pure (cs : List PV) : mkAgg (cs.map .pv) = .pv (.agg cs) := by
  have : ∀ cs : List PV, pures (cs.map .pv) = some cs := by
    intro cs
    induction cs with
    | nil => rfl
    | cons c cs ih => simp [pures, ih]
  simp [mkAgg, this]

end

end Ab
