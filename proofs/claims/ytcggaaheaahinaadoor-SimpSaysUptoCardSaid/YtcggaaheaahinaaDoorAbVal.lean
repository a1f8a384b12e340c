/- Values: what the operations on numbers, truths, texts and structs answer. -/
import Derived.Test.YtcggaaheaahinaaDoorAbExec
import Derived.Laws.Strings
namespace Ab
open Go


variable {P : Program} {m : Imm} {ρ : Rho}

theorem bytes_eta (s : ByteArray) : (⟨s.data.toList.toArray⟩ : ByteArray) = s := by cases s; simp

theorem ofVal_ok {v : Value} {x : V} (h : ofVal v = some x) : R m ρ x v := by
  cases v with
  | bool b => simp [ofVal] at h; subst h; exact .pv _ _ (.bool b)
  | int k n => simp [ofVal] at h; subst h; exact .pv _ _ (.int k n)
  | float k b => simp [ofVal] at h; subst h; exact .pv _ _ (.flt k b b (.inl rfl))
  | string s => simp [ofVal] at h; subst h; have := R.pv (m := m) (ρ := ρ) _ _ (RP.str s.data.toList); rwa [bytes_eta] at this
  | pointer a => cases a with
    | none => simp [ofVal] at h; subst h; exact .pv _ _ .nilp
    | some a => simp [ofVal] at h
  | slice a l c =>
    cases a with
    | none =>
      cases l with
      | zero => cases c with
        | zero => simp [ofVal] at h; subst h; exact .nils
        | succ c => simp [ofVal] at h
      | succ l => simp [ofVal] at h
    | some a => simp [ofVal] at h
  | nilFunc => simp [ofVal] at h; subst h; exact .pv _ _ .nilfn
  | nilIface => simp [ofVal] at h; subst h; exact .pv _ _ .nilif
  | _ => simp [ofVal] at h

theorem ofVal_cell {v : Value} {x : V} (h : ofVal v = some x) : x.isCell = true := by
  unfold ofVal at h
  split at h <;> simp at h <;> subst h <;> rfl

theorem ofVals_ok : ∀ {vs : List Value} {xs : List V}, ofVals vs = some xs → xs.length = vs.length ∧ (∀ (i : Nat) (x : V), xs[i]? = some x → x.isCell = true ∧ R m ρ x (vs.getD i undef))
  | [], xs, h => by simp [ofVals] at h; subst h; simp
  | v :: vs, xs, h => by
    simp only [ofVals, Option.bind_eq_bind, Option.bind_eq_some_iff, Option.some.injEq] at h
    obtain ⟨x, h1, xs', h2, rfl⟩ := h
    obtain ⟨e1, e2⟩ := ofVals_ok h2
    refine ⟨by simp [e1], fun i y hy => ?_⟩
    cases i with
    | zero =>
      simp at hy; subst hy
      exact ⟨ofVal_cell h1, by simpa using ofVal_ok h1⟩
    | succ i => simp at hy; simpa using e2 i y hy

section
variable {a : Act} {ts : List V}

theorem evalX [Base] {x : Operand} {ax : AOperand} {v : V} (h : trX x = some ax) (hv : St.eval ts ax = some v) (hts : ∀ (t : Nat) (v : V), ts[t]? = some v → R m ρ v (a.tmps.getD t undef)) (hb : Base.cells.le m) : R m ρ v (a.eval x) := by
  cases x with
  | tmp t => simp [trX] at h; subst h; exact hts t v hv
  | const c =>
    simp only [trX] at h
    split at h
    · rename_i vs
      split at h
      · rename_i xs h1
        cases h
        simp [St.eval] at hv
        subst hv
        obtain ⟨e1, e2⟩ := ofVals_ok (m := m) (ρ := ρ) h1
        refine .agg xs vs (fun c hc => ?_) (by simpa using e1.symm) (fun j c hj => ?_)
        · obtain ⟨j, hj⟩ := List.getElem?_of_mem hc
          exact (e2 j c hj).1
        · have := (e2 j c hj).2
          simpa [Array.getD_eq_getD_getElem?] using this
      · cases h
    · simp only [Option.bind_eq_bind, Option.bind_eq_some_iff, Option.some.injEq] at h
      obtain ⟨y, h1, rfl⟩ := h
      simp [St.eval] at hv
      subst hv
      exact ofVal_ok h1
  | func f => simp [trX] at h; subst h; simp [St.eval] at hv; subst hv; exact .pv _ _ (.fn f [] #[] rfl (by simp))
  | global g =>
    simp only [trX] at h
    split at h
    · rename_i cs hg
      cases h
      simp [St.eval] at hv
      subst hv
      exact .pv _ _ ((Base.ok g cs hg).mono hb)
    · cases h

theorem evalXs [Base] : ∀ {xs : List Operand} {axs : List AOperand} {vs : List V}, trXs xs = some axs → evals ts axs = some vs → (∀ (t : Nat) (v : V), ts[t]? = some v → R m ρ v (a.tmps.getD t undef)) → Base.cells.le m →
    vs.length = xs.length ∧ ∀ (i : Nat) (v : V), vs[i]? = some v → R m ρ v ((xs.map a.eval).getD i undef)
  | [], axs, vs, h, hv, _, _ => by simp [trXs] at h; subst h; simp [evals] at hv; subst hv; simp
  | x :: xs, axs, vs, h, hv, hts, hb => by
    simp only [trXs, Option.bind_eq_bind, Option.bind_eq_some_iff, Option.some.injEq] at h
    obtain ⟨y, h1, ys, h2, rfl⟩ := h
    simp only [evals] at hv
    split at hv
    · rename_i v vs' e1 e2
      cases hv
      obtain ⟨k1, k2⟩ := evalXs h2 e2 hts hb
      refine ⟨by simp [k1], fun i u hu => ?_⟩
      cases i with
      | zero => simp at hu; subst hu; simpa using evalX h1 e1 hts hb
      | succ i => simp at hu; simpa using k2 i u hu
    · simp at hv
end

theorem R.int {k : IntKind} {n : Int} {cv : Value} (h : R m ρ (.pv (.int k n)) cv) : cv = .int k n := by
  cases h with | pv _ _ h => cases h; rfl
theorem R.bool {b : Bool} {cv : Value} (h : R m ρ (.pv (.bool b)) cv) : cv = .bool b := by
  cases h with | pv _ _ h => cases h; rfl
theorem R.str {l : List UInt8} {cv : Value} (h : R m ρ (.pv (.str l)) cv) : cv = .string ⟨l.toArray⟩ := by
  cases h with | pv _ _ h => cases h; rfl

theorem toList_mk (l : List UInt8) : (⟨l.toArray⟩ : ByteArray).toList = l := by rw [ByteArray.toList_eq]
theorem size_mk (l : List UInt8) : (⟨l.toArray⟩ : ByteArray).size = l.length := by simp [ByteArray.size]

theorem guard_int (w : World) (op : BinOp) (t : TypeId) (X Y : Operand) (k k' : IntKind) (x y : Int) : (eqGuard op t X Y (.int k x) (.int k' y)).run P w = .ok () w := by
  cases op <;> simp [eqGuard]
theorem guard_str (w : World) (op : BinOp) (t : TypeId) (X Y : Operand) (x y : ByteArray) : (eqGuard op t X Y (.string x) (.string y)).run P w = .ok () w := by
  cases op <;> simp [eqGuard]

theorem intBin_ok (w : World) (op : BinOp) (t : TypeId) {k k' : IntKind} {x y : Int} {p : PV} (h : intBin op k x k' y = some p) : ∃ cv, (binOp op t (.int k x) (.int k' y)).run P w = .ok cv w ∧ RP m p cv := by
  by_cases h1 : op = .shl
  · subst h1
    simp only [intBin] at h
    split at h
    · simp at h
    · rename_i hy; cases h
      refine ⟨_, ?_, .int _ _⟩
      simp [binOp, Op.shift, hy]
  by_cases h2 : op = .shr
  · subst h2
    simp only [intBin] at h
    split at h
    · simp at h
    · rename_i hy; cases h
      refine ⟨_, ?_, .int _ _⟩
      simp [binOp, Op.shift, hy]
  have h' : ¬ (k ≠ k') := by
    intro hk
    cases op <;> simp [intBin, hk] at h h1 h2
  have hk : k = k' := by simpa using h'
  subst hk
  cases op <;> simp only [intBin, ne_eq, not_true_eq_false, if_false, reduceCtorEq] at h h1 h2
  case quo =>
    split at h
    · cases h
    · rename_i hy; cases h
      exact ⟨_, by simp only [binOp, ne_eq, not_true_eq_false, if_false, Op.intDiv, hy]; rfl, .int _ _⟩
  case rem =>
    split at h
    · cases h
    · rename_i hy; cases h
      exact ⟨_, by simp only [binOp, ne_eq, not_true_eq_false, if_false, Op.intDiv, hy]; rfl, .int _ _⟩
  all_goals (first | (exact absurd trivial h1) | (exact absurd trivial h2) | skip)
  all_goals cases h
  all_goals first
    | exact ⟨_, by simp only [binOp, ne_eq, not_true_eq_false, if_false, Op.intArith, Op.intBits, Op.intCmp]; rfl, .int _ _⟩
    | exact ⟨_, by simp only [binOp, ne_eq, not_true_eq_false, if_false, Op.intCmp]; rfl, .bool _⟩

theorem strBin_ok (w : World) (op : BinOp) (t : TypeId) {x y : List UInt8} {p : PV} (h : strBin op x y = some p) : ∃ cv, (binOp op t (.string ⟨x.toArray⟩) (.string ⟨y.toArray⟩)).run P w = .ok cv w ∧ RP m p cv := by
  cases op <;> simp [strBin] at h
  · obtain ⟨hl, rfl⟩ := h
    refine ⟨.string ⟨(x ++ y).toArray⟩, ?_, .str _⟩
    have hmax : ¬ (((⟨x.toArray⟩ : ByteArray).size + (⟨y.toArray⟩ : ByteArray).size : Nat) : Int) > IntKind.i64.max := by
      rw [size_mk, size_mk]
      have : IntKind.i64.max = 9223372036854775807 := by decide
      rw [this]; omega
    have happ : (⟨x.toArray⟩ : ByteArray) ++ ⟨y.toArray⟩ = ⟨(x ++ y).toArray⟩ := by
      apply ByteArray.ext
      simp
    simp only [binOp, Op.stringOp]
    rw [if_neg hmax, happ]
    rfl
  all_goals (subst h; refine ⟨_, ?_, .bool _⟩; simp [binOp, Op.stringOp])

end Ab
