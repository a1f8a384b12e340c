/- A table of functions, entry by entry. -/
import Derived.Test.YtcggaaheaahinaaDoorAbSound
import Derived.Test.YtcggaaheaahinaaDoorAbFast
namespace Ab
open Go


/-- One entry. -/
def FnOk [Base] (P : Program) (mu : TypeId → Bool) (f : FuncId) (af : AFunc) : Prop :=
  ∃ fn c, P.funcs[f]? = some fn ∧ fn.body = some c ∧ (fn.name == "runtime.NumGoroutine") = false ∧ trFunc P mu fn = some af

theorem FnOk.of [Base] {P : Program} {mu : TypeId → Bool} {f : FuncId} {af : AFunc} {fn : Func} (h1 : P.funcs[f]? = some fn) (h2 : (fn.name == "runtime.NumGoroutine") = false) (h3 : trFunc P mu fn = some af) : FnOk P mu f af := by
  have h4 := h3
  unfold trFunc at h4
  simp only [Option.bind_eq_bind, Option.bind_eq_some_iff] at h4
  obtain ⟨_, _, b, hb, _⟩ := h4
  exact ⟨fn, b, h1, hb, h2, h3⟩

def AllFn [Base] (P : Program) (mu : TypeId → Bool) : List (Nat × AFunc) → Prop
  | [] => True
  | x :: l => FnOk P mu x.1 x.2 ∧ AllFn P mu l

theorem assoc_ok [Base] {P : Program} {mu : TypeId → Bool} : ∀ {l : List (Nat × AFunc)}, AllFn P mu l → ∀ {f : FuncId} {af : AFunc}, assoc l f = some af → FnOk P mu f af
  | [], _, f, af, h => by simp [assoc] at h
  | (i, c) :: l, hl, f, af, h => by
    simp only [assoc] at h
    split at h
    · rename_i hb
      cases h
      have := Nat.eq_of_beq_eq_true hb
      subst this
      exact hl.1
    · exact assoc_ok hl.2 h

theorem Table.of [Base] {P : Program} {mu : TypeId → Bool} {l : List (Nat × AFunc)} {r : FuncId → Bool} {x : FuncId → List PV → Option (List PV)} (hl : AllFn P mu l) (hx : PureOk P x) (hm : P.follows .mixedOrders = true)
    (hi : ∀ (f : FuncId) (caps : Array Value), (f, caps.size) ∈ Base.idle → ∀ (w : World), (callFunc f caps).run P w = .ok (.enter f caps) w ∧ CallsD P f caps .returning w fun e u' w' => (∃ v, e = .returned v) ∧ u' = .returning ∧ Ext w w') : Table P mu { func := assoc l, raw := r, ext := x } :=
  ⟨fun _ _ h => assoc_ok hl h, hx, hm, hi⟩

end Ab
