/- A pure call in a drawn region, whose arguments are new or no slices. -/
import Derived.Test.YtdacifedlemlmaaAbStep
namespace Ab
open Go
section
variable {E : Env} {n : Nat} {f : Nat → V} {h h' : Heap} {Q : AExit → St → Prop} {rest : ACode} {d : Option Nat} {af : List Nat} {os : List AOper} {g : FuncId} {args : List AOperand} {vs : List V} {ps rs : List PV} {cs : List Bool}
theorem evals_ids {ts : List V} : ∀ (xs : List AOperand) (vs : List V), evals ts xs = some vs → xs.flatMap (oIds ts) = vs.flatMap V.ids := by
  intro xs
  induction xs with
  | nil => intro vs h; cases h; rfl
  | cons x xs ih =>
    intro vs h
    simp only [evals] at h
    split at h
    · rename_i v vs' e1 e2
      cases h
      rw [List.flatMap_cons, List.flatMap_cons, ih _ e2, oIds, e1]
    · cases h
theorem XD.callS {ts : List V} (e : evals ts args = some vs) (hi : vs.flatMap V.ids = []) (hs : ∀ h, snapL snapFuel vs h = some (ps, h)) (hr : E.raw g = false) (hl : limP E g ps = some rs) (k : XD E os cs rest ⟨putA ts d (mkRes rs), h⟩ Q) :
    XD E (⟨d, .call g args, none, af⟩ :: os) (true :: cs) rest ⟨ts, h⟩ Q := by
  obtain ⟨st', ls, e2, hl2, hx⟩ := k.run
  have hfoot : foot ts h (.call g args) = [] := by simp only [foot, evals_ids _ _ e, hi, addNew, reach_nil]
  have hop : opA E (limP E) (limR E) ts (mask [] h) (.call g args) = some (mkRes rs, mask [] h) := by
    simp only [opA, e, callA, hr, Bool.false_eq_true, if_false, hs, hl]
  refine ⟨st', ⟨[] ++ (AOp.call g args).reads, d, [] ++ List.range' h.length ((mask [] h).length - h.length), turned (.call g args) [] h (mask [] h)⟩ :: ls, ?_, ⟨⟨fun i hi => by simpa [statics] using hi, rfl, fun _ => by simp [turned, length_mask]⟩, hl2⟩, hx⟩
  simp only [stepsM, stepM, wantA, hfoot, hop]
  rw [if_pos (by simp [length_mask])]
  simp only [merge_mask, e2]
theorem XD.callSQ (hb : below n (readsL args) = true) (e : evals [] (subL (Fk.mk (f := f)) args) = some vs) (hi : vs.flatMap V.ids = []) (hs : ∀ h, snapL snapFuel vs h = some (ps, h)) (hr : E.raw g = false) (hl : limP E g ps = some rs)
    (k : XD E os cs rest ⟨TL n (upd f d (mkRes rs)), h⟩ Q) : XD E (⟨d, .call g args, none, af⟩ :: os) (true :: cs) rest ⟨TL n f, h⟩ Q :=
  XD.callS (by rw [evals_sub hb]; exact e) hi hs hr hl (by rw [TL_set]; exact k)
end
end Ab
