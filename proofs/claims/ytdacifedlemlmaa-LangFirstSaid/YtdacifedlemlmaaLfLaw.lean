/- LangFirst: whatever the input, the law returns true; the input reads as it did. No condition. -/
import Derived.Test.YtdacifedlemlmaaRows
import Derived.Test.YtdacifedlemlmaaLfHas
import Derived.WalkKit
import Derived.ProofKit
import Derived.OpenShut
import Derived.ShutString
import Derived.ChangeOld
import Derived.Below
import Derived.SizedLaws
import Derived.Carry
namespace Go.Proofs.Ytdacifedlemlmaa.langFirst
open Go.ChangeShapes Go.WideShapes Go.ChangeAt Go.RowKit
theorem own : ownKnob Try.prog.godebug = none := by kernel_rfl
theorem laidOut : laidOutB Try.prog = true := by kernel_rfl
set_option maxRecDepth 100000 in
theorem walk (W : World) (hb : Ab.Tabs Try.prog W Mach.tabs) (v0 v1 : Value) (c : Cps.Co) (s : List Int) (hr0 : Ab.RP (Ab.immOf W) (Cps.encC c) v0) (hr1 : Ab.RP (Ab.immOf W) (.sl (Lng.encB s)) v1) (hf : Cps.FineC c) (hw : Lng.Wd c) (hs : ∀ x ∈ s, 0 ≤ x ∧ x < 256) : Calls Try.prog 11 #[v0, v1] W fun e w' => e = .returned (.bool true) ∧ RowKit.Below W.heap.size W w' := by
  obtain ⟨m, hrun⟩ := Ab.Ans.of_lim (Lng.firstLaw_ok Mach.has0 c hf hw s hs)
  refine (Ab.runP_calls Mach.table0 (Mach.has0.law.ext _) hrun (Ab.sim_immOf W hb.base) rfl ?_).mono fun e w' h => ?_
  · intro j p hj
    match j, hj with
    | 0, hj => simp at hj; subst hj; exact hr0
    | 1, hj => simp at hj; subst hj; exact hr1
    | j + 2, hj => simp at hj
  · obtain ⟨cv, m', rfl, h2, _, h4⟩ := h
    exact ⟨by rw [Ab.R.bool h2], h4.below⟩
set_option maxRecDepth 100000 in
theorem lifted (os : Os) (started : os.Started) (H : Type) (enc : TypeId × Value → H) :
    ReturnsInHanded {} Try.checked os 11 .any (Rows.langFirstSpec.pre6 enc Try.prog Try.f11 Rows.langFirstRow.domain false) (Rows.langFirstSpec.post enc Try.prog Try.f11 false true false false) := by
  refine returnsInHanded_of_change_sized (C := Try.checked) own started (by kernel_rfl) Try.func11
    (ChangeSpec.witness6 (enc := enc) (C := Try.checked) false ⟨#[], #[.agg #[.int .i64 0, .int .u64 0, .int .u64 0, .int .u64 0, .int .u64 0, .int .i64 0, .slice none 0 0], .slice none 0 0], []⟩ 8 (by kernel_rfl) (by kernel_rfl) (by kernel_rfl) (by kernel_rfl)) ?_
  intro W base args ds gs before hval0 hW hcnd hsz0 _
  have hW' := hW
  obtain ⟨p, q, hA0, hV, rfl, hfz, hnd⟩ := hW
  have hA : DataW.TrodAll enc Try.prog W 0 (fun _ => true) true Try.f11.params.toList args.toList ds p := hA0
  rw [Try.params11] at hA
  obtain ⟨v0, vs0, d0, ds0, p0, q0, e0, rfl, rfl, h0, g0⟩ := trodAll_cons hA
  obtain ⟨v1, vs1, d1, ds1, p1, q1, e1, rfl, rfl, h1, g1⟩ := trodAll_cons g0
  obtain ⟨rfl, rfl, rfl⟩ := trodAll_nil g1
  subst e1
  have hargs : args = #[v0, v1] := by cases args; simp_all
  subst hargs
  clear e0
  obtain ⟨rfl, rfl⟩ := trodVars_none hV
  have hlt0 : ∀ x ∈ p0, x.block < W.heap.size := fun x hx => hW'.lt x (by simp [hx])
  have hlt1 : ∀ x ∈ p1, x.block < W.heap.size := fun x hx => hW'.lt x (by simp [hx])
  have k0 : Value.okWide Try.prog W .any 0 43 v0 := hval0 0 43 v0 (by rw [Try.params11]; rfl) rfl
  have k1 : Value.okWide Try.prog W .any 0 44 v1 := hval0 1 44 v1 (by rw [Try.params11]; rfl) rfl
  obtain ⟨c, hr0, hf, hw⟩ := Cps.arg_corew h0 k0
  obtain ⟨s, hr1, hs⟩ := Cps.arg_bytes h1 k1
  refine (walk W trivial v0 v1 c s hr0 hr1 hf hw hs).mono fun e W' ⟨he, bel⟩ => ?_
  subst he
  exact ⟨_, rfl, _, _, _, [], _, [], hW', trodAll_mk1 (shut_bool Try.underlying4 _), ⟨_, _, Below.trod laidOut (by kernel_rfl) (of_decide_eq_true (by kernel_rfl)) h0 bel hlt0, trodAll_mk1 (Below.trod laidOut (by kernel_rfl) (of_decide_eq_true (by kernel_rfl)) h1 bel hlt1), rfl⟩, rfl, bel.frame _, fun h => by cases h⟩
set_option maxRecDepth 100000 in
theorem over : Rows.langFirstRow.holds Try.pinned (OpenSpec.ofChange Rows.langFirstSpec) :=
  OpenClaim.holds_of_wide 11 Try.f11 rfl rfl rfl rfl rfl rfl rfl ⟨rfl, rfl, rfl, rfl, rfl⟩ rfl rfl rfl rfl rfl (by kernel_rfl) Try.func11 (by kernel_rfl)
    (of_decide_eq_true (by kernel_rfl)) (by unfold Func.isWrapper; first | (rw [if_pos (by decide +kernel)]; kernel_rfl) | (rw [if_neg (by decide +kernel)]; exact ⟨rfl, rfl⟩))
    (fun os started H enc _ => lifted os started H enc)
theorem proved : Rows.LangFirstSaid := over
end Go.Proofs.Ytdacifedlemlmaa.langFirst
namespace Go.Proofs.Ytdacifedlemlmaa
/-- The statement, under a short name, for the claim. -/
theorem langFirst_holds : Rows.LangFirstSaid := langFirst.proved
#print axioms langFirst_holds
end Go.Proofs.Ytdacifedlemlmaa
