/- BlockKnown: the closed law returns true, whatever the world; nothing is changed. No condition. -/
import Derived.Test.YtldogelccicbnaaRows
import Derived.Test.YtldogelccicbnaaK1
import Derived.Test.YtldogelccicbnaaK2
import Derived.Test.YtldogelccicbnaaK3
import Derived.Test.YtldogelccicbnaaK4
import Derived.Test.YtldogelccicbnaaK5
import Derived.Test.YtldogelccicbnaaK6
import Derived.Test.YtldogelccicbnaaK7
import Derived.Test.YtldogelccicbnaaK8
import Derived.Test.YtldogelccicbnaaK9
import Derived.Test.YtldogelccicbnaaK10
import Derived.Test.YtldogelccicbnaaK11
import Derived.Test.YtldogelccicbnaaK12
import Derived.Test.YtldogelccicbnaaK13
import Derived.Test.YtldogelccicbnaaCode
import Derived.WalkKit
import Derived.ProofKit
import Derived.OpenShut
import Derived.ShutString
import Derived.ChangeOld
import Derived.Below
import Derived.SizedLaws
namespace Go.Proofs.Ytldogelccicbnaa.Mach
open Go Ab
def known1 : List (FuncId × List PV × List PV) := [(27, a1, r1), (27, a2, r2), (27, a3, r3), (27, a4, r4), (27, a5, r5), (27, a6, r6), (27, a7, r7), (4, a8, r8), (5, a9, r9), (5, a10, r10), (10, a11, r11), (11, a12, r12), (11, a13, r13)]
theorem knows1 : Knows Try.prog known1 := (.cons k1 (.cons k2 (.cons k3 (.cons k4 (.cons k5 (.cons k6 (.cons k7 (.cons k8 (.cons k9 (.cons k10 (.cons k11 (.cons k12 (.cons k13 Ab.Knows.nil)))))))))))))
noncomputable def env1 : Ab.Env := { env with ext := orExt (memo known1) env.ext }
theorem table1 : Ab.Table Try.prog mu env1 := table.orMemo knows1
theorem run : (frun env1 401).p 3 [] = some [.bool true] := by kernel_rfl
theorem walk (w : World) : Calls Try.prog 3 #[] w fun e w' => e = .returned (.bool true) ∧ RowKit.Below w.heap.size w w' := by
  refine (runP_calls table1 (by kernel_rfl) (frun_p run) (sim_immOf w) rfl (by simp)).mono fun e w' h => ?_
  obtain ⟨cv, m', rfl, h2, _, h4⟩ := h
  exact ⟨by rw [R.bool h2], h4.below⟩
end Go.Proofs.Ytldogelccicbnaa.Mach
namespace Go.Proofs.Ytldogelccicbnaa.blockKnown
open Go.ChangeShapes Go.WideShapes Go.ChangeAt Go.RowKit
theorem own : ownKnob Try.prog.godebug = none := by kernel_rfl
theorem lifted (os : Os) (started : os.Started) (H : Type) (enc : TypeId × Value → H) :
    ReturnsInHanded {} Try.checked os 3 .any (Rows.blockKnownSpec.pre6 enc Try.prog Try.f3 Rows.blockKnownRow.domain false) (Rows.blockKnownSpec.post enc Try.prog Try.f3 false true false false) := by
  refine returnsInHanded_of_change_sized (C := Try.checked) own started (by kernel_rfl) Try.func3
    (ChangeSpec.witness6 (enc := enc) (C := Try.checked) false ⟨#[], #[], []⟩ 8 (by kernel_rfl) (by kernel_rfl) (by kernel_rfl) (by kernel_rfl)) ?_
  intro W base args ds gs before hval0 hW hcnd hsz0 _
  have hW' := hW
  obtain ⟨p, q, hA0, hV, rfl, hfz, hnd⟩ := hW
  have hA : DataW.TrodAll enc Try.prog W 0 (fun _ => true) true Try.f3.params.toList args.toList ds p := hA0
  rw [Try.params3] at hA
  obtain ⟨ha, rfl, rfl⟩ := trodAll_none hA
  have hargs : args = #[] := by first | exact ha | (cases args; simp_all)
  subst hargs
  obtain ⟨rfl, rfl⟩ := trodVars_none hV
  refine (Mach.walk W).mono fun e W' ⟨he, bel⟩ => ?_
  subst he
  exact ⟨_, rfl, _, _, _, [], _, [], hW', trodAll_mk1 (shut_bool Try.underlying4 _), trodAll_mk0, rfl, bel.frame _, fun h => by cases h⟩
theorem over : Rows.blockKnownRow.holds Try.pinned (OpenSpec.ofChange Rows.blockKnownSpec) :=
  OpenClaim.holds_of_wide 3 Try.f3 rfl rfl rfl rfl rfl rfl rfl ⟨rfl, rfl, rfl, rfl, rfl⟩ rfl rfl rfl rfl rfl (by kernel_rfl) Try.func3 (by kernel_rfl)
    (of_decide_eq_true (by kernel_rfl)) (by unfold Func.isWrapper; first | (rw [if_pos (by decide +kernel)]; kernel_rfl) | (rw [if_neg (by decide +kernel)]; exact ⟨rfl, rfl⟩))
    (fun os started H enc _ => lifted os started H enc)
theorem proved : Rows.BlockKnownSaid := over
end Go.Proofs.Ytldogelccicbnaa.blockKnown
namespace Go.Proofs.Ytldogelccicbnaa
/-- The statement, under a short name, for the claim. -/
theorem blockKnown_holds : Rows.BlockKnownSaid := blockKnown.proved
#print axioms blockKnown_holds
end Go.Proofs.Ytldogelccicbnaa
