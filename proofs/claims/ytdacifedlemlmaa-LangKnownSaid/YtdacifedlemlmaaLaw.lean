/- LangKnown: the closed law returns true, whatever the world; nothing is changed. No condition. -/
import Derived.Test.YtdacifedlemlmaaRows
import Derived.Test.YtdacifedlemlmaaK1
import Derived.Test.YtdacifedlemlmaaK2
import Derived.Test.YtdacifedlemlmaaK3
import Derived.Test.YtdacifedlemlmaaK4
import Derived.Test.YtdacifedlemlmaaK5
import Derived.Test.YtdacifedlemlmaaK6
import Derived.Test.YtdacifedlemlmaaK7
import Derived.Test.YtdacifedlemlmaaK8
import Derived.Test.YtdacifedlemlmaaK9
import Derived.Test.YtdacifedlemlmaaK10
import Derived.Test.YtdacifedlemlmaaK11
import Derived.Test.YtdacifedlemlmaaK12
import Derived.Test.YtdacifedlemlmaaK13
import Derived.Test.YtdacifedlemlmaaCode
import Derived.WalkKit
import Derived.ProofKit
import Derived.OpenShut
import Derived.ShutString
import Derived.ChangeOld
import Derived.Below
import Derived.SizedLaws
namespace Go.Proofs.Ytdacifedlemlmaa.Mach
open Go Ab
def knownL : List (FuncId × List PV × List PV) := [(17, a1, r1), (27, a2, r2), (27, a3, r3), (27, a4, r4), (27, a5, r5), (27, a6, r6), (27, a7, r7), (22, a8, r8), (39, a9, r9), (39, a10, r10), (39, a11, r11), (22, a12, r12), (22, a13, r13)]
theorem knowsL : Knows Try.prog knownL := (.cons k1 (.cons k2 (.cons k3 (.cons k4 (.cons k5 (.cons k6 (.cons k7 (.cons k8 (.cons k9 (.cons k10 (.cons k11 (.cons k12 (.cons k13 Ab.Knows.nil)))))))))))))
noncomputable def env1 : Ab.Env := { env with ext := memo knownL }
theorem table1 : Ab.Table Try.prog mu env1 := table.memo knowsL
theorem run : (frun env1 99).p 10 [] = some [.bool true] := by kernel_rfl
theorem walk (w : World) : Calls Try.prog 10 #[] w fun e w' => e = .returned (.bool true) ∧ RowKit.Below w.heap.size w w' := by
  refine (runP_calls table1 (by kernel_rfl) (frun_p run) (sim_immOf w) rfl (by simp)).mono fun e w' h => ?_
  obtain ⟨cv, m', rfl, h2, _, h4⟩ := h
  exact ⟨by rw [R.bool h2], h4.below⟩
end Go.Proofs.Ytdacifedlemlmaa.Mach
namespace Go.Proofs.Ytdacifedlemlmaa.langKnown
open Go.ChangeShapes Go.WideShapes Go.ChangeAt Go.RowKit
theorem own : ownKnob Try.prog.godebug = none := by kernel_rfl
theorem lifted (os : Os) (started : os.Started) (H : Type) (enc : TypeId × Value → H) :
    ReturnsInHanded {} Try.checked os 10 .any (Rows.langKnownSpec.pre6 enc Try.prog Try.f10 Rows.langKnownRow.domain false) (Rows.langKnownSpec.post enc Try.prog Try.f10 false true false false) := by
  refine returnsInHanded_of_change_sized (C := Try.checked) own started (by kernel_rfl) Try.func10
    (ChangeSpec.witness6 (enc := enc) (C := Try.checked) false ⟨#[], #[], []⟩ 8 (by kernel_rfl) (by kernel_rfl) (by kernel_rfl) (by kernel_rfl)) ?_
  intro W base args ds gs before hval0 hW hcnd hsz0 _
  have hW' := hW
  obtain ⟨p, q, hA0, hV, rfl, hfz, hnd⟩ := hW
  have hA : DataW.TrodAll enc Try.prog W 0 (fun _ => true) true Try.f10.params.toList args.toList ds p := hA0
  rw [Try.params10] at hA
  obtain ⟨ha, rfl, rfl⟩ := trodAll_none hA
  have hargs : args = #[] := by first | exact ha | (cases args; simp_all)
  subst hargs
  obtain ⟨rfl, rfl⟩ := trodVars_none hV
  refine (Mach.walk W).mono fun e W' ⟨he, bel⟩ => ?_
  subst he
  exact ⟨_, rfl, _, _, _, [], _, [], hW', trodAll_mk1 (shut_bool Try.underlying4 _), trodAll_mk0, rfl, bel.frame _, fun h => by cases h⟩
theorem over : Rows.langKnownRow.holds Try.pinned (OpenSpec.ofChange Rows.langKnownSpec) :=
  OpenClaim.holds_of_wide 10 Try.f10 rfl rfl rfl rfl rfl rfl rfl ⟨rfl, rfl, rfl, rfl, rfl⟩ rfl rfl rfl rfl rfl (by kernel_rfl) Try.func10 (by kernel_rfl)
    (of_decide_eq_true (by kernel_rfl)) (by unfold Func.isWrapper; first | (rw [if_pos (by decide +kernel)]; kernel_rfl) | (rw [if_neg (by decide +kernel)]; exact ⟨rfl, rfl⟩))
    (fun os started H enc _ => lifted os started H enc)
theorem proved : Rows.LangKnownSaid := over
end Go.Proofs.Ytdacifedlemlmaa.langKnown
namespace Go.Proofs.Ytdacifedlemlmaa
/-- The statement, under a short name, for the claim. -/
theorem langKnown_holds : Rows.LangKnownSaid := langKnown.proved
#print axioms langKnown_holds
end Go.Proofs.Ytdacifedlemlmaa
