/- ReportKnown: the closed law returns true, whatever the world; nothing is changed. No condition. -/
import Derived.Test.YtdacifedlemlmaaRows
import Derived.Test.YtdacifedlemlmaaRkK1
import Derived.Test.YtdacifedlemlmaaRkK2
import Derived.Test.YtdacifedlemlmaaRkK3
import Derived.Test.YtdacifedlemlmaaRkK4
import Derived.Test.YtdacifedlemlmaaRkK5
import Derived.Test.YtdacifedlemlmaaRkCode
import Derived.WalkKit
import Derived.ProofKit
import Derived.OpenShut
import Derived.ShutString
import Derived.ChangeOld
import Derived.Below
import Derived.SizedLaws
namespace Go.Proofs.Ytdacifedlemlmaa.Mach
open Go Ab
def known1 : List (FuncId × List PV × List PV) := [(30, a1, r1), (30, a2, r2), (30, a3, r3), (30, a4, r4), (30, a5, r5), (30, a6, r6), (30, a7, r7), (30, a8, r8), (30, a9, r9), (34, a10, r10), (29, a11, r11), (30, a12, r12), (30, a13, r13), (30, a14, r14), (30, a15, r15), (30, a16, r16), (30, a17, r17), (30, a18, r18), (30, a19, r19), (30, a20, r20), (30, a21, r21), (16, a22, r22), (16, a23, r23), (30, a24, r24), (30, a25, r25), (30, a26, r26), (30, a27, r27), (30, a28, r28), (30, a29, r29), (30, a30, r30), (30, a31, r31), (30, a32, r32), (30, a33, r33), (30, a34, r34), (30, a35, r35), (30, a36, r36), (30, a37, r37), (28, a38, r38), (28, a39, r39), (30, a40, r40), (30, a41, r41), (30, a42, r42), (30, a43, r43), (33, a44, r44), (16, a45, r45), (16, a46, r46), (30, a47, r47), (32, a48, r48), (32, a49, r49), (12, a50, r50)]
set_option maxRecDepth 100000 in
theorem knows1 : Knows Try.prog known1 := (.cons k1 (.cons k2 (.cons k3 (.cons k4 (.cons k5 (.cons k6 (.cons k7 (.cons k8 (.cons k9 (.cons k10 (.cons k11 (.cons k12 (.cons k13 (.cons k14 (.cons k15 (.cons k16 (.cons k17 (.cons k18 (.cons k19 (.cons k20 (.cons k21 (.cons k22 (.cons k23 (.cons k24 (.cons k25 (.cons k26 (.cons k27 (.cons k28 (.cons k29 (.cons k30 (.cons k31 (.cons k32 (.cons k33 (.cons k34 (.cons k35 (.cons k36 (.cons k37 (.cons k38 (.cons k39 (.cons k40 (.cons k41 (.cons k42 (.cons k43 (.cons k44 (.cons k45 (.cons k46 (.cons k47 (.cons k48 (.cons k49 (.cons k50 Ab.Knows.nil))))))))))))))))))))))))))))))))))))))))))))))))))
noncomputable def env1 : Ab.Env := { env with ext := orExt (memo known1) env.ext }
set_option maxRecDepth 100000 in
theorem table1 : Ab.Table Try.prog mu env1 := table.orMemo knows1
set_option maxRecDepth 100000 in
theorem run : (frun env1 401).p 6 [] = some [.bool true] := by kernel_rfl
set_option maxRecDepth 100000 in
theorem walk (w : World) (hb : Tabs Try.prog w tabs) : Calls Try.prog 6 #[] w fun e w' => e = .returned (.bool true) ∧ RowKit.Below w.heap.size w w' := by
  refine (runP_calls table1 (by kernel_rfl) (frun_p run) (sim_immOf w hb.base) rfl (by simp)).mono fun e w' h => ?_
  obtain ⟨cv, m', rfl, h2, _, h4⟩ := h
  exact ⟨by rw [R.bool h2], h4.below⟩
end Go.Proofs.Ytdacifedlemlmaa.Mach
namespace Go.Proofs.Ytdacifedlemlmaa.reportKnown
open Go.ChangeShapes Go.WideShapes Go.ChangeAt Go.RowKit
theorem own : ownKnob Try.prog.godebug = none := by kernel_rfl
theorem lifted (os : Os) (started : os.Started) (H : Type) (enc : TypeId × Value → H) :
    ReturnsInHanded {} Try.checked os 6 .any (Rows.reportKnownSpec.pre6 enc Try.prog Try.f6 Rows.reportKnownRow.domain false) (Rows.reportKnownSpec.post enc Try.prog Try.f6 false true false false) := by
  refine returnsInHanded_of_change_sized (C := Try.checked) own started (by kernel_rfl) Try.func6
    (ChangeSpec.witness6 (enc := enc) (C := Try.checked) false ⟨#[], #[], []⟩ 8 (by kernel_rfl) (by kernel_rfl) (by kernel_rfl) (by kernel_rfl)) ?_
  intro W base args ds gs before hval0 hW hcnd hsz0 _
  have hW' := hW
  obtain ⟨p, q, hA0, hV, rfl, hfz, hnd⟩ := hW
  have hA : DataW.TrodAll enc Try.prog W 0 (fun _ => true) true Try.f6.params.toList args.toList ds p := hA0
  rw [Try.params6] at hA
  obtain ⟨ha, rfl, rfl⟩ := trodAll_none hA
  have hargs : args = #[] := by first | exact ha | (cases args; simp_all)
  subst hargs
  obtain ⟨rfl, rfl⟩ := trodVars_none hV
  refine (Mach.walk W trivial).mono fun e W' ⟨he, bel⟩ => ?_
  subst he
  exact ⟨_, rfl, _, _, _, [], _, [], hW', trodAll_mk1 (shut_bool Try.underlying4 _), trodAll_mk0, rfl, bel.frame _, fun h => by cases h⟩
theorem over : Rows.reportKnownRow.holds Try.pinned (OpenSpec.ofChange Rows.reportKnownSpec) :=
  OpenClaim.holds_of_wide 6 Try.f6 rfl rfl rfl rfl rfl rfl rfl ⟨rfl, rfl, rfl, rfl, rfl⟩ rfl rfl rfl rfl rfl (by kernel_rfl) Try.func6 (by kernel_rfl)
    (of_decide_eq_true (by kernel_rfl)) (by unfold Func.isWrapper; first | (rw [if_pos (by decide +kernel)]; kernel_rfl) | (rw [if_neg (by decide +kernel)]; exact ⟨rfl, rfl⟩))
    (fun os started H enc _ => lifted os started H enc)
theorem proved : Rows.ReportKnownSaid := over
end Go.Proofs.Ytdacifedlemlmaa.reportKnown
namespace Go.Proofs.Ytdacifedlemlmaa
/-- The statement, under a short name, for the claim. -/
theorem reportKnown_holds : Rows.ReportKnownSaid := reportKnown.proved
#print axioms reportKnown_holds
end Go.Proofs.Ytdacifedlemlmaa
