/- SulzKnown: the closed law returns true, whatever the world; nothing is changed. No condition. -/
import Derived.Test.YtldogelccicbnaaDoorRows
import Derived.Test.YtldogelccicbnaaDoorCards
import Derived.Test.YtldogelccicbnaaDoorTie
import Derived.Lay
import Derived.SevenTiedAt
import Derived.Test.YtldogelccicbnaaDoorUkK1
import Derived.Test.YtldogelccicbnaaDoorUkK2
import Derived.Test.YtldogelccicbnaaDoorUkK3
import Derived.Test.YtldogelccicbnaaDoorUkK4
import Derived.Test.YtldogelccicbnaaDoorUkK5
import Derived.Test.YtldogelccicbnaaDoorUkK6
import Derived.Test.YtldogelccicbnaaDoorUkK7
import Derived.Test.YtldogelccicbnaaDoorUkK8
import Derived.Test.YtldogelccicbnaaDoorUkK9
import Derived.Test.YtldogelccicbnaaDoorUkCode
import Derived.WalkKit
import Derived.ProofKit
import Derived.OpenShut
import Derived.ShutString
import Derived.ChangeOld
import Derived.Below
import Derived.SizedLaws
namespace Go.Proofs.YtldogelccicbnaaDoor.Mach
open Go Ab
def known3 : List (FuncId × List PV × List PV) := [(72, a1, r1), (39, a2, r2), (9, a3, r3), (40, a4, r4), (76, a5, r5), (76, a6, r6), (72, a7, r7), (39, a8, r8), (76, a9, r9), (40, a10, r10), (35, a11, r11), (40, a12, r12), (39, a13, r13), (56, a14, r14), (9, a15, r15), (36, a16, r16), (54, a17, r17), (72, a18, r18), (40, a19, r19), (39, a20, r20), (39, a21, r21), (34, a22, r22), (68, a23, r23), (9, a24, r24), (9, a25, r25), (9, a26, r26), (65, a27, r27), (40, a28, r28), (9, a29, r29), (9, a30, r30), (65, a31, r31), (40, a32, r32), (44, a33, r33), (9, a34, r34), (9, a35, r35), (9, a36, r36), (39, a37, r37), (33, a38, r38), (33, a39, r39), (34, a40, r40), (28, a41, r41)]
set_option maxRecDepth 100000 in
theorem knows3 : Knows Tryd.prog known3 := (.cons k1 (.cons k2 (.cons k3 (.cons k4 (.cons k5 (.cons k6 (.cons k7 (.cons k8 (.cons k9 (.cons k10 (.cons k11 (.cons k12 (.cons k13 (.cons k14 (.cons k15 (.cons k16 (.cons k17 (.cons k18 (.cons k19 (.cons k20 (.cons k21 (.cons k22 (.cons k23 (.cons k24 (.cons k25 (.cons k26 (.cons k27 (.cons k28 (.cons k29 (.cons k30 (.cons k31 (.cons k32 (.cons k33 (.cons k34 (.cons k35 (.cons k36 (.cons k37 (.cons k38 (.cons k39 (.cons k40 (.cons k41 Ab.Knows.nil)))))))))))))))))))))))))))))))))))))))))
noncomputable def env3 : Ab.Env := { env with ext := orExt (memo known3) env.ext }
set_option maxRecDepth 100000 in
theorem table3 : Ab.Table Tryd.prog mu env3 := table.orMemo knows3
set_option maxRecDepth 100000 in
theorem run : (frun env3 401).p 5 [] = some [.bool true] := by kernel_rfl
set_option maxRecDepth 100000 in
theorem walk (w : World) : Calls Tryd.prog 5 #[] w fun e w' => e = .returned (.bool true) ∧ RowKit.Below w.heap.size w w' := by
  refine (runP_calls table3 (by kernel_rfl) (frun_p run) (sim_immOf w) rfl (by simp)).mono fun e w' h => ?_
  obtain ⟨cv, m', rfl, h2, _, h4⟩ := h
  exact ⟨by rw [R.bool h2], h4.below⟩
end Go.Proofs.YtldogelccicbnaaDoor.Mach
namespace Go.Proofs.YtldogelccicbnaaDoor.sulzKnown
open Go.ChangeShapes Go.WideShapes Go.ChangeAt Go.RowKit
theorem own : ownKnob Tryd.prog.godebug = none := by kernel_rfl
def laidL : List (String × DataW Unit) := [("unicode/utf8.acceptRanges", Rows.laid_unicode_utf8_acceptRanges), ("unicode/utf8.first", Rows.laid_unicode_utf8_first)]
set_option maxRecDepth 100000 in
theorem lifted (os : Os) (started : os.Started) (H : Type) (enc : TypeId × Value → H) :
    ReturnsInHanded {} Tryd.checked os 5 .any (fun w args => (Rows.sulzKnownSpec.pre enc Tryd.prog Tryd.f5 [] false w args ∧ laidMetH Tryd.prog laidL w) ∧ sizedMet enc Tryd.prog Tryd.f5 (OpenSpec.ofChange Rows.sulzKnownSpec) false w args)
      (Rows.sulzKnownSpec.post enc Tryd.prog Tryd.f5 false true false false) := by
  refine returnsInHanded_of_change_and (C := Tryd.checked) (X := fun w _ => laidMetH Tryd.prog laidL w) (fun _ _ _ hh h => h.of_heap hh) own started (by kernel_rfl) Tryd.func5
    (ChangeSpec.witness_shaped (enc := enc) (C := Tryd.checked) (os := os) (X := fun w _ => laidMetH Tryd.prog laidL w) false (World.laidAll Tryd.prog os laidL) #[] 8 (World.laidAll_os _ _ _)
      (World.shaped_of_ZipB (by kernel_rfl) (by kernel_rfl)) (by kernel_rfl) (by kernel_rfl) (by kernel_rfl)
      (by rw [MakeChecks.laidMetH_plain _ _ _ (by kernel_rfl)]; exact laidMet_laidAll _ (by kernel_rfl) (by kernel_rfl))) ?_
  intro W base args ds gs before hval0 hW _ _ _ _
  have hW' := hW
  obtain ⟨p, q, hA0, hV, rfl, hfz, hnd⟩ := hW
  have hA : DataW.TrodAll enc Tryd.prog W 0 (fun _ => true) true Tryd.f5.params.toList args.toList ds p := hA0
  rw [Tryd.params5] at hA
  obtain ⟨ha, rfl, rfl⟩ := trodAll_none hA
  have hargs : args = #[] := by first | exact ha | (cases args; simp_all)
  subst hargs
  obtain ⟨rfl, rfl⟩ := trodVars_none hV
  refine (Mach.walk W).mono fun e W' ⟨he, bel⟩ => ?_
  subst he
  exact ⟨_, rfl, _, _, _, [], _, [], hW', trodAll_mk1 (shut_bool Tryd.underlying4 _), trodAll_mk0, rfl, bel.frame _, fun h => by cases h⟩
theorem over : Rows.sulzKnownRow.holds Tryd.pinned (OpenSpec.ofChange Rows.sulzKnownSpec) :=
  OpenClaim.holds_of_wide 5 Tryd.f5 rfl rfl rfl rfl rfl rfl rfl ⟨rfl, rfl, rfl, rfl, rfl⟩ rfl rfl rfl rfl rfl (by kernel_rfl) Tryd.func5 (by kernel_rfl)
    (of_decide_eq_true (by kernel_rfl)) (by unfold Func.isWrapper; first | (rw [if_pos (by decide +kernel)]; kernel_rfl) | (rw [if_neg (by decide +kernel)]; exact ⟨rfl, rfl⟩))
    (fun os started H enc _ => lifted os started H enc)
theorem proved : Rows.SulzKnownCardSaid :=
  Claim7.holds_tied_plain_at .later [] [.data, .pinned] true (true, "8aca6ae10f13b5127fc516bc9562b384e7f3b2106d5fb0411cc9e618eb4127b1") false over (fun _ h => by cases h) (by kernel_rfl) (fun _ h => by cases h) sulzKnown_row_tie rfl ⟨rfl, rfl⟩ (by kernel_rfl) rfl
    (fun f fn hf hfn => by
      obtain rfl : f = 5 := Option.some.inj ((show Tryd.prog.funcNamed "catchpole/catchpolelaw19.SulzKnown" = some 5 by kernel_rfl).symm.trans hf) |>.symm
      obtain rfl : fn = Tryd.f5 := (Option.some.inj (Tryd.func5.symm.trans hfn)).symm
      exact ⟨by kernel_rfl, fun j t ht => by rw [Tryd.params5] at ht; simp at ht⟩)
    (by kernel_rfl)
end Go.Proofs.YtldogelccicbnaaDoor.sulzKnown
namespace Go.Proofs.YtldogelccicbnaaDoor
/-- The statement, under a short name, for the claim. -/
theorem sulzKnown_holds : Rows.SulzKnownCardSaid := sulzKnown.proved
#print axioms sulzKnown_holds
end Go.Proofs.YtldogelccicbnaaDoor
