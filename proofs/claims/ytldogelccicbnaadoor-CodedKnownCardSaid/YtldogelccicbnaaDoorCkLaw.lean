/- CodedKnown: the closed law returns true, whatever the world; nothing is changed. No condition. -/
import Derived.Test.YtldogelccicbnaaDoorRows
import Derived.Test.YtldogelccicbnaaDoorCards
import Derived.Test.YtldogelccicbnaaDoorTie
import Derived.Lay
import Derived.SevenTiedAt
import Derived.Test.YtldogelccicbnaaDoorCkK1
import Derived.Test.YtldogelccicbnaaDoorCkK2
import Derived.Test.YtldogelccicbnaaDoorCkK3
import Derived.Test.YtldogelccicbnaaDoorCkK4
import Derived.Test.YtldogelccicbnaaDoorCkCode
import Derived.WalkKit
import Derived.ProofKit
import Derived.OpenShut
import Derived.ShutString
import Derived.ChangeOld
import Derived.Below
import Derived.SizedLaws
namespace Go.Proofs.YtldogelccicbnaaDoor.Mach
open Go Ab
def known1 : List (FuncId × List PV × List PV) := [(101, a1, r1), (40, a2, r2), (39, a3, r3), (39, a4, r4), (39, a5, r5), (38, a6, r6), (38, a7, r7), (44, a8, r8), (44, a9, r9), (41, a10, r10), (39, a11, r11), (39, a12, r12), (39, a13, r13), (37, a14, r14), (40, a15, r15), (42, a16, r16), (39, a17, r17), (39, a18, r18), (42, a19, r19), (39, a20, r20), (42, a21, r21)]
set_option maxRecDepth 100000 in
theorem knows1 : Knows Tryd.prog known1 := (.cons k1 (.cons k2 (.cons k3 (.cons k4 (.cons k5 (.cons k6 (.cons k7 (.cons k8 (.cons k9 (.cons k10 (.cons k11 (.cons k12 (.cons k13 (.cons k14 (.cons k15 (.cons k16 (.cons k17 (.cons k18 (.cons k19 (.cons k20 (.cons k21 Ab.Knows.nil)))))))))))))))))))))
noncomputable def env1 : Ab.Env := { env with ext := orExt (memo known1) env.ext }
set_option maxRecDepth 100000 in
theorem table1 : Ab.Table Tryd.prog mu env1 := table.orMemo knows1
set_option maxRecDepth 100000 in
theorem run : (frun env1 401).p 6 [] = some [.bool true] := by kernel_rfl
set_option maxRecDepth 100000 in
theorem walk (w : World) : Calls Tryd.prog 6 #[] w fun e w' => e = .returned (.bool true) ∧ RowKit.Below w.heap.size w w' := by
  refine (runP_calls table1 (by kernel_rfl) (frun_p run) (sim_immOf w) rfl (by simp)).mono fun e w' h => ?_
  obtain ⟨cv, m', rfl, h2, _, h4⟩ := h
  exact ⟨by rw [R.bool h2], h4.below⟩
end Go.Proofs.YtldogelccicbnaaDoor.Mach
namespace Go.Proofs.YtldogelccicbnaaDoor.codedKnown
open Go.ChangeShapes Go.WideShapes Go.ChangeAt Go.RowKit
theorem own : ownKnob Tryd.prog.godebug = none := by kernel_rfl
def laidL : List (String × DataW Unit) := [("math/bits.deBruijn32tab", Rows.laid_math_bits_deBruijn32tab), ("math/bits.deBruijn64tab", Rows.laid_math_bits_deBruijn64tab), ("internal/strconv.uint64pow10", Rows.laid_internal_strconv_uint64pow10), ("unicode/utf8.acceptRanges", Rows.laid_unicode_utf8_acceptRanges), ("unicode/utf8.first", Rows.laid_unicode_utf8_first)]
set_option maxRecDepth 100000 in
theorem lifted (os : Os) (started : os.Started) (H : Type) (enc : TypeId × Value → H) :
    ReturnsInHanded {} Tryd.checked os 6 .any (fun w args => (Rows.codedKnownSpec.pre enc Tryd.prog Tryd.f6 [] false w args ∧ laidMetH Tryd.prog laidL w) ∧ sizedMet enc Tryd.prog Tryd.f6 (OpenSpec.ofChange Rows.codedKnownSpec) false w args)
      (Rows.codedKnownSpec.post enc Tryd.prog Tryd.f6 false true false false) := by
  refine returnsInHanded_of_change_and (C := Tryd.checked) (X := fun w _ => laidMetH Tryd.prog laidL w) (fun _ _ _ hh h => h.of_heap hh) own started (by kernel_rfl) Tryd.func6
    (ChangeSpec.witness_shaped (enc := enc) (C := Tryd.checked) (os := os) (X := fun w _ => laidMetH Tryd.prog laidL w) false (World.laidAll Tryd.prog os laidL) #[] 8 (World.laidAll_os _ _ _)
      (World.shaped_of_ZipB (by kernel_rfl) (by kernel_rfl)) (by kernel_rfl) (by kernel_rfl) (by kernel_rfl)
      (by rw [MakeChecks.laidMetH_plain _ _ _ (by kernel_rfl)]; exact laidMet_laidAll _ (by kernel_rfl) (by kernel_rfl))) ?_
  intro W base args ds gs before hval0 hW _ _ _ _
  have hW' := hW
  obtain ⟨p, q, hA0, hV, rfl, hfz, hnd⟩ := hW
  have hA : DataW.TrodAll enc Tryd.prog W 0 (fun _ => true) true Tryd.f6.params.toList args.toList ds p := hA0
  rw [Tryd.params6] at hA
  obtain ⟨ha, rfl, rfl⟩ := trodAll_none hA
  have hargs : args = #[] := by first | exact ha | (cases args; simp_all)
  subst hargs
  obtain ⟨rfl, rfl⟩ := trodVars_none hV
  refine (Mach.walk W).mono fun e W' ⟨he, bel⟩ => ?_
  subst he
  exact ⟨_, rfl, _, _, _, [], _, [], hW', trodAll_mk1 (shut_bool Tryd.underlying4 _), trodAll_mk0, rfl, bel.frame _, fun h => by cases h⟩
theorem over : Rows.codedKnownRow.holds Tryd.pinned (OpenSpec.ofChange Rows.codedKnownSpec) :=
  OpenClaim.holds_of_wide 6 Tryd.f6 rfl rfl rfl rfl rfl rfl rfl ⟨rfl, rfl, rfl, rfl, rfl⟩ rfl rfl rfl rfl rfl (by kernel_rfl) Tryd.func6 (by kernel_rfl)
    (of_decide_eq_true (by kernel_rfl)) (by unfold Func.isWrapper; first | (rw [if_pos (by decide +kernel)]; kernel_rfl) | (rw [if_neg (by decide +kernel)]; exact ⟨rfl, rfl⟩))
    (fun os started H enc _ => lifted os started H enc)
theorem proved : Rows.CodedKnownCardSaid :=
  Claim7.holds_tied_plain_at .later [] [.data, .data, .data, .data, .pinned] true (true, "8aca6ae10f13b5127fc516bc9562b384e7f3b2106d5fb0411cc9e618eb4127b1") false over (fun _ h => by cases h) (by kernel_rfl) (fun _ h => by cases h) codedKnown_row_tie rfl ⟨rfl, rfl⟩ (by kernel_rfl) rfl
    (fun f fn hf hfn => by
      obtain rfl : f = 6 := Option.some.inj ((show Tryd.prog.funcNamed "catchpole/catchpolelaw17.CodedKnown" = some 6 by kernel_rfl).symm.trans hf) |>.symm
      obtain rfl : fn = Tryd.f6 := (Option.some.inj (Tryd.func6.symm.trans hfn)).symm
      exact ⟨by kernel_rfl, fun j t ht => by rw [Tryd.params6] at ht; simp at ht⟩)
    (by kernel_rfl)
end Go.Proofs.YtldogelccicbnaaDoor.codedKnown
namespace Go.Proofs.YtldogelccicbnaaDoor
/-- The statement, under a short name, for the claim. -/
theorem codedKnown_holds : Rows.CodedKnownCardSaid := codedKnown.proved
#print axioms codedKnown_holds
end Go.Proofs.YtldogelccicbnaaDoor
