/- SimpKnown: the closed law returns true, whatever the world; nothing is changed. No condition. -/
import Derived.Test.YtldogelccicbnaaDoorRows
import Derived.Test.YtldogelccicbnaaDoorCards
import Derived.Test.YtldogelccicbnaaDoorTie
import Derived.Lay
import Derived.SevenTiedAt
import Derived.Test.YtldogelccicbnaaDoorSkCode
import Derived.WalkKit
import Derived.ProofKit
import Derived.OpenShut
import Derived.ShutString
import Derived.ChangeOld
import Derived.Below
import Derived.SizedLaws
namespace Go.Proofs.YtldogelccicbnaaDoor.Mach
open Go Ab
noncomputable def env0 : Ab.Env := env
theorem table0 : Ab.Table Tryd.prog mu env0 := table
theorem run : (frun env0 401).p 3 [] = some [.bool true] := by kernel_rfl
theorem walk (w : World) : Calls Tryd.prog 3 #[] w fun e w' => e = .returned (.bool true) ∧ RowKit.Below w.heap.size w w' := by
  refine (runP_calls table0 (by kernel_rfl) (frun_p run) (sim_immOf w) rfl (by simp)).mono fun e w' h => ?_
  obtain ⟨cv, m', rfl, h2, _, h4⟩ := h
  exact ⟨by rw [R.bool h2], h4.below⟩
end Go.Proofs.YtldogelccicbnaaDoor.Mach
namespace Go.Proofs.YtldogelccicbnaaDoor.simpKnown
open Go.ChangeShapes Go.WideShapes Go.ChangeAt Go.RowKit
theorem own : ownKnob Tryd.prog.godebug = none := by kernel_rfl
def laidL : List (String × DataW Unit) := [("unicode/utf8.acceptRanges", Rows.laid_unicode_utf8_acceptRanges), ("unicode/utf8.first", Rows.laid_unicode_utf8_first)]
set_option maxRecDepth 100000 in
theorem lifted (os : Os) (started : os.Started) (H : Type) (enc : TypeId × Value → H) :
    ReturnsInHanded {} Tryd.checked os 3 .any (fun w args => (Rows.simpKnownSpec.pre enc Tryd.prog Tryd.f3 [] false w args ∧ laidMetH Tryd.prog laidL w) ∧ sizedMet enc Tryd.prog Tryd.f3 (OpenSpec.ofChange Rows.simpKnownSpec) false w args)
      (Rows.simpKnownSpec.post enc Tryd.prog Tryd.f3 false true false false) := by
  refine returnsInHanded_of_change_and (C := Tryd.checked) (X := fun w _ => laidMetH Tryd.prog laidL w) (fun _ _ _ hh h => h.of_heap hh) own started (by kernel_rfl) Tryd.func3
    (ChangeSpec.witness_shaped (enc := enc) (C := Tryd.checked) (os := os) (X := fun w _ => laidMetH Tryd.prog laidL w) false (World.laidAll Tryd.prog os laidL) #[] 8 (World.laidAll_os _ _ _)
      (World.shaped_of_ZipB (by kernel_rfl) (by kernel_rfl)) (by kernel_rfl) (by kernel_rfl) (by kernel_rfl)
      (by rw [MakeChecks.laidMetH_plain _ _ _ (by kernel_rfl)]; exact laidMet_laidAll _ (by kernel_rfl) (by kernel_rfl))) ?_
  intro W base args ds gs before hval0 hW _ _ _ _
  have hW' := hW
  obtain ⟨p, q, hA0, hV, rfl, hfz, hnd⟩ := hW
  have hA : DataW.TrodAll enc Tryd.prog W 0 (fun _ => true) true Tryd.f3.params.toList args.toList ds p := hA0
  rw [Tryd.params3] at hA
  obtain ⟨ha, rfl, rfl⟩ := trodAll_none hA
  have hargs : args = #[] := by first | exact ha | (cases args; simp_all)
  subst hargs
  obtain ⟨rfl, rfl⟩ := trodVars_none hV
  refine (Mach.walk W).mono fun e W' ⟨he, bel⟩ => ?_
  subst he
  exact ⟨_, rfl, _, _, _, [], _, [], hW', trodAll_mk1 (shut_bool Tryd.underlying4 _), trodAll_mk0, rfl, bel.frame _, fun h => by cases h⟩
theorem over : Rows.simpKnownRow.holds Tryd.pinned (OpenSpec.ofChange Rows.simpKnownSpec) :=
  OpenClaim.holds_of_wide 3 Tryd.f3 rfl rfl rfl rfl rfl rfl rfl ⟨rfl, rfl, rfl, rfl, rfl⟩ rfl rfl rfl rfl rfl (by kernel_rfl) Tryd.func3 (by kernel_rfl)
    (of_decide_eq_true (by kernel_rfl)) (by unfold Func.isWrapper; first | (rw [if_pos (by decide +kernel)]; kernel_rfl) | (rw [if_neg (by decide +kernel)]; exact ⟨rfl, rfl⟩))
    (fun os started H enc _ => lifted os started H enc)
theorem proved : Rows.SimpKnownCardSaid :=
  Claim7.holds_tied_plain_at .later [] [.data, .pinned] true (true, "8aca6ae10f13b5127fc516bc9562b384e7f3b2106d5fb0411cc9e618eb4127b1") false over (fun _ h => by cases h) (by kernel_rfl) (fun _ h => by cases h) simpKnown_row_tie rfl ⟨rfl, rfl⟩ (by kernel_rfl) rfl
    (fun f fn hf hfn => by
      obtain rfl : f = 3 := Option.some.inj ((show Tryd.prog.funcNamed "catchpole/catchpolelaw18.SimpKnown" = some 3 by kernel_rfl).symm.trans hf) |>.symm
      obtain rfl : fn = Tryd.f3 := (Option.some.inj (Tryd.func3.symm.trans hfn)).symm
      exact ⟨by kernel_rfl, fun j t ht => by rw [Tryd.params3] at ht; simp at ht⟩)
    (by kernel_rfl)
end Go.Proofs.YtldogelccicbnaaDoor.simpKnown
namespace Go.Proofs.YtldogelccicbnaaDoor
/-- The statement, under a short name, for the claim. -/
theorem simpKnown_holds : Rows.SimpKnownCardSaid := simpKnown.proved
#print axioms simpKnown_holds
end Go.Proofs.YtldogelccicbnaaDoor
