/- CapsKnown: the closed law returns true, whatever the world; nothing is changed. No condition. -/
import Derived.Test.YtldogelccicbnaaDoorRows
import Derived.Test.YtldogelccicbnaaDoorCards
import Derived.Test.YtldogelccicbnaaDoorTie
import Derived.Lay
import Derived.SevenTiedAt
import Derived.Stop.LaidErr
import Derived.Test.YtldogelccicbnaaDoorPkK1
import Derived.Test.YtldogelccicbnaaDoorPkK2
import Derived.Test.YtldogelccicbnaaDoorPkCode
import Derived.WalkKit
import Derived.ProofKit
import Derived.OpenShut
import Derived.ShutString
import Derived.ChangeOld
import Derived.Below
import Derived.SizedLaws
namespace Go.Proofs.YtldogelccicbnaaDoor.Mach
open Go Ab
def known1 : List (FuncId × List PV × List PV) := [(17, a1, r1), (17, a2, r2), (12, a3, r3), (76, a4, r4), (17, a5, r5)]
set_option maxRecDepth 100000 in
theorem knows1 : Knows Tryd.prog known1 := (.cons k1 (.cons k2 (.cons k3 (.cons k4 (.cons k5 Ab.Knows.nil)))))
noncomputable def env1 : Ab.Env := { env with ext := orExt (memo known1) env.ext }
set_option maxRecDepth 100000 in
theorem table1 : Ab.Table Tryd.prog mu env1 := table.orMemo knows1
set_option maxRecDepth 100000 in
theorem run : (frun env1 401).p 4 [] = some [.bool true] := by kernel_rfl
set_option maxRecDepth 100000 in
theorem walk (w : World) (hb : Tabs Tryd.prog w tabs) : Calls Tryd.prog 4 #[] w fun e w' => e = .returned (.bool true) ∧ RowKit.Below w.heap.size w w' := by
  refine (runP_calls table1 (by kernel_rfl) (frun_p run) (sim_immOf w hb.base) rfl (by simp)).mono fun e w' h => ?_
  obtain ⟨cv, m', rfl, h2, _, h4⟩ := h
  exact ⟨by rw [R.bool h2], h4.below⟩
end Go.Proofs.YtldogelccicbnaaDoor.Mach
namespace Go.Proofs.YtldogelccicbnaaDoor.capsKnown
open Go.ChangeShapes Go.WideShapes Go.ChangeAt Go.RowKit
theorem own : ownKnob Tryd.prog.godebug = none := by kernel_rfl
def laidL : List (String × DataW Unit) := [("math/bits.deBruijn32tab", Rows.laid_math_bits_deBruijn32tab), ("math/bits.deBruijn64tab", Rows.laid_math_bits_deBruijn64tab), ("internal/strconv.uint64pow10", Rows.laid_internal_strconv_uint64pow10)]
set_option maxRecDepth 100000 in
theorem lifted (os : Os) (started : os.Started) (H : Type) (enc : TypeId × Value → H) :
    ReturnsInHanded {} Tryd.checked os 4 .any (fun w args => (Rows.capsKnownSpec.pre enc Tryd.prog Tryd.f4 [] false w args ∧ laidMetH Tryd.prog laidL w) ∧ sizedMet enc Tryd.prog Tryd.f4 (OpenSpec.ofChange Rows.capsKnownSpec) false w args)
      (Rows.capsKnownSpec.post enc Tryd.prog Tryd.f4 false true false false) := by
  refine returnsInHanded_of_change_and (C := Tryd.checked) (X := fun w _ => laidMetH Tryd.prog laidL w) (fun _ _ _ hh h => h.of_heap hh) own started (by kernel_rfl) Tryd.func4
    (ChangeSpec.witness_shaped (enc := enc) (C := Tryd.checked) (os := os) (X := fun w _ => laidMetH Tryd.prog laidL w) false (World.laidAll Tryd.prog os laidL) #[] 8 (World.laidAll_os _ _ _)
      (World.shaped_of_ZipB (by kernel_rfl) (by kernel_rfl)) (by kernel_rfl) (by kernel_rfl) (by kernel_rfl)
      (by rw [MakeChecks.laidMetH_plain _ _ _ (by kernel_rfl)]; exact laidMet_laidAll _ (by kernel_rfl) (by kernel_rfl))) ?_
  intro W base args ds gs before hval0 hW _ _ hL _
  have hW' := hW
  obtain ⟨p, q, hA0, hV, rfl, hfz, hnd⟩ := hW
  have hA : DataW.TrodAll enc Tryd.prog W 0 (fun _ => true) true Tryd.f4.params.toList args.toList ds p := hA0
  rw [Tryd.params4] at hA
  obtain ⟨ha, rfl, rfl⟩ := trodAll_none hA
  have hargs : args = #[] := by first | exact ha | (cases args; simp_all)
  subst hargs
  obtain ⟨rfl, rfl⟩ := trodVars_none hV
  have hL1 : laidMet Tryd.prog laidL W := by rw [MakeChecks.laidMetH_plain _ _ _ (by kernel_rfl)] at hL; exact hL
  refine (Mach.walk W ⟨⟨"internal/strconv.uint64pow10", (by kernel_rfl), Lib.tabIs_of_head (g := 0) (by kernel_rfl) (by kernel_rfl) Tryd.underlying150 Tryd.underlying23 (by kernel_rfl) (by kernel_rfl) (laidMet.tail (laidMet.tail hL1))⟩, trivial⟩).mono fun e W' ⟨he, bel⟩ => ?_
  subst he
  exact ⟨_, rfl, _, _, _, [], _, [], hW', trodAll_mk1 (shut_bool Tryd.underlying4 _), trodAll_mk0, rfl, bel.frame _, fun h => by cases h⟩
theorem over : Rows.capsKnownRow.holds Tryd.pinned (OpenSpec.ofChange Rows.capsKnownSpec) :=
  OpenClaim.holds_of_wide 4 Tryd.f4 rfl rfl rfl rfl rfl rfl rfl ⟨rfl, rfl, rfl, rfl, rfl⟩ rfl rfl rfl rfl rfl (by kernel_rfl) Tryd.func4 (by kernel_rfl)
    (of_decide_eq_true (by kernel_rfl)) (by unfold Func.isWrapper; first | (rw [if_pos (by decide +kernel)]; kernel_rfl) | (rw [if_neg (by decide +kernel)]; exact ⟨rfl, rfl⟩))
    (fun os started H enc _ => lifted os started H enc)
theorem proved : Rows.CapsKnownCardSaid :=
  Claim7.holds_tied_plain_at .later [] [.data, .data, .data] true (true, "8aca6ae10f13b5127fc516bc9562b384e7f3b2106d5fb0411cc9e618eb4127b1") false over (fun _ h => by cases h) (by kernel_rfl) (fun _ h => by cases h) capsKnown_row_tie rfl ⟨rfl, rfl⟩ (by kernel_rfl) rfl
    (fun f fn hf hfn => by
      obtain rfl : f = 4 := Option.some.inj ((show Tryd.prog.funcNamed "catchpole/catchpolelaw12.CapsKnown" = some 4 by kernel_rfl).symm.trans hf) |>.symm
      obtain rfl : fn = Tryd.f4 := (Option.some.inj (Tryd.func4.symm.trans hfn)).symm
      exact ⟨by kernel_rfl, fun j t ht => by rw [Tryd.params4] at ht; simp at ht⟩)
    (by kernel_rfl)
end Go.Proofs.YtldogelccicbnaaDoor.capsKnown
namespace Go.Proofs.YtldogelccicbnaaDoor
/-- The statement, under a short name, for the claim. -/
theorem capsKnown_holds : Rows.CapsKnownCardSaid := capsKnown.proved
#print axioms capsKnown_holds
end Go.Proofs.YtldogelccicbnaaDoor
