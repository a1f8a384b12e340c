/- CoreKnown: the closed law returns true, whatever the world; nothing is changed. No condition. -/
import Derived.Test.YtomcbnoaimobmaaGreatDoorRows
import Derived.Test.YtomcbnoaimobmaaGreatDoorCards
import Derived.Test.YtomcbnoaimobmaaGreatDoorTie
import Derived.Lay
import Derived.SevenTiedAt
import Derived.Stop.LaidErr
import Derived.Test.YtomcbnoaimobmaaGreatDoorCkK1
import Derived.Test.YtomcbnoaimobmaaGreatDoorCkK2
import Derived.Test.YtomcbnoaimobmaaGreatDoorCkK3
import Derived.Test.YtomcbnoaimobmaaGreatDoorCkK4
import Derived.Test.YtomcbnoaimobmaaGreatDoorCkK5
import Derived.Test.YtomcbnoaimobmaaGreatDoorCkK6
import Derived.Test.YtomcbnoaimobmaaGreatDoorCkK7
import Derived.Test.YtomcbnoaimobmaaGreatDoorCkK8
import Derived.Test.YtomcbnoaimobmaaGreatDoorCkK9
import Derived.Test.YtomcbnoaimobmaaGreatDoorCkK10
import Derived.Test.YtomcbnoaimobmaaGreatDoorCkK11
import Derived.Test.YtomcbnoaimobmaaGreatDoorCkK12
import Derived.Test.YtomcbnoaimobmaaGreatDoorCkK13
import Derived.Test.YtomcbnoaimobmaaGreatDoorCkCode
import Derived.WalkKit
import Derived.ProofKit
import Derived.OpenShut
import Derived.ShutString
import Derived.ChangeOld
import Derived.Below
import Derived.SizedLaws
namespace Go.Proofs.YtomcbnoaimobmaaGreatDoor.Mach
open Go Ab
def known3 : List (FuncId × List PV × List PV) := [(87, a1, r1), (44, a2, r2), (81, a3, r3), (50, a4, r4), (87, a5, r5), (87, a6, r6), (87, a7, r7), (90, a8, r8), (89, a9, r9), (87, a10, r10), (90, a11, r11), (13, a12, r12), (8, a13, r13), (8, a14, r14), (11, a15, r15), (44, a16, r16), (50, a17, r17), (8, a18, r18), (8, a19, r19), (44, a20, r20), (44, a21, r21), (44, a22, r22), (50, a23, r23), (11, a24, r24), (8, a25, r25), (11, a26, r26), (50, a27, r27), (50, a28, r28), (8, a29, r29), (44, a30, r30), (8, a31, r31), (11, a32, r32), (8, a33, r33), (8, a34, r34), (8, a35, r35), (8, a36, r36), (8, a37, r37), (44, a38, r38), (8, a39, r39), (8, a40, r40), (8, a41, r41), (8, a42, r42), (8, a43, r43), (8, a44, r44), (44, a45, r45), (8, a46, r46), (8, a47, r47), (7, a48, r48)]
set_option maxRecDepth 100000 in
theorem knows3 : Knows Tryz.prog known3 := (.cons k1 (.cons k2 (.cons k3 (.cons k4 (.cons k5 (.cons k6 (.cons k7 (.cons k8 (.cons k9 (.cons k10 (.cons k11 (.cons k12 (.cons k13 (.cons k14 (.cons k15 (.cons k16 (.cons k17 (.cons k18 (.cons k19 (.cons k20 (.cons k21 (.cons k22 (.cons k23 (.cons k24 (.cons k25 (.cons k26 (.cons k27 (.cons k28 (.cons k29 (.cons k30 (.cons k31 (.cons k32 (.cons k33 (.cons k34 (.cons k35 (.cons k36 (.cons k37 (.cons k38 (.cons k39 (.cons k40 (.cons k41 (.cons k42 (.cons k43 (.cons k44 (.cons k45 (.cons k46 (.cons k47 (.cons k48 Ab.Knows.nil))))))))))))))))))))))))))))))))))))))))))))))))
noncomputable def env3 : Ab.Env := { env with ext := orExt (memo known3) env.ext }
set_option maxRecDepth 100000 in
theorem table3 : Ab.Table Tryz.prog mu env3 := table.orMemo knows3
set_option maxRecDepth 100000 in
theorem run : (frun env3 601).p 3 [] = some [.bool true] := by kernel_rfl
set_option maxRecDepth 100000 in
theorem walk (w : World) (hb : Tabs Tryz.prog w tabs) : Calls Tryz.prog 3 #[] w fun e w' => e = .returned (.bool true) ∧ RowKit.Below w.heap.size w w' := by
  refine (runP_calls table3 (by kernel_rfl) (frun_p run) (sim_immOf w hb.base) rfl (by simp)).mono fun e w' h => ?_
  obtain ⟨cv, m', rfl, h2, _, h4⟩ := h
  exact ⟨by rw [R.bool h2], h4.below⟩
end Go.Proofs.YtomcbnoaimobmaaGreatDoor.Mach
namespace Go.Proofs.YtomcbnoaimobmaaGreatDoor.coreKnown
open Go.ChangeShapes Go.WideShapes Go.ChangeAt Go.RowKit
theorem own : ownKnob Tryz.prog.godebug = none := by kernel_rfl
def laidL : List (String × DataW Unit) := [("math/bits.deBruijn32tab", Rows.laid_math_bits_deBruijn32tab), ("math/bits.deBruijn64tab", Rows.laid_math_bits_deBruijn64tab), ("internal/strconv.uint64pow10", Rows.laid_internal_strconv_uint64pow10)]
set_option maxRecDepth 100000 in
theorem lifted (os : Os) (started : os.Started) (H : Type) (enc : TypeId × Value → H) :
    ReturnsInHanded {} Tryz.checked os 3 .any (fun w args => (Rows.coreKnownSpec.pre enc Tryz.prog Tryz.f3 [] false w args ∧ laidMetH Tryz.prog laidL w) ∧ sizedMet enc Tryz.prog Tryz.f3 (OpenSpec.ofChange Rows.coreKnownSpec) false w args)
      (Rows.coreKnownSpec.post enc Tryz.prog Tryz.f3 false true false false) := by
  refine returnsInHanded_of_change_and (C := Tryz.checked) (X := fun w _ => laidMetH Tryz.prog laidL w) (fun _ _ _ hh h => h.of_heap hh) own started (by kernel_rfl) Tryz.func3
    (ChangeSpec.witness_shaped (enc := enc) (C := Tryz.checked) (os := os) (X := fun w _ => laidMetH Tryz.prog laidL w) false (World.laidAll Tryz.prog os laidL) #[] 8 (World.laidAll_os _ _ _)
      (World.shaped_of_ZipB (by kernel_rfl) (by kernel_rfl)) (by kernel_rfl) (by kernel_rfl) (by kernel_rfl)
      (by rw [MakeChecks.laidMetH_plain _ _ _ (by kernel_rfl)]; exact laidMet_laidAll _ (by kernel_rfl) (by kernel_rfl))) ?_
  intro W base args ds gs before hval0 hW _ _ hL _
  have hW' := hW
  obtain ⟨p, q, hA0, hV, rfl, hfz, hnd⟩ := hW
  have hA : DataW.TrodAll enc Tryz.prog W 0 (fun _ => true) true Tryz.f3.params.toList args.toList ds p := hA0
  rw [Tryz.params3] at hA
  obtain ⟨ha, rfl, rfl⟩ := trodAll_none hA
  have hargs : args = #[] := by first | exact ha | (cases args; simp_all)
  subst hargs
  obtain ⟨rfl, rfl⟩ := trodVars_none hV
  have hL1 : laidMet Tryz.prog laidL W := by rw [MakeChecks.laidMetH_plain _ _ _ (by kernel_rfl)] at hL; exact hL
  refine (Mach.walk W ⟨⟨"internal/strconv.uint64pow10", (by kernel_rfl), Lib.tabIs_of_head (g := 1) (by kernel_rfl) (by kernel_rfl) Tryz.underlying330 Tryz.underlying25 (by kernel_rfl) (by kernel_rfl) (laidMet.tail (laidMet.tail hL1))⟩, trivial⟩).mono fun e W' ⟨he, bel⟩ => ?_
  subst he
  exact ⟨_, rfl, _, _, _, [], _, [], hW', trodAll_mk1 (shut_bool Tryz.underlying4 _), trodAll_mk0, rfl, bel.frame _, fun h => by cases h⟩
theorem over : Rows.coreKnownRow.holds Tryz.pinned (OpenSpec.ofChange Rows.coreKnownSpec) :=
  OpenClaim.holds_of_wide 3 Tryz.f3 rfl rfl rfl rfl rfl rfl rfl ⟨rfl, rfl, rfl, rfl, rfl⟩ rfl rfl rfl rfl rfl (by kernel_rfl) Tryz.func3 (by kernel_rfl)
    (of_decide_eq_true (by kernel_rfl)) (by unfold Func.isWrapper; first | (rw [if_pos (by decide +kernel)]; kernel_rfl) | (rw [if_neg (by decide +kernel)]; exact ⟨rfl, rfl⟩))
    (fun os started H enc _ => lifted os started H enc)
theorem proved : Rows.CoreKnownCardSaid :=
  Claim7.holds_tied_plain_at .later [] [.data, .data, .data] true (true, "9df81bf77021f110d8240983f6304742ed7eab0f0cb94596448054ecbdd15fb4") true over (fun _ h => by cases h) (by kernel_rfl) (fun _ h => by cases h) coreKnown_row_tie rfl ⟨rfl, rfl⟩ (by kernel_rfl) rfl
    (fun f fn hf hfn => by
      obtain rfl : f = 3 := Option.some.inj ((show Tryz.prog.funcNamed "catchpole/catchpolelaw8.CoreKnown" = some 3 by kernel_rfl).symm.trans hf) |>.symm
      obtain rfl : fn = Tryz.f3 := (Option.some.inj (Tryz.func3.symm.trans hfn)).symm
      exact ⟨by kernel_rfl, fun j t ht => by rw [Tryz.params3] at ht; simp at ht⟩)
    (by kernel_rfl)
end Go.Proofs.YtomcbnoaimobmaaGreatDoor.coreKnown
namespace Go.Proofs.YtomcbnoaimobmaaGreatDoor
/-- The statement, under a short name, for the claim. -/
theorem coreKnown_holds : Rows.CoreKnownCardSaid := coreKnown.proved
#print axioms coreKnown_holds
end Go.Proofs.YtomcbnoaimobmaaGreatDoor
