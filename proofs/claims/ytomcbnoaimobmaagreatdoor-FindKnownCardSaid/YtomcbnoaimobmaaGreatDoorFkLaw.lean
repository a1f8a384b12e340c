/- FindKnown: the closed law returns true, whatever the world; nothing is changed. No condition. -/
import Derived.Test.YtomcbnoaimobmaaGreatDoorRows
import Derived.Test.YtomcbnoaimobmaaGreatDoorCards
import Derived.Test.YtomcbnoaimobmaaGreatDoorTie
import Derived.Lay
import Derived.SevenTiedAt
import Derived.Stop.LaidErr
import Derived.Test.YtomcbnoaimobmaaGreatDoorFkK1
import Derived.Test.YtomcbnoaimobmaaGreatDoorFkK2
import Derived.Test.YtomcbnoaimobmaaGreatDoorFkK3
import Derived.Test.YtomcbnoaimobmaaGreatDoorFkK4
import Derived.Test.YtomcbnoaimobmaaGreatDoorFkK5
import Derived.Test.YtomcbnoaimobmaaGreatDoorFkK6
import Derived.Test.YtomcbnoaimobmaaGreatDoorFkK7
import Derived.Test.YtomcbnoaimobmaaGreatDoorFkK8
import Derived.Test.YtomcbnoaimobmaaGreatDoorFkK9
import Derived.Test.YtomcbnoaimobmaaGreatDoorFkK10
import Derived.Test.YtomcbnoaimobmaaGreatDoorFkK11
import Derived.Test.YtomcbnoaimobmaaGreatDoorFkK12
import Derived.Test.YtomcbnoaimobmaaGreatDoorFkCode
import Derived.WalkKit
import Derived.ProofKit
import Derived.OpenShut
import Derived.ShutString
import Derived.ChangeOld
import Derived.Below
import Derived.SizedLaws
namespace Go.Proofs.YtomcbnoaimobmaaGreatDoor.Mach
open Go Ab
def known4 : List (FuncId × List PV × List PV) := [(187, a1, r1), (10, a2, r2), (187, a3, r3), (228, a4, r4), (21, a5, r5), (21, a6, r6), (21, a7, r7), (10, a8, r8), (228, a9, r9), (10, a10, r10), (10, a11, r11), (96, a12, r12), (138, a13, r13), (138, a14, r14), (138, a15, r15), (138, a16, r16), (138, a17, r17), (59, a18, r18), (59, a19, r19), (102, a20, r20), (59, a21, r21), (98, a22, r22), (102, a23, r23), (22, a24, r24), (59, a25, r25), (20, a26, r26), (98, a27, r27), (102, a28, r28), (193, a29, r29), (22, a30, r30), (59, a31, r31), (25, a32, r32), (98, a33, r33), (102, a34, r34), (193, a35, r35), (22, a36, r36), (156, a37, r37), (20, a38, r38), (59, a39, r39), (59, a40, r40), (59, a41, r41), (59, a42, r42), (156, a43, r43), (59, a44, r44), (23, a45, r45), (156, a46, r46), (20, a47, r47), (23, a48, r48), (20, a49, r49), (20, a50, r50), (20, a51, r51), (23, a52, r52), (20, a53, r53), (20, a54, r54), (25, a55, r55), (15, a56, r56), (59, a57, r57), (20, a58, r58)]
set_option maxRecDepth 100000 in
theorem knows4 : Knows Tryz.prog known4 := (.cons k1 (.cons k2 (.cons k3 (.cons k4 (.cons k5 (.cons k6 (.cons k7 (.cons k8 (.cons k9 (.cons k10 (.cons k11 (.cons k12 (.cons k13 (.cons k14 (.cons k15 (.cons k16 (.cons k17 (.cons k18 (.cons k19 (.cons k20 (.cons k21 (.cons k22 (.cons k23 (.cons k24 (.cons k25 (.cons k26 (.cons k27 (.cons k28 (.cons k29 (.cons k30 (.cons k31 (.cons k32 (.cons k33 (.cons k34 (.cons k35 (.cons k36 (.cons k37 (.cons k38 (.cons k39 (.cons k40 (.cons k41 (.cons k42 (.cons k43 (.cons k44 (.cons k45 (.cons k46 (.cons k47 (.cons k48 (.cons k49 (.cons k50 (.cons k51 (.cons k52 (.cons k53 (.cons k54 (.cons k55 (.cons k56 (.cons k57 (.cons k58 Ab.Knows.nil))))))))))))))))))))))))))))))))))))))))))))))))))))))))))
noncomputable def env4 : Ab.Env := { env with ext := orExt (memo known4) env.ext }
set_option maxRecDepth 100000 in
theorem table4 : Ab.Table Tryz.prog mu env4 := table.orMemo knows4
set_option maxRecDepth 100000 in
theorem run : (frun env4 601).p 4 [] = some [.bool true] := by kernel_rfl
set_option maxRecDepth 100000 in
theorem walk (w : World) (hb : Tabs Tryz.prog w tabs) : Calls Tryz.prog 4 #[] w fun e w' => e = .returned (.bool true) ∧ RowKit.Below w.heap.size w w' := by
  refine (runP_calls table4 (by kernel_rfl) (frun_p run) (sim_immOf w hb.base) rfl (by simp)).mono fun e w' h => ?_
  obtain ⟨cv, m', rfl, h2, _, h4⟩ := h
  exact ⟨by rw [R.bool h2], h4.below⟩
end Go.Proofs.YtomcbnoaimobmaaGreatDoor.Mach
namespace Go.Proofs.YtomcbnoaimobmaaGreatDoor.findKnown
open Go.ChangeShapes Go.WideShapes Go.ChangeAt Go.RowKit
theorem own : ownKnob Tryz.prog.godebug = none := by kernel_rfl
def laidL : List (String × DataW Unit) := [("math/bits.deBruijn32tab", Rows.laid_math_bits_deBruijn32tab), ("math/bits.deBruijn64tab", Rows.laid_math_bits_deBruijn64tab), ("internal/strconv.uint64pow10", Rows.laid_internal_strconv_uint64pow10), ("unicode/utf8.acceptRanges", Rows.laid_unicode_utf8_acceptRanges), ("unicode/utf8.first", Rows.laid_unicode_utf8_first)]
set_option maxRecDepth 100000 in
theorem lifted (os : Os) (started : os.Started) (H : Type) (enc : TypeId × Value → H) :
    ReturnsInHanded {} Tryz.checked os 4 .any (fun w args => (Rows.findKnownSpec.pre enc Tryz.prog Tryz.f4 [] false w args ∧ laidMetH Tryz.prog laidL w) ∧ sizedMet enc Tryz.prog Tryz.f4 (OpenSpec.ofChange Rows.findKnownSpec) false w args)
      (Rows.findKnownSpec.post enc Tryz.prog Tryz.f4 false true false false) := by
  refine returnsInHanded_of_change_and (C := Tryz.checked) (X := fun w _ => laidMetH Tryz.prog laidL w) (fun _ _ _ hh h => h.of_heap hh) own started (by kernel_rfl) Tryz.func4
    (ChangeSpec.witness_shaped (enc := enc) (C := Tryz.checked) (os := os) (X := fun w _ => laidMetH Tryz.prog laidL w) false (World.laidAll Tryz.prog os laidL) #[] 8 (World.laidAll_os _ _ _)
      (World.shaped_of_ZipB (by kernel_rfl) (by kernel_rfl)) (by kernel_rfl) (by kernel_rfl) (by kernel_rfl)
      (by rw [MakeChecks.laidMetH_plain _ _ _ (by kernel_rfl)]; exact laidMet_laidAll _ (by kernel_rfl) (by kernel_rfl))) ?_
  intro W base args ds gs before hval0 hW _ _ hL _
  have hW' := hW
  obtain ⟨p, q, hA0, hV, rfl, hfz, hnd⟩ := hW
  have hA : DataW.TrodAll enc Tryz.prog W 0 (fun _ => true) true Tryz.f4.params.toList args.toList ds p := hA0
  rw [Tryz.params4] at hA
  obtain ⟨ha, rfl, rfl⟩ := trodAll_none hA
  have hargs : args = #[] := by first | exact ha | (cases args; simp_all)
  subst hargs
  obtain ⟨rfl, rfl⟩ := trodVars_none hV
  have hL1 : laidMet Tryz.prog laidL W := by rw [MakeChecks.laidMetH_plain _ _ _ (by kernel_rfl)] at hL; exact hL
  refine (Mach.walk W ⟨⟨"internal/strconv.uint64pow10", (by kernel_rfl), Lib.tabIs_of_head (g := 1) (by kernel_rfl) (by kernel_rfl) Tryz.underlying330 Tryz.underlying25 (by kernel_rfl) (by kernel_rfl) (laidMet.tail (laidMet.tail hL1))⟩, trivial⟩).mono fun e W' ⟨he, bel⟩ => ?_
  subst he
  exact ⟨_, rfl, _, _, _, [], _, [], hW', trodAll_mk1 (shut_bool Tryz.underlying4 _), trodAll_mk0, rfl, bel.frame _, fun h => by cases h⟩
theorem over : Rows.findKnownRow.holds Tryz.pinned (OpenSpec.ofChange Rows.findKnownSpec) :=
  OpenClaim.holds_of_wide 4 Tryz.f4 rfl rfl rfl rfl rfl rfl rfl ⟨rfl, rfl, rfl, rfl, rfl⟩ rfl rfl rfl rfl rfl (by kernel_rfl) Tryz.func4 (by kernel_rfl)
    (of_decide_eq_true (by kernel_rfl)) (by unfold Func.isWrapper; first | (rw [if_pos (by decide +kernel)]; kernel_rfl) | (rw [if_neg (by decide +kernel)]; exact ⟨rfl, rfl⟩))
    (fun os started H enc _ => lifted os started H enc)
theorem proved : Rows.FindKnownCardSaid :=
  Claim7.holds_tied_plain_at .later [] [.data, .data, .data, .data, .pinned] true (true, "9df81bf77021f110d8240983f6304742ed7eab0f0cb94596448054ecbdd15fb4") true over (fun _ h => by cases h) (by kernel_rfl) (fun _ h => by cases h) findKnown_row_tie rfl ⟨rfl, rfl⟩ (by kernel_rfl) rfl
    (fun f fn hf hfn => by
      obtain rfl : f = 4 := Option.some.inj ((show Tryz.prog.funcNamed "catchpole/catchpolelaw23.FindKnown" = some 4 by kernel_rfl).symm.trans hf) |>.symm
      obtain rfl : fn = Tryz.f4 := (Option.some.inj (Tryz.func4.symm.trans hfn)).symm
      exact ⟨by kernel_rfl, fun j t ht => by rw [Tryz.params4] at ht; simp at ht⟩)
    (by kernel_rfl)
end Go.Proofs.YtomcbnoaimobmaaGreatDoor.findKnown
namespace Go.Proofs.YtomcbnoaimobmaaGreatDoor
/-- The statement, under a short name, for the claim. -/
theorem findKnown_holds : Rows.FindKnownCardSaid := findKnown.proved
#print axioms findKnown_holds
end Go.Proofs.YtomcbnoaimobmaaGreatDoor
