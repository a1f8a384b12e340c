/- CapsFew: whatever the input, the law returns true; the input reads as it did. No condition. -/
import Derived.Test.YtlhfndoldaokhaaDoorRows
import Derived.Test.YtlhfndoldaokhaaDoorCards
import Derived.Test.YtlhfndoldaokhaaDoorTie
import Derived.Lay
import Derived.SevenTiedAt
import Derived.Test.YtlhfndoldaokhaaDoorCfHas
import Derived.WalkKit
import Derived.ProofKit
import Derived.OpenShut
import Derived.ShutString
import Derived.ChangeOld
import Derived.Below
import Derived.SizedLaws
import Derived.Carry
namespace Go.Proofs.YtlhfndoldaokhaaDoor.capsFew
open Go.ChangeShapes Go.WideShapes Go.ChangeAt Go.RowKit
theorem own : ownKnob Tryd.prog.godebug = none := by kernel_rfl
theorem laidOut : laidOutB Tryd.prog = true := by kernel_rfl
theorem walk (W : World) (hb : Ab.Tabs Tryd.prog W Mach.tabs) (v0 v1 v2 : Value) (c : Cps.Co) (v : Cps.Va) (n : Int) (hr0 : Ab.RP (Ab.immOf W) (Cps.encC c) v0) (hr1 : Ab.RP (Ab.immOf W) (Cps.encV v) v1) (hr2 : Ab.RP (Ab.immOf W) (.int .i64 n) v2) (hf : Cps.FineC c) (hv : Cps.FineV v) : Calls Tryd.prog 6 #[v0, v1, v2] W fun e w' => e = .returned (.bool true) ∧ RowKit.Below W.heap.size W w' := by
  obtain ⟨m, hrun⟩ := Ab.Ans.of_lim (Cps.few_ok Mach.has0 c v n hf hv)
  refine (Ab.runP_calls Mach.table0 (Mach.has0.law.ext _) hrun (Ab.sim_immOf W hb.base) rfl ?_).mono fun e w' h => ?_
  · intro j p hj
    match j, hj with
    | 0, hj => simp at hj; subst hj; exact hr0
    | 1, hj => simp at hj; subst hj; exact hr1
    | 2, hj => simp at hj; subst hj; exact hr2
    | j + 3, hj => simp at hj
  · obtain ⟨cv, m', rfl, h2, _, h4⟩ := h
    exact ⟨by rw [Ab.R.bool h2], h4.below⟩
def laidL : List (String × DataW Unit) := [("math/bits.deBruijn32tab", Rows.laid_math_bits_deBruijn32tab), ("math/bits.deBruijn64tab", Rows.laid_math_bits_deBruijn64tab), ("internal/strconv.uint64pow10", Rows.laid_internal_strconv_uint64pow10)]
set_option maxRecDepth 100000 in
theorem lifted (os : Os) (started : os.Started) (H : Type) (enc : TypeId × Value → H) :
    ReturnsInHanded {} Tryd.checked os 6 .any (fun w args => (Rows.capsFewSpec.pre enc Tryd.prog Tryd.f6 [] false w args ∧ laidMetH Tryd.prog laidL w) ∧ sizedMet enc Tryd.prog Tryd.f6 (OpenSpec.ofChange Rows.capsFewSpec) false w args)
      (Rows.capsFewSpec.post enc Tryd.prog Tryd.f6 false true false false) := by
  refine returnsInHanded_of_change_and (C := Tryd.checked) (X := fun w _ => laidMetH Tryd.prog laidL w) (fun _ _ _ hh h => h.of_heap hh) own started (by kernel_rfl) Tryd.func6
    (ChangeSpec.witness_shaped (enc := enc) (C := Tryd.checked) (os := os) (X := fun w _ => laidMetH Tryd.prog laidL w) false (World.laidAll Tryd.prog os laidL) #[.agg #[.int .i64 0, .int .u64 0, .int .u64 0, .int .u64 0, .int .u64 0, .int .i64 0, .slice none 0 0], .agg #[.int .i64 0, .int .u8 0, .slice none 0 0], .int .i64 0] 8 (World.laidAll_os _ _ _)
      (World.shaped_of_ZipB (by kernel_rfl) (by kernel_rfl)) (by kernel_rfl) (by kernel_rfl) (by kernel_rfl)
      (by rw [MakeChecks.laidMetH_plain _ _ _ (by kernel_rfl)]; exact laidMet_laidAll _ (by kernel_rfl) (by kernel_rfl))) ?_
  intro W base args ds gs before hval0 hW _ _ hL _
  have hW' := hW
  obtain ⟨p, q, hA0, hV, rfl, hfz, hnd⟩ := hW
  have hA : DataW.TrodAll enc Tryd.prog W 0 (fun _ => true) true Tryd.f6.params.toList args.toList ds p := hA0
  rw [Tryd.params6] at hA
  obtain ⟨v0, vs0, d0, ds0, p0, q0, e0, rfl, rfl, h0, g0⟩ := trodAll_cons hA
  obtain ⟨v1, vs1, d1, ds1, p1, q1, e1, rfl, rfl, h1, g1⟩ := trodAll_cons g0
  obtain ⟨v2, vs2, d2, ds2, p2, q2, e2, rfl, rfl, h2, g2⟩ := trodAll_cons g1
  obtain ⟨rfl, rfl, rfl⟩ := trodAll_nil g2
  subst e2
  subst e1
  have hargs : args = #[v0, v1, v2] := by cases args; simp_all
  subst hargs
  clear e0
  obtain ⟨rfl, rfl⟩ := trodVars_none hV
  have hlt0 : ∀ x ∈ p0, x.block < W.heap.size := fun x hx => hW'.lt x (by simp [hx])
  have hlt1 : ∀ x ∈ p1, x.block < W.heap.size := fun x hx => hW'.lt x (by simp [hx])
  have hlt2 : ∀ x ∈ p2, x.block < W.heap.size := fun x hx => hW'.lt x (by simp [hx])
  have k0 : Value.okWide Tryd.prog W .any 0 47 v0 := hval0 0 47 v0 (by rw [Tryd.params6]; rfl) rfl
  have k1 : Value.okWide Tryd.prog W .any 0 50 v1 := hval0 1 50 v1 (by rw [Tryd.params6]; rfl) rfl
  have k2 : Value.okWide Tryd.prog W .any 0 3 v2 := hval0 2 3 v2 (by rw [Tryd.params6]; rfl) rfl
  obtain ⟨c, hr0, hf⟩ := Cps.arg_core h0 k0
  obtain ⟨v, hr1, hv⟩ := Cps.arg_value h1 k1
  obtain ⟨n, hr2⟩ := Cps.arg_int h2 k2
  refine (walk W trivial v0 v1 v2 c v n hr0 hr1 hr2 hf hv).mono fun e W' ⟨he, bel⟩ => ?_
  subst he
  exact ⟨_, rfl, _, _, _, [], _, [], hW', trodAll_mk1 (shut_bool Tryd.underlying4 _), ⟨_, _, Below.trod laidOut (by kernel_rfl) (of_decide_eq_true (by kernel_rfl)) h0 bel hlt0, ⟨_, _, Below.trod laidOut (by kernel_rfl) (of_decide_eq_true (by kernel_rfl)) h1 bel hlt1, trodAll_mk1 (Below.trod laidOut (by kernel_rfl) (of_decide_eq_true (by kernel_rfl)) h2 bel hlt2), rfl⟩, rfl⟩, rfl, bel.frame _, fun h => by cases h⟩
theorem over : Rows.capsFewRow.holds Tryd.pinned (OpenSpec.ofChange Rows.capsFewSpec) :=
  OpenClaim.holds_of_wide 6 Tryd.f6 rfl rfl rfl rfl rfl rfl rfl ⟨rfl, rfl, rfl, rfl, rfl⟩ rfl rfl rfl rfl rfl (by kernel_rfl) Tryd.func6 (by kernel_rfl)
    (of_decide_eq_true (by kernel_rfl)) (by unfold Func.isWrapper; first | (rw [if_pos (by decide +kernel)]; kernel_rfl) | (rw [if_neg (by decide +kernel)]; exact ⟨rfl, rfl⟩))
    (fun os started H enc _ => lifted os started H enc)
theorem proved : Rows.CapsFewCardSaid :=
  Claim7.holds_tied_plain_at .later [] [.data, .data, .data] true (true, "44742312f2f3306a33ae722729f4fc85f764c41e837b414ae99f294a00976b2a") false over (fun _ h => by cases h) (by kernel_rfl) (fun _ h => by cases h) capsFew_row_tie rfl ⟨rfl, rfl⟩ (by kernel_rfl) rfl
    (fun f fn hf hfn => by
      obtain rfl : f = 6 := Option.some.inj ((show Tryd.prog.funcNamed "catchpole/catchpolelaw12.CapsFew" = some 6 by kernel_rfl).symm.trans hf) |>.symm
      obtain rfl : fn = Tryd.f6 := (Option.some.inj (Tryd.func6.symm.trans hfn)).symm
      exact ⟨by kernel_rfl, fun j t ht => by rw [Tryd.params6] at ht; match j, ht with | 0, ht => (simp at ht; subst ht; exact (show Tryd.prog.wantsStandIn 47 = false by kernel_rfl)) | 1, ht => (simp at ht; subst ht; exact (show Tryd.prog.wantsStandIn 50 = false by kernel_rfl)) | 2, ht => (simp at ht; subst ht; exact (show Tryd.prog.wantsStandIn 3 = false by kernel_rfl)) | j + 3, ht => simp at ht⟩)
    (by kernel_rfl)
end Go.Proofs.YtlhfndoldaokhaaDoor.capsFew
namespace Go.Proofs.YtlhfndoldaokhaaDoor
/-- The statement, under a short name, for the claim. -/
theorem capsFew_holds : Rows.CapsFewCardSaid := capsFew.proved
#print axioms capsFew_holds
end Go.Proofs.YtlhfndoldaokhaaDoor
