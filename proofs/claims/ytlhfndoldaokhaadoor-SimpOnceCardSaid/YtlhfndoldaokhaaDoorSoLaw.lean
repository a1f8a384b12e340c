/- SimpOnce: whatever the input, the law returns true; the input reads as it did. No condition. -/
import Derived.Test.YtlhfndoldaokhaaDoorRows
import Derived.Test.YtlhfndoldaokhaaDoorCards
import Derived.Test.YtlhfndoldaokhaaDoorTie
import Derived.Lay
import Derived.SevenTiedAt
import Derived.Test.YtlhfndoldaokhaaDoorSoHas
import Derived.WalkKit
import Derived.ProofKit
import Derived.OpenShut
import Derived.ShutString
import Derived.ChangeOld
import Derived.Below
import Derived.SizedLaws
import Derived.Carry
namespace Go.Proofs.YtlhfndoldaokhaaDoor.simpOnce
open Go.ChangeShapes Go.WideShapes Go.ChangeAt Go.RowKit
theorem own : ownKnob Tryd.prog.godebug = none := by kernel_rfl
theorem laidOut : laidOutB Tryd.prog = true := by kernel_rfl
theorem walk (W : World) (hb : Ab.Tabs Tryd.prog W Mach.tabs) (v0 : Value) (l : List Cds.Cd) (hr : Ab.RP (Ab.immOf W) (.sl (l.map Cds.enc)) v0) (hl : ∀ x ∈ l, Cds.FineB x) : Calls Tryd.prog 4 #[v0] W fun e w' => e = .returned (.bool true) ∧ RowKit.Below W.heap.size W w' := by
  obtain ⟨n, hrun⟩ := Ab.Ans.of_lim (Cds.law_ok Mach.has0 l hl)
  refine (Ab.runP_calls Mach.table0 (Mach.has0.law.ext _) hrun (Ab.sim_immOf W hb.base) rfl ?_).mono fun e w' h => ?_
  · intro j p hj
    match j, hj with
    | 0, hj => simp at hj; subst hj; exact hr
    | j + 1, hj => simp at hj
  · obtain ⟨cv, m', rfl, h2, _, h4⟩ := h
    exact ⟨by rw [Ab.R.bool h2], h4.below⟩
def laidL : List (String × DataW Unit) := [("unicode/utf8.acceptRanges", Rows.laid_unicode_utf8_acceptRanges), ("unicode/utf8.first", Rows.laid_unicode_utf8_first)]
set_option maxRecDepth 100000 in
theorem lifted (os : Os) (started : os.Started) (H : Type) (enc : TypeId × Value → H) :
    ReturnsInHanded {} Tryd.checked os 4 .any (fun w args => (Rows.simpOnceSpec.pre enc Tryd.prog Tryd.f4 [] false w args ∧ laidMetH Tryd.prog laidL w) ∧ sizedMet enc Tryd.prog Tryd.f4 (OpenSpec.ofChange Rows.simpOnceSpec) false w args)
      (Rows.simpOnceSpec.post enc Tryd.prog Tryd.f4 false true false false) := by
  refine returnsInHanded_of_change_and (C := Tryd.checked) (X := fun w _ => laidMetH Tryd.prog laidL w) (fun _ _ _ hh h => h.of_heap hh) own started (by kernel_rfl) Tryd.func4
    (ChangeSpec.witness_shaped (enc := enc) (C := Tryd.checked) (os := os) (X := fun w _ => laidMetH Tryd.prog laidL w) false (World.laidAll Tryd.prog os laidL) #[.slice none 0 0] 8 (World.laidAll_os _ _ _)
      (World.shaped_of_ZipB (by kernel_rfl) (by kernel_rfl)) (by kernel_rfl) (by kernel_rfl) (by kernel_rfl)
      (by rw [MakeChecks.laidMetH_plain _ _ _ (by kernel_rfl)]; exact laidMet_laidAll _ (by kernel_rfl) (by kernel_rfl))) ?_
  intro W base args ds gs before hval0 hW _ _ hL _
  have hW' := hW
  obtain ⟨p, q, hA0, hV, rfl, hfz, hnd⟩ := hW
  have hA : DataW.TrodAll enc Tryd.prog W 0 (fun _ => true) true Tryd.f4.params.toList args.toList ds p := hA0
  rw [Tryd.params4] at hA
  obtain ⟨v0, vs0, d0, ds0, p0, q0, e0, rfl, rfl, h0, g0⟩ := trodAll_cons hA
  obtain ⟨rfl, rfl, rfl⟩ := trodAll_nil g0
  have hargs : args = #[v0] := by cases args; simp_all
  subst hargs
  clear e0
  obtain ⟨rfl, rfl⟩ := trodVars_none hV
  have hlt0 : ∀ x ∈ p0, x.block < W.heap.size := fun x hx => hW'.lt x (by simp [hx])
  have k0 : Value.okWide Tryd.prog W .any 0 25 v0 := hval0 0 25 v0 (by rw [Tryd.params4]; rfl) rfl
  obtain ⟨l, hr0, _, hl⟩ := Cds.arg_row h0 k0
  refine (walk W trivial v0 l hr0 hl).mono fun e W' ⟨he, bel⟩ => ?_
  subst he
  exact ⟨_, rfl, _, _, _, [], _, [], hW', trodAll_mk1 (shut_bool Tryd.underlying4 _), trodAll_mk1 (Below.trod laidOut (by kernel_rfl) (of_decide_eq_true (by kernel_rfl)) h0 bel hlt0), rfl, bel.frame _, fun h => by cases h⟩
theorem over : Rows.simpOnceRow.holds Tryd.pinned (OpenSpec.ofChange Rows.simpOnceSpec) :=
  OpenClaim.holds_of_wide 4 Tryd.f4 rfl rfl rfl rfl rfl rfl rfl ⟨rfl, rfl, rfl, rfl, rfl⟩ rfl rfl rfl rfl rfl (by kernel_rfl) Tryd.func4 (by kernel_rfl)
    (of_decide_eq_true (by kernel_rfl)) (by unfold Func.isWrapper; first | (rw [if_pos (by decide +kernel)]; kernel_rfl) | (rw [if_neg (by decide +kernel)]; exact ⟨rfl, rfl⟩))
    (fun os started H enc _ => lifted os started H enc)
theorem proved : Rows.SimpOnceCardSaid :=
  Claim7.holds_tied_plain_at .later [] [.data, .pinned] true (true, "44742312f2f3306a33ae722729f4fc85f764c41e837b414ae99f294a00976b2a") false over (fun _ h => by cases h) (by kernel_rfl) (fun _ h => by cases h) simpOnce_row_tie rfl ⟨rfl, rfl⟩ (by kernel_rfl) rfl
    (fun f fn hf hfn => by
      obtain rfl : f = 4 := Option.some.inj ((show Tryd.prog.funcNamed "catchpole/catchpolelaw18.SimpOnce" = some 4 by kernel_rfl).symm.trans hf) |>.symm
      obtain rfl : fn = Tryd.f4 := (Option.some.inj (Tryd.func4.symm.trans hfn)).symm
      exact ⟨by kernel_rfl, fun j t ht => by rw [Tryd.params4] at ht; match j, ht with | 0, ht => (simp at ht; subst ht; exact (show Tryd.prog.wantsStandIn 25 = false by kernel_rfl)) | j + 1, ht => simp at ht⟩)
    (by kernel_rfl)
end Go.Proofs.YtlhfndoldaokhaaDoor.simpOnce
namespace Go.Proofs.YtlhfndoldaokhaaDoor
/-- The statement, under a short name, for the claim. -/
theorem simpOnce_holds : Rows.SimpOnceCardSaid := simpOnce.proved
#print axioms simpOnce_holds
end Go.Proofs.YtlhfndoldaokhaaDoor
