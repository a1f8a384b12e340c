/- SimpSays: where what it is handed is of bulk at most 1048576 (the given second form), the law returns true; the input reads as it did. Condition: that bulk. -/
import Derived.Test.YtcggaaheaahinaaDoorRows
import Derived.Test.YtcggaaheaahinaaDoorCards
import Derived.Test.YtcggaaheaahinaaDoorTie
import Derived.Lay
import Derived.SevenTiedAt
import Derived.Test.YtcggaaheaahinaaDoorSpHas
import Derived.Stop.LaidErr
import Derived.Deep.DeepHandedRow
import Derived.Lib.LaidTab
import Derived.JoinedCond
import Derived.WalkKit
import Derived.ProofKit
import Derived.OpenShut
import Derived.ShutString
import Derived.ChangeOld
import Derived.Below
import Derived.SizedLaws
import Derived.Carry
namespace Go.Proofs.YtcggaaheaahinaaDoor.simpSays
open Go.ChangeShapes Go.WideShapes Go.ChangeAt Go.RowKit
theorem own : ownKnob Tryd.prog.godebug = none := by kernel_rfl
theorem laidOut : laidOutB Tryd.prog = true := by kernel_rfl
set_option maxRecDepth 100000 in
theorem walk (W : World) (hb : Ab.Tabs Tryd.prog W Mach.tabs) (v0 v1 : Value) (x : Pl.Cd) (l : List Pl.Cd) (hr0 : Ab.RP (Ab.immOf W) (.agg (Pl.Cd.cells x)) v0) (hr1 : Ab.RP (Ab.immOf W) (.sl (l.map Pl.tCd.enc)) v1) (hwx : Pl.WfC x) (hwl : ∀ y ∈ l, Pl.WfC y) (htx : x.tot ≤ 1048576) (htl : Pl.Cd.totS l ≤ 1048576) : Calls Tryd.prog 3 #[v0, v1] W fun e w' => e = .returned (.bool true) ∧ RowKit.Below W.heap.size W w' := by
  obtain ⟨m, hrun⟩ := Ab.Ans.of_lim (Pl.A3_to x l (Pl.law Mach.has0 Mach.trim0 Mach.awake0 x l hwx hwl (by omega) (by omega)))
  refine (Ab.runP_calls Mach.table0 (Mach.has0.h3.ext _) hrun (Ab.sim_immOf W hb.base) rfl ?_).mono fun e w' h => ?_
  · intro j p hj
    match j, hj with
    | 0, hj => simp at hj; subst hj; exact hr0
    | 1, hj => simp at hj; subst hj; exact hr1
    | j + 2, hj => simp at hj
  · obtain ⟨cv, m', rfl, h2, _, h4⟩ := h
    exact ⟨by rw [Ab.R.bool h2], h4.below⟩
def laidL : List (String × DataW Unit) := [("unicode/utf8.acceptRanges", Rows.laid_unicode_utf8_acceptRanges), ("unicode/utf8.first", Rows.laid_unicode_utf8_first)]
theorem reads (os : Os) {H : Type} (enc : TypeId × Value → H) : ∃ places, DataW.whole enc Tryd.prog ((World.laidAll Tryd.prog os laidL).forCall (fun _ _ => 0) ⟨#[], #[.agg #[.int .i64 0, .string ⟨#[]⟩, .int .u64 0, .int .u64 0, .int .u64 0, .int .u64 0, .slice none 0 0], .slice none 0 0], []⟩).memory Tryd.f3.params.toList Rows.simpSaysSpec.vars false #[.agg #[.int .i64 0, .string ⟨#[]⟩, .int .u64 0, .int .u64 0, .int .u64 0, .int .u64 0, .slice none 0 0], .slice none 0 0].toList 8 = some ([.agg [.lit (.int .i64 0), .lit (.string []), .agg [.lit (.int .u64 0), .lit (.int .u64 0), .lit (.int .u64 0), .lit (.int .u64 0)], .nil], .nil], [], places) :=
  ⟨[], by kernel_rfl⟩
set_option maxRecDepth 100000 in
theorem lifted (os : Os) (started : os.Started) (H : Type) (enc : TypeId × Value → H) (F : Stop.Interp) :
    ReturnsInHanded {} Tryd.checked os 3 .any ((Rows.OpenSpec.upto Rows.simpSaysSpec).preRow enc Tryd.prog Tryd.f3 Rows.simpSaysUptoRow.domain false Rows.simpSaysUptoRow.laid)
      (((Rows.OpenSpec.upto Rows.simpSaysSpec).at F).post enc Tryd.prog Tryd.f3 false true false false) := by
  obtain ⟨places, hx⟩ := reads os enc
  refine returnsInHanded_of_row (C := Tryd.checked) (s := Rows.OpenSpec.upto Rows.simpSaysSpec) own started (by kernel_rfl) Tryd.func3
    (witness_row_at (enc := enc) (C := Tryd.checked) false (World.laidAll Tryd.prog os laidL) #[.agg #[.int .i64 0, .string ⟨#[]⟩, .int .u64 0, .int .u64 0, .int .u64 0, .int .u64 0, .slice none 0 0], .slice none 0 0] (World.laidAll_os _ _ _) (by kernel_rfl) (by kernel_rfl) (by kernel_rfl)
      (OpenSpec.preRow_of_cond 8 hx (by kernel_rfl) (fun k hk => by cases hk; kernel_rfl) (by kernel_rfl)
        (by rw [MakeChecks.laidMetH_plain _ _ _ (by kernel_rfl)]; exact laidMet_of_run' 8 (by kernel_rfl) (by kernel_rfl)))) ?_
  intro W base args ds gs before hval0 hW _ hcond _ hL _ _
  have hk0 : Rows.uptoSmall H (ds ++ gs) = true := hcond _ rfl
  have hW' := hW
  obtain ⟨p, q, hA0, hV, rfl, hfz, hnd⟩ := hW
  have hA : DataW.TrodAll enc Tryd.prog W 0 (fun _ => true) true Tryd.f3.params.toList args.toList ds p := hA0
  rw [Tryd.params3] at hA
  obtain ⟨v0, vs0, d0, ds0, p0, q0, e0, rfl, rfl, h0, g0⟩ := trodAll_cons hA
  obtain ⟨v1, vs1, d1, ds1, p1, q1, e1, rfl, rfl, h1, g1⟩ := trodAll_cons g0
  obtain ⟨rfl, rfl, rfl⟩ := trodAll_nil g1
  subst e1
  have hargs : args = #[v0, v1] := by cases args; simp_all
  subst hargs
  clear e0
  obtain ⟨rfl, rfl⟩ := trodVars_none hV
  have hk1 := of_decide_eq_true hk0
  simp only [List.append_nil, Rows.uptoBulkAll] at hk1
  have hu0 : Rows.uptoBulk d0 ≤ 1048576 := by omega
  have hu1 : Rows.uptoBulk d1 ≤ 1048576 := by omega
  have hlt0 : ∀ x ∈ p0, x.block < W.heap.size := fun x hx => hW'.lt x (by simp [hx])
  have hlt1 : ∀ x ∈ p1, x.block < W.heap.size := fun x hx => hW'.lt x (by simp [hx])
  have k0 : Value.okWide Tryd.prog W .any 0 27 v0 := hval0 0 27 v0 (by rw [Tryd.params3]; rfl) rfl
  have k1 : Value.okWide Tryd.prog W .any 0 25 v1 := hval0 1 25 v1 (by rw [Tryd.params3]; rfl) rfl
  obtain ⟨x, hr0, hwx, hn0⟩ := Pl.arg_core Mach.bulk0 h0 k0
  obtain ⟨l, hr1, hwl, hn1⟩ := Pl.arg_row Mach.bulk0 h1 k1
  refine (walk W trivial v0 v1 x l hr0 hr1 hwx hwl (by omega) (by omega)).mono fun e W' ⟨he, bel⟩ => ?_
  subst he
  exact ⟨_, rfl, _, _, _, [], _, [], hW', trodAll_mk1 (shut_bool Tryd.underlying4 _), ⟨_, _, Below.trod laidOut (by kernel_rfl) (of_decide_eq_true (by kernel_rfl)) h0 bel hlt0, trodAll_mk1 (Below.trod laidOut (by kernel_rfl) (of_decide_eq_true (by kernel_rfl)) h1 bel hlt1), rfl⟩, rfl, bel.frame _, fun h => by cases h⟩
set_option maxRecDepth 100000 in
theorem over : Rows.simpSaysUptoRow.holds Tryd.pinned (Rows.OpenSpec.upto Rows.simpSaysSpec) :=
  OpenClaim.holds_of_cond 3 Tryd.f3 rfl rfl rfl rfl rfl rfl rfl ⟨rfl, rfl, rfl, rfl, rfl⟩ rfl rfl rfl rfl rfl (by kernel_rfl) Tryd.func3 (by kernel_rfl)
    (of_decide_eq_true (by kernel_rfl)) (by unfold Func.isWrapper; first | (rw [if_pos (by decide +kernel)]; kernel_rfl) | (rw [if_neg (by decide +kernel)]; exact ⟨rfl, rfl⟩))
    (fun os started H enc _ F => by rw [OpenClaim.pre_eq_preRow]; exact lifted os started H enc F)
theorem proved : Rows.SimpSaysUptoCardSaid :=
  Claim7.holds_tied_plain_at .later [] [.data, .pinned] true (true, "683bbdbfe63ed2907d7e318812076a442020ae031d3a85e12386216ae241e1db") false over (fun _ h => by cases h) (by kernel_rfl) (fun _ h => by cases h) simpSaysUpto_row_tie rfl ⟨rfl, rfl⟩ (by kernel_rfl) rfl
    (fun f fn hf hfn => by
      obtain rfl : f = 3 := Option.some.inj ((show Tryd.prog.funcNamed "catchpole/catchpolelaw18.SimpSays" = some 3 by kernel_rfl).symm.trans hf) |>.symm
      obtain rfl : fn = Tryd.f3 := (Option.some.inj (Tryd.func3.symm.trans hfn)).symm
      exact ⟨by kernel_rfl, fun j t ht => by rw [Tryd.params3] at ht; match j, ht with | 0, ht => (simp at ht; subst ht; exact (show Tryd.prog.wantsStandIn 27 = false by kernel_rfl)) | 1, ht => (simp at ht; subst ht; exact (show Tryd.prog.wantsStandIn 25 = false by kernel_rfl)) | j + 2, ht => simp at ht⟩)
    (by kernel_rfl)
end Go.Proofs.YtcggaaheaahinaaDoor.simpSays
namespace Go.Proofs.YtcggaaheaahinaaDoor
/-- The statement, under a short name, for the claim. -/
theorem simpSays_holds : Rows.SimpSaysUptoCardSaid := simpSays.proved
#print axioms simpSays_holds
end Go.Proofs.YtcggaaheaahinaaDoor
