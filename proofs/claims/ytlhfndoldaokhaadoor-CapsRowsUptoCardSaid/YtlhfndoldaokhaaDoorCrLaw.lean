/- CapsRows: where what it is handed is of bulk at most 1048576 (the given second form), the law returns true; the input reads as it did. Condition: that bulk. -/
import Derived.Test.YtlhfndoldaokhaaDoorRows
import Derived.Test.YtlhfndoldaokhaaDoorCards
import Derived.Test.YtlhfndoldaokhaaDoorTie
import Derived.Lay
import Derived.SevenTiedAt
import Derived.Test.YtlhfndoldaokhaaDoorCrHas
import Derived.Stop.LaidErr
import Derived.Deep.DeepHandedRow
import Derived.Lib.LaidTab
import Derived.JoinedCond
import Derived.WalkKit
import Derived.ProofKit
import Derived.OpenShut
import Derived.ShutString
import Derived.ChangeOld
import Derived.Below
import Derived.SizedLaws
import Derived.Carry
namespace Go.Proofs.YtlhfndoldaokhaaDoor.capsRows
open Go.ChangeShapes Go.WideShapes Go.ChangeAt Go.RowKit
theorem own : ownKnob Tryd.prog.godebug = none := by kernel_rfl
theorem laidOut : laidOutB Tryd.prog = true := by kernel_rfl
theorem walk (W : World) (hb : Ab.Tabs Tryd.prog W Mach.tabs) (v0 v1 v2 v3 : Value) (c d : Cps.Co) (v u : Cps.Va) (hr0 : Ab.RP (Ab.immOf W) (Cps.encC c) v0) (hr1 : Ab.RP (Ab.immOf W) (Cps.encC d) v1) (hr2 : Ab.RP (Ab.immOf W) (Cps.encV v) v2) (hr3 : Ab.RP (Ab.immOf W) (Cps.encV u) v3) (hf : Cps.FineC c) (hd : Cps.FineC d) (hv : Cps.FineV v) (hu : Cps.FineV u) (hz : (Cps.flatS v).length ≤ 1048576) (hn1 : Cps.nodes c ≤ 1048576) (hn2 : Cps.nodes d ≤ 1048576) : Calls Tryd.prog 9 #[v0, v1, v2, v3] W fun e w' => e = .returned (.bool true) ∧ RowKit.Below W.heap.size W w' := by
  obtain ⟨m, hrun⟩ := Ab.Ans.of_lim (Cps.rows_ok Mach.has0 c d v u hf hd hv hu hz hn1 hn2)
  refine (Ab.runP_calls Mach.table0 (Mach.has0.law.ext _) hrun (Ab.sim_immOf W hb.base) rfl ?_).mono fun e w' h => ?_
  · intro j p hj
    match j, hj with
    | 0, hj => simp at hj; subst hj; exact hr0
    | 1, hj => simp at hj; subst hj; exact hr1
    | 2, hj => simp at hj; subst hj; exact hr2
    | 3, hj => simp at hj; subst hj; exact hr3
    | j + 4, hj => simp at hj
  · obtain ⟨cv, m', rfl, h2, _, h4⟩ := h
    exact ⟨by rw [Ab.R.bool h2], h4.below⟩
def laidL : List (String × DataW Unit) := [("math/bits.deBruijn32tab", Rows.laid_math_bits_deBruijn32tab), ("math/bits.deBruijn64tab", Rows.laid_math_bits_deBruijn64tab), ("internal/strconv.uint64pow10", Rows.laid_internal_strconv_uint64pow10)]
theorem reads (os : Os) {H : Type} (enc : TypeId × Value → H) : ∃ places, DataW.whole enc Tryd.prog ((World.laidAll Tryd.prog os laidL).forCall (fun _ _ => 0) ⟨#[], #[.agg #[.int .i64 0, .int .u64 0, .int .u64 0, .int .u64 0, .int .u64 0, .int .i64 0, .slice none 0 0], .agg #[.int .i64 0, .int .u64 0, .int .u64 0, .int .u64 0, .int .u64 0, .int .i64 0, .slice none 0 0], .agg #[.int .i64 0, .int .u8 0, .slice none 0 0], .agg #[.int .i64 0, .int .u8 0, .slice none 0 0]], []⟩).memory Tryd.f9.params.toList Rows.capsRowsSpec.vars false #[.agg #[.int .i64 0, .int .u64 0, .int .u64 0, .int .u64 0, .int .u64 0, .int .i64 0, .slice none 0 0], .agg #[.int .i64 0, .int .u64 0, .int .u64 0, .int .u64 0, .int .u64 0, .int .i64 0, .slice none 0 0], .agg #[.int .i64 0, .int .u8 0, .slice none 0 0], .agg #[.int .i64 0, .int .u8 0, .slice none 0 0]].toList 8 = some ([.agg [.lit (.int .i64 0), .agg [.lit (.int .u64 0), .lit (.int .u64 0), .lit (.int .u64 0), .lit (.int .u64 0)], .lit (.int .i64 0), .nil], .agg [.lit (.int .i64 0), .agg [.lit (.int .u64 0), .lit (.int .u64 0), .lit (.int .u64 0), .lit (.int .u64 0)], .lit (.int .i64 0), .nil], .agg [.lit (.int .i64 0), .lit (.int .u8 0), .nil], .agg [.lit (.int .i64 0), .lit (.int .u8 0), .nil]], [], places) :=
  ⟨[], by kernel_rfl⟩
set_option maxRecDepth 100000 in
theorem lifted (os : Os) (started : os.Started) (H : Type) (enc : TypeId × Value → H) (F : Stop.Interp) :
    ReturnsInHanded {} Tryd.checked os 9 .any ((Rows.OpenSpec.upto Rows.capsRowsSpec).preRow enc Tryd.prog Tryd.f9 Rows.capsRowsUptoRow.domain false Rows.capsRowsUptoRow.laid)
      (((Rows.OpenSpec.upto Rows.capsRowsSpec).at F).post enc Tryd.prog Tryd.f9 false true false false) := by
  obtain ⟨places, hx⟩ := reads os enc
  refine returnsInHanded_of_row (C := Tryd.checked) (s := Rows.OpenSpec.upto Rows.capsRowsSpec) own started (by kernel_rfl) Tryd.func9
    (witness_row_at (enc := enc) (C := Tryd.checked) false (World.laidAll Tryd.prog os laidL) #[.agg #[.int .i64 0, .int .u64 0, .int .u64 0, .int .u64 0, .int .u64 0, .int .i64 0, .slice none 0 0], .agg #[.int .i64 0, .int .u64 0, .int .u64 0, .int .u64 0, .int .u64 0, .int .i64 0, .slice none 0 0], .agg #[.int .i64 0, .int .u8 0, .slice none 0 0], .agg #[.int .i64 0, .int .u8 0, .slice none 0 0]] (World.laidAll_os _ _ _) (by kernel_rfl) (by kernel_rfl) (by kernel_rfl)
      (OpenSpec.preRow_of_cond 8 hx (by kernel_rfl) (fun k hk => by cases hk; kernel_rfl) (by kernel_rfl)
        (by rw [MakeChecks.laidMetH_plain _ _ _ (by kernel_rfl)]; exact laidMet_of_run' 8 (by kernel_rfl) (by kernel_rfl)))) ?_
  intro W base args ds gs before hval0 hW _ hcond _ hL _ _
  have hk0 : Rows.uptoSmall H (ds ++ gs) = true := hcond _ rfl
  have hW' := hW
  obtain ⟨p, q, hA0, hV, rfl, hfz, hnd⟩ := hW
  have hA : DataW.TrodAll enc Tryd.prog W 0 (fun _ => true) true Tryd.f9.params.toList args.toList ds p := hA0
  rw [Tryd.params9] at hA
  obtain ⟨v0, vs0, d0, ds0, p0, q0, e0, rfl, rfl, h0, g0⟩ := trodAll_cons hA
  obtain ⟨v1, vs1, d1, ds1, p1, q1, e1, rfl, rfl, h1, g1⟩ := trodAll_cons g0
  obtain ⟨v2, vs2, d2, ds2, p2, q2, e2, rfl, rfl, h2, g2⟩ := trodAll_cons g1
  obtain ⟨v3, vs3, d3, ds3, p3, q3, e3, rfl, rfl, h3, g3⟩ := trodAll_cons g2
  obtain ⟨rfl, rfl, rfl⟩ := trodAll_nil g3
  subst e3
  subst e2
  subst e1
  have hargs : args = #[v0, v1, v2, v3] := by cases args; simp_all
  subst hargs
  clear e0
  obtain ⟨rfl, rfl⟩ := trodVars_none hV
  have hk1 := of_decide_eq_true hk0
  simp only [List.append_nil, Rows.uptoBulkAll] at hk1
  have hu0 : Rows.uptoBulk d0 ≤ 1048576 := by omega
  have hu1 : Rows.uptoBulk d1 ≤ 1048576 := by omega
  have hu2 : Rows.uptoBulk d2 ≤ 1048576 := by omega
  have hu3 : Rows.uptoBulk d3 ≤ 1048576 := by omega
  have hlt0 : ∀ x ∈ p0, x.block < W.heap.size := fun x hx => hW'.lt x (by simp [hx])
  have hlt1 : ∀ x ∈ p1, x.block < W.heap.size := fun x hx => hW'.lt x (by simp [hx])
  have hlt2 : ∀ x ∈ p2, x.block < W.heap.size := fun x hx => hW'.lt x (by simp [hx])
  have hlt3 : ∀ x ∈ p3, x.block < W.heap.size := fun x hx => hW'.lt x (by simp [hx])
  have k0 : Value.okWide Tryd.prog W .any 0 47 v0 := hval0 0 47 v0 (by rw [Tryd.params9]; rfl) rfl
  have k1 : Value.okWide Tryd.prog W .any 0 47 v1 := hval0 1 47 v1 (by rw [Tryd.params9]; rfl) rfl
  have k2 : Value.okWide Tryd.prog W .any 0 50 v2 := hval0 2 50 v2 (by rw [Tryd.params9]; rfl) rfl
  have k3 : Value.okWide Tryd.prog W .any 0 50 v3 := hval0 3 50 v3 (by rw [Tryd.params9]; rfl) rfl
  obtain ⟨c, hr0, hf, hn1⟩ := Cps.arg_coreB Mach.bulk0 h0 k0
  obtain ⟨c', hr1, hd, hn2⟩ := Cps.arg_coreB Mach.bulk0 h1 k1
  obtain ⟨v, hr2, hv, hz⟩ := Cps.arg_valueB Mach.bulk0 h2 k2
  obtain ⟨u, hr3, hu, _⟩ := Cps.arg_valueB Mach.bulk0 h3 k3
  refine (walk W trivial v0 v1 v2 v3 c c' v u hr0 hr1 hr2 hr3 hf hd hv hu (Nat.le_trans hz hu2) (Nat.le_trans hn1 hu0) (Nat.le_trans hn2 hu1)).mono fun e W' ⟨he, bel⟩ => ?_
  subst he
  exact ⟨_, rfl, _, _, _, [], _, [], hW', trodAll_mk1 (shut_bool Tryd.underlying4 _), ⟨_, _, Below.trod laidOut (by kernel_rfl) (of_decide_eq_true (by kernel_rfl)) h0 bel hlt0, ⟨_, _, Below.trod laidOut (by kernel_rfl) (of_decide_eq_true (by kernel_rfl)) h1 bel hlt1, ⟨_, _, Below.trod laidOut (by kernel_rfl) (of_decide_eq_true (by kernel_rfl)) h2 bel hlt2, trodAll_mk1 (Below.trod laidOut (by kernel_rfl) (of_decide_eq_true (by kernel_rfl)) h3 bel hlt3), rfl⟩, rfl⟩, rfl⟩, rfl, bel.frame _, fun h => by cases h⟩
theorem over : Rows.capsRowsUptoRow.holds Tryd.pinned (Rows.OpenSpec.upto Rows.capsRowsSpec) :=
  OpenClaim.holds_of_cond 9 Tryd.f9 rfl rfl rfl rfl rfl rfl rfl ⟨rfl, rfl, rfl, rfl, rfl⟩ rfl rfl rfl rfl rfl (by kernel_rfl) Tryd.func9 (by kernel_rfl)
    (of_decide_eq_true (by kernel_rfl)) (by unfold Func.isWrapper; first | (rw [if_pos (by decide +kernel)]; kernel_rfl) | (rw [if_neg (by decide +kernel)]; exact ⟨rfl, rfl⟩))
    (fun os started H enc _ F => by rw [OpenClaim.pre_eq_preRow]; exact lifted os started H enc F)
theorem proved : Rows.CapsRowsUptoCardSaid :=
  Claim7.holds_tied_plain_at .later [] [.data, .data, .data] true (true, "44742312f2f3306a33ae722729f4fc85f764c41e837b414ae99f294a00976b2a") false over (fun _ h => by cases h) (by kernel_rfl) (fun _ h => by cases h) capsRowsUpto_row_tie rfl ⟨rfl, rfl⟩ (by kernel_rfl) rfl
    (fun f fn hf hfn => by
      obtain rfl : f = 9 := Option.some.inj ((show Tryd.prog.funcNamed "catchpole/catchpolelaw12.CapsRows" = some 9 by kernel_rfl).symm.trans hf) |>.symm
      obtain rfl : fn = Tryd.f9 := (Option.some.inj (Tryd.func9.symm.trans hfn)).symm
      exact ⟨by kernel_rfl, fun j t ht => by rw [Tryd.params9] at ht; match j, ht with | 0, ht => (simp at ht; subst ht; exact (show Tryd.prog.wantsStandIn 47 = false by kernel_rfl)) | 1, ht => (simp at ht; subst ht; exact (show Tryd.prog.wantsStandIn 47 = false by kernel_rfl)) | 2, ht => (simp at ht; subst ht; exact (show Tryd.prog.wantsStandIn 50 = false by kernel_rfl)) | 3, ht => (simp at ht; subst ht; exact (show Tryd.prog.wantsStandIn 50 = false by kernel_rfl)) | j + 4, ht => simp at ht⟩)
    (by kernel_rfl)
end Go.Proofs.YtlhfndoldaokhaaDoor.capsRows
namespace Go.Proofs.YtlhfndoldaokhaaDoor
/-- The statement, under a short name, for the claim. -/
theorem capsRows_holds : Rows.CapsRowsUptoCardSaid := capsRows.proved
#print axioms capsRows_holds
end Go.Proofs.YtlhfndoldaokhaaDoor
