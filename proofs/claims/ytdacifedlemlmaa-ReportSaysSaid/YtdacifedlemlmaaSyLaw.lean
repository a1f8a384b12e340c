/- ReportSays: whatever the input, the law returns true; the input reads as it did. No condition. -/
import Derived.Test.YtdacifedlemlmaaRows
import Derived.Test.YtdacifedlemlmaaSyHas
import Derived.WalkKit
import Derived.ProofKit
import Derived.OpenShut
import Derived.ShutString
import Derived.ChangeOld
import Derived.Below
import Derived.SizedLaws
import Derived.Carry
namespace Go.Proofs.Ytdacifedlemlmaa.reportSays
open Go.ChangeShapes Go.WideShapes Go.ChangeAt Go.RowKit
theorem own : ownKnob Try.prog.godebug = none := by kernel_rfl
theorem laidOut : laidOutB Try.prog = true := by kernel_rfl
set_option maxRecDepth 100000 in
theorem walk (W : World) (hb : Ab.Tabs Try.prog W Mach.tabs) (v0 v1 : Value) (x : Rp.Re) (bs : List Int) (hr0 : Ab.RP (Ab.immOf W) (Rp.encX x) v0) (hr1 : Ab.RP (Ab.immOf W) (.sl (Rp.encB bs)) v1) (hx : x.sp.length ≤ 9223372036854775807) (hfx : Rp.FineV x.v) (hqx : x.q < 2 ^ 64) (hbs : Rp.Byt bs) : Calls Try.prog 7 #[v0, v1] W fun e w' => e = .returned (.bool true) ∧ RowKit.Below W.heap.size W w' := by
  obtain ⟨m, hrun⟩ := Ab.Ans.of_lim (Rp.says_ok Mach.has0 x bs hx hfx hqx hbs)
  refine (Ab.runP_calls Mach.table0 (Mach.has0.law.ext _) hrun (Ab.sim_immOf W hb.base) rfl ?_).mono fun e w' h => ?_
  · intro j p hj
    match j, hj with
    | 0, hj => simp at hj; subst hj; exact hr0
    | 1, hj => simp at hj; subst hj; exact hr1
    | j + 2, hj => simp at hj
  · obtain ⟨cv, m', rfl, h2, _, h4⟩ := h
    exact ⟨by rw [Ab.R.bool h2], h4.below⟩
set_option maxRecDepth 100000 in
theorem lifted (os : Os) (started : os.Started) (H : Type) (enc : TypeId × Value → H) :
    ReturnsInHanded {} Try.checked os 7 .any (Rows.reportSaysSpec.pre6 enc Try.prog Try.f7 Rows.reportSaysRow.domain false) (Rows.reportSaysSpec.post enc Try.prog Try.f7 false true false false) := by
  refine returnsInHanded_of_change_sized (C := Try.checked) own started (by kernel_rfl) Try.func7
    (ChangeSpec.witness6 (enc := enc) (C := Try.checked) false ⟨#[], #[.agg #[.int .i64 0, .int .i64 0, .int .i64 0, .slice none 0 0, .int .i64 0, .int .u8 0, .slice none 0 0, .float .f64 0], .slice none 0 0], []⟩ 8 (by kernel_rfl) (by kernel_rfl) (by kernel_rfl) (by kernel_rfl)) ?_
  intro W base args ds gs before hval0 hW hcnd hsz0 _
  have hW' := hW
  obtain ⟨p, q, hA0, hV, rfl, hfz, hnd⟩ := hW
  have hA : DataW.TrodAll enc Try.prog W 0 (fun _ => true) true Try.f7.params.toList args.toList ds p := hA0
  rw [Try.params7] at hA
  obtain ⟨v0, vs0, d0, ds0, p0, q0, e0, rfl, rfl, h0, g0⟩ := trodAll_cons hA
  obtain ⟨v1, vs1, d1, ds1, p1, q1, e1, rfl, rfl, h1, g1⟩ := trodAll_cons g0
  obtain ⟨rfl, rfl, rfl⟩ := trodAll_nil g1
  subst e1
  have hargs : args = #[v0, v1] := by cases args; simp_all
  subst hargs
  clear e0
  obtain ⟨rfl, rfl⟩ := trodVars_none hV
  have hlt0 : ∀ x ∈ p0, x.block < W.heap.size := fun x hx => hW'.lt x (by simp [hx])
  have hlt1 : ∀ x ∈ p1, x.block < W.heap.size := fun x hx => hW'.lt x (by simp [hx])
  have k0 : Value.okWide Try.prog W .any 0 33 v0 := hval0 0 33 v0 (by rw [Try.params7]; rfl) rfl
  have k1 : Value.okWide Try.prog W .any 0 44 v1 := hval0 1 44 v1 (by rw [Try.params7]; rfl) rfl
  obtain ⟨e, a, b, s, x, q, hr0, hfx, hx, hqx⟩ := Rp.arg_report h0 k0
  obtain ⟨bs, hr1, hbs⟩ := Rp.arg_bytes h1 k1
  refine (walk W trivial v0 v1 ⟨e, a, b, s, x, q⟩ bs hr0 hr1 hx hfx hqx hbs).mono fun e W' ⟨he, bel⟩ => ?_
  subst he
  exact ⟨_, rfl, _, _, _, [], _, [], hW', trodAll_mk1 (shut_bool Try.underlying4 _), ⟨_, _, Below.trod laidOut (by kernel_rfl) (of_decide_eq_true (by kernel_rfl)) h0 bel hlt0, trodAll_mk1 (Below.trod laidOut (by kernel_rfl) (of_decide_eq_true (by kernel_rfl)) h1 bel hlt1), rfl⟩, rfl, bel.frame _, fun h => by cases h⟩
set_option maxRecDepth 100000 in
theorem over : Rows.reportSaysRow.holds Try.pinned (OpenSpec.ofChange Rows.reportSaysSpec) :=
  OpenClaim.holds_of_wide 7 Try.f7 rfl rfl rfl rfl rfl rfl rfl ⟨rfl, rfl, rfl, rfl, rfl⟩ rfl rfl rfl rfl rfl (by kernel_rfl) Try.func7 (by kernel_rfl)
    (of_decide_eq_true (by kernel_rfl)) (by unfold Func.isWrapper; first | (rw [if_pos (by decide +kernel)]; kernel_rfl) | (rw [if_neg (by decide +kernel)]; exact ⟨rfl, rfl⟩))
    (fun os started H enc _ => lifted os started H enc)
theorem proved : Rows.ReportSaysSaid := over
end Go.Proofs.Ytdacifedlemlmaa.reportSays
namespace Go.Proofs.Ytdacifedlemlmaa
/-- The statement, under a short name, for the claim. -/
theorem reportSays_holds : Rows.ReportSaysSaid := reportSays.proved
#print axioms reportSays_holds
end Go.Proofs.Ytdacifedlemlmaa
