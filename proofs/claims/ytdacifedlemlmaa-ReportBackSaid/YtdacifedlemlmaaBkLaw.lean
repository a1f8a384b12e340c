/- ReportBack: whatever the input, the law returns true; the input reads as it did. No condition. -/
import Derived.Test.YtdacifedlemlmaaRows
import Derived.Test.YtdacifedlemlmaaBkHas
import Derived.WalkKit
import Derived.ProofKit
import Derived.OpenShut
import Derived.ShutString
import Derived.ChangeOld
import Derived.Below
import Derived.SizedLaws
import Derived.Carry
namespace Go.Proofs.Ytdacifedlemlmaa.reportBack
open Go.ChangeShapes Go.WideShapes Go.ChangeAt Go.RowKit
theorem own : ownKnob Try.prog.godebug = none := by kernel_rfl
theorem laidOut : laidOutB Try.prog = true := by kernel_rfl
set_option maxRecDepth 100000 in
theorem walk (W : World) (hb : Ab.Tabs Try.prog W Mach.tabs) (v0 v1 v2 : Value) (x y : Rp.Re) (bs : List Int) (hr0 : Ab.RP (Ab.immOf W) (Rp.encX x) v0) (hr1 : Ab.RP (Ab.immOf W) (Rp.encX y) v1) (hr2 : Ab.RP (Ab.immOf W) (.sl (Rp.encB bs)) v2) (hx : x.sp.length ≤ 9223372036854775807) (hfx : Rp.FineV x.v) (hqx : x.q < 2 ^ 64) (hy : y.sp.length ≤ 9223372036854775807) (hfy : Rp.FineV y.v) (hqy : y.q < 2 ^ 64) (hbs : Rp.Byt bs) : Calls Try.prog 8 #[v0, v1, v2] W fun e w' => e = .returned (.bool true) ∧ RowKit.Below W.heap.size W w' := by
  obtain ⟨m, hrun⟩ := Ab.Ans.of_lim (Rp.back_ok Mach.has0 x y bs hx hfx hqx hy hfy hqy hbs)
  refine (Ab.runP_calls Mach.table0 (Mach.has0.law.ext _) hrun (Ab.sim_immOf W hb.base) rfl ?_).mono fun e w' h => ?_
  · intro j p hj
    match j, hj with
    | 0, hj => simp at hj; subst hj; exact hr0
    | 1, hj => simp at hj; subst hj; exact hr1
    | 2, hj => simp at hj; subst hj; exact hr2
    | j + 3, hj => simp at hj
  · obtain ⟨cv, m', rfl, h2, _, h4⟩ := h
    exact ⟨by rw [Ab.R.bool h2], h4.below⟩
set_option maxRecDepth 100000 in
theorem lifted (os : Os) (started : os.Started) (H : Type) (enc : TypeId × Value → H) :
    ReturnsInHanded {} Try.checked os 8 .any (Rows.reportBackSpec.pre6 enc Try.prog Try.f8 Rows.reportBackRow.domain false) (Rows.reportBackSpec.post enc Try.prog Try.f8 false true false false) := by
  refine returnsInHanded_of_change_sized (C := Try.checked) own started (by kernel_rfl) Try.func8
    (ChangeSpec.witness6 (enc := enc) (C := Try.checked) false ⟨#[], #[.agg #[.int .i64 0, .int .i64 0, .int .i64 0, .slice none 0 0, .int .i64 0, .int .u8 0, .slice none 0 0, .float .f64 0], .agg #[.int .i64 0, .int .i64 0, .int .i64 0, .slice none 0 0, .int .i64 0, .int .u8 0, .slice none 0 0, .float .f64 0], .slice none 0 0], []⟩ 8 (by kernel_rfl) (by kernel_rfl) (by kernel_rfl) (by kernel_rfl)) ?_
  intro W base args ds gs before hval0 hW hcnd hsz0 _
  have hW' := hW
  obtain ⟨p, q, hA0, hV, rfl, hfz, hnd⟩ := hW
  have hA : DataW.TrodAll enc Try.prog W 0 (fun _ => true) true Try.f8.params.toList args.toList ds p := hA0
  rw [Try.params8] at hA
  obtain ⟨v0, vs0, d0, ds0, p0, q0, e0, rfl, rfl, h0, g0⟩ := trodAll_cons hA
  obtain ⟨v1, vs1, d1, ds1, p1, q1, e1, rfl, rfl, h1, g1⟩ := trodAll_cons g0
  obtain ⟨v2, vs2, d2, ds2, p2, q2, e2, rfl, rfl, h2, g2⟩ := trodAll_cons g1
  obtain ⟨rfl, rfl, rfl⟩ := trodAll_nil g2
  subst e2
  subst e1
  have hargs : args = #[v0, v1, v2] := by cases args; simp_all
  subst hargs
  clear e0
  obtain ⟨rfl, rfl⟩ := trodVars_none hV
  have hlt0 : ∀ x ∈ p0, x.block < W.heap.size := fun x hx => hW'.lt x (by simp [hx])
  have hlt1 : ∀ x ∈ p1, x.block < W.heap.size := fun x hx => hW'.lt x (by simp [hx])
  have hlt2 : ∀ x ∈ p2, x.block < W.heap.size := fun x hx => hW'.lt x (by simp [hx])
  have k0 : Value.okWide Try.prog W .any 0 33 v0 := hval0 0 33 v0 (by rw [Try.params8]; rfl) rfl
  have k1 : Value.okWide Try.prog W .any 0 33 v1 := hval0 1 33 v1 (by rw [Try.params8]; rfl) rfl
  have k2 : Value.okWide Try.prog W .any 0 44 v2 := hval0 2 44 v2 (by rw [Try.params8]; rfl) rfl
  obtain ⟨e, a, b, s, x, q, hr0, hfx, hx, hqx⟩ := Rp.arg_report h0 k0
  obtain ⟨e', a', b', s', x', q', hr1, hfy, hy, hqy⟩ := Rp.arg_report h1 k1
  obtain ⟨bs, hr2, hbs⟩ := Rp.arg_bytes h2 k2
  refine (walk W trivial v0 v1 v2 ⟨e, a, b, s, x, q⟩ ⟨e', a', b', s', x', q'⟩ bs hr0 hr1 hr2 hx hfx hqx hy hfy hqy hbs).mono fun e W' ⟨he, bel⟩ => ?_
  subst he
  exact ⟨_, rfl, _, _, _, [], _, [], hW', trodAll_mk1 (shut_bool Try.underlying4 _), ⟨_, _, Below.trod laidOut (by kernel_rfl) (of_decide_eq_true (by kernel_rfl)) h0 bel hlt0, ⟨_, _, Below.trod laidOut (by kernel_rfl) (of_decide_eq_true (by kernel_rfl)) h1 bel hlt1, trodAll_mk1 (Below.trod laidOut (by kernel_rfl) (of_decide_eq_true (by kernel_rfl)) h2 bel hlt2), rfl⟩, rfl⟩, rfl, bel.frame _, fun h => by cases h⟩
set_option maxRecDepth 100000 in
theorem over : Rows.reportBackRow.holds Try.pinned (OpenSpec.ofChange Rows.reportBackSpec) :=
  OpenClaim.holds_of_wide 8 Try.f8 rfl rfl rfl rfl rfl rfl rfl ⟨rfl, rfl, rfl, rfl, rfl⟩ rfl rfl rfl rfl rfl (by kernel_rfl) Try.func8 (by kernel_rfl)
    (of_decide_eq_true (by kernel_rfl)) (by unfold Func.isWrapper; first | (rw [if_pos (by decide +kernel)]; kernel_rfl) | (rw [if_neg (by decide +kernel)]; exact ⟨rfl, rfl⟩))
    (fun os started H enc _ => lifted os started H enc)
theorem proved : Rows.ReportBackSaid := over
end Go.Proofs.Ytdacifedlemlmaa.reportBack
namespace Go.Proofs.Ytdacifedlemlmaa
/-- The statement, under a short name, for the claim. -/
theorem reportBack_holds : Rows.ReportBackSaid := reportBack.proved
#print axioms reportBack_holds
end Go.Proofs.Ytdacifedlemlmaa
