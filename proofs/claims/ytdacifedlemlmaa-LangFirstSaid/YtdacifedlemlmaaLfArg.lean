/- Cores whose sets' words are within their bounds, as plain data. -/
import Derived.Test.YtdacifedlemlmaaLfFirst
import Derived.Test.YtdacifedlemlmaaLfG
set_option linter.unusedSimpArgs false
set_option linter.unusedVariables false
namespace Cps
open Go Ab Go.Proofs

theorem fit_u64w {n : Nat} {ps : List PV} (h : fits Try.prog n 38 ps) : ∃ i, ps = [.int .u64 i] ∧ 0 ≤ i ∧ i < 2 ^ 64 := by
  cases n with
  | zero => exact h.elim
  | succ n =>
    simp only [fits, Try.underlying38] at h
    obtain ⟨i, rfl, hw⟩ := h
    refine ⟨i, rfl, ?_⟩
    simp [Lit.wf, IntKind.min, IntKind.max, IntKind.signed, IntKind.bits] at hw
    omega
theorem fit_setw {n : Nat} {ps : List PV} (h : fits Try.prog n 40 ps) : ∃ a b c d, ps = [.int .u64 a, .int .u64 b, .int .u64 c, .int .u64 d] ∧ (Lng.W4.mk a b c d).fine := by
  cases n with
  | zero => exact h.elim
  | succ n =>
    simp only [fits, Try.underlying40, List.replicate, tiles, cellsU] at h
    obtain ⟨h1, h2, h3, h4, h5⟩ := h
    obtain ⟨a, ha, wa⟩ := fit_u64w h1
    obtain ⟨b, hb, wb⟩ := fit_u64w h2
    obtain ⟨c, hc, wc⟩ := fit_u64w h3
    obtain ⟨d, hd, wd⟩ := fit_u64w h4
    have e1 := List.take_append_drop 1 ps
    have e2 := List.take_append_drop 1 (ps.drop 1)
    have e3 := List.take_append_drop 1 ((ps.drop 1).drop 1)
    have e4 := List.take_append_drop 1 (((ps.drop 1).drop 1).drop 1)
    rw [h5] at e4
    rw [hd] at e4
    rw [hc, ← e4] at e3
    rw [hb, ← e3] at e2
    rw [ha, ← e2] at e1
    exact ⟨a, b, c, d, by rw [← e1]; rfl, wa, wb, wc, wd⟩

set_option maxRecDepth 100000 in
theorem fit_corew : ∀ n, (∀ ps, fits Try.prog n 43 ps → ∃ x, encC x = .agg ps ∧ FineC x ∧ Lng.Wd x) ∧
    (∀ ps, fits Try.prog n 41 ps → ∃ l : List Co, ps = [.sl (l.map encC)] ∧ l.length ≤ 9223372036854775807 ∧ ∀ x ∈ l, FineC x ∧ Lng.Wd x)
  | 0 => ⟨fun _ h => h.elim, fun _ h => h.elim⟩
  | n + 1 => by
    obtain ⟨hA, hB⟩ := fit_corew n
    refine ⟨fun ps h => ?_, fun ps h => ?_⟩
    · simp only [fits, Try.underlying43, List.map_cons, List.map_nil, tiles, cellsI, cellsS, cellsCL] at h
      obtain ⟨h1, h2, h3, h4, h5⟩ := h
      obtain ⟨k, hk⟩ := fit_int h1
      obtain ⟨s0, s1, s2, s3, hs, hsw⟩ := fit_setw h2
      obtain ⟨m, hm⟩ := fit_int h3
      obtain ⟨l, hl, hll, hlf⟩ := hB _ h4
      have e1 := List.take_append_drop 1 ps
      have e2 := List.take_append_drop 4 (ps.drop 1)
      have e3 := List.take_append_drop 1 ((ps.drop 1).drop 4)
      have e4 := List.take_append_drop 1 (((ps.drop 1).drop 4).drop 1)
      rw [h5, hl] at e4
      rw [hm, ← e4] at e3
      rw [hs, ← e3] at e2
      rw [hk, ← e2] at e1
      refine ⟨.mk k s0 s1 s2 s3 m l, ?_, ⟨hll, fineCL.2 fun x hx => (hlf x hx).1⟩, Lng.wd_eq.2 ⟨hsw, fun x hx => (hlf x hx).2⟩⟩
      rw [← e1, eCm]; rfl
    · simp only [fits, Try.underlying41] at h
      obtain ⟨es, rfl, hl, he⟩ := h
      have key : ∀ es : List PV, (∀ x ∈ es, fits Try.prog n 43 x.cells ∧ aggT Try.prog 43 = some x.isAgg) → ∃ l : List Co, es = l.map encC ∧ ∀ x ∈ l, FineC x ∧ Lng.Wd x := by
        intro es
        induction es with
        | nil => intro _; exact ⟨[], rfl, by simp⟩
        | cons e es ih =>
          intro he
          obtain ⟨l, h1, h2⟩ := ih fun x hx => he x (by simp [hx])
          obtain ⟨hf, ha⟩ := he e (by simp)
          obtain ⟨x, hx1, hx2⟩ := hA _ hf
          have ha : e.isAgg = true := by
            have : aggT Try.prog 43 = some true := by kernel_rfl
            rw [this] at ha; exact (Option.some.inj ha).symm
          refine ⟨x :: l, ?_, fun y hy => ?_⟩
          · rw [List.map_cons, h1, hx1]
            cases e <;> first | rfl | cases ha
          · rcases List.mem_cons.1 hy with h | h
            · rw [h]; exact hx2
            · exact h2 y h
      obtain ⟨l, h1, h2⟩ := key es he
      refine ⟨l, by rw [h1], ?_, h2⟩
      rw [h1, List.length_map] at hl
      simp [maxLen] at hl; omega

section
variable {H : Type} {enc' : TypeId × Value → H} {w : World} {held : Bool} {sp : Nat → Bool} {v : Value} {d : DataW H} {ps : List MemPlace}

set_option maxRecDepth 100000 in
theorem arg_corew (h : DataW.Trod enc' Try.prog w 0 sp held 43 v d ps) (hok : Value.okWide Try.prog w .any 0 43 v) : ∃ c : Co, RP (immOf w) (encC c) v ∧ FineC c ∧ Lng.Wd c := by
  obtain ⟨p, n, h1, h2, h3⟩ := arg_fits (P := Try.prog) (S := [41, 43, 3, 40, 38]) (by kernel_rfl) (by kernel_rfl) (by simp) h hok
  obtain ⟨c, hc, hf⟩ := (fit_corew n).1 _ h2
  have ha : p.isAgg = true := by
    have : aggT Try.prog 43 = some true := by kernel_rfl
    rw [this] at h3; exact (Option.some.inj h3).symm
  refine ⟨c, ?_, hf⟩
  rw [hc]
  cases p <;> first | exact h1 | cases ha

end
end Cps
