/- SyR: steps, walks, laws: see the remarks within. -/
import Derived.Test.YtdacifedlemlmaaSyA
import Derived.Test.YtdacifedlemlmaaAbArg
import Derived.Test.YtdacifedlemlmaaProg
import Derived.KernelRfl
set_option linter.unusedSimpArgs false
set_option linter.unusedVariables false
-- What the laws are handed, as plain data: what was found, reports, bytes.
namespace Rp
open Go Ab Go.Proofs

theorem eVmk (k b : Int) (l : List Va) : encV (.mk k b l) = .agg [.int .i64 k, .int .u8 b, .sl (l.map encV)] := eV _
theorem cellsI : Try.prog.cellsOf 3 = 1 := by kernel_rfl
theorem cellsE : Try.prog.cellsOf 30 = 1 := by kernel_rfl
theorem cellsBy : Try.prog.cellsOf 5 = 1 := by kernel_rfl
theorem cellsVL : Try.prog.cellsOf 22 = 1 := by kernel_rfl
theorem cellsSL : Try.prog.cellsOf 25 = 1 := by kernel_rfl
theorem cellsV : Try.prog.cellsOf 24 = 3 := by kernel_rfl
theorem cellsF : Try.prog.cellsOf 31 = 1 := by kernel_rfl

theorem fit_int {n : Nat} {ps : List PV} (h : fits Try.prog n 3 ps) : ∃ i, ps = [.int .i64 i] := by
  cases n with
  | zero => exact h.elim
  | succ n => simp only [fits, Try.underlying3] at h; obtain ⟨i, rfl, _⟩ := h; exact ⟨i, rfl⟩
theorem fit_u8 {n : Nat} {ps : List PV} (h : fits Try.prog n 5 ps) : ∃ i, ps = [.int .u8 i] ∧ 0 ≤ i ∧ i < 256 := by
  cases n with
  | zero => exact h.elim
  | succ n =>
    simp only [fits, Try.underlying5] at h
    obtain ⟨i, rfl, hw⟩ := h
    refine ⟨i, rfl, ?_⟩
    simp [Lit.wf, IntKind.min, IntKind.max, IntKind.signed, IntKind.bits] at hw
    omega
set_option maxRecDepth 100000 in
theorem fit_value : ∀ n, (∀ ps, fits Try.prog n 24 ps → ∃ x, encV x = .agg ps ∧ FineV x) ∧
    (∀ ps, fits Try.prog n 22 ps → ∃ l : List Va, ps = [.sl (l.map encV)] ∧ l.length ≤ 9223372036854775807 ∧ ∀ x ∈ l, FineV x)
  | 0 => ⟨fun _ h => h.elim, fun _ h => h.elim⟩
  | n + 1 => by
    obtain ⟨hA, hB⟩ := fit_value n
    refine ⟨fun ps h => ?_, fun ps h => ?_⟩
    · simp only [fits, Try.underlying24, List.map_cons, List.map_nil, tiles, cellsI, cellsBy, cellsVL] at h
      obtain ⟨h1, h2, h4, h5⟩ := h
      obtain ⟨k, hk⟩ := fit_int h1
      obtain ⟨b, hb, hb2⟩ := fit_u8 h2
      obtain ⟨l, hl, hll, hlf⟩ := hB _ h4
      have e1 := List.take_append_drop 1 ps
      have e2 := List.take_append_drop 1 (ps.drop 1)
      have e4 := List.take_append_drop 1 ((ps.drop 1).drop 1)
      rw [h5, hl] at e4
      rw [hb, ← e4] at e2
      rw [hk, ← e2] at e1
      refine ⟨.mk k b l, ?_, hb2, hll, fineVL.2 hlf⟩
      rw [← e1, eVmk]; rfl
    · simp only [fits, Try.underlying22] at h
      obtain ⟨es, rfl, hl, he⟩ := h
      have key : ∀ es : List PV, (∀ x ∈ es, fits Try.prog n 24 x.cells ∧ aggT Try.prog 24 = some x.isAgg) → ∃ l : List Va, es = l.map encV ∧ ∀ x ∈ l, FineV x := by
        intro es
        induction es with
        | nil => intro _; exact ⟨[], rfl, by simp⟩
        | cons e es ih =>
          intro he
          obtain ⟨l, h1, h2⟩ := ih fun x hx => he x (by simp [hx])
          obtain ⟨hf, ha⟩ := he e (by simp)
          obtain ⟨x, hx1, hx2⟩ := hA _ hf
          have ha : e.isAgg = true := by
            have : aggT Try.prog 24 = some true := by kernel_rfl
            rw [this] at ha; exact (Option.some.inj ha).symm
          refine ⟨x :: l, ?_, fun y hy => ?_⟩
          · rw [List.map_cons, h1, hx1]
            cases e <;> first | rfl | cases ha
          · rcases List.mem_cons.1 hy with h | h
            · rw [h]; exact hx2
            · exact h2 y h
      obtain ⟨l, h1, h2⟩ := key es he
      refine ⟨l, by rw [h1], ?_, h2⟩
      rw [h1, List.length_map] at hl
      simp [maxLen] at hl; omega


theorem fit_errno {n : Nat} {ps : List PV} (h : fits Try.prog n 30 ps) : ∃ i, ps = [.int .i64 i] := by
  cases n with
  | zero => exact h.elim
  | succ n => simp only [fits, Try.underlying30] at h; obtain ⟨i, rfl, _⟩ := h; exact ⟨i, rfl⟩
theorem fit_flt {n : Nat} {ps : List PV} (h : fits Try.prog n 31 ps) : ∃ q, ps = [.flt .f64 q] ∧ q < 2 ^ 64 := by
  cases n with
  | zero => exact h.elim
  | succ n =>
    simp only [fits, Try.underlying31] at h
    obtain ⟨q, rfl, hw⟩ := h
    refine ⟨q, rfl, ?_⟩
    simpa [Lit.wf] using hw
theorem fit_span {n : Nat} {ps : List PV} (h : fits Try.prog n 62 ps) : ∃ s : Sp, ps = [.int .i64 s.1, .int .i64 s.2] := by
  cases n with
  | zero => exact h.elim
  | succ n =>
    simp only [fits, Try.underlying62, List.map_cons, List.map_nil, tiles, cellsI] at h
    obtain ⟨h1, h2, h3⟩ := h
    obtain ⟨a, ha⟩ := fit_int h1
    obtain ⟨b, hb⟩ := fit_int h2
    have e1 := List.take_append_drop 1 ps
    have e2 := List.take_append_drop 1 (ps.drop 1)
    rw [h3, hb] at e2
    rw [ha, ← e2] at e1
    exact ⟨(a, b), by rw [← e1]; rfl⟩
theorem fit_spans {n : Nat} {ps : List PV} (h : fits Try.prog n 25 ps) : ∃ l : List Sp, ps = [.sl (l.map encS)] ∧ l.length ≤ 9223372036854775807 := by
  cases n with
  | zero => exact h.elim
  | succ n =>
    simp only [fits, Try.underlying25] at h
    obtain ⟨es, rfl, hl, he⟩ := h
    have key : ∀ es : List PV, (∀ x ∈ es, fits Try.prog n 62 x.cells ∧ aggT Try.prog 62 = some x.isAgg) → ∃ l : List Sp, es = l.map encS := by
      intro es
      induction es with
      | nil => intro _; exact ⟨[], rfl⟩
      | cons e es ih =>
        intro he
        obtain ⟨l, h1⟩ := ih fun x hx => he x (by simp [hx])
        obtain ⟨hf, ha⟩ := he e (by simp)
        obtain ⟨x, hx1⟩ := fit_span hf
        have ha : e.isAgg = true := by
          have : aggT Try.prog 62 = some true := by kernel_rfl
          rw [this] at ha; exact (Option.some.inj ha).symm
        refine ⟨x :: l, ?_⟩
        rw [List.map_cons, h1]
        cases e with
        | agg cs => simp only [PV.cells] at hx1; rw [hx1]; rfl
        | _ => cases ha
    obtain ⟨l, h1⟩ := key es he
    refine ⟨l, by rw [h1], ?_⟩
    rw [h1, List.length_map] at hl
    simp [maxLen] at hl; omega

theorem fit_found {n : Nat} {ps : List PV} (h : fits Try.prog n 27 ps) : ∃ (a b : Int) (v : Va) (sp : List Sp), encF a b v sp = .agg ps ∧ FineV v ∧ sp.length ≤ 9223372036854775807 := by
  cases n with
  | zero => exact h.elim
  | succ n =>
    simp only [fits, Try.underlying27, List.map_cons, List.map_nil, tiles, cellsI, cellsV, cellsSL] at h
    obtain ⟨h1, h2, h3, h4, h5⟩ := h
    obtain ⟨a, ha⟩ := fit_int h1
    obtain ⟨b, hb⟩ := fit_int h2
    obtain ⟨v, hv, hf⟩ := (fit_value n).1 _ h3
    obtain ⟨sp, hs, hl⟩ := fit_spans h4
    rw [eV] at hv
    have hv' := (PV.agg.inj hv).symm
    have e1 := List.take_append_drop 1 ps
    have e2 := List.take_append_drop 1 (ps.drop 1)
    have e3 := List.take_append_drop 3 ((ps.drop 1).drop 1)
    have e4 := List.take_append_drop 1 (((ps.drop 1).drop 1).drop 3)
    rw [h5, hs] at e4
    rw [hv', ← e4] at e3
    rw [hb, ← e3] at e2
    rw [ha, ← e2] at e1
    exact ⟨a, b, v, sp, by rw [← e1]; rfl, hf, hl⟩
theorem fit_report {n : Nat} {ps : List PV} (h : fits Try.prog n 33 ps) : ∃ (e a b : Int) (sp : List Sp) (v : Va) (q : Nat), encR e a b sp v q = .agg ps ∧ FineV v ∧ sp.length ≤ 9223372036854775807 ∧ q < 2 ^ 64 := by
  cases n with
  | zero => exact h.elim
  | succ n =>
    simp only [fits, Try.underlying33, List.map_cons, List.map_nil, tiles, cellsI, cellsV, cellsSL, cellsE, cellsF] at h
    obtain ⟨h0, h1, h2, h4, h3, h6, h5⟩ := h
    obtain ⟨e, he⟩ := fit_errno h0
    obtain ⟨a, ha⟩ := fit_int h1
    obtain ⟨b, hb⟩ := fit_int h2
    obtain ⟨sp, hs, hl⟩ := fit_spans h4
    obtain ⟨v, hv, hf⟩ := (fit_value n).1 _ h3
    obtain ⟨q, hq, hq2⟩ := fit_flt h6
    rw [eV] at hv
    have hv' := (PV.agg.inj hv).symm
    have e0 := List.take_append_drop 1 ps
    have e1 := List.take_append_drop 1 (ps.drop 1)
    have e2 := List.take_append_drop 1 ((ps.drop 1).drop 1)
    have e3 := List.take_append_drop 1 (((ps.drop 1).drop 1).drop 1)
    have e4 := List.take_append_drop 3 ((((ps.drop 1).drop 1).drop 1).drop 1)
    have e5 := List.take_append_drop 1 (((((ps.drop 1).drop 1).drop 1).drop 1).drop 3)
    rw [h5, hq] at e5
    rw [hv', ← e5] at e4
    rw [hs, ← e4] at e3
    rw [hb, ← e3] at e2
    rw [ha, ← e2] at e1
    rw [he, ← e1] at e0
    exact ⟨e, a, b, sp, v, q, by rw [← e0]; rfl, hf, hl, hq2⟩

section
variable {H : Type} {enc' : TypeId × Value → H} {w : World} {held : Bool} {sp : Nat → Bool} {v : Value} {d : DataW H} {ps : List MemPlace}

set_option maxRecDepth 100000 in
theorem arg_found (h : DataW.Trod enc' Try.prog w 0 sp held 27 v d ps) (hok : Value.okWide Try.prog w .any 0 27 v) : ∃ (a b : Int) (x : Va) (s : List Sp), RP (immOf w) (encF a b x s) v ∧ FineV x ∧ s.length ≤ 9223372036854775807 := by
  obtain ⟨p, n, h1, h2, h3⟩ := arg_fits (P := Try.prog) (S := [27, 22, 24, 3, 5, 25, 62]) (by kernel_rfl) (by kernel_rfl) (by simp) h hok
  obtain ⟨a, b, x, s, hc, hf, hl⟩ := fit_found h2
  have ha : p.isAgg = true := by
    have : aggT Try.prog 27 = some true := by kernel_rfl
    rw [this] at h3; exact (Option.some.inj h3).symm
  refine ⟨a, b, x, s, ?_, hf, hl⟩
  rw [hc]
  cases p <;> first | exact h1 | cases ha
set_option maxRecDepth 100000 in
theorem arg_report (h : DataW.Trod enc' Try.prog w 0 sp held 33 v d ps) (hok : Value.okWide Try.prog w .any 0 33 v) : ∃ (e a b : Int) (s : List Sp) (x : Va) (q : Nat), RP (immOf w) (encR e a b s x q) v ∧ FineV x ∧ s.length ≤ 9223372036854775807 ∧ q < 2 ^ 64 := by
  obtain ⟨p, n, h1, h2, h3⟩ := arg_fits (P := Try.prog) (S := [33, 30, 22, 24, 3, 5, 25, 62, 31]) (by kernel_rfl) (by kernel_rfl) (by simp) h hok
  obtain ⟨e, a, b, s, x, q, hc, hf, hl, hq⟩ := fit_report h2
  have ha : p.isAgg = true := by
    have : aggT Try.prog 33 = some true := by kernel_rfl
    rw [this] at h3; exact (Option.some.inj h3).symm
  refine ⟨e, a, b, s, x, q, ?_, hf, hl, hq⟩
  rw [hc]
  cases p <;> first | exact h1 | cases ha
set_option maxRecDepth 100000 in
theorem arg_int (h : DataW.Trod enc' Try.prog w 0 sp held 3 v d ps) (hok : Value.okWide Try.prog w .any 0 3 v) : ∃ i : Int, RP (immOf w) (.int .i64 i) v := by
  obtain ⟨p, n, h1, h2, h3⟩ := arg_fits (P := Try.prog) (S := [3]) (by kernel_rfl) (by kernel_rfl) (by simp) h hok
  obtain ⟨i, hi⟩ := fit_int h2
  have ha : p.isAgg = false := by
    have : aggT Try.prog 3 = some false := by kernel_rfl
    rw [this] at h3; exact (Option.some.inj h3).symm
  refine ⟨i, ?_⟩
  have hp : p = .int .i64 i := by
    cases p <;> simp_all [PV.cells, PV.isAgg]
  rw [← hp]; exact h1
end
end Rp

-- Bytes that are handed to a law.
namespace Rp
open Go Ab Go.Proofs
theorem fit_bytes {n : Nat} {ps : List PV} (h : fits Try.prog n 44 ps) : ∃ l : List Int, ps = [.sl (encB l)] ∧ ∀ x ∈ l, 0 ≤ x ∧ x < 256 := by
  cases n with
  | zero => exact h.elim
  | succ n =>
    simp only [fits, Try.underlying44] at h
    obtain ⟨es, rfl, hl, he⟩ := h
    have key : ∀ es : List PV, (∀ x ∈ es, fits Try.prog n 5 x.cells ∧ aggT Try.prog 5 = some x.isAgg) → ∃ l : List Int, es = encB l ∧ ∀ x ∈ l, 0 ≤ x ∧ x < 256 := by
      intro es
      induction es with
      | nil => intro _; exact ⟨[], rfl, by simp⟩
      | cons e es ih =>
        intro he
        obtain ⟨l, h1, h2⟩ := ih fun x hx => he x (by simp [hx])
        obtain ⟨hf, ha⟩ := he e (by simp)
        obtain ⟨i, hi, hb⟩ := fit_u8 hf
        have ha : e.isAgg = false := by
          have : aggT Try.prog 5 = some false := by kernel_rfl
          rw [this] at ha; exact (Option.some.inj ha).symm
        have hp : e = .int .u8 i := by
          cases e <;> simp_all [PV.cells, PV.isAgg]
        refine ⟨i :: l, by rw [h1, hp]; rfl, fun y hy => ?_⟩
        rcases List.mem_cons.1 hy with h | h
        · rw [h]; exact hb
        · exact h2 y h
    obtain ⟨l, h1, h2⟩ := key es he
    exact ⟨l, by rw [h1], h2⟩


section
variable {H : Type} {enc' : TypeId × Value → H} {w : World} {held : Bool} {sp : Nat → Bool} {v : Value} {d : DataW H} {ps : List MemPlace}
set_option maxRecDepth 100000 in
theorem arg_bytes (h : DataW.Trod enc' Try.prog w 0 sp held 44 v d ps) (hok : Value.okWide Try.prog w .any 0 44 v) : ∃ l : List Int, RP (immOf w) (.sl (encB l)) v ∧ ∀ x ∈ l, 0 ≤ x ∧ x < 256 := by
  obtain ⟨p, n, h1, h2, h3⟩ := arg_fits (P := Try.prog) (S := [44, 5]) (by kernel_rfl) (by kernel_rfl) (by simp) h hok
  obtain ⟨l, hl, hb⟩ := fit_bytes h2
  have ha : p.isAgg = false := by
    have : aggT Try.prog 44 = some false := by kernel_rfl
    rw [this] at h3; exact (Option.some.inj h3).symm
  refine ⟨l, ?_, hb⟩
  have hp : p = .sl (encB l) := by
    cases p <;> simp_all [PV.cells, PV.isAgg]
  rw [← hp]; exact h1
end
end Rp
