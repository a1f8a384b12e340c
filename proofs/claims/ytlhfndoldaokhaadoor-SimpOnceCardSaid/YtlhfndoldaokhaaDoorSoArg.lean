/- What the law is handed, as plain data: rows of coded cores. -/
import Derived.Test.YtlhfndoldaokhaaDoorSoOnce
import Derived.Test.YtlhfndoldaokhaaDoorAbArg
import Derived.Test.YtlhfndoldaokhaaDoorProg
import Derived.KernelRfl
set_option linter.unusedSimpArgs false
set_option linter.unusedVariables false
namespace Cds
open Go Ab Go.Proofs

theorem cells3 : Tryd.prog.cellsOf 3 = 1 := by kernel_rfl
theorem cells9 : Tryd.prog.cellsOf 9 = 1 := by kernel_rfl
theorem cells24 : Tryd.prog.cellsOf 24 = 4 := by kernel_rfl
theorem cells22 : Tryd.prog.cellsOf 22 = 1 := by kernel_rfl
theorem cells25 : Tryd.prog.cellsOf 25 = 1 := by kernel_rfl

theorem fit_int {n : Nat} {ps : List PV} (h : fits Tryd.prog n 3 ps) : ∃ i, ps = [.int .i64 i] := by
  cases n with
  | zero => exact h.elim
  | succ n => simp only [fits, Tryd.underlying3] at h; obtain ⟨i, rfl, _⟩ := h; exact ⟨i, rfl⟩
theorem fit_u64 {n : Nat} {ps : List PV} (h : fits Tryd.prog n 22 ps) : ∃ i, ps = [.int .u64 i] := by
  cases n with
  | zero => exact h.elim
  | succ n => simp only [fits, Tryd.underlying22] at h; obtain ⟨i, rfl, _⟩ := h; exact ⟨i, rfl⟩
theorem fit_str {n : Nat} {ps : List PV} (h : fits Tryd.prog n 9 ps) : ∃ l, ps = [.str l] ∧ l.length ≤ 9223372036854775807 := by
  cases n with
  | zero => exact h.elim
  | succ n => simp only [fits, Tryd.underlying9] at h; obtain ⟨i, rfl, hl⟩ := h; exact ⟨i, rfl, by simp [maxLen] at hl; omega⟩
theorem fit_set {n : Nat} {ps : List PV} (h : fits Tryd.prog n 24 ps) : ∃ a b c d, ps = [.int .u64 a, .int .u64 b, .int .u64 c, .int .u64 d] := by
  cases n with
  | zero => exact h.elim
  | succ n =>
    simp only [fits, Tryd.underlying24, List.replicate, tiles, cells22] at h
    obtain ⟨h1, h2, h3, h4, h5⟩ := h
    obtain ⟨a, ha⟩ := fit_u64 h1
    obtain ⟨b, hb⟩ := fit_u64 h2
    obtain ⟨c, hc⟩ := fit_u64 h3
    obtain ⟨d, hd⟩ := fit_u64 h4
    have e1 := List.take_append_drop 1 ps
    have e2 := List.take_append_drop 1 (ps.drop 1)
    have e3 := List.take_append_drop 1 ((ps.drop 1).drop 1)
    have e4 := List.take_append_drop 1 (((ps.drop 1).drop 1).drop 1)
    rw [h5] at e4
    rw [hd] at e4
    rw [hc, ← e4] at e3
    rw [hb, ← e3] at e2
    rw [ha, ← e2] at e1
    exact ⟨a, b, c, d, by rw [← e1]; rfl⟩

set_option maxRecDepth 100000 in
/-- A row and its cores, from the data as it is read. -/
theorem fit_both : ∀ n, (∀ ps, fits Tryd.prog n 27 ps → ∃ x, enc x = .agg ps ∧ FineB x) ∧
    (∀ ps, fits Tryd.prog n 25 ps → ∃ l : List Cd, ps = [.sl (l.map enc)] ∧ l.length ≤ 9223372036854775807 ∧ ∀ x ∈ l, FineB x)
  | 0 => ⟨fun _ h => h.elim, fun _ h => h.elim⟩
  | n + 1 => by
    obtain ⟨hA, hB⟩ := fit_both n
    refine ⟨fun ps h => ?_, fun ps h => ?_⟩
    · simp only [fits, Tryd.underlying27, List.map_cons, List.map_nil, tiles, cells3, cells9, cells24, cells25] at h
      obtain ⟨h1, h2, h3, h4, h5⟩ := h
      obtain ⟨k, hk⟩ := fit_int h1
      obtain ⟨b, hb, hbl⟩ := fit_str h2
      obtain ⟨s0, s1, s2, s3, hs⟩ := fit_set h3
      obtain ⟨l, hl, hll, hlf⟩ := hB _ h4
      have e1 := List.take_append_drop 1 ps
      have e2 := List.take_append_drop 1 (ps.drop 1)
      have e3 := List.take_append_drop 4 ((ps.drop 1).drop 1)
      have e4 := List.take_append_drop 1 (((ps.drop 1).drop 1).drop 4)
      rw [h5, hl] at e4
      rw [hs, ← e4] at e3
      rw [hb, ← e3] at e2
      rw [hk, ← e2] at e1
      refine ⟨.mk k b s0 s1 s2 s3 l, ?_, hbl, hll, fineBL_iff.2 hlf⟩
      rw [← e1, enc_mk]; rfl
    · simp only [fits, Tryd.underlying25] at h
      obtain ⟨es, rfl, hl, he⟩ := h
      have key : ∀ es : List PV, (∀ x ∈ es, fits Tryd.prog n 27 x.cells ∧ aggT Tryd.prog 27 = some x.isAgg) → ∃ l : List Cd, es = l.map enc ∧ ∀ x ∈ l, FineB x := by
        intro es
        induction es with
        | nil => intro _; exact ⟨[], rfl, by simp⟩
        | cons e es ih =>
          intro he
          obtain ⟨l, h1, h2⟩ := ih fun x hx => he x (by simp [hx])
          obtain ⟨hf, ha⟩ := he e (by simp)
          obtain ⟨x, hx1, hx2⟩ := hA _ hf
          have ha : e.isAgg = true := by
            have : aggT Tryd.prog 27 = some true := by kernel_rfl
            rw [this] at ha; exact (Option.some.inj ha).symm
          refine ⟨x :: l, ?_, fun y hy => ?_⟩
          · rw [List.map_cons, h1, hx1]
            cases e <;> first | rfl | cases ha
          · rcases List.mem_cons.1 hy with h | h
            · rw [h]; exact hx2
            · exact h2 y h
      obtain ⟨l, h1, h2⟩ := key es he
      refine ⟨l, by rw [h1], ?_, h2⟩
      rw [h1, List.length_map] at hl
      simp [maxLen] at hl; omega

set_option maxRecDepth 100000 in
/-- An argument that is a row. -/
theorem arg_row {H : Type} {enc' : TypeId × Value → H} {w : World} {held : Bool} {sp : Nat → Bool} {v : Value} {d : DataW H} {ps : List MemPlace}
    (h : DataW.Trod enc' Tryd.prog w 0 sp held 25 v d ps) (hok : Value.okWide Tryd.prog w .any 0 25 v) : ∃ l : List Cd, RP (immOf w) (.sl (l.map enc)) v ∧ l.length ≤ 9223372036854775807 ∧ ∀ x ∈ l, FineB x := by
  obtain ⟨p, n, h1, h2, h3⟩ := arg_fits (P := Tryd.prog) (S := [25, 27, 3, 9, 24, 22]) (by kernel_rfl) (by kernel_rfl) (by simp) h hok
  obtain ⟨l, hl, hll, hlf⟩ := (fit_both n).2 _ h2
  have ha : p.isAgg = false := by
    have : aggT Tryd.prog 25 = some false := by kernel_rfl
    rw [this] at h3; exact (Option.some.inj h3).symm
  refine ⟨l, ?_, hll, hlf⟩
  have hp : p = .sl (l.map enc) := by
    cases p <;> simp_all [PV.cells, PV.isAgg]
  rw [← hp]; exact h1

end Cds
