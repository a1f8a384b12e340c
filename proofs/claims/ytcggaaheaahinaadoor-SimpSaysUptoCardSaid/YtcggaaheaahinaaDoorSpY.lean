/- SpY: steps, walks, laws: see the remarks within. -/
import Derived.Test.YtcggaaheaahinaaDoorSpX
import Derived.Test.YtcggaaheaahinaaDoorAbArg
import Derived.Test.YtcggaaheaahinaaDoorAbBulk
import Derived.Test.YtcggaaheaahinaaDoorProg
import Derived.KernelRfl
set_option linter.unusedSimpArgs false
set_option linter.unusedVariables false
-- What the law is handed, as plain data: a coded core, a row of them; how great they are.
namespace Pl
open Go Ab Go.Proofs

theorem cells3 : Tryd.prog.cellsOf 3 = 1 := by kernel_rfl
theorem cells9 : Tryd.prog.cellsOf 9 = 1 := by kernel_rfl
theorem cells24 : Tryd.prog.cellsOf 24 = 4 := by kernel_rfl
theorem cells22 : Tryd.prog.cellsOf 22 = 1 := by kernel_rfl
theorem cells25 : Tryd.prog.cellsOf 25 = 1 := by kernel_rfl

theorem fit_int {n : Nat} {ps : List PV} (h : fits Tryd.prog n 3 ps) : ∃ i, ps = [.int .i64 i] := by
  cases n with
  | zero => exact h.elim
  | succ n => simp only [fits, Tryd.underlying3] at h; obtain ⟨i, rfl, _⟩ := h; exact ⟨i, rfl⟩
theorem fit_u64 {n : Nat} {ps : List PV} (h : fits Tryd.prog n 22 ps) : ∃ i, ps = [.int .u64 i] ∧ 0 ≤ i ∧ i < 18446744073709551616 := by
  cases n with
  | zero => exact h.elim
  | succ n =>
    simp only [fits, Tryd.underlying22] at h
    obtain ⟨i, rfl, hw⟩ := h
    refine ⟨i, rfl, ?_⟩
    simp [Lit.wf, IntKind.min, IntKind.max, IntKind.signed, IntKind.bits] at hw
    omega
theorem fit_str {n : Nat} {ps : List PV} (h : fits Tryd.prog n 9 ps) : ∃ l, ps = [.str l] := by
  cases n with
  | zero => exact h.elim
  | succ n => simp only [fits, Tryd.underlying9] at h; obtain ⟨i, rfl, hl⟩ := h; exact ⟨i, rfl⟩
theorem fit_set {n : Nat} {ps : List PV} (h : fits Tryd.prog n 24 ps) : ∃ s : W4, ps = W4.cells s ∧ WfS s := by
  cases n with
  | zero => exact h.elim
  | succ n =>
    simp only [fits, Tryd.underlying24, List.replicate, tiles, cells22] at h
    obtain ⟨h1, h2, h3, h4, h5⟩ := h
    obtain ⟨a, ha, wa⟩ := fit_u64 h1
    obtain ⟨b, hb, wb⟩ := fit_u64 h2
    obtain ⟨c, hc, wc⟩ := fit_u64 h3
    obtain ⟨d, hd, wd⟩ := fit_u64 h4
    have e1 := List.take_append_drop 1 ps
    have e2 := List.take_append_drop 1 (ps.drop 1)
    have e3 := List.take_append_drop 1 ((ps.drop 1).drop 1)
    have e4 := List.take_append_drop 1 (((ps.drop 1).drop 1).drop 1)
    rw [h5] at e4
    rw [hd] at e4
    rw [hc, ← e4] at e3
    rw [hb, ← e3] at e2
    rw [ha, ← e2] at e1
    exact ⟨⟨a, b, c, d⟩, by rw [← e1]; rfl, ⟨wa, wb, wc, wd⟩⟩

set_option maxRecDepth 100000 in
/-- A row and its cores, from the data as it is read. -/
theorem fit_both : ∀ n, (∀ ps, fits Tryd.prog n 27 ps → ∃ x, ps = Cd.cells x ∧ WfC x) ∧
    (∀ ps, fits Tryd.prog n 25 ps → ∃ l : List Cd, ps = [.sl (l.map tCd.enc)] ∧ ∀ x ∈ l, WfC x)
  | 0 => ⟨fun _ h => h.elim, fun _ h => h.elim⟩
  | n + 1 => by
    obtain ⟨hA, hB⟩ := fit_both n
    refine ⟨fun ps h => ?_, fun ps h => ?_⟩
    · simp only [fits, Tryd.underlying27, List.map_cons, List.map_nil, tiles, cells3, cells9, cells24, cells25] at h
      obtain ⟨h1, h2, h3, h4, h5⟩ := h
      obtain ⟨k, hk⟩ := fit_int h1
      obtain ⟨b, hb⟩ := fit_str h2
      obtain ⟨s, hs, ws⟩ := fit_set h3
      obtain ⟨l, hl, hlf⟩ := hB _ h4
      have e1 := List.take_append_drop 1 ps
      have e2 := List.take_append_drop 1 (ps.drop 1)
      have e3 := List.take_append_drop 4 ((ps.drop 1).drop 1)
      have e4 := List.take_append_drop 1 (((ps.drop 1).drop 1).drop 4)
      rw [h5, hl] at e4
      rw [hs, ← e4] at e3
      rw [hb, ← e3] at e2
      rw [hk, ← e2] at e1
      refine ⟨⟨k, b, s, l⟩, ?_, (wf_eq _).2 ⟨ws, hlf⟩⟩
      rw [← e1]; rfl
    · simp only [fits, Tryd.underlying25] at h
      obtain ⟨es, rfl, hl, he⟩ := h
      have key : ∀ es : List PV, (∀ x ∈ es, fits Tryd.prog n 27 x.cells ∧ aggT Tryd.prog 27 = some x.isAgg) → ∃ l : List Cd, es = l.map tCd.enc ∧ ∀ x ∈ l, WfC x := by
        intro es
        induction es with
        | nil => intro _; exact ⟨[], rfl, by simp⟩
        | cons e es ih =>
          intro he
          obtain ⟨l, h1, h2⟩ := ih fun x hx => he x (by simp [hx])
          obtain ⟨hf, ha⟩ := he e (by simp)
          obtain ⟨x, hx1, hx2⟩ := hA _ hf
          have ha : e.isAgg = true := by
            have : aggT Tryd.prog 27 = some true := by kernel_rfl
            rw [this] at ha; exact (Option.some.inj ha).symm
          refine ⟨x :: l, ?_, fun y hy => ?_⟩
          · have hx3 : tCd.enc x = .agg (Cd.cells x) := Cd.enc_eq x
            rw [List.map_cons, h1, hx3, ← hx1]
            cases e <;> first | rfl | cases ha
          · rcases List.mem_cons.1 hy with h | h
            · rw [h]; exact hx2
            · exact h2 y h
      obtain ⟨l, h1, h2⟩ := key es he
      exact ⟨l, by rw [h1], h2⟩

theorem tot_sz : ∀ x : Cd, x.tot ≤ (tCd.enc x).sz := by
  refine Cd.ind fun x ih => ?_
  have key : ∀ l : List Cd, (∀ y ∈ l, y.tot ≤ (tCd.enc y).sz) → Cd.totS l ≤ ((l.map tCd.enc).map PV.sz).sum := by
    intro l
    induction l with
    | nil => intro _; simp [Cd.totS]
    | cons x l ihl =>
      intro h
      have h1 := h x (by simp)
      have h2 := ihl fun y hy => h y (by simp [hy])
      simp only [Cd.totS, List.map_cons, List.sum_cons]
      omega
  have h := key x.l ih
  have hx3 : tCd.enc x = .agg (Cd.cells x) := Cd.enc_eq x
  have hx4 : x.l.map Cd.enc = x.l.map tCd.enc := rfl
  rw [tot_eq, hx3, sz_agg, Cd.cells, hx4]
  simp only [List.map_cons, List.map_nil, List.sum_cons, List.sum_nil, sz_sl, sz_str]
  have e : ∀ (k : IntKind) (i : Int), (PV.int k i).sz = 1 := fun _ _ => rfl
  simp only [e]
  omega
theorem totS_sz (l : List Cd) : Cd.totS l ≤ (PV.sl (l.map tCd.enc)).sz := by
  induction l with
  | nil => simp [Cd.totS]
  | cons x l ih =>
    have h := tot_sz x
    simp only [sz_sl] at ih
    simp only [Cd.totS, List.map_cons, List.sum_cons, sz_sl]
    omega

section
variable {H : Type} {enc' : TypeId × Value → H} {w : World} {held : Bool} {sp : Nat → Bool} {v : Value} {d : DataW H} {ps : List MemPlace} {bu : DataW H → Nat} {bs : List (DataW H) → Nat}

set_option maxRecDepth 100000 in
/-- An argument that is a coded core. -/
theorem arg_core (B : Bulk bu bs) (h : DataW.Trod enc' Tryd.prog w 0 sp held 27 v d ps) (hok : Value.okWide Tryd.prog w .any 0 27 v) : ∃ x : Cd, RP (immOf w) (.agg (Cd.cells x)) v ∧ WfC x ∧ x.tot ≤ bu d := by
  obtain ⟨p, n, h1, h2, h3, h4⟩ := arg_fitsB B (P := Tryd.prog) (S := [25, 27, 3, 9, 24, 22]) (by kernel_rfl) (by kernel_rfl) (by simp) h hok
  obtain ⟨c, hc, hf⟩ := (fit_both n).1 _ h2
  have ha : p.isAgg = true := by
    have : aggT Tryd.prog 27 = some true := by kernel_rfl
    rw [this] at h3; exact (Option.some.inj h3).symm
  have hp : p = .agg (Cd.cells c) := by
    rw [← hc]
    cases p <;> first | rfl | cases ha
  subst hp
  have hx3 : tCd.enc c = .agg (Cd.cells c) := Cd.enc_eq c
  exact ⟨c, h1, hf, Nat.le_trans (tot_sz c) (hx3 ▸ h4)⟩

set_option maxRecDepth 100000 in
/-- An argument that is a row. -/
theorem arg_row (B : Bulk bu bs) (h : DataW.Trod enc' Tryd.prog w 0 sp held 25 v d ps) (hok : Value.okWide Tryd.prog w .any 0 25 v) : ∃ l : List Cd, RP (immOf w) (.sl (l.map tCd.enc)) v ∧ (∀ x ∈ l, WfC x) ∧ Cd.totS l ≤ bu d := by
  obtain ⟨p, n, h1, h2, h3, h4⟩ := arg_fitsB B (P := Tryd.prog) (S := [25, 27, 3, 9, 24, 22]) (by kernel_rfl) (by kernel_rfl) (by simp) h hok
  obtain ⟨l, hl, hlf⟩ := (fit_both n).2 _ h2
  have ha : p.isAgg = false := by
    have : aggT Tryd.prog 25 = some false := by kernel_rfl
    rw [this] at h3; exact (Option.some.inj h3).symm
  have hp : p = .sl (l.map tCd.enc) := by
    cases p <;> simp_all [PV.cells, PV.isAgg]
  subst hp
  exact ⟨l, h1, hlf, Nat.le_trans (totS_sz l) h4⟩
end
end Pl
