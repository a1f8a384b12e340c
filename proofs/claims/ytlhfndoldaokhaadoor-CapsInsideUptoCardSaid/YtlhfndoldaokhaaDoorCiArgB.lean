/- CiArgB: steps, walks, laws: see the remarks within. -/
import Derived.Test.YtlhfndoldaokhaaDoorCiWa
import Derived.Test.YtlhfndoldaokhaaDoorCiGr
import Derived.Test.YtlhfndoldaokhaaDoorAbArg
import Derived.Test.YtlhfndoldaokhaaDoorAbBulk
import Derived.Test.YtlhfndoldaokhaaDoorProg
import Derived.KernelRfl
set_option linter.unusedSimpArgs false
set_option linter.unusedVariables false
-- What the laws are handed, as plain data: cores, values; how great they are.
namespace Cps
open Go Ab Go.Proofs

theorem cellsI : Tryd.prog.cellsOf 3 = 1 := by kernel_rfl
theorem cellsB : Tryd.prog.cellsOf 5 = 1 := by kernel_rfl
theorem cellsS : Tryd.prog.cellsOf 24 = 4 := by kernel_rfl
theorem cellsU : Tryd.prog.cellsOf 22 = 1 := by kernel_rfl
theorem cellsCL : Tryd.prog.cellsOf 45 = 1 := by kernel_rfl
theorem cellsVL : Tryd.prog.cellsOf 48 = 1 := by kernel_rfl

theorem fit_int {n : Nat} {ps : List PV} (h : fits Tryd.prog n 3 ps) : ∃ i, ps = [.int .i64 i] := by
  cases n with
  | zero => exact h.elim
  | succ n => simp only [fits, Tryd.underlying3] at h; obtain ⟨i, rfl, _⟩ := h; exact ⟨i, rfl⟩
theorem fit_u64 {n : Nat} {ps : List PV} (h : fits Tryd.prog n 22 ps) : ∃ i, ps = [.int .u64 i] := by
  cases n with
  | zero => exact h.elim
  | succ n => simp only [fits, Tryd.underlying22] at h; obtain ⟨i, rfl, _⟩ := h; exact ⟨i, rfl⟩
theorem fit_u8 {n : Nat} {ps : List PV} (h : fits Tryd.prog n 5 ps) : ∃ i, ps = [.int .u8 i] ∧ 0 ≤ i ∧ i < 256 := by
  cases n with
  | zero => exact h.elim
  | succ n =>
    simp only [fits, Tryd.underlying5] at h
    obtain ⟨i, rfl, hw⟩ := h
    refine ⟨i, rfl, ?_⟩
    simp [Lit.wf, IntKind.min, IntKind.max, IntKind.signed, IntKind.bits] at hw
    omega
theorem fit_set {n : Nat} {ps : List PV} (h : fits Tryd.prog n 24 ps) : ∃ a b c d, ps = [.int .u64 a, .int .u64 b, .int .u64 c, .int .u64 d] := by
  cases n with
  | zero => exact h.elim
  | succ n =>
    simp only [fits, Tryd.underlying24, List.replicate, tiles, cellsU] at h
    obtain ⟨h1, h2, h3, h4, h5⟩ := h
    obtain ⟨a, ha⟩ := fit_u64 h1
    obtain ⟨b, hb⟩ := fit_u64 h2
    obtain ⟨c, hc⟩ := fit_u64 h3
    obtain ⟨d, hd⟩ := fit_u64 h4
    have e1 := List.take_append_drop 1 ps
    have e2 := List.take_append_drop 1 (ps.drop 1)
    have e3 := List.take_append_drop 1 ((ps.drop 1).drop 1)
    have e4 := List.take_append_drop 1 (((ps.drop 1).drop 1).drop 1)
    rw [h5] at e4
    rw [hd] at e4
    rw [hc, ← e4] at e3
    rw [hb, ← e3] at e2
    rw [ha, ← e2] at e1
    exact ⟨a, b, c, d, by rw [← e1]; rfl⟩

set_option maxRecDepth 100000 in
theorem fit_core : ∀ n, (∀ ps, fits Tryd.prog n 47 ps → ∃ x, encC x = .agg ps ∧ FineC x) ∧
    (∀ ps, fits Tryd.prog n 45 ps → ∃ l : List Co, ps = [.sl (l.map encC)] ∧ l.length ≤ 9223372036854775807 ∧ ∀ x ∈ l, FineC x)
  | 0 => ⟨fun _ h => h.elim, fun _ h => h.elim⟩
  | n + 1 => by
    obtain ⟨hA, hB⟩ := fit_core n
    refine ⟨fun ps h => ?_, fun ps h => ?_⟩
    · simp only [fits, Tryd.underlying47, List.map_cons, List.map_nil, tiles, cellsI, cellsS, cellsCL] at h
      obtain ⟨h1, h2, h3, h4, h5⟩ := h
      obtain ⟨k, hk⟩ := fit_int h1
      obtain ⟨s0, s1, s2, s3, hs⟩ := fit_set h2
      obtain ⟨m, hm⟩ := fit_int h3
      obtain ⟨l, hl, hll, hlf⟩ := hB _ h4
      have e1 := List.take_append_drop 1 ps
      have e2 := List.take_append_drop 4 (ps.drop 1)
      have e3 := List.take_append_drop 1 ((ps.drop 1).drop 4)
      have e4 := List.take_append_drop 1 (((ps.drop 1).drop 4).drop 1)
      rw [h5, hl] at e4
      rw [hm, ← e4] at e3
      rw [hs, ← e3] at e2
      rw [hk, ← e2] at e1
      refine ⟨.mk k s0 s1 s2 s3 m l, ?_, hll, fineCL.2 hlf⟩
      rw [← e1, eCm]; rfl
    · simp only [fits, Tryd.underlying45] at h
      obtain ⟨es, rfl, hl, he⟩ := h
      have key : ∀ es : List PV, (∀ x ∈ es, fits Tryd.prog n 47 x.cells ∧ aggT Tryd.prog 47 = some x.isAgg) → ∃ l : List Co, es = l.map encC ∧ ∀ x ∈ l, FineC x := by
        intro es
        induction es with
        | nil => intro _; exact ⟨[], rfl, by simp⟩
        | cons e es ih =>
          intro he
          obtain ⟨l, h1, h2⟩ := ih fun x hx => he x (by simp [hx])
          obtain ⟨hf, ha⟩ := he e (by simp)
          obtain ⟨x, hx1, hx2⟩ := hA _ hf
          have ha : e.isAgg = true := by
            have : aggT Tryd.prog 47 = some true := by kernel_rfl
            rw [this] at ha; exact (Option.some.inj ha).symm
          refine ⟨x :: l, ?_, fun y hy => ?_⟩
          · rw [List.map_cons, h1, hx1]
            cases e <;> first | rfl | cases ha
          · rcases List.mem_cons.1 hy with h | h
            · rw [h]; exact hx2
            · exact h2 y h
      obtain ⟨l, h1, h2⟩ := key es he
      refine ⟨l, by rw [h1], ?_, h2⟩
      rw [h1, List.length_map] at hl
      simp [maxLen] at hl; omega

set_option maxRecDepth 100000 in
theorem fit_value : ∀ n, (∀ ps, fits Tryd.prog n 50 ps → ∃ x, encV x = .agg ps ∧ FineV x) ∧
    (∀ ps, fits Tryd.prog n 48 ps → ∃ l : List Va, ps = [.sl (l.map encV)] ∧ l.length ≤ 9223372036854775807 ∧ ∀ x ∈ l, FineV x)
  | 0 => ⟨fun _ h => h.elim, fun _ h => h.elim⟩
  | n + 1 => by
    obtain ⟨hA, hB⟩ := fit_value n
    refine ⟨fun ps h => ?_, fun ps h => ?_⟩
    · simp only [fits, Tryd.underlying50, List.map_cons, List.map_nil, tiles, cellsI, cellsB, cellsVL] at h
      obtain ⟨h1, h2, h4, h5⟩ := h
      obtain ⟨k, hk⟩ := fit_int h1
      obtain ⟨b, hb, hb2⟩ := fit_u8 h2
      obtain ⟨l, hl, hll, hlf⟩ := hB _ h4
      have e1 := List.take_append_drop 1 ps
      have e2 := List.take_append_drop 1 (ps.drop 1)
      have e4 := List.take_append_drop 1 ((ps.drop 1).drop 1)
      rw [h5, hl] at e4
      rw [hb, ← e4] at e2
      rw [hk, ← e2] at e1
      refine ⟨.mk k b l, ?_, hb2, hll, fineVL.2 hlf⟩
      rw [← e1, eVm]; rfl
    · simp only [fits, Tryd.underlying48] at h
      obtain ⟨es, rfl, hl, he⟩ := h
      have key : ∀ es : List PV, (∀ x ∈ es, fits Tryd.prog n 50 x.cells ∧ aggT Tryd.prog 50 = some x.isAgg) → ∃ l : List Va, es = l.map encV ∧ ∀ x ∈ l, FineV x := by
        intro es
        induction es with
        | nil => intro _; exact ⟨[], rfl, by simp⟩
        | cons e es ih =>
          intro he
          obtain ⟨l, h1, h2⟩ := ih fun x hx => he x (by simp [hx])
          obtain ⟨hf, ha⟩ := he e (by simp)
          obtain ⟨x, hx1, hx2⟩ := hA _ hf
          have ha : e.isAgg = true := by
            have : aggT Tryd.prog 50 = some true := by kernel_rfl
            rw [this] at ha; exact (Option.some.inj ha).symm
          refine ⟨x :: l, ?_, fun y hy => ?_⟩
          · rw [List.map_cons, h1, hx1]
            cases e <;> first | rfl | cases ha
          · rcases List.mem_cons.1 hy with h | h
            · rw [h]; exact hx2
            · exact h2 y h
      obtain ⟨l, h1, h2⟩ := key es he
      refine ⟨l, by rw [h1], ?_, h2⟩
      rw [h1, List.length_map] at hl
      simp [maxLen] at hl; omega

section
variable {H : Type} {enc' : TypeId × Value → H} {w : World} {held : Bool} {sp : Nat → Bool} {v : Value} {d : DataW H} {ps : List MemPlace}

set_option maxRecDepth 100000 in
theorem arg_core (h : DataW.Trod enc' Tryd.prog w 0 sp held 47 v d ps) (hok : Value.okWide Tryd.prog w .any 0 47 v) : ∃ c : Co, RP (immOf w) (encC c) v ∧ FineC c := by
  obtain ⟨p, n, h1, h2, h3⟩ := arg_fits (P := Tryd.prog) (S := [45, 47, 3, 24, 22]) (by kernel_rfl) (by kernel_rfl) (by simp) h hok
  obtain ⟨c, hc, hf⟩ := (fit_core n).1 _ h2
  have ha : p.isAgg = true := by
    have : aggT Tryd.prog 47 = some true := by kernel_rfl
    rw [this] at h3; exact (Option.some.inj h3).symm
  refine ⟨c, ?_, hf⟩
  rw [hc]
  cases p <;> first | exact h1 | cases ha

set_option maxRecDepth 100000 in
theorem arg_value (h : DataW.Trod enc' Tryd.prog w 0 sp held 50 v d ps) (hok : Value.okWide Tryd.prog w .any 0 50 v) : ∃ c : Va, RP (immOf w) (encV c) v ∧ FineV c := by
  obtain ⟨p, n, h1, h2, h3⟩ := arg_fits (P := Tryd.prog) (S := [48, 50, 3, 5]) (by kernel_rfl) (by kernel_rfl) (by simp) h hok
  obtain ⟨c, hc, hf⟩ := (fit_value n).1 _ h2
  have ha : p.isAgg = true := by
    have : aggT Tryd.prog 50 = some true := by kernel_rfl
    rw [this] at h3; exact (Option.some.inj h3).symm
  refine ⟨c, ?_, hf⟩
  rw [hc]
  cases p <;> first | exact h1 | cases ha

set_option maxRecDepth 100000 in
theorem arg_int (h : DataW.Trod enc' Tryd.prog w 0 sp held 3 v d ps) (hok : Value.okWide Tryd.prog w .any 0 3 v) : ∃ i : Int, RP (immOf w) (.int .i64 i) v := by
  obtain ⟨p, n, h1, h2, h3⟩ := arg_fits (P := Tryd.prog) (S := [3]) (by kernel_rfl) (by kernel_rfl) (by simp) h hok
  obtain ⟨i, hi⟩ := fit_int h2
  have ha : p.isAgg = false := by
    have : aggT Tryd.prog 3 = some false := by kernel_rfl
    rw [this] at h3; exact (Option.some.inj h3).symm
  refine ⟨i, ?_⟩
  have hp : p = .int .i64 i := by
    cases p <;> simp_all [PV.cells, PV.isAgg]
  rw [← hp]; exact h1
end

theorem nodes_sz : ∀ c, nodes c ≤ (encC c).sz := by
  refine Co.ind fun c ih => ?_
  have key : ∀ l : List Co, (∀ y ∈ l, nodes y ≤ (encC y).sz) → nodes.nodesL l ≤ ((l.map encC).map PV.sz).sum := by
    intro l
    induction l with
    | nil => intro _; simp [nodes.nodesL]
    | cons x l ihl =>
      intro h
      have h1 := h x (by simp)
      have h2 := ihl fun y hy => h y (by simp [hy])
      simp only [nodes.nodesL, List.map_cons, List.sum_cons]
      omega
  have := key c.l ih
  rw [nodes_eq, eC, sz_agg]
  simp only [List.map_cons, List.map_nil, List.sum_cons, List.sum_nil, sz_sl]
  have e : ∀ (k : IntKind) (i : Int), (PV.int k i).sz = 1 := fun _ _ => rfl
  simp only [e]
  omega
theorem flat_sz : ∀ v, (flatS v).length ≤ (encV v).sz := by
  refine Va.ind fun v ih => ?_
  have key : ∀ l : List Va, (∀ y ∈ l, (flatS y).length ≤ (encV y).sz) → ∀ n, ((l.take n).flatMap flatS).length ≤ ((l.map encV).map PV.sz).sum := by
    intro l
    induction l with
    | nil => intro _ n; simp
    | cons x l ihl =>
      intro h n
      have h1 := h x (by simp)
      have h2 := ihl (fun y hy => h y (by simp [hy])) (n - 1)
      cases n with
      | zero => simp
      | succ n =>
        simp only [List.take_succ_cons, List.flatMap_cons, List.length_append, List.map_cons, List.sum_cons]
        simp only [Nat.add_sub_cancel] at h2
        omega
  have h := key v.l ih (kidN v.k v.l.length)
  rw [flatS_eq, eV, sz_agg, List.length_append]
  simp only [List.map_cons, List.map_nil, List.sum_cons, List.sum_nil, sz_sl]
  have e : ∀ (k : IntKind) (i : Int), (PV.int k i).sz = 1 := fun _ _ => rfl
  have e2 : (if v.k = 2 then [v.b] else []).length ≤ 1 := by split <;> simp
  simp only [e]
  unfold kidsV
  omega

section
variable {H : Type} {enc' : TypeId × Value → H} {w : World} {held : Bool} {sp : Nat → Bool} {v : Value} {d : DataW H} {ps : List MemPlace} {bu : DataW H → Nat} {bs : List (DataW H) → Nat}

set_option maxRecDepth 100000 in
theorem arg_coreB (B : Bulk bu bs) (h : DataW.Trod enc' Tryd.prog w 0 sp held 47 v d ps) (hok : Value.okWide Tryd.prog w .any 0 47 v) : ∃ c : Co, RP (immOf w) (encC c) v ∧ FineC c ∧ nodes c ≤ bu d := by
  obtain ⟨p, n, h1, h2, h3, h4⟩ := arg_fitsB B (P := Tryd.prog) (S := [45, 47, 3, 24, 22]) (by kernel_rfl) (by kernel_rfl) (by simp) h hok
  obtain ⟨c, hc, hf⟩ := (fit_core n).1 _ h2
  have ha : p.isAgg = true := by
    have : aggT Tryd.prog 47 = some true := by kernel_rfl
    rw [this] at h3; exact (Option.some.inj h3).symm
  have hp : p = encC c := by
    rw [hc]
    cases p <;> first | rfl | cases ha
  subst hp
  exact ⟨c, h1, hf, Nat.le_trans (nodes_sz c) h4⟩

set_option maxRecDepth 100000 in
theorem arg_valueB (B : Bulk bu bs) (h : DataW.Trod enc' Tryd.prog w 0 sp held 50 v d ps) (hok : Value.okWide Tryd.prog w .any 0 50 v) : ∃ c : Va, RP (immOf w) (encV c) v ∧ FineV c ∧ (flatS c).length ≤ bu d := by
  obtain ⟨p, n, h1, h2, h3, h4⟩ := arg_fitsB B (P := Tryd.prog) (S := [48, 50, 3, 5]) (by kernel_rfl) (by kernel_rfl) (by simp) h hok
  obtain ⟨c, hc, hf⟩ := (fit_value n).1 _ h2
  have ha : p.isAgg = true := by
    have : aggT Tryd.prog 50 = some true := by kernel_rfl
    rw [this] at h3; exact (Option.some.inj h3).symm
  have hp : p = encV c := by
    rw [hc]
    cases p <;> first | rfl | cases ha
  subst hp
  exact ⟨c, h1, hf, Nat.le_trans (flat_sz c) h4⟩
end
end Cps
