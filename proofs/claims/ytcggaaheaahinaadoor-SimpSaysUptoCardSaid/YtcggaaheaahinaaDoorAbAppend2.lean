/- append, all its ways. -/
import Derived.Test.YtcggaaheaahinaaDoorAbAppend
namespace Ab
open Go


variable {P : Program} {m : Imm} {ρ : Rho}

section
variable {a : Act} {ts : List V} {h : Heap} {w : World} {o : Oper}

/-- The elements of a slice that has grown. -/
theorem grow_pure {es : List PV} {ps : List PV} {B off sz n cap : Nat} {ag : Bool} {f : Nat → Value} (hor : ag = true ∨ sz = 1) (hsz : ∀ e ∈ es, e.cells.length = sz) (hcell : ∀ e ∈ es, ∀ c ∈ e.cells, c.isCell = true) (hpl : ps.length = n * sz) (hcap : es.length + n ≤ cap)
    (h1 : ∀ (j : Nat) (c : PV), (es.flatMap PV.cells)[j]? = some c → m B (off + j) = some (f j) ∧ RP m c (f j))
    (h2 : ∀ (j : Nat) (p : PV), ps[j]? = some p → p.isCell = true ∧ m B (off + (es.length * sz + j)) = some (f (es.length * sz + j)) ∧ RP m p (f (es.length * sz + j))) :
    RP m (.sl (es ++ (chunks sz n ps).map (mkPV ag))) (.slice (some ⟨B, off, none⟩) (es.length + n) cap) ∧ (∀ e ∈ es ++ (chunks sz n ps).map (mkPV ag), e.cells.length = sz) := by
  obtain ⟨g1, g2, g3⟩ := elems_flat hor hpl fun c hc => by obtain ⟨j, hj⟩ := List.getElem?_of_mem hc; exact (h2 j c hj).1
  have hall : ∀ e ∈ es ++ (chunks sz n ps).map (mkPV ag), e.cells.length = sz := by
    intro e he
    rcases List.mem_append.1 he with he | he
    · exact hsz e he
    · exact g2 e he
  have hlen : (es ++ (chunks sz n ps).map (mkPV ag)).length = es.length + n := by simp [chunks_length]
  have hfl := flatMap_length hsz
  have key : ∀ (j : Nat) (c : PV), ((es ++ (chunks sz n ps).map (mkPV ag)).flatMap PV.cells)[j]? = some c → m B (off + j) = some (f j) ∧ RP m c (f j) := by
    intro j c hj
    rw [List.flatMap_append, g1] at hj
    by_cases hlt : j < es.length * sz
    · rw [List.getElem?_append_left (by omega)] at hj
      exact h1 j c hj
    · rw [List.getElem?_append_right (by omega), hfl] at hj
      have := h2 _ c hj
      rw [show es.length * sz + (j - es.length * sz) = j by omega] at this
      exact this.2
  have := RP.sl (m := m) (es ++ (chunks sz n ps).map (mkPV ag)) B off cap sz f hall (fun e he => by
    rcases List.mem_append.1 he with he | he
    · exact hcell e he
    · exact g3 e he) (by omega) (fun j c hj => (key j c hj).1) (fun j c hj => (key j c hj).2)
  rw [hlen] at this
  exact ⟨this, hall⟩

theorem exec_append {c : Call} {x y : Operand} {t u : TypeId} (ho : o.op = .call c) (hc : c.callee = .builtin .append) (ha : c.args.toList = [x, y]) (ht : c.argTypes.toList = [t, u]) {cv : Value} {w' : World}
    (hr : (Builtin.append_ #[t, u] o.type #[a.eval x, a.eval y]).run P w = .ok cv w') : (execOp a.eval o).run P w = .ok (.value cv) w' := by
  have h1 : c.args = #[x, y] := by rw [← Array.toArray_toList (xs := c.args), ha]
  have h2 : c.argTypes = #[t, u] := by rw [← Array.toArray_toList (xs := c.argTypes), ht]
  simp only [execOp, ho, resolve, hc, h1, h2, Sem.run_bind, Sem.run_pure, Result.andThen_ok, invoke, builtin]
  simp only [List.map_toArray, List.map_cons, List.map_nil]
  rw [hr]
  simp

/-- What is known at an append. -/
structure App (P : Program) (t u e : TypeId) (i : TypeInfo) (zv : Value) (sz by_ : Nat) : Prop where
  slice : P.underlying t = some (.slice e)
  info : P.info? e = some i
  zero : i.zero = some zv
  size : i.size = sz
  zsize : zv.cells.size = sz
  pos : 0 < sz
  bytes : i.bytes = by_
  bpos : 0 < by_
  src : ∃ du, P.underlying u = some du ∧ ∀ k, du ≠ .int k

theorem cells_app {f0 f1 : Nat → Value} {l0 l1 : Nat} {rest : Array Value} (j : Nat) :
    (((List.range l0).map f0).toArray ++ ((List.range l1).map f1).toArray ++ rest).getD j undef = if j < l0 then f0 j else if j < l0 + l1 then f1 (j - l0) else rest.getD (j - (l0 + l1)) undef := by
  simp only [Array.getD_eq_getD_getElem?]
  by_cases h0 : j < l0
  · rw [if_pos h0, Array.append_assoc, Array.getElem?_append_left (by simpa using h0)]
    simp [h0]
  · rw [if_neg h0]
    by_cases h1 : j < l0 + l1
    · rw [if_pos h1, Array.append_assoc, Array.getElem?_append_right (by simp; omega), Array.getElem?_append_left (by simp; omega)]
      simp [show j - l0 < l1 by omega]
    · rw [if_neg h1, Array.getElem?_append_right (by simp; omega)]
      simp

theorem zeroCells_size (z : Array Value) (n : Nat) : (Builtin.zeroCells z n).size = n * z.size := by simp [Builtin.zeroCells]

variable {t u e : TypeId} {i : TypeInfo} {zv : Value} {sz by_ : Nat}

/-- A pure slice grows into new memory. -/
theorem append_pure_new [Base] (AP : App P t u e i zv sz by_) {h1 : Heap} (hs : Sim m ρ (ent h1) w) (hf : ρ h1.length = none) {ag : Bool} {es : List PV} {base : Option Addr} {sCap n : Nat} {cy : Value} {new : List V} {ps : List PV} {f1 : Nat → Value}
    (hor : ag = true ∨ sz = 1) (hp : RP m (.sl es) (.slice base es.length sCap)) (hst : strideOk sz es = true) (hcap : sCap < es.length + n) (hg : (es.length + n) * by_ ≤ growMax)
    (hnew : new.length = n * sz) (_hn0 : n ≠ 0) (hps : weak.weakL new = some ps) (hf1 : ∀ (j : Nat) (c : V), new[j]? = some c → c.isCell = true ∧ R m ρ c (f1 j)) (hl : (Builtin.lenOf cy).run P w = .ok n w)
    (hfc : ∀ w1 : World, w1.heap = w.heap → (Builtin.firstCells i.size n cy).run P w1 = .ok ((List.range (n * sz)).map f1).toArray w1) {ty : TypeId} :
    ∃ cv w' m' ρ', (Builtin.append_ #[t, u] ty #[.slice base es.length sCap, cy]).run P w = .ok cv w' ∧ R m' ρ' (.slt (es ++ (chunks sz n ps).map (mkPV ag)) h1.length) cv ∧ Sim m' ρ' (ent (h1 ++ [.tok])) w' ∧
      Step (ent h1) (ent (h1 ++ [.tok])) h1.length (h1 ++ [Ent.tok]).length m ρ w m' ρ' w' := by
  obtain ⟨du, hu, hdu⟩ := AP.src
  -- the old elements
  obtain ⟨f0, hold⟩ : ∃ f0 : Nat → Value, (∀ (j : Nat) (c : PV), (es.flatMap PV.cells)[j]? = some c → RP m c (f0 j)) ∧ (∀ w1 : World, w1.heap = w.heap → (Builtin.firstCells i.size es.length (.slice base es.length sCap)).run P w1 = .ok ((List.range (es.length * sz)).map f0).toArray w1) ∧
      (∀ e ∈ es, e.cells.length = sz) ∧ (∀ e ∈ es, ∀ c ∈ e.cells, c.isCell = true) := by
    obtain ⟨ad, cap, heq, _, hh⟩ := hp.sl_inv
    cases heq
    rcases hh with rfl | ⟨b, off, sz', f, rfl, hsz, hcell, hff⟩
    · refine ⟨fun _ => undef, by simp, fun w1 hw => ?_, by simp, by simp⟩
      cases base <;> simp [Builtin.firstCells, loadCells, loadCellsFrom]
    · by_cases hne : es = []
      · subst hne
        refine ⟨fun _ => undef, by simp, fun w1 hw => ?_, by simp, by simp⟩
        simp [Builtin.firstCells, loadCells, loadCellsFrom]
      · have := stride_ok hst hsz hne
        subst this
        refine ⟨f, fun j c hj => (hff j c hj).2, fun w1 hw => ?_, hsz, hcell⟩
        simp only [Builtin.firstCells]
        rw [AP.size]
        refine run_loadCells w1 _ _ f fun j hj => ?_
        rw [add_eq, cell_heap hw]
        have hlt : j < (es.flatMap PV.cells).length := by rw [flatMap_length hsz]; exact hj
        exact hs.imm _ _ _ (hff j _ (List.getElem?_eq_getElem hlt)).1
  obtain ⟨ho1, ho2, ho3, ho4⟩ := hold
  have hrun := run_append_new (ty := ty) AP.slice AP.info AP.zero hu hdu w base es.length sCap n cy _ _ hcap (by rw [AP.bytes]; exact AP.bpos) (by rw [AP.bytes]; exact hg) hl ho2 hfc
  generalize hN : capOf w (es.length + n) sCap e = N at hrun
  have hNle : es.length + n ≤ N := by rw [← hN]; exact capOf_le _ _ _ _
  generalize hC : ((List.range (es.length * sz)).map f0).toArray ++ ((List.range (n * sz)).map f1).toArray ++ Builtin.zeroCells zv.cells (N - (es.length + n)) = C at hrun
  have hCs : C.size = N * sz := by
    rw [← hC]
    simp only [Array.size_append, List.size_toArray, List.length_map, List.length_range, zeroCells_size, AP.zsize]
    rw [← Nat.add_mul, ← Nat.add_mul]
    congr 1
    omega
  have hCg : ∀ j, C.getD j undef = if j < es.length * sz then f0 j else if j < es.length * sz + n * sz then f1 (j - es.length * sz) else (Builtin.zeroCells zv.cells (N - (es.length + n))).getD (j - (es.length * sz + n * sz)) undef := by
    intro j; rw [← hC]; exact cells_app j
  have hk : (es.length + n) * sz ≤ C.size := by rw [hCs]; exact Nat.mul_le_mul_right _ hNle
  have hs2 : Sim m ρ (ent h1) { w with drawn := w.drawn + 1 } := hs.congr rfl fun _ => rfl
  obtain ⟨s1, s2⟩ := hs2.allocTok hf C e ((es.length + n) * sz) hk
  obtain ⟨w1, w2⟩ := weakL_ok (m := m) (ρ := ρ) hps
  have hsl : strideOk sz es = true := hst
  obtain ⟨g1, g2⟩ := grow_pure (m := m.fill w.heap.size 0 ((es.length + n) * sz) (C.getD · undef)) (es := es) (ps := ps) (B := w.heap.size) (off := 0) (n := n) (cap := N) (f := (C.getD · undef)) hor ho3 ho4 (by omega) hNle
    (fun j c hj => by
      have hlt : j < es.length * sz := by rw [← flatMap_length ho3]; exact (List.getElem?_eq_some_iff.1 hj).1
      refine ⟨?_, ?_⟩
      · simp only [Imm.fill, Nat.zero_add]
        rw [if_pos ⟨trivial, Nat.zero_le _, by rw [Nat.add_mul]; omega⟩]
      · have e1 := hCg j
        rw [if_pos hlt] at e1
        show RP _ c (C.getD j undef)
        rw [e1]
        exact (ho1 j c hj).mono s2.imm)
    (fun j p hj => by
      have hlt : j < n * sz := by have := (List.getElem?_eq_some_iff.1 hj).1; omega
      have hcn : new[j]? = some new[j] := List.getElem?_eq_getElem (by omega)
      obtain ⟨q1, q2⟩ := w2 j _ p hcn hj
      obtain ⟨q3, q4⟩ := hf1 j _ hcn
      refine ⟨q1 q3, ?_, ?_⟩
      · simp only [Imm.fill, Nat.zero_add]
        rw [if_pos ⟨trivial, Nat.zero_le _, by rw [Nat.add_mul]; omega⟩]
      · have e1 := hCg (es.length * sz + j)
        rw [if_neg (by omega), if_pos (by omega), show es.length * sz + j - es.length * sz = j by omega] at e1
        show RP _ p (C.getD (es.length * sz + j) undef)
        rw [e1]
        exact (q2 _ q4).mono s2.imm)
  have hlen : (es ++ (chunks sz n ps).map (mkPV ag)).length = es.length + n := by simp [chunks_length]
  refine ⟨_, _, _, _, hrun, ?_, s1, s2.congr rfl rfl rfl rfl rfl⟩
  have := R.slt (m := m.fill w.heap.size 0 ((es.length + n) * sz) (C.getD · undef)) (ρ := ρ.upd h1.length ⟨w.heap.size, C.size, (es.length + n) * sz⟩) (es ++ (chunks sz n ps).map (mkPV ag)) h1.length w.heap.size 0 N sz ⟨w.heap.size, C.size, (es.length + n) * sz⟩
    (by intro e0; rw [e0] at hlen; simp at hlen; omega) (by rw [hlen]; exact g1) (by omega) g2 (upd_self _ _ _) rfl (by rw [hlen]; simp) (by simp; omega)
  rw [hlen] at this
  exact this

/-- A slice with a right to its tail grows in place. -/
theorem append_tok_room [Base] (AP : App P t u e i zv sz by_) (hs : Sim m ρ (ent h) w) (hf : ρ h.length = none) {ag : Bool} {es : List PV} {tok b off sCap n : Nat} {cy : Value} {new : List V} {ps : List PV} {f1 : Nat → Value} {loc : Loc} {sz' : Nat}
    (hor : ag = true ∨ sz = 1) (hne : es ≠ []) (hp : RP m (.sl es) (.slice (some ⟨b, off, none⟩) es.length sCap)) (hst : strideOk sz es = true) (htok : ent h tok = .tok) (hsz' : ∀ e ∈ es, e.cells.length = sz') (hloc : ρ tok = some loc) (hb : loc.blk = b) (hlo : loc.lo = off + es.length * sz')
    (hroom : off + sCap * sz' ≤ loc.size) (hcap : es.length + n ≤ sCap)
    (hnew : new.length = n * sz) (hps : weak.weakL new = some ps) (hf1 : ∀ (j : Nat) (c : V), new[j]? = some c → c.isCell = true ∧ R m ρ c (f1 j)) (hl : (Builtin.lenOf cy).run P w = .ok n w)
    (hfc : (Builtin.firstCells i.size n cy).run P w = .ok ((List.range (n * sz)).map f1).toArray w) {ty : TypeId} :
    ∃ cv w' m' ρ', (Builtin.append_ #[t, u] ty #[.slice (some ⟨b, off, none⟩) es.length sCap, cy]).run P w = .ok cv w' ∧ R m' ρ' (.slt (es ++ (chunks sz n ps).map (mkPV ag)) h.length) cv ∧ Sim m' ρ' (ent (h.set tok .dead ++ [.tok])) w' ∧
      Step (ent h) (ent (h.set tok .dead ++ [.tok])) h.length (h.set tok Ent.dead ++ [Ent.tok]).length m ρ w m' ρ' w' := by
  obtain ⟨du, hu, hdu⟩ := AP.src
  have := stride_ok hst hsz' hne
  subst this
  subst hb
  obtain ⟨l, c, e0, fz, q1, q2, q3, q4, q5⟩ := hs.tok tok htok
  rw [hloc] at q1; cases q1
  have hle := Nat.mul_le_mul_right sz' hcap
  rw [Nat.add_mul] at hle
  have hone : ∀ y ∈ ((List.range (n * sz')).map f1).toArray.toList, y.oneCell' = true := by
    intro y hy
    simp only [List.mem_map, List.mem_range] at hy
    obtain ⟨j, hj, rfl⟩ := hy
    have hc : new[j]? = some new[j] := List.getElem?_eq_getElem (by omega)
    exact one_of (hf1 j _ hc).2 (hf1 j _ hc).1
  obtain ⟨c', r1, r2, r3⟩ := run_storeCells (P := P) loc.blk (off + es.length * sz') e0 fz ((List.range (n * sz')).map f1).toArray.toList 0 c w q2 q4 (by simp; omega) hone
  have hrun := run_append_room (ty := ty) AP.slice AP.info hu hdu w _ loc.blk off es.length sCap n cy _ hcap hl hfc (by rw [AP.size]; exact r1)
  have hbl := lt_of_heap q2
  simp only [List.length_map, List.length_range, Nat.add_zero] at r3
  have r3' : ∀ j, c'.getD j undef = if off + es.length * sz' ≤ j ∧ j < off + es.length * sz' + n * sz' then f1 (j - (off + es.length * sz')) else c.getD j undef := by
    intro j
    rw [r3 j]
    split
    · rename_i hj
      simp [List.getD, show j - (off + es.length * sz') < n * sz' by omega]
    · rfl
  have mle : m.le (m.fill loc.blk (off + es.length * sz') (off + (es.length + n) * sz') (c'.getD · undef)) := Imm.fill_le fun o ho _ => q5 o (by omega)
  obtain ⟨s1, s2⟩ := hs.move (id := tok) (by rw [htok]; simp [live]) hloc (w' := { w with heap := w.heap.setIfInBounds loc.blk (.cells c' e0 fz) }) (heap_set hbl) (by omega) (by rw [r2]; exact q4)
    (fun k hk => by simp [Ne.symm hk]) (by simp) rfl rfl rfl (m' := m.fill loc.blk (off + es.length * sz') (off + (es.length + n) * sz') (c'.getD · undef)) mle
    (fun b o hb => by simp only [Imm.fill]; rw [if_neg]; exact fun hh => hb hh.1)
    (fun o v hv => by
      simp only [Imm.fill] at hv
      split at hv
      · rename_i h1
        cases hv
        have : o < c'.size := by rw [Nat.add_mul] at h1; omega
        simp [World.cell?, hbl, this]
      · rename_i h1
        have hold := hs.imm _ _ _ hv
        have holt : o < loc.lo := by
          rcases Nat.lt_or_ge o loc.lo with h | h
          · exact h
          · rw [q5 o h] at hv; simp at hv
        simp only [World.cell?, q2] at hold
        have hlt : o < c.size := by
          simp at hold
          exact (Array.getElem?_eq_some_iff.1 hold).1
        have := r3' o
        rw [if_neg (by omega)] at this
        simp only [World.cell?, heap_set hbl]
        simp at hold ⊢
        rw [Array.getElem?_eq_getElem (by omega)]
        rw [Array.getElem?_eq_getElem hlt] at hold
        simp [Array.getD_eq_getD_getElem?, hlt, show o < c'.size by omega] at this
        rw [this]; exact hold)
    .tok (off + (es.length + n) * sz') hf (.inr ⟨rfl, fun o ho => by
      simp only [Imm.fill]
      rw [if_neg (by omega)]
      exact q5 o (by rw [Nat.add_mul] at ho; omega)⟩)
  obtain ⟨w1, w2⟩ := weakL_ok (m := m) (ρ := ρ) hps
  obtain ⟨ad, cap0, heq, _, hh⟩ := hp.sl_inv
  cases heq
  rcases hh with h0 | ⟨b0, off0, sz0, f0, heq0, hsz0, hcell0, hf0⟩
  · exact absurd h0 hne
  cases heq0
  have hfl := flatMap_length hsz'
  obtain ⟨g1, g2⟩ := grow_pure (m := m.fill loc.blk (off + es.length * sz') (off + (es.length + n) * sz') (c'.getD · undef)) (es := es) (ps := ps) (B := loc.blk) (off := off) (n := n) (cap := sCap) (f := fun j => c'.getD (off + j) undef) hor hsz' hcell0 (by omega) hcap
    (fun j x hj => by
      have hlt : j < es.length * sz' := by rw [← hfl]; exact (List.getElem?_eq_some_iff.1 hj).1
      have k1 := (hf0 j x hj).1
      have k2 := hs.imm _ _ _ k1
      have hval : c'.getD (off + j) undef = f0 j := by
        rw [r3' (off + j), if_neg (by omega)]
        simp only [World.cell?, q2] at k2
        simp at k2
        simp [Array.getD_eq_getD_getElem?, k2]
      refine ⟨?_, ?_⟩
      · have := mle _ _ _ k1
        rw [this]
        show some (f0 j) = some (c'.getD (off + j) undef)
        rw [hval]
      · show RP _ x (c'.getD (off + j) undef)
        rw [hval]
        exact (hf0 j x hj).2.mono mle)
    (fun j p hj => by
      have hlt : j < n * sz' := by have := (List.getElem?_eq_some_iff.1 hj).1; omega
      have hcn : new[j]? = some new[j] := List.getElem?_eq_getElem (by omega)
      obtain ⟨g3, g4⟩ := w2 j _ p hcn hj
      obtain ⟨g5, g6⟩ := hf1 j _ hcn
      refine ⟨g3 g5, ?_, ?_⟩
      · simp only [Imm.fill]
        rw [if_pos ⟨trivial, by omega, by rw [Nat.add_mul]; omega⟩]
      · have e1 := r3' (off + (es.length * sz' + j))
        rw [if_pos (by omega), show off + (es.length * sz' + j) - (off + es.length * sz') = j by omega] at e1
        show RP _ p (c'.getD (off + (es.length * sz' + j)) undef)
        rw [e1]
        exact (g4 _ g6).mono mle)
  have hlen : (es ++ (chunks sz' n ps).map (mkPV ag)).length = es.length + n := by simp [chunks_length]
  refine ⟨_, _, _, _, hrun, ?_, s1, s2⟩
  have := R.slt (m := m.fill loc.blk (off + es.length * sz') (off + (es.length + n) * sz') (c'.getD · undef)) (ρ := ρ.upd h.length ⟨loc.blk, loc.size, off + (es.length + n) * sz'⟩) (es ++ (chunks sz' n ps).map (mkPV ag)) h.length loc.blk off sCap sz' ⟨loc.blk, loc.size, off + (es.length + n) * sz'⟩
    (by simp [hne]) (by rw [hlen]; exact g1) (by omega) g2 (upd_self _ _ _) rfl (by rw [hlen]) hroom
  rw [hlen] at this
  exact this

/-- A block of the function's own grows. -/
theorem append_sln [Base] (AP : App P t u e i zv sz by_) (hs : Sim m ρ (ent h) w) (hf : ρ h.length = none) {ag : Bool} {id len n : Nat} {cx cy : Value} {cs new : List V} {t0 : Option TypeId} {f1 : Nat → Value}
    (hid : ent h id = .blk cs t0) (hx : R m ρ (.sln id 0 len sz ag) cx) (hcs : cs.length = len * sz) (hg : (len + n) * by_ ≤ growMax)
    (hnew : new.length = n * sz) (hf1 : ∀ (j : Nat) (c : V), new[j]? = some c → c.isCell = true ∧ R m ρ c (f1 j)) (hl : (Builtin.lenOf cy).run P w = .ok n w)
    (hfc : ∀ w1 : World, w1.heap = w.heap → (Builtin.firstCells i.size n cy).run P w1 = .ok ((List.range (n * sz)).map f1).toArray w1) {ty : TypeId} :
    ∃ cv w' ρ', (Builtin.append_ #[t, u] ty #[cx, cy]).run P w = .ok cv w' ∧ R m ρ' (.sln h.length 0 (len + n) sz ag) cv ∧ Sim m ρ' (ent (h.set id .dead ++ [.blk (cs ++ new) (if t0 = some e then t0 else none)])) w' ∧
      Step (ent h) (ent (h.set id .dead ++ [.blk (cs ++ new) (if t0 = some e then t0 else none)])) h.length (h.set id Ent.dead ++ [Ent.blk (cs ++ new) (if t0 = some e then t0 else none)]).length m ρ w m ρ' w' := by
  obtain ⟨du, hu, hdu⟩ := AP.src
  obtain ⟨l, c, e0, fz, q1, qlo, q2, q3, q4, q5, q6, q7⟩ := hs.blk id cs hid
  have hbl := lt_of_heap q2
  cases hx with
  | sln _ _ _ _ _ loc cap hloc hcap hsize =>
    have hll : loc = l := Option.some.inj (hloc.symm.trans q1)
    subst hll
    by_cases hroom : len + n ≤ cap
    · have hle := Nat.mul_le_mul_right sz hroom
      rw [Nat.add_mul] at hle
      have hone : ∀ y ∈ ((List.range (n * sz)).map f1).toArray.toList, y.oneCell' = true := by
        intro y hy
        simp only [List.mem_map, List.mem_range] at hy
        obtain ⟨j, hj, rfl⟩ := hy
        have hc : new[j]? = some new[j] := List.getElem?_eq_getElem (by omega)
        exact one_of (hf1 j _ hc).2 (hf1 j _ hc).1
      obtain ⟨c', r1, r2, r3⟩ := run_storeCells (P := P) loc.blk (0 + len * sz) e0 fz ((List.range (n * sz)).map f1).toArray.toList 0 c w q2 q4 (by simp; omega) hone
      have hrun := run_append_room (ty := ty) AP.slice AP.info hu hdu w _ loc.blk 0 len cap n cy _ hroom hl (hfc w rfl) (by rw [AP.size]; exact r1)
      simp only [List.length_map, List.length_range, Nat.add_zero, Nat.zero_add] at r3
      obtain ⟨s1, s2⟩ := hs.move (id := id) (by rw [hid]; simp [live]) hloc (w' := { w with heap := w.heap.setIfInBounds loc.blk (.cells c' e0 fz) }) (heap_set hbl) (by omega) (by rw [r2]; exact q4)
        (fun k hk => by simp [Ne.symm hk]) (by simp) rfl rfl rfl (m' := m) (.refl m) (fun _ _ _ => rfl) (fun o v hv => by rw [q7 o] at hv; simp at hv) (.blk (cs ++ new) (if t0 = some e then t0 else none)) 0 hf
        (.inl ⟨_, _, rfl, ⟨rfl, fun x hx => by split at hx; exact qlo.2 x hx; cases hx⟩, by simp; omega, fun j v hj => by
          rw [r3 j]
          by_cases hlt : j < cs.length
          · rw [List.getElem?_append_left hlt] at hj
            rw [if_neg (by omega)]
            exact q6 j v hj
          · rw [List.getElem?_append_right (by omega), hcs] at hj
            have hjl : j - len * sz < new.length := (List.getElem?_eq_some_iff.1 hj).1
            rw [if_pos (by omega)]
            have := hf1 _ v hj
            simpa [List.getD, show j - len * sz < n * sz by omega] using this, q7⟩)
      exact ⟨_, _, ρ.upd h.length ⟨loc.blk, loc.size, 0⟩, hrun, .sln h.length 0 (len + n) sz ag ⟨loc.blk, loc.size, 0⟩ cap (upd_self _ _ _) hroom hsize, s1, s2⟩
    · have hfo : ∀ w1 : World, w1.heap = w.heap → (Builtin.firstCells i.size len (.slice (some ⟨loc.blk, 0, none⟩) len cap)).run P w1 = .ok ((List.range (len * sz)).map (c.getD · undef)).toArray w1 := by
        intro w1 hw
        simp only [Builtin.firstCells]
        rw [AP.size]
        refine run_loadCells w1 _ _ (c.getD · undef) fun j hj => ?_
        rw [add_eq, cell_heap hw]
        simp [World.cell?, q2, show j < c.size by omega]
      have hrun := run_append_new (ty := ty) AP.slice AP.info AP.zero hu hdu w (some ⟨loc.blk, 0, none⟩) len cap n cy _ _ (by omega) (by rw [AP.bytes]; exact AP.bpos) (by rw [AP.bytes]; exact hg) hl hfo hfc
      generalize hN : capOf w (len + n) cap e = N at hrun
      have hNle : len + n ≤ N := by rw [← hN]; exact capOf_le _ _ _ _
      generalize hC : ((List.range (len * sz)).map (c.getD · undef)).toArray ++ ((List.range (n * sz)).map f1).toArray ++ Builtin.zeroCells zv.cells (N - (len + n)) = C at hrun
      have hCs : C.size = N * sz := by
        rw [← hC]
        simp only [Array.size_append, List.size_toArray, List.length_map, List.length_range, zeroCells_size, AP.zsize]
        rw [← Nat.add_mul, ← Nat.add_mul]
        congr 1
        omega
      have hCg : ∀ j, C.getD j undef = if j < len * sz then c.getD j undef else if j < len * sz + n * sz then f1 (j - len * sz) else (Builtin.zeroCells zv.cells (N - (len + n))).getD (j - (len * sz + n * sz)) undef := by
        intro j; rw [← hC]; exact cells_app j
      have hk : (len + n) * sz ≤ C.size := by rw [hCs]; exact Nat.mul_le_mul_right _ hNle
      rw [Nat.add_mul] at hk
      have hs2 : Sim m ρ (ent (h.set id .dead)) { w with drawn := w.drawn + 1 } := (hs.kill id).congr rfl fun _ => rfl
      have hlen0 : (h.set id Ent.dead).length = h.length := by simp
      obtain ⟨s1, s2⟩ := hs2.alloc (by rw [hlen0]; exact hf) (cs ++ new) C e (if t0 = some e then t0 else none) (fun x hx => by split at hx; rename_i h0; rw [h0] at hx; cases hx; rfl; cases hx) (by simp; omega) (fun j v hj => by
        rw [hCg j]
        by_cases hlt : j < cs.length
        · rw [List.getElem?_append_left hlt] at hj
          rw [if_pos (by omega)]
          exact q6 j v hj
        · rw [List.getElem?_append_right (by omega), hcs] at hj
          have hjl : j - len * sz < new.length := (List.getElem?_eq_some_iff.1 hj).1
          rw [if_neg (by omega), if_pos (by omega)]
          exact hf1 _ v hj)
      rw [hlen0] at s1 s2
      have s3 := (Step.kill (m := m) (ρ := ρ) (h := h) (w := w) id).trans (s2.congr (w1 := w) (w2 := { w with drawn := w.drawn + 1, heap := w.heap.push (.cells C e (0, 0)) }) rfl rfl rfl rfl rfl) (Nat.le_refl _) (by simp)
      have hsz2 : 0 + N * sz ≤ (⟨w.heap.size, C.size, 0⟩ : Loc).size := by show 0 + N * sz ≤ C.size; omega
      exact ⟨_, _, ρ.upd h.length ⟨w.heap.size, C.size, 0⟩, hrun, .sln h.length 0 (len + n) sz ag ⟨w.heap.size, C.size, 0⟩ N (upd_self _ _ _) hNle hsz2, s1, s3⟩

end
end Ab
