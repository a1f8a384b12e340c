/- AbBulk: steps, walks, laws: see the remarks within. -/
import Derived.Test.YtcggaaheaahinaaDoorAbArg
set_option linter.unusedSimpArgs false
set_option linter.unusedVariables false
-- What a law is handed, where its bulk is bounded: no greater than its reading.
namespace Ab
open Go

/-- How much a pure value holds. -/
def PV.sz : PV → Nat
  | .str l => l.length + 1
  | .sl es => szL es + 1
  | .agg cs => szL cs
  | _ => 1
where
  szL : List PV → Nat
  | [] => 0
  | p :: ps => PV.sz p + szL ps
theorem szL_sum : ∀ ps : List PV, PV.sz.szL ps = (ps.map PV.sz).sum
  | [] => rfl
  | p :: ps => by simp [PV.sz.szL, szL_sum ps]
theorem sz_str (l : List UInt8) : (PV.str l).sz = l.length + 1 := by rw [PV.sz]
theorem sz_sl (es : List PV) : (PV.sl es).sz = (es.map PV.sz).sum + 1 := by rw [PV.sz, szL_sum]
theorem sz_agg (es : List PV) : (PV.agg es).sz = (es.map PV.sz).sum := by rw [PV.sz, szL_sum]

/-- A reading's bulk. -/
structure Bulk {H : Type} (b : DataW H → Nat) (bs : List (DataW H) → Nat) : Prop where
  one : ∀ d, 1 ≤ b d
  str : ∀ s, b (.lit (.string s)) = s.length + 1
  sl : ∀ e s, b (.slice e s) = bs e + bs s + 1
  agg : ∀ l, b (.agg l) = bs l + 1
  nil : bs [] = 0
  cons : ∀ d l, bs (d :: l) = b d + bs l
theorem Bulk.sum {H : Type} {b : DataW H → Nat} {bs : List (DataW H) → Nat} (B : Bulk b bs) : ∀ l, bs l = (l.map b).sum
  | [] => B.nil
  | d :: l => by simp [B.cons, B.sum l]

section
variable {H : Type} {enc : TypeId × Value → H} {P : Program} {w : World} {held : Bool} {sp : Nat → Bool}

/-- Parts, one behind the other. -/
theorem tile_okB {fit : TypeId → List PV → Prop} : ∀ (ts : List TypeId) (cs : List Value) (bs : List Nat), bs.length = ts.length → cs.length = (ts.map P.cellsOf).sum →
    (∀ (j : Nat) (t : TypeId) (b : Nat), ts[j]? = some t → bs[j]? = some b → ∃ ps, CellsAre w ps ((cs.drop ((ts.take j).map P.cellsOf).sum).take (P.cellsOf t)) ∧ fit t ps ∧ (ps.map PV.sz).sum ≤ b) → ∃ ps, CellsAre w ps cs ∧ tiles P fit ts ps ∧ (ps.map PV.sz).sum ≤ bs.sum
  | [], cs, bs, _, hl, _ => by
    have : cs = [] := by simpa using hl
    subst this
    exact ⟨[], ⟨rfl, by simp⟩, rfl, by simp⟩
  | _ :: _, _, [], hb, _, _ => by simp at hb
  | t :: ts, cs, b :: bs, hb, hl, h => by
    simp only [List.map_cons, List.sum_cons] at hl
    obtain ⟨ps, h1, h2, h3⟩ := h 0 t b (by simp) (by simp)
    simp only [List.take_zero, List.map_nil, List.sum_nil, List.drop_zero] at h1
    obtain ⟨qs, k1, k2, k3⟩ := tile_okB ts (cs.drop (P.cellsOf t)) bs (by simpa using hb) (by simp; omega) fun j u c hj hc => by
      obtain ⟨rs, r1, r2, r3⟩ := h (j + 1) u c (by simpa using hj) (by simpa using hc)
      refine ⟨rs, ?_, r2, r3⟩
      simp only [List.take_succ_cons, List.map_cons, List.sum_cons] at r1
      rw [List.drop_drop]
      exact r1
    have hlen : ps.length = P.cellsOf t := by rw [h1.1]; simp; omega
    refine ⟨ps ++ qs, ?_, ⟨?_, ?_⟩, by simp; omega⟩
    · have := h1.app k1
      rwa [List.take_append_drop] at this
    · rw [← hlen, List.take_left]
      exact h2
    · rw [← hlen, List.drop_left]
      exact k2

theorem trod_fitsB {bu : DataW H → Nat} {bs : List (DataW H) → Nat} (B : Bulk bu bs) (hl : laidOutB P = true) {S : List TypeId} (hS : closedS P S = true) : ∀ (n : Nat) (t : TypeId) (cs : List Value) (x : DataW H × List MemPlace), t ∈ S → DataW.trod enc P w 0 sp held n t cs = some x → ∃ ps, CellsAre w ps cs ∧ fits P n t ps ∧ (ps.map PV.sz).sum ≤ bu x.1 := by
  intro n
  induction n with
  | zero => intro t cs x _ h; simp [DataW.trod] at h
  | succ n ih =>
    intro t cs x ht h
    have hc := List.all_eq_true.1 hS t ht
    simp only [Bool.and_eq_true, decide_eq_true_eq] at hc
    obtain ⟨hrow, hc⟩ := hc
    cases hu : P.underlying t with
    | none => rw [hu] at hc; cases hc
    | some d =>
      rw [hu] at hc
      cases d <;> simp only [Bool.false_eq_true] at hc
      case bool =>
        obtain ⟨b, rfl, _⟩ := DataW.trod_bool hu h
        exact ⟨[.bool b], .one rfl (.bool b), by simp [fits, hu], by have := B.one x.1; simpa [PV.sz] using this⟩
      case int k =>
        obtain ⟨i, rfl, _, hw⟩ := DataW.trod_int hu h
        exact ⟨[.int k i], .one rfl (.int k i), by simp only [fits, hu]; exact ⟨i, rfl, hw⟩, by have := B.one x.1; simpa [PV.sz] using this⟩
      case float k =>
        obtain ⟨b, rfl, hw⟩ := trod_float hu h
        exact ⟨[.flt k b], .one rfl (.flt k b b (.inl rfl)), by simp only [fits, hu]; exact ⟨b, rfl, hw⟩, by have := B.one x.1; simpa [PV.sz] using this⟩
      case string =>
        obtain ⟨s, rfl, hxs, hs⟩ := DataW.trod_string hu h
        refine ⟨[.str s.data.toList], .one rfl ?_, by simp only [fits, hu]; exact ⟨_, rfl, by rw [Array.length_toList]; exact hs⟩, by rw [hxs]; simp [sz_str, B.str]⟩
        have := RP.str (m := immOf w) s.data.toList
        rwa [bytes_eta] at this
      case struct fs =>
        obtain ⟨xs, m, hm, hx1, hlen, hxs, hf⟩ := DataW.trod_struct hu h
        cases hm
        obtain ⟨k1, k2, k3⟩ := kid_struct hl hrow hu
        obtain ⟨ps, p1, p2, p3⟩ := tile_okB (P := P) (w := w) (fit := fits P n) (fs.toList.map (·.type)) cs (xs.map fun x => bu x.1) (by simp [hxs]) (by rw [hlen, k2, List.map_map]; rfl) fun j u bb hj hbb => by
          simp only [List.getElem?_map, Option.map_eq_some_iff] at hj
          obtain ⟨f, hj, rfl⟩ := hj
          have hx := hf j f (by simpa using hj)
          have hlt : j < xs.length := by rw [hxs]; have := (List.getElem?_eq_some_iff.1 hj).1; simpa using this
          rw [List.getElem?_eq_getElem hlt] at hx
          have hoff : (List.map P.cellsOf (List.take j (List.map (fun x => x.type) fs.toList))).sum = f.offset := by
            rw [k3 j f hj, ← List.map_take, List.map_map]; rfl
          rw [hoff]
          have hbb : bb = bu xs[j].1 := by rw [List.getElem?_map, List.getElem?_eq_getElem hlt] at hbb; exact (Option.some.inj hbb).symm
          rw [hbb]
          have hin : f.type ∈ S := by
            have := List.all_eq_true.1 hc f (List.mem_of_getElem? hj)
            simpa using this
          exact ih f.type _ _ hin hx
        exact ⟨ps, p1, by simp only [fits, hu]; exact p2, by rw [hx1, B.agg, B.sum, List.map_map]; exact Nat.le_succ_of_le p3⟩
      case array m e =>
        obtain ⟨xs, m', hm, hx1, hlen, hxs, hf⟩ := DataW.trod_array hu h
        cases hm
        obtain ⟨k1, k2⟩ := kid_array hl hrow hu
        have hsum : ∀ k, (List.map P.cellsOf (List.replicate k e)).sum = k * P.cellsOf e := by intro k; simp
        obtain ⟨ps, p1, p2, p3⟩ := tile_okB (P := P) (w := w) (fit := fits P n) (List.replicate m e) cs (xs.map fun x => bu x.1) (by simp [hxs]) (by rw [hlen, k2, hsum]) fun j u bb hj hbb => by
          rw [List.getElem?_replicate] at hj
          split at hj
          case isFalse => cases hj
          rename_i hjm
          cases hj
          have hx := hf j hjm
          rw [List.getElem?_eq_getElem (by omega)] at hx
          rw [List.take_replicate, Nat.min_eq_left (by omega), hsum]
          have hbb : bb = bu (xs[j]'(by omega)).1 := by rw [List.getElem?_map, List.getElem?_eq_getElem (by omega)] at hbb; exact (Option.some.inj hbb).symm
          rw [hbb]
          exact ih e _ _ (by simpa using hc) hx
        exact ⟨ps, p1, by simp only [fits, hu]; exact p2, by rw [hx1, B.agg, B.sum, List.map_map]; exact Nat.le_succ_of_le p3⟩
      case slice e =>
        simp only [Bool.and_eq_true, decide_eq_true_eq, Bool.or_eq_true, beq_iff_eq, List.contains_eq_mem] at hc
        obtain ⟨⟨he, hpos⟩, hag⟩ := hc
        rcases DataW.trod_slice hu h with ⟨rfl, _⟩ | ⟨a, len, cap, elems, rest, n', hn, rfl, hx1, _, hle, hmax, hlen, hel, _⟩
        · exact ⟨[.sl []], .one rfl (.sl0 none 0), by simp only [fits, hu]; exact ⟨[], rfl, by simp, by simp⟩, by have := B.one x.1; simpa [sz_sl] using this⟩
        cases hn
        rcases Nat.eq_zero_or_pos len with h0 | h0
        · subst h0
          exact ⟨[.sl []], .one rfl (.sl0 _ _), by simp only [fits, hu]; exact ⟨[], rfl, by simp, by simp⟩, by have := B.one x.1; simpa [sz_sl] using this⟩
        have each : ∀ i, i < len → ∃ ps : List PV, ps.length = P.cellsOf e ∧ (∀ (j : Nat) (p : PV), ps[j]? = some p → p.isCell = true ∧ ∃ v, w.cell? ((a.add (i * P.cellsOf e)).add j) = some v ∧ RP (immOf w) p v) ∧ fits P n e ps ∧ ∃ y, elems[i]? = some y ∧ (ps.map PV.sz).sum ≤ bu y.1 := by
          intro i hi
          have hx := hel i hi
          rw [List.getElem?_eq_getElem (by omega), Option.bind_eq_some_iff] at hx
          have hel' : elems[i]? = some (elems[i]'(by omega)) := List.getElem?_eq_getElem (by omega)
          obtain ⟨cs, h1, h2⟩ := hx
          obtain ⟨c1, c2⟩ := cells?_some h1
          obtain ⟨ps, p1, p2, p3⟩ := ih e cs _ he h2
          refine ⟨ps, by rw [p1.1, c1], fun j p hj => ?_, p2, _, hel', p3⟩
          have hlt := (List.getElem?_eq_some_iff.1 hj).1
          obtain ⟨q1, q2⟩ := p1.2 j p hj
          exact ⟨q1, _, c2 j (by rw [p1.1, c1] at hlt; exact hlt), q2⟩
        -- no spot
        have hspot : a.spot = none := by
          obtain ⟨ps, q1, q2, _, _⟩ := each 0 h0
          obtain ⟨p, hp⟩ : ∃ p, ps[0]? = some p := ⟨_, List.getElem?_eq_getElem (by omega)⟩
          obtain ⟨_, v, hv, _⟩ := q2 0 p hp
          simp only [Nat.zero_mul, Addr.add, if_true] at hv
          unfold World.cell? at hv
          split at hv
          · split at hv
            · cases hv
            · rename_i hs; simpa using hs
          · cases hv
        obtain ⟨b, o, s⟩ := a
        simp only at hspot
        subst hspot
        -- the elements
        have build : ∀ k, k ≤ len → ∃ es : List PV, es.length = k ∧ (es.map PV.sz).sum ≤ ((elems.take k).map fun y => bu y.1).sum ∧ ∀ (i : Nat) (x : PV), es[i]? = some x → fits P n e x.cells ∧ aggT P e = some x.isAgg ∧ x.cells.length = P.cellsOf e ∧ (∀ c ∈ x.cells, c.isCell = true) ∧
            ∀ (j : Nat) (p : PV), x.cells[j]? = some p → ∃ v, w.cell? ⟨b, o + (i * P.cellsOf e + j), none⟩ = some v ∧ RP (immOf w) p v := by
          intro k
          induction k with
          | zero => intro _; exact ⟨[], rfl, by simp, by simp⟩
          | succ k ihk =>
            intro hk
            obtain ⟨es, e1, e3, e2⟩ := ihk (by omega)
            obtain ⟨ps, q1, q2, q3, ye, q4, q5⟩ := each k (by omega)
            have hcell : ∀ c ∈ ps, c.isCell = true := by
              intro c hcm
              obtain ⟨j, hj, rfl⟩ := List.mem_iff_getElem.1 hcm
              exact (q2 j _ (List.getElem?_eq_getElem hj)).1
            obtain ⟨y, y1, y2, y3⟩ : ∃ y : PV, y.cells = ps ∧ aggT P e = some y.isAgg ∧ y.sz = (ps.map PV.sz).sum := by
              rcases hag with hag | ⟨hag, hone⟩
              · exact ⟨.agg ps, rfl, by rw [hag]; rfl, sz_agg ps⟩
              · match ps, q1 with
                | [p], _ =>
                  have hp := hcell p (by simp)
                  exact ⟨p, (PV.one_cell hp).1, by rw [hag, (PV.one_cell hp).2], by simp⟩
                | [], q1 => simp at q1; omega
                | _ :: _ :: _, q1 => simp at q1; omega
            refine ⟨es ++ [y], by simp [e1], by rw [List.take_add_one, q4, List.map_append, List.map_append, List.sum_append, List.sum_append]; simp only [Option.toList_some, List.map_cons, List.map_nil, List.sum_cons, List.sum_nil, y3]; omega, fun i x hx => ?_⟩
            rcases Nat.lt_or_ge i es.length with hlt | hge
            · rw [List.getElem?_append_left hlt] at hx
              exact e2 i x hx
            · rw [List.getElem?_append_right hge] at hx
              have hi : i = k := by
                have := (List.getElem?_eq_some_iff.1 hx).1
                simp at this
                omega
              subst hi
              rw [e1, Nat.sub_self] at hx
              simp at hx
              subst hx
              rw [y1]
              refine ⟨q3, y2, q1, hcell, fun j p hp => ?_⟩
              obtain ⟨_, v, hv, hr⟩ := q2 j p hp
              refine ⟨v, ?_, hr⟩
              rw [add_eq, add_eq] at hv
              rwa [← Nat.add_assoc]
        obtain ⟨es, e1, e3, e2⟩ := build len (Nat.le_refl _)
        have em : ∀ x ∈ es, ∃ i, es[i]? = some x := fun x hx => by
          obtain ⟨i, hi, rfl⟩ := List.mem_iff_getElem.1 hx
          exact ⟨i, List.getElem?_eq_getElem hi⟩
        have hsz : ∀ x ∈ es, x.cells.length = P.cellsOf e := fun x hx => by obtain ⟨i, hi⟩ := em x hx; exact (e2 i x hi).2.2.1
        have hcell : ∀ x ∈ es, ∀ c ∈ x.cells, c.isCell = true := fun x hx => by obtain ⟨i, hi⟩ := em x hx; exact (e2 i x hi).2.2.2.1
        have hflat : ∀ (j : Nat) (c : PV), (es.flatMap PV.cells)[j]? = some c → ∃ v, w.cell? ⟨b, o + j, none⟩ = some v ∧ RP (immOf w) c v := by
          intro j c hj
          have hlt := (List.getElem?_eq_some_iff.1 hj).1
          rw [flatMap_length hsz] at hlt
          have hq : j / P.cellsOf e < es.length := (Nat.div_lt_iff_lt_mul hpos).2 hlt
          have hm : j % P.cellsOf e < P.cellsOf e := Nat.mod_lt _ hpos
          have hd : j / P.cellsOf e * P.cellsOf e + j % P.cellsOf e = j := by rw [Nat.mul_comm]; exact Nat.div_add_mod j _
          have g1 := flatMap_get hsz (List.getElem?_eq_getElem hq) hm
          rw [hd, hj] at g1
          obtain ⟨v, h1, h2⟩ := (e2 _ _ (List.getElem?_eq_getElem hq)).2.2.2.2 _ c g1.symm
          rw [hd] at h1
          exact ⟨v, h1, h2⟩
        refine ⟨[.sl es], .one rfl ?_, by simp only [fits, hu]; exact ⟨es, rfl, by omega, fun x hx => by obtain ⟨i, hi⟩ := em x hx; exact ⟨(e2 i x hi).1, (e2 i x hi).2.1⟩⟩, by
          rw [hx1, B.sl, B.sum (elems.map _), List.map_map]
          rw [List.take_of_length_le (by omega)] at e3
          simp only [List.map_cons, List.map_nil, List.sum_cons, List.sum_nil, sz_sl]
          have e3' : (es.map PV.sz).sum ≤ (elems.map (bu ∘ fun x => x.1)).sum := e3
          omega⟩
        have := RP.sl (m := immOf w) es b o cap (P.cellsOf e) (fun j => (w.cell? ⟨b, o + j, none⟩).getD undef) hsz hcell (by omega) (fun j c hj => by
          obtain ⟨v, h1, _⟩ := hflat j c hj
          simp [immOf, h1]) (fun j c hj => by
          obtain ⟨v, h1, h2⟩ := hflat j c hj
          simpa [h1] using h2)
        rwa [e1] at this

/-- An argument. -/
theorem arg_fitsB {bu : DataW H → Nat} {bs : List (DataW H) → Nat} (B : Bulk bu bs) (hl : laidOutB P = true) {S : List TypeId} (hS : closedS P S = true) {t : TypeId} (ht : t ∈ S) {v : Value} {d : DataW H} {ps : List MemPlace} (h : DataW.Trod enc P w 0 sp held t v d ps) (hok : Value.okWide P w .any 0 t v) :
    ∃ p n, RP (immOf w) p v ∧ fits P n t p.cells ∧ aggT P t = some p.isAgg ∧ p.sz ≤ bu d := by
  obtain ⟨n, h⟩ := h
  obtain ⟨qs, k1, k2, k3⟩ := trod_fitsB B hl hS n t _ _ ht h
  have hc := List.all_eq_true.1 hS t ht
  simp only [Bool.and_eq_true, decide_eq_true_eq] at hc
  obtain ⟨_, hc⟩ := hc
  have aggCase : (∃ cs, v = .agg cs) → aggT P t = some true → ∃ p n, RP (immOf w) p v ∧ fits P n t p.cells ∧ aggT P t = some p.isAgg ∧ p.sz ≤ bu d := by
    rintro ⟨cs, rfl⟩ ha
    refine ⟨.agg qs, n, .agg qs cs (fun c hcm => ?_) (by have := k1.1; simp [Value.cells] at this; omega) (fun j c hj => ?_), k2, by rw [ha]; rfl, by rw [sz_agg]; exact k3⟩
    · obtain ⟨j, hj, rfl⟩ := List.mem_iff_getElem.1 hcm
      exact (k1.2 j _ (List.getElem?_eq_getElem hj)).1
    · have := (k1.2 j c hj).2
      simpa [Value.cells] using this
  have oneCase : v.cells.toList = [v] → aggT P t = some false → ∃ p n, RP (immOf w) p v ∧ fits P n t p.cells ∧ aggT P t = some p.isAgg ∧ p.sz ≤ bu d := by
    intro hv ha
    rw [hv] at k1
    match qs, k1, k2, k3 with
    | [p], k1, k2, k3 =>
      obtain ⟨g1, g2⟩ := k1.2 0 p (by simp)
      exact ⟨p, n, by simpa using g2, by rw [(PV.one_cell g1).1]; exact k2, by rw [ha, (PV.one_cell g1).2], by simpa using k3⟩
    | [], k1, _, _ => exact absurd k1.1 (by simp)
    | _ :: _ :: _, k1, _, _ => exact absurd k1.1 (by simp)
  cases hu : P.underlying t with
  | none => rw [hu] at hc; cases hc
  | some dd =>
    rw [hu] at hc
    simp only [Value.okWide, hu] at hok
    cases dd <;> simp only [Bool.false_eq_true] at hc
    case struct fs => obtain ⟨cs, e, _⟩ := hok; exact aggCase ⟨cs, e⟩ (by simp [aggT, hu, aggD])
    case array m e => obtain ⟨cs, e, _⟩ := hok; exact aggCase ⟨cs, e⟩ (by simp [aggT, hu, aggD])
    case int k => exact oneCase (cells_one hu (.inl ⟨k, rfl⟩) hok) (by simp [aggT, hu, aggD])
    case bool => exact oneCase (cells_one hu (.inr (.inl rfl)) hok) (by simp [aggT, hu, aggD])
    case float k => exact oneCase (cells_one hu (.inr (.inr (.inl ⟨k, rfl⟩))) hok) (by simp [aggT, hu, aggD])
    case string => exact oneCase (cells_one hu (.inr (.inr (.inr (.inl rfl)))) hok) (by simp [aggT, hu, aggD])
    case slice e => exact oneCase (cells_one hu (.inr (.inr (.inr (.inr ⟨e, rfl⟩)))) hok) (by simp [aggT, hu, aggD])

end
end Ab
