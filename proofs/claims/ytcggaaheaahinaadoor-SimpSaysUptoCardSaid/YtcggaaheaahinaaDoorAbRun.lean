/- Runs of the model's small programs: loads and stores of whole values. -/
import Derived.Test.YtcggaaheaahinaaDoorAbSnap
import Derived.Laws.Cells
import Derived.Laws.Small
namespace Ab
open Go

variable {P : Program}

theorem run_info {t : TypeId} {i : TypeInfo} (h : P.info? t = some i) (w : World) : (typeInfo t).run P w = .ok i w := by
  simp [typeInfo, h]

theorem run_size {t : TypeId} {i : TypeInfo} (h : P.info? t = some i) (w : World) : (Go.sizeOf t).run P w = .ok i.size w := by
  simp [Go.sizeOf, run_info h]

def aggD : TypeDesc → Bool
  | .struct _ => true
  | .array _ _ => true
  | _ => false

theorem run_agg {t : TypeId} {d : TypeDesc} (h : P.underlying t = some d) (w : World) : (isAgg t).run P w = .ok (aggD d) w := by
  cases d <;> simp [isAgg, run_underlying h, aggD]

theorem add_eq (b o n : Nat) : (⟨b, o, none⟩ : Addr).add n = ⟨b, o + n, none⟩ := by
  unfold Addr.add
  split
  · rename_i h; subst h; rfl
  · rfl

/-- A whole value is read. -/
theorem run_loadVar {t : TypeId} {d : TypeDesc} {i : TypeInfo} (hd : P.underlying t = some d) (hi : P.info? t = some i) (w : World) (b o : Nat) (f : Nat → Value)
    (hc : ∀ j, j < (if aggD d then i.size else 1) → w.cell? ⟨b, o + j, none⟩ = some (f j)) :
    (loadVar t ⟨b, o, none⟩).run P w = .ok (if aggD d then .agg ((List.range i.size).map f).toArray else f 0) w := by
  unfold loadVar
  rw [Sem.run_bind, run_agg hd, Result.andThen_ok]
  cases ha : aggD d with
  | true =>
    simp only [ha, if_true] at hc
    simp only [if_true, Sem.run_bind, run_size hi, Result.andThen_ok]
    rw [run_loadCells w ⟨b, o, none⟩ i.size f (fun j hj => by rw [add_eq]; exact hc j hj)]
    simp
  | false =>
    simp only [ha] at hc
    have := hc 0 (by simp)
    simp only [Nat.add_zero] at this
    simp [run_load, this]

theorem setCell_eq {w : World} {b o : Nat} {c : Array Value} {e : TypeId} {fz : Nat × Nat} {v : Value} (h : w.heap[b]? = some (.cells c e fz)) :
    w.setCell ⟨b, o, none⟩ v = { w with heap := w.heap.setIfInBounds b (.cells (c.setIfInBounds o v) e fz) } := by
  have hb : b < w.heap.size := by
    rcases Nat.lt_or_ge b w.heap.size with h1 | h1
    · exact h1
    · rw [Array.getElem?_eq_none h1] at h; simp at h
  unfold World.setCell
  congr 1
  apply Array.ext_getElem?
  intro i
  simp only [Array.getElem?_modify, Array.getElem?_setIfInBounds]
  by_cases hi : b = i
  · subst hi
    rw [if_pos rfl, if_pos rfl, if_pos hb, h]
    simp
  · simp [hi]

theorem heap_set {w : World} {b : Nat} {o : Obj} (h : b < w.heap.size) : (w.heap.setIfInBounds b o)[b]? = some o := by
  simp [h]

theorem lt_of_heap {w : World} {b : Nat} {o : Obj} (h : w.heap[b]? = some o) : b < w.heap.size := by
  rcases Nat.lt_or_ge b w.heap.size with h1 | h1
  · exact h1
  · rw [Array.getElem?_eq_none h1] at h; simp at h

theorem run_storeCells (b off : Nat) (e : TypeId) (fz : Nat × Nat) : ∀ (vs : List Value) (i : Nat) (c : Array Value) (w : World), w.heap[b]? = some (.cells c e fz) → free fz c.size → off + i + vs.length ≤ c.size → (∀ v ∈ vs, v.oneCell' = true) →
    ∃ c', (storeCells ⟨b, off, none⟩ vs i).run P w = .ok () { w with heap := w.heap.setIfInBounds b (.cells c' e fz) } ∧ c'.size = c.size ∧
      ∀ j, c'.getD j undef = if off + i ≤ j ∧ j < off + i + vs.length then vs.getD (j - (off + i)) undef else c.getD j undef
  | [], i, c, w, h, _, _, _ => by
    refine ⟨c, ?_, rfl, fun j => by simp; omega⟩
    simp only [storeCells, Sem.run_pure]
    congr 1
    have hb := lt_of_heap h
    cases w
    congr 1
    apply Array.ext_getElem?
    intro k
    simp only [Array.getElem?_setIfInBounds]
    split
    · rename_i hk
      subst hk
      simp only at hb h
      exact h
    · rfl
  | v :: vs, i, c, w, h, hf, hl, ho => by
    simp only [List.length_cons] at hl
    have hb := lt_of_heap h
    have hcell : w.cell? ⟨b, off + i, none⟩ = some (c[off + i]'(by omega)) := by
      simp [World.cell?, h, show off + i < c.size by omega]
    have hfr : w.frozen? ⟨b, off + i, none⟩ = false := by
      have := hf.at (off + i) (by omega)
      simp only [World.frozen?, h]
      simpa using this
    have hw : w.setCell ⟨b, off + i, none⟩ v = { w with heap := w.heap.setIfInBounds b (.cells (c.setIfInBounds (off + i) v) e fz) } := setCell_eq h
    obtain ⟨c', r1, r2, r3⟩ := run_storeCells b off e fz vs (i + 1) (c.setIfInBounds (off + i) v) { w with heap := w.heap.setIfInBounds b (.cells (c.setIfInBounds (off + i) v) e fz) }
      (heap_set hb) (by simpa using hf) (by simp; omega) (fun x hx => ho x (by simp [hx]))
    refine ⟨c', ?_, by simpa using r2, fun j => ?_⟩
    · simp only [storeCells, Sem.run_bind, add_eq]
      rw [run_store P w _ v _ (ho v (by simp)), hcell]
      simp only [hfr, Bool.false_eq_true, if_false, Result.andThen_ok, hw]
      rw [r1]
      congr 2
      apply Array.ext_getElem?
      intro k
      simp only [Array.getElem?_setIfInBounds, Array.size_setIfInBounds]
      split
      · rfl
      · rfl
    · rw [r3 j]
      simp only [List.length_cons]
      by_cases hj : j = off + i
      · subst hj
        rw [if_neg (by omega), if_pos (by omega)]
        simp [show off + i < c.size by omega]
      · by_cases h1 : off + (i + 1) ≤ j ∧ j < off + (i + 1) + vs.length
        · rw [if_pos h1, if_pos (by omega)]
          rw [show j - (off + i) = (j - (off + (i + 1))) + 1 by omega]
          simp
        · rw [if_neg h1, if_neg (by omega)]
          simp [Array.getElem?_setIfInBounds_ne (Ne.symm hj)]

theorem run_storeVar {t : TypeId} {i : TypeInfo} (hi : P.info? t = some i) (b o : Nat) (e : TypeId) (fz : Nat × Nat) (v : Value) (c : Array Value) (w : World) (hv : v.cells.size = i.size)
    (h : w.heap[b]? = some (.cells c e fz)) (hf : free fz c.size) (hl : o + v.cells.size ≤ c.size) (ho : ∀ x ∈ v.cells.toList, x.oneCell' = true) :
    ∃ c', (storeVar t ⟨b, o, none⟩ v).run P w = .ok () { w with heap := w.heap.setIfInBounds b (.cells c' e fz) } ∧ c'.size = c.size ∧
      ∀ j, c'.getD j undef = if o ≤ j ∧ j < o + v.cells.size then v.cells.getD (j - o) undef else c.getD j undef := by
  obtain ⟨c', r1, r2, r3⟩ := run_storeCells (P := P) b o e fz v.cells.toList 0 c w h hf (by simpa using hl) ho
  refine ⟨c', ?_, r2, fun j => ?_⟩
  · unfold storeVar
    simp only [Sem.run_bind, run_size hi, Result.andThen_ok, hv, ne_eq, not_true, if_false]
    exact r1
  · rw [r3 j]
    simp only [Nat.add_zero, Array.length_toList]
    split
    · rename_i hj
      have : j - o < v.cells.size := by omega
      simp [List.getD, Array.getD, this]
    · rfl

end Ab
