/- append and copy. -/
import Derived.Test.YtcggaaheaahinaaDoorAbOps4
namespace Ab
open Go


variable {P : Program} {m : Imm} {ρ : Rho}

section
variable {a : Act} {ts : List V} {h : Heap} {w : World} {o : Oper}

theorem cell_heap {w w1 : World} (h : w1.heap = w.heap) (a : Addr) : w1.cell? a = w.cell? a := by simp [World.cell?, h]

/-- What an append or a copy reads of its second operand. -/
theorem src_ok [Base] {u : V} {n sz : Nat} {new : List V} {cx : Value} (hs : Sim m ρ (ent h) w) (h1 : lenA u = some n) (h2 : srcCells h sz u = some new) (hr : R m ρ u cx) :
    ∃ f : Nat → Value, new.length = n * sz ∧ (∀ (j : Nat) (c : V), new[j]? = some c → c.isCell = true ∧ R m ρ c (f j)) ∧ (∀ w1, (Builtin.lenOf cx).run P w1 = .ok n w1) ∧
      ∀ (w1 : World) (n' : Nat), w1.heap = w.heap → n' ≤ n → (Builtin.firstCells sz n' cx).run P w1 = .ok ((List.range (n' * sz)).map f).toArray w1 := by
  have pureCase : ∀ {es : List PV} {cx : Value}, RP m (.sl es) cx → lenA (.pv (.sl es)) = some n → (if strideOk sz es then some ((es.flatMap PV.cells).map V.pv) else none) = some new →
      ∃ f : Nat → Value, new.length = n * sz ∧ (∀ (j : Nat) (c : V), new[j]? = some c → c.isCell = true ∧ R m ρ c (f j)) ∧ (∀ w1, (Builtin.lenOf cx).run P w1 = .ok n w1) ∧
        ∀ (w1 : World) (n' : Nat), w1.heap = w.heap → n' ≤ n → (Builtin.firstCells sz n' cx).run P w1 = .ok ((List.range (n' * sz)).map f).toArray w1 := by
    intro es cx hp hlen hnew
    simp [lenA] at hlen
    subst hlen
    split at hnew
    · rename_i hst
      cases hnew
      obtain ⟨ad, cap, rfl, hcap, hor⟩ := hp.sl_inv
      rcases hor with rfl | ⟨b, o, sz', f, rfl, hsz, hcell, hf⟩
      · refine ⟨fun _ => undef, by simp, by simp, fun w1 => by simp [Builtin.lenOf], fun w1 n' hw hn => ?_⟩
        simp at hn
        subst hn
        cases ad <;> simp [Builtin.firstCells, loadCells, loadCellsFrom]
      · by_cases hne : es = []
        · subst hne
          refine ⟨fun _ => undef, by simp, by simp, fun w1 => by simp [Builtin.lenOf], fun w1 n' hw hn => ?_⟩
          simp at hn
          subst hn
          simp [Builtin.firstCells, loadCells, loadCellsFrom]
        · have := stride_ok hst hsz hne
          subst this
          have hfl := flatMap_length hsz
          refine ⟨f, by simpa using hfl, fun j c hj => ?_, fun w1 => by simp [Builtin.lenOf], fun w1 n' hw hn => ?_⟩
          · simp only [List.getElem?_map, Option.map_eq_some_iff] at hj
            obtain ⟨q, hq, rfl⟩ := hj
            refine ⟨?_, .pv _ _ (hf j q hq).2⟩
            obtain ⟨e, he, hqe⟩ := List.mem_flatMap.1 (List.mem_of_getElem? hq)
            exact hcell e he q hqe
          · simp only [Builtin.firstCells]
            refine run_loadCells w1 _ _ f fun j hj => ?_
            rw [add_eq, cell_heap hw]
            have hlt : j < (es.flatMap PV.cells).length := by rw [hfl]; exact Nat.lt_of_lt_of_le hj (Nat.mul_le_mul_right _ hn)
            exact hs.imm _ _ _ (hf j _ (List.getElem?_eq_getElem hlt)).1
    · simp at hnew
  cases hr with
  | pv p v hp =>
    cases p with
    | sl es => exact pureCase hp h1 h2
    | str s =>
      simp [lenA] at h1
      simp only [srcCells] at h2
      split at h2
      · rename_i hsz
        cases h2
        subst hsz; subst h1
        cases hp
        refine ⟨fun j => .int .u8 (s.getD j 0).toNat, by simp, fun j c hj => ?_, fun w1 => by simp [Builtin.lenOf, size_mk], fun w1 n' hw hn => ?_⟩
        · simp only [List.getElem?_map, Option.map_eq_some_iff] at hj
          obtain ⟨b, hb, rfl⟩ := hj
          exact ⟨rfl, by simp [List.getD, hb]; exact .pv _ _ (.int _ _)⟩
        · simp only [Builtin.firstCells, extract_mk, Sem.run_pure]
          congr 1
          apply Array.ext
          · simp; omega
          · intro j q1 q2
            simp at q1 q2
            simp [List.getD, show j < s.length by omega]
      · simp at h2
    | _ => simp [lenA] at h1
  | slt es tok b o cap sz' loc g1 g2 => exact pureCase g2 (by simpa [lenA] using h1) h2
  | slx es b o g => exact pureCase g (by simpa [lenA] using h1) h2
  | nils =>
    simp [lenA] at h1
    simp [srcCells] at h2
    subst h1 h2
    refine ⟨fun _ => undef, by simp, by simp, fun w1 => by simp [Builtin.lenOf], fun w1 n' hw hn => ?_⟩
    simp at hn
    subst hn
    simp [Builtin.firstCells]
  | sln id off len sz' ag loc cap hloc hcap hsize =>
    simp [lenA] at h1
    subst h1
    simp only [srcCells] at h2
    split at h2
    · rename_i hsz
      subst hsz
      split at h2
      · rename_i cs _ hid
        obtain ⟨l, c, e, fz, q1, _, q2, q3, q4, q5, q6, _⟩ := hs.blk id cs hid
        rw [hloc] at q1; cases q1
        obtain ⟨c1, c2, c3⟩ := cut_some h2
        refine ⟨fun j => c.getD (off + j) undef, c2, fun j x hj => ?_, fun w1 => by simp [Builtin.lenOf], fun w1 n' hw hn => ?_⟩
        · have hlt : j < len * sz' := by have := (List.getElem?_eq_some_iff.1 hj).1; omega
          rw [c3 j hlt] at hj
          exact q6 _ x hj
        · simp only [Builtin.firstCells]
          refine run_loadCells w1 _ _ (fun j => c.getD (off + j) undef) fun j hj => ?_
          have hle := Nat.mul_le_mul_right sz' hn
          rw [add_eq, cell_heap hw]
          simp [World.cell?, q2, show off + j < c.size by omega]
      · rename_i ps hid
        obtain ⟨l, f, q1, q2⟩ := hs.frz id ps hid
        rw [hloc] at q1; cases q1
        simp only [Option.map_eq_some_iff] at h2
        obtain ⟨qs, hcut, rfl⟩ := h2
        obtain ⟨c1, c2, c3⟩ := cut_some hcut
        refine ⟨fun j => f (off + j), by simpa using c2, fun j x hj => ?_, fun w1 => by simp [Builtin.lenOf], fun w1 n' hw hn => ?_⟩
        · simp only [List.getElem?_map, Option.map_eq_some_iff] at hj
          obtain ⟨q, hq, rfl⟩ := hj
          have hlt : j < len * sz' := by have := (List.getElem?_eq_some_iff.1 hq).1; omega
          rw [c3 j hlt] at hq
          exact ⟨(q2 _ q hq).1, .pv _ _ (q2 _ q hq).2.2⟩
        · simp only [Builtin.firstCells]
          refine run_loadCells w1 _ _ (fun j => f (off + j)) fun j hj => ?_
          have hle := Nat.mul_le_mul_right sz' hn
          rw [add_eq, cell_heap hw]
          have hlt : off + j < ps.length := by omega
          exact hs.imm _ _ _ (q2 _ _ (List.getElem?_eq_getElem hlt)).2.1
      · simp at h2
    · simp at h2
  | _ => simp [lenA] at h1

theorem growBy_le (newLen : Nat) (h : 256 ≤ newLen) : ∀ (r c : Nat), c ≤ 2 * newLen → Builtin.growBy newLen r c ≤ 2 * newLen
  | 0, c, hc => hc
  | r + 1, c, hc => by
    unfold Builtin.growBy
    split
    · exact hc
    · exact growBy_le newLen h r _ (by omega)

theorem nextslicecap_le {newLen oldCap : Nat} (h : oldCap < newLen) : Builtin.nextslicecap newLen oldCap ≤ 2 * newLen := by
  unfold Builtin.nextslicecap
  split
  · omega
  · split
    · omega
    · exact growBy_le newLen (by omega) 4 oldCap (by omega)

def capOf (w : World) (need cap : Nat) (e : TypeId) : Nat := (Question.appendCap need cap e).cut (w.tape w.drawn (.appendCap need cap e))

theorem capOf_le (w : World) (need cap : Nat) (e : TypeId) : need ≤ capOf w need cap e := by
  unfold capOf Question.cut
  simp

section
variable {t u e : TypeId} {du : TypeDesc} {i : TypeInfo} {zv : Value} {ty : TypeId}

theorem run_append_none (hd : P.underlying t = some (.slice e)) (hi : P.info? e = some i) (hu : P.underlying u = some du) (hdu : ∀ k, du ≠ .int k) (w : World) (base : Option Addr) (sLen sCap : Nat) (cy : Value) (hcap : sLen ≤ sCap)
    (hl : (Builtin.lenOf cy).run P w = .ok 0 w) (hf : (Builtin.firstCells i.size 0 cy).run P w = .ok #[] w) : (Builtin.append_ #[t, u] ty #[.slice base sLen sCap, cy]).run P w = .ok (.slice base sLen sCap) w := by
  cases du <;> first
    | exact absurd rfl (hdu _)
    | (simp only [Builtin.append_, List.getElem?_toArray, List.getElem?_cons_zero, List.getElem?_cons_succ, Sem.run_bind, run_underlying hd, run_size hi, run_underlying hu, Sem.run_pure, Result.andThen_ok, Bool.false_eq_true, if_false, hl, Nat.add_zero, hcap, if_true, Bool.not_false, hf]
       cases base <;> simp [storeCells])

theorem run_append_room (hd : P.underlying t = some (.slice e)) (hi : P.info? e = some i) (hu : P.underlying u = some du) (hdu : ∀ k, du ≠ .int k) (w w' : World) (b o : Nat) (sLen sCap n : Nat) (cy : Value) (arr : Array Value) (hcap : sLen + n ≤ sCap)
    (hl : (Builtin.lenOf cy).run P w = .ok n w) (hf : (Builtin.firstCells i.size n cy).run P w = .ok arr w) (hst : (storeCells ⟨b, o + sLen * i.size, none⟩ arr.toList).run P w = .ok () w') :
    (Builtin.append_ #[t, u] ty #[.slice (some ⟨b, o, none⟩) sLen sCap, cy]).run P w = .ok (.slice (some ⟨b, o, none⟩) (sLen + n) sCap) w' := by
  cases du <;> first
    | exact absurd rfl (hdu _)
    | (simp only [Builtin.append_, List.getElem?_toArray, List.getElem?_cons_zero, List.getElem?_cons_succ, Sem.run_bind, run_underlying hd, run_size hi, run_underlying hu, Sem.run_pure, Result.andThen_ok, Bool.false_eq_true, if_false, hl, hcap, if_true, Bool.not_false, hf, add_eq, hst])

theorem run_append_new (hd : P.underlying t = some (.slice e)) (hi : P.info? e = some i) (hz : i.zero = some zv) (hu : P.underlying u = some du) (hdu : ∀ k, du ≠ .int k) (w : World) (base : Option Addr) (sLen sCap n : Nat) (cy : Value) (old new : Array Value) (hcap : sCap < sLen + n) (hb : 0 < i.bytes)
    (hgrow : (sLen + n) * i.bytes ≤ growMax) (hl : (Builtin.lenOf cy).run P w = .ok n w) (hfo : ∀ w1 : World, w1.heap = w.heap → (Builtin.firstCells i.size sLen (.slice base sLen sCap)).run P w1 = .ok old w1) (hf : ∀ w1 : World, w1.heap = w.heap → (Builtin.firstCells i.size n cy).run P w1 = .ok new w1) :
    (Builtin.append_ #[t, u] ty #[.slice base sLen sCap, cy]).run P w = .ok (.slice (some ⟨w.heap.size, 0, none⟩) (sLen + n) (capOf w (sLen + n) sCap e))
      { w with drawn := w.drawn + 1, heap := w.heap.push (.cells (old ++ new ++ Builtin.zeroCells zv.cells (capOf w (sLen + n) sCap e - (sLen + n))) e (0, 0)) } := by
  have h1 : ¬ (sLen + n ≤ sCap) := by omega
  have h2 : ¬ (Builtin.nextslicecap (sLen + n) sCap * i.bytes > 2 ^ 48) := by
    have h3 := Nat.mul_le_mul_right i.bytes (nextslicecap_le hcap)
    unfold growMax at hgrow
    rw [Nat.mul_assoc] at h3
    omega
  have h4 : ¬ (((sLen + n : Nat) : Int) > IntKind.i64.max ∧ (False ∨ i.bytes = 0)) := by
    rintro ⟨_, h5 | h5⟩
    · exact h5
    · omega
  cases du <;> first
    | exact absurd rfl (hdu _)
    | (simp only [Builtin.append_, List.getElem?_toArray, List.getElem?_cons_zero, List.getElem?_cons_succ, Sem.run_bind, run_underlying hd, run_size hi, run_underlying hu, Sem.run_pure, Result.andThen_ok, Bool.false_eq_true, if_false, hl, h1, Bool.not_false, if_true, run_info hi, h4, h2, run_choose, Question.forced, run_askRoom]
       rw [hfo ⟨w.heap, w.tape, w.drawn + 1, w.os, w.output⟩ rfl]
       simp only [Result.andThen_ok]
       rw [hf ⟨w.heap, w.tape, w.drawn + 1, w.os, w.output⟩ rfl]
       simp only [Result.andThen_ok, run_zero hi hz, newRow, Sem.run_bind, run_newObj, Sem.run_pure]
       rfl)
end

end
end Ab
