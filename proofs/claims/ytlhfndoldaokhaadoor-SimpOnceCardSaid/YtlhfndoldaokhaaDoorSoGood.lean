/- Walks: whether coded cores may be; how great they are. -/
import Derived.Test.YtlhfndoldaokhaaDoorSoWalk
set_option linter.unusedSimpArgs false
set_option linter.unusedVariables false
namespace Cds
open Go Ab Go.Proofs.YtlhfndoldaokhaaDoor.Mach

variable {E : Env}

def is01 (c : UInt8) : Bool := c == 48 || c == 49

/-- Which bytes 0 and 1 are. -/
def setPV : List PV := (List.range 256).map fun i => .bool (i == 48 || i == 49)

theorem setPV_len : setPV.length = 256 := by simp [setPV]
theorem setPV_at (c : UInt8) : setPV[c.toNat]? = some (.bool (is01 c)) := by
  have hc : c.toNat < 256 := c.toNat_lt
  have h1 : ∀ n : Nat, n < 256 → (c == UInt8.ofNat n) = (c.toNat == n) := fun n hn => by
    rw [Bool.eq_iff_iff]; simp only [beq_iff_eq]
    constructor
    · rintro rfl; simp; omega
    · intro h; apply UInt8.toNat_inj.1; simp; omega
  simp only [setPV, List.getElem?_map, List.getElem?_range hc, Option.map_some, is01]
  have e1 := h1 48 (by omega)
  have e2 := h1 49 (by omega)
  simp only [show UInt8.ofNat 48 = 48 from rfl, show UInt8.ofNat 49 = 49 from rfl] at e1 e2
  rw [e1, e2]

theorem has_ok (H : Has E 121 c121) (c : UInt8) : limP E 121 [.ip setPV 0, .int .u8 (c.toNat : Int)] = some [.bool (is01 c)] := by
  have hc : c.toNat < 256 := c.toNat_lt
  have hcut : (setPV.drop c.toNat).take 1 = [.bool (is01 c)] := by
    rw [drop_at (setPV_at c)]; rfl
  have hle : c.toNat + 1 ≤ 256 := by omega
  refine H.lim (Nat.le_of_ble_eq_true rfl) ?_
  unfold c121
  refine W.go (by simp [stepsA, stepA, wantA, opA, St.eval, evals, putA, PV.cells, V.cells, PV.isCell, V.isCell, faddrA, loadA, storeA, splice, cut, mkVal, mkAgg, mkFn, pures, lenA, iaddrSlA, iaddrArrA, natOf?, elemAt, binA, intBin, strBin, unA, convA, eqRes, eqNil, isNil?, eqCell, eqCells, partA, fillA, callA, mkRes, snapL_eq, snapLF, snapLF_pvs, snap_pv, snap_slt, snap_slx, snap_nils, snap_agg, snap_fn, snap_ptr, snap_sln, sliceStrA, sliceSlA, bounds, idxStrA, idxArrA, srcCells, strideOk, isSlV, weak, weak.weakL, chunks, mkPV, growMax, ent_new, ent_cons0, ent_consS, ent_at, ent_at0]; rfl) ?_
  exact W.go (by simp [stepsA, stepA, wantA, opA, St.eval, evals, putA, PV.cells, V.cells, PV.isCell, V.isCell, faddrA, loadA, storeA, splice, cut, mkVal, mkAgg, mkFn, pures, lenA, iaddrSlA, iaddrArrA, natOf?, elemAt, binA, intBin, strBin, unA, convA, eqRes, eqNil, isNil?, eqCell, eqCells, partA, fillA, callA, mkRes, snapL_eq, snapLF, snapLF_pvs, snap_pv, snap_slt, snap_slx, snap_nils, snap_agg, snap_fn, snap_ptr, snap_sln, sliceStrA, sliceSlA, bounds, idxStrA, idxArrA, srcCells, strideOk, isSlV, weak, weak.weakL, chunks, mkPV, growMax, ent_new, ent_cons0, ent_consS, ent_at, ent_at0, setPV_len, hcut, hle, hc]; rfl) (W.retS (Fin.pv (by simp)))

/-- Cut off on the left, on the right. -/
def trimL : List UInt8 → List UInt8
  | [] => []
  | c :: l => if is01 c = true then trimL l else c :: l
def trimR (l : List UInt8) : List UInt8 := (trimL l.reverse).reverse

theorem trimL_all : ∀ l, trimL l = [] ↔ l.all is01 = true
  | [] => by simp [trimL]
  | c :: l => by
    simp only [trimL, List.all_cons, Bool.and_eq_true]
    split
    · rename_i h; simp [h, trimL_all l]
    · rename_i h; simp [h]

theorem trimL_sub : ∀ l : List UInt8, (∀ c ∈ l, is01 c = true) → trimL l = []
  | l, h => (trimL_all l).2 (List.all_eq_true.2 h)

theorem trim_all (l : List UInt8) : trimL (trimR l) = [] ↔ l.all is01 = true := by
  rw [trimL_all]
  have key : ∀ l : List UInt8, (trimL l).all is01 = true ↔ l.all is01 = true := by
    intro l
    induction l with
    | nil => simp [trimL]
    | cons c l ih =>
      simp only [trimL]
      split
      · rename_i h; simp only [ih, List.all_cons, h, Bool.true_and]
      · rfl
  simp only [trimR, List.all_reverse, key]

theorem trimL_ok (H : Has E 106 c106) (H1 : Has E 121 c121) (b : List UInt8) (hb : b.length ≤ 9223372036854775807) :
    limP E 106 [.str b, .ip setPV 0] = some [.str (trimL b)] := by
  refine H.lim (Nat.le_of_ble_eq_true rfl) ?_
  unfold c106
  refine W.go (by simp [stepsA, stepA, wantA, opA, St.eval, evals, putA, PV.cells, V.cells, PV.isCell, V.isCell, faddrA, loadA, storeA, splice, cut, mkVal, mkAgg, mkFn, pures, lenA, iaddrSlA, iaddrArrA, natOf?, elemAt, binA, intBin, strBin, unA, convA, eqRes, eqNil, isNil?, eqCell, eqCells, partA, fillA, callA, mkRes, snapL_eq, snapLF, snapLF_pvs, snap_pv, snap_slt, snap_slx, snap_nils, snap_agg, snap_fn, snap_ptr, snap_sln, sliceStrA, sliceSlA, bounds, idxStrA, idxArrA, srcCells, strideOk, isSlV, weak, weak.weakL, chunks, mkPV, growMax, ent_new, ent_cons0, ent_consS, ent_at, ent_at0]; rfl) ?_
  refine W.blockS ?_
  refine W.loopS (fun k st => ∃ s : List UInt8, k = s.length ∧ trimL s = trimL b ∧ ∃ x2 x3 x4 x5 x6 x7 x8 x9 x10 x11 x12 x13 x14 x15 h, st = ⟨[.pv (.str s), .pv (.ip setPV 0), x2, x3, x4, x5, x6, x7, x8, x9, x10, x11, x12, x13, x14, x15], h⟩) b.length ⟨b, rfl, rfl, _, _, _, _, _, _, _, _, _, _, _, _, _, _, _, rfl⟩ ?_
  rintro k st ⟨s, rfl, hi, x2, x3, x4, x5, x6, x7, x8, x9, x10, x11, x12, x13, x14, x15, h, rfl⟩
  refine W.go (by simp [stepsA, stepA, wantA, opA, St.eval, evals, putA, PV.cells, V.cells, PV.isCell, V.isCell, faddrA, loadA, storeA, splice, cut, mkVal, mkAgg, mkFn, pures, lenA, iaddrSlA, iaddrArrA, natOf?, elemAt, binA, intBin, strBin, unA, convA, eqRes, eqNil, isNil?, eqCell, eqCells, partA, fillA, callA, mkRes, snapL_eq, snapLF, snapLF_pvs, snap_pv, snap_slt, snap_slx, snap_nils, snap_agg, snap_fn, snap_ptr, snap_sln, sliceStrA, sliceSlA, bounds, idxStrA, idxArrA, srcCells, strideOk, isSlV, weak, weak.weakL, chunks, mkPV, growMax, ent_new, ent_cons0, ent_consS, ent_at, ent_at0]; rfl) ?_
  cases s with
  | nil =>
    refine W.condS (t := false) (by simp [stepsA, stepA, wantA, opA, St.eval, evals, putA, PV.cells, V.cells, PV.isCell, V.isCell, faddrA, loadA, storeA, splice, cut, mkVal, mkAgg, mkFn, pures, lenA, iaddrSlA, iaddrArrA, natOf?, elemAt, binA, intBin, strBin, unA, convA, eqRes, eqNil, isNil?, eqCell, eqCells, partA, fillA, callA, mkRes, snapL_eq, snapLF, snapLF_pvs, snap_pv, snap_slt, snap_slx, snap_nils, snap_agg, snap_fn, snap_ptr, snap_sln, sliceStrA, sliceSlA, bounds, idxStrA, idxArrA, srcCells, strideOk, isSlV, weak, weak.weakL, chunks, mkPV, growMax, ent_new, ent_cons0, ent_consS, ent_at, ent_at0]) (fun h => by cases h) (fun _ => W.exitS (inB.here ?_))
    exact W.go (by simp [stepsA, stepA, wantA, opA, St.eval, evals, putA, PV.cells, V.cells, PV.isCell, V.isCell, faddrA, loadA, storeA, splice, cut, mkVal, mkAgg, mkFn, pures, lenA, iaddrSlA, iaddrArrA, natOf?, elemAt, binA, intBin, strBin, unA, convA, eqRes, eqNil, isNil?, eqCell, eqCells, partA, fillA, callA, mkRes, snapL_eq, snapLF, snapLF_pvs, snap_pv, snap_slt, snap_slx, snap_nils, snap_agg, snap_fn, snap_ptr, snap_sln, sliceStrA, sliceSlA, bounds, idxStrA, idxArrA, srcCells, strideOk, isSlV, weak, weak.weakL, chunks, mkPV, growMax, ent_new, ent_cons0, ent_consS, ent_at, ent_at0]; rfl) (W.retS (Fin.pv (by rw [← hi]; simp [trimL])))
  | cons c s =>
    refine W.condS (t := true) (by simp [stepsA, stepA, wantA, opA, St.eval, evals, putA, PV.cells, V.cells, PV.isCell, V.isCell, faddrA, loadA, storeA, splice, cut, mkVal, mkAgg, mkFn, pures, lenA, iaddrSlA, iaddrArrA, natOf?, elemAt, binA, intBin, strBin, unA, convA, eqRes, eqNil, isNil?, eqCell, eqCells, partA, fillA, callA, mkRes, snapL_eq, snapLF, snapLF_pvs, snap_pv, snap_slt, snap_slx, snap_nils, snap_agg, snap_fn, snap_ptr, snap_sln, sliceStrA, sliceSlA, bounds, idxStrA, idxArrA, srcCells, strideOk, isSlV, weak, weak.weakL, chunks, mkPV, growMax, ent_new, ent_cons0, ent_consS, ent_at, ent_at0]) (fun _ => W.skipS ?_) (fun h => by cases h)
    refine W.blockS ?_
    have hc := has_ok H1 c
    refine W.go (by simp [stepsA, stepA, wantA, opA, St.eval, evals, putA, PV.cells, V.cells, PV.isCell, V.isCell, faddrA, loadA, storeA, splice, cut, mkVal, mkAgg, mkFn, pures, lenA, iaddrSlA, iaddrArrA, natOf?, elemAt, binA, intBin, strBin, unA, convA, eqRes, eqNil, isNil?, eqCell, eqCells, partA, fillA, callA, mkRes, snapL_eq, snapLF, snapLF_pvs, snap_pv, snap_slt, snap_slx, snap_nils, snap_agg, snap_fn, snap_ptr, snap_sln, sliceStrA, sliceSlA, bounds, idxStrA, idxArrA, srcCells, strideOk, isSlV, weak, weak.weakL, chunks, mkPV, growMax, ent_new, ent_cons0, ent_consS, ent_at, ent_at0, H1.raw, hc]; rfl) ?_
    simp only [trimL] at hi
    cases hic : is01 c with
    | false =>
      refine W.condS (t := true) (by simp [stepsA, stepA, wantA, opA, St.eval, evals, putA, PV.cells, V.cells, PV.isCell, V.isCell, faddrA, loadA, storeA, splice, cut, mkVal, mkAgg, mkFn, pures, lenA, iaddrSlA, iaddrArrA, natOf?, elemAt, binA, intBin, strBin, unA, convA, eqRes, eqNil, isNil?, eqCell, eqCells, partA, fillA, callA, mkRes, snapL_eq, snapLF, snapLF_pvs, snap_pv, snap_slt, snap_slx, snap_nils, snap_agg, snap_fn, snap_ptr, snap_sln, sliceStrA, sliceSlA, bounds, idxStrA, idxArrA, srcCells, strideOk, isSlV, weak, weak.weakL, chunks, mkPV, growMax, ent_new, ent_cons0, ent_consS, ent_at, ent_at0, hic]) (fun _ => W.exitS (inB.out (by simp) (inB.here ?_))) (fun h => by cases h)
      refine W.go (by simp [stepsA, stepA, wantA, opA, St.eval, evals, putA, PV.cells, V.cells, PV.isCell, V.isCell, faddrA, loadA, storeA, splice, cut, mkVal, mkAgg, mkFn, pures, lenA, iaddrSlA, iaddrArrA, natOf?, elemAt, binA, intBin, strBin, unA, convA, eqRes, eqNil, isNil?, eqCell, eqCells, partA, fillA, callA, mkRes, snapL_eq, snapLF, snapLF_pvs, snap_pv, snap_slt, snap_slx, snap_nils, snap_agg, snap_fn, snap_ptr, snap_sln, sliceStrA, sliceSlA, bounds, idxStrA, idxArrA, srcCells, strideOk, isSlV, weak, weak.weakL, chunks, mkPV, growMax, ent_new, ent_cons0, ent_consS, ent_at, ent_at0]; rfl) (W.retS (Fin.pv ?_))
      rw [← hi, hic]; rfl
    | true =>
      refine W.condS (t := false) (by simp [stepsA, stepA, wantA, opA, St.eval, evals, putA, PV.cells, V.cells, PV.isCell, V.isCell, faddrA, loadA, storeA, splice, cut, mkVal, mkAgg, mkFn, pures, lenA, iaddrSlA, iaddrArrA, natOf?, elemAt, binA, intBin, strBin, unA, convA, eqRes, eqNil, isNil?, eqCell, eqCells, partA, fillA, callA, mkRes, snapL_eq, snapLF, snapLF_pvs, snap_pv, snap_slt, snap_slx, snap_nils, snap_agg, snap_fn, snap_ptr, snap_sln, sliceStrA, sliceSlA, bounds, idxStrA, idxArrA, srcCells, strideOk, isSlV, weak, weak.weakL, chunks, mkPV, growMax, ent_new, ent_cons0, ent_consS, ent_at, ent_at0, hic]) (fun h => by cases h) (fun _ => W.skipS ?_)
      refine W.go (by simp [stepsA, stepA, wantA, opA, St.eval, evals, putA, PV.cells, V.cells, PV.isCell, V.isCell, faddrA, loadA, storeA, splice, cut, mkVal, mkAgg, mkFn, pures, lenA, iaddrSlA, iaddrArrA, natOf?, elemAt, binA, intBin, strBin, unA, convA, eqRes, eqNil, isNil?, eqCell, eqCells, partA, fillA, callA, mkRes, snapL_eq, snapLF, snapLF_pvs, snap_pv, snap_slt, snap_slx, snap_nils, snap_agg, snap_fn, snap_ptr, snap_sln, sliceStrA, sliceSlA, bounds, idxStrA, idxArrA, srcCells, strideOk, isSlV, weak, weak.weakL, chunks, mkPV, growMax, ent_new, ent_cons0, ent_consS, ent_at, ent_at0]; rfl) (W.skip (W.skip ?_))
      refine ⟨s.length, by simp, s, rfl, ?_, _, _, _, _, _, _, _, _, _, _, _, _, _, _, _, rfl⟩
      rw [← hi, hic]; rfl

theorem trimR_ok (H : Has E 107 c107) (H1 : Has E 121 c121) (b : List UInt8) (hb : b.length ≤ 9223372036854775807) :
    limP E 107 [.str b, .ip setPV 0] = some [.str (trimR b)] := by
  refine H.lim (Nat.le_of_ble_eq_true rfl) ?_
  unfold c107
  refine W.go (by simp [stepsA, stepA, wantA, opA, St.eval, evals, putA, PV.cells, V.cells, PV.isCell, V.isCell, faddrA, loadA, storeA, splice, cut, mkVal, mkAgg, mkFn, pures, lenA, iaddrSlA, iaddrArrA, natOf?, elemAt, binA, intBin, strBin, unA, convA, eqRes, eqNil, isNil?, eqCell, eqCells, partA, fillA, callA, mkRes, snapL_eq, snapLF, snapLF_pvs, snap_pv, snap_slt, snap_slx, snap_nils, snap_agg, snap_fn, snap_ptr, snap_sln, sliceStrA, sliceSlA, bounds, idxStrA, idxArrA, srcCells, strideOk, isSlV, weak, weak.weakL, chunks, mkPV, growMax, ent_new, ent_cons0, ent_consS, ent_at, ent_at0]; rfl) ?_
  refine W.blockS ?_
  refine W.loopS (fun k st => ∃ s : List UInt8, k = s.length ∧ s.length ≤ b.length ∧ trimR s = trimR b ∧ ∃ x2 x3 x4 x5 x6 x7 x8 x9 x10 x11 x12 x13 x14 x15 x16 x17 x18 x19 x20 x21 h, st = ⟨[.pv (.str s), .pv (.ip setPV 0), x2, x3, x4, x5, x6, x7, x8, x9, x10, x11, x12, x13, x14, x15, x16, x17, x18, x19, x20, x21], h⟩) b.length ⟨b, rfl, by omega, rfl, _, _, _, _, _, _, _, _, _, _, _, _, _, _, _, _, _, _, _, _, _, rfl⟩ ?_
  rintro k st ⟨s, rfl, hsb, hi, x2, x3, x4, x5, x6, x7, x8, x9, x10, x11, x12, x13, x14, x15, x16, x17, x18, x19, x20, x21, h, rfl⟩
  refine W.go (by simp [stepsA, stepA, wantA, opA, St.eval, evals, putA, PV.cells, V.cells, PV.isCell, V.isCell, faddrA, loadA, storeA, splice, cut, mkVal, mkAgg, mkFn, pures, lenA, iaddrSlA, iaddrArrA, natOf?, elemAt, binA, intBin, strBin, unA, convA, eqRes, eqNil, isNil?, eqCell, eqCells, partA, fillA, callA, mkRes, snapL_eq, snapLF, snapLF_pvs, snap_pv, snap_slt, snap_slx, snap_nils, snap_agg, snap_fn, snap_ptr, snap_sln, sliceStrA, sliceSlA, bounds, idxStrA, idxArrA, srcCells, strideOk, isSlV, weak, weak.weakL, chunks, mkPV, growMax, ent_new, ent_cons0, ent_consS, ent_at, ent_at0]; rfl) ?_
  rcases List.eq_nil_or_concat s with rfl | ⟨s, c, rfl⟩
  · refine W.condS (t := false) (by simp [stepsA, stepA, wantA, opA, St.eval, evals, putA, PV.cells, V.cells, PV.isCell, V.isCell, faddrA, loadA, storeA, splice, cut, mkVal, mkAgg, mkFn, pures, lenA, iaddrSlA, iaddrArrA, natOf?, elemAt, binA, intBin, strBin, unA, convA, eqRes, eqNil, isNil?, eqCell, eqCells, partA, fillA, callA, mkRes, snapL_eq, snapLF, snapLF_pvs, snap_pv, snap_slt, snap_slx, snap_nils, snap_agg, snap_fn, snap_ptr, snap_sln, sliceStrA, sliceSlA, bounds, idxStrA, idxArrA, srcCells, strideOk, isSlV, weak, weak.weakL, chunks, mkPV, growMax, ent_new, ent_cons0, ent_consS, ent_at, ent_at0]) (fun h => by cases h) (fun _ => W.exitS (inB.here ?_))
    exact W.go (by simp [stepsA, stepA, wantA, opA, St.eval, evals, putA, PV.cells, V.cells, PV.isCell, V.isCell, faddrA, loadA, storeA, splice, cut, mkVal, mkAgg, mkFn, pures, lenA, iaddrSlA, iaddrArrA, natOf?, elemAt, binA, intBin, strBin, unA, convA, eqRes, eqNil, isNil?, eqCell, eqCells, partA, fillA, callA, mkRes, snapL_eq, snapLF, snapLF_pvs, snap_pv, snap_slt, snap_slx, snap_nils, snap_agg, snap_fn, snap_ptr, snap_sln, sliceStrA, sliceSlA, bounds, idxStrA, idxArrA, srcCells, strideOk, isSlV, weak, weak.weakL, chunks, mkPV, growMax, ent_new, ent_cons0, ent_consS, ent_at, ent_at0]; rfl) (W.retS (Fin.pv (by rw [← hi]; simp [trimR, trimL])))
  · refine W.condS (t := true) (by simp [stepsA, stepA, wantA, opA, St.eval, evals, putA, PV.cells, V.cells, PV.isCell, V.isCell, faddrA, loadA, storeA, splice, cut, mkVal, mkAgg, mkFn, pures, lenA, iaddrSlA, iaddrArrA, natOf?, elemAt, binA, intBin, strBin, unA, convA, eqRes, eqNil, isNil?, eqCell, eqCells, partA, fillA, callA, mkRes, snapL_eq, snapLF, snapLF_pvs, snap_pv, snap_slt, snap_slx, snap_nils, snap_agg, snap_fn, snap_ptr, snap_sln, sliceStrA, sliceSlA, bounds, idxStrA, idxArrA, srcCells, strideOk, isSlV, weak, weak.weakL, chunks, mkPV, growMax, ent_new, ent_cons0, ent_consS, ent_at, ent_at0]) (fun _ => W.skipS ?_) (fun h => by cases h)
    refine W.blockS ?_
    have hc := has_ok H1 c
    have hsb' : s.length + 1 ≤ b.length := by simpa using hsb
    have hw : IntKind.i64.wrap (s.length : Int) = (s.length : Int) := wrap_i64 (by omega)
    refine W.go (by simp [stepsA, stepA, wantA, opA, St.eval, evals, putA, PV.cells, V.cells, PV.isCell, V.isCell, faddrA, loadA, storeA, splice, cut, mkVal, mkAgg, mkFn, pures, lenA, iaddrSlA, iaddrArrA, natOf?, elemAt, binA, intBin, strBin, unA, convA, eqRes, eqNil, isNil?, eqCell, eqCells, partA, fillA, callA, mkRes, snapL_eq, snapLF, snapLF_pvs, snap_pv, snap_slt, snap_slx, snap_nils, snap_agg, snap_fn, snap_ptr, snap_sln, sliceStrA, sliceSlA, bounds, idxStrA, idxArrA, srcCells, strideOk, isSlV, weak, weak.weakL, chunks, mkPV, growMax, ent_new, ent_cons0, ent_consS, ent_at, ent_at0, H1.raw, hc, hw]; rfl) ?_
    simp only [trimR, List.concat_eq_append, List.reverse_append, List.reverse_cons, List.reverse_nil, List.nil_append, List.cons_append, trimL] at hi
    cases hic : is01 c with
    | false =>
      refine W.condS (t := true) (by simp [stepsA, stepA, wantA, opA, St.eval, evals, putA, PV.cells, V.cells, PV.isCell, V.isCell, faddrA, loadA, storeA, splice, cut, mkVal, mkAgg, mkFn, pures, lenA, iaddrSlA, iaddrArrA, natOf?, elemAt, binA, intBin, strBin, unA, convA, eqRes, eqNil, isNil?, eqCell, eqCells, partA, fillA, callA, mkRes, snapL_eq, snapLF, snapLF_pvs, snap_pv, snap_slt, snap_slx, snap_nils, snap_agg, snap_fn, snap_ptr, snap_sln, sliceStrA, sliceSlA, bounds, idxStrA, idxArrA, srcCells, strideOk, isSlV, weak, weak.weakL, chunks, mkPV, growMax, ent_new, ent_cons0, ent_consS, ent_at, ent_at0, hic]) (fun _ => W.exitS (inB.out (by simp) (inB.here ?_))) (fun h => by cases h)
      refine W.go (by simp [stepsA, stepA, wantA, opA, St.eval, evals, putA, PV.cells, V.cells, PV.isCell, V.isCell, faddrA, loadA, storeA, splice, cut, mkVal, mkAgg, mkFn, pures, lenA, iaddrSlA, iaddrArrA, natOf?, elemAt, binA, intBin, strBin, unA, convA, eqRes, eqNil, isNil?, eqCell, eqCells, partA, fillA, callA, mkRes, snapL_eq, snapLF, snapLF_pvs, snap_pv, snap_slt, snap_slx, snap_nils, snap_agg, snap_fn, snap_ptr, snap_sln, sliceStrA, sliceSlA, bounds, idxStrA, idxArrA, srcCells, strideOk, isSlV, weak, weak.weakL, chunks, mkPV, growMax, ent_new, ent_cons0, ent_consS, ent_at, ent_at0]; rfl) (W.retS (Fin.pv ?_))
      rw [hic] at hi
      simp at hi
      simp [trimR, ← hi]
    | true =>
      refine W.condS (t := false) (by simp [stepsA, stepA, wantA, opA, St.eval, evals, putA, PV.cells, V.cells, PV.isCell, V.isCell, faddrA, loadA, storeA, splice, cut, mkVal, mkAgg, mkFn, pures, lenA, iaddrSlA, iaddrArrA, natOf?, elemAt, binA, intBin, strBin, unA, convA, eqRes, eqNil, isNil?, eqCell, eqCells, partA, fillA, callA, mkRes, snapL_eq, snapLF, snapLF_pvs, snap_pv, snap_slt, snap_slx, snap_nils, snap_agg, snap_fn, snap_ptr, snap_sln, sliceStrA, sliceSlA, bounds, idxStrA, idxArrA, srcCells, strideOk, isSlV, weak, weak.weakL, chunks, mkPV, growMax, ent_new, ent_cons0, ent_consS, ent_at, ent_at0, hic]) (fun h => by cases h) (fun _ => W.skipS ?_)
      refine W.go (by simp [stepsA, stepA, wantA, opA, St.eval, evals, putA, PV.cells, V.cells, PV.isCell, V.isCell, faddrA, loadA, storeA, splice, cut, mkVal, mkAgg, mkFn, pures, lenA, iaddrSlA, iaddrArrA, natOf?, elemAt, binA, intBin, strBin, unA, convA, eqRes, eqNil, isNil?, eqCell, eqCells, partA, fillA, callA, mkRes, snapL_eq, snapLF, snapLF_pvs, snap_pv, snap_slt, snap_slx, snap_nils, snap_agg, snap_fn, snap_ptr, snap_sln, sliceStrA, sliceSlA, bounds, idxStrA, idxArrA, srcCells, strideOk, isSlV, weak, weak.weakL, chunks, mkPV, growMax, ent_new, ent_cons0, ent_consS, ent_at, ent_at0, hw]; rfl) (W.skip (W.skip ?_))
      refine ⟨s.length, by simp, s, rfl, by omega, ?_, _, _, _, _, _, _, _, _, _, _, _, _, _, _, _, _, _, _, _, _, _, rfl⟩
      rw [hic] at hi
      simpa [trimR] using hi


/-- strings.Trim of 0s and 1s. -/
theorem trim_ok (H : Has E 76 c76) (HL : Has E 106 c106) (HR : Has E 107 c107) (H1 : Has E 121 c121)
    (hr : E.raw 105 = false) (hk : limP E 105 [.str [48, 49]] = some [.agg setPV, .bool true]) (b : List UInt8) (hb : b.length ≤ 9223372036854775807) :
    limP E 76 [.str b, .str [48, 49]] = some [.str (trimL (trimR b))] := by
  have hlen : (trimR b).length ≤ b.length := by
    have : ∀ l : List UInt8, (trimL l).length ≤ l.length := by
      intro l
      induction l with
      | nil => simp [trimL]
      | cons c l ih => simp only [trimL]; split <;> simp <;> omega
    have := this b.reverse
    simpa [trimR] using this
  have h1 := trimR_ok HR H1 b hb
  have h2 := trimL_ok HL H1 (trimR b) (by omega)
  refine H.lim (Nat.le_of_ble_eq_true rfl) ?_
  unfold c76
  refine W.go (by simp [stepsA, stepA, wantA, opA, St.eval, evals, putA, PV.cells, V.cells, PV.isCell, V.isCell, faddrA, loadA, storeA, splice, cut, mkVal, mkAgg, mkFn, pures, lenA, iaddrSlA, iaddrArrA, natOf?, elemAt, binA, intBin, strBin, unA, convA, eqRes, eqNil, isNil?, eqCell, eqCells, partA, fillA, callA, mkRes, snapL_eq, snapLF, snapLF_pvs, snap_pv, snap_slt, snap_slx, snap_nils, snap_agg, snap_fn, snap_ptr, snap_sln, sliceStrA, sliceSlA, bounds, idxStrA, idxArrA, srcCells, strideOk, isSlV, weak, weak.weakL, chunks, mkPV, growMax, ent_new, ent_cons0, ent_consS, ent_at, ent_at0]; rfl) ?_
  cases b with
  | nil =>
    refine W.go (by simp [stepsA, stepA, wantA, opA, St.eval, evals, putA, PV.cells, V.cells, PV.isCell, V.isCell, faddrA, loadA, storeA, splice, cut, mkVal, mkAgg, mkFn, pures, lenA, iaddrSlA, iaddrArrA, natOf?, elemAt, binA, intBin, strBin, unA, convA, eqRes, eqNil, isNil?, eqCell, eqCells, partA, fillA, callA, mkRes, snapL_eq, snapLF, snapLF_pvs, snap_pv, snap_slt, snap_slx, snap_nils, snap_agg, snap_fn, snap_ptr, snap_sln, sliceStrA, sliceSlA, bounds, idxStrA, idxArrA, srcCells, strideOk, isSlV, weak, weak.weakL, chunks, mkPV, growMax, ent_new, ent_cons0, ent_consS, ent_at, ent_at0]; rfl) ?_
    refine W.condS (t := true) (by simp [stepsA, stepA, wantA, opA, St.eval, evals, putA, PV.cells, V.cells, PV.isCell, V.isCell, faddrA, loadA, storeA, splice, cut, mkVal, mkAgg, mkFn, pures, lenA, iaddrSlA, iaddrArrA, natOf?, elemAt, binA, intBin, strBin, unA, convA, eqRes, eqNil, isNil?, eqCell, eqCells, partA, fillA, callA, mkRes, snapL_eq, snapLF, snapLF_pvs, snap_pv, snap_slt, snap_slx, snap_nils, snap_agg, snap_fn, snap_ptr, snap_sln, sliceStrA, sliceSlA, bounds, idxStrA, idxArrA, srcCells, strideOk, isSlV, weak, weak.weakL, chunks, mkPV, growMax, ent_new, ent_cons0, ent_consS, ent_at, ent_at0]) (fun _ => ?_) (fun h => by cases h)
    refine W.go (by simp [stepsA, stepA, wantA, opA, St.eval, evals, putA, PV.cells, V.cells, PV.isCell, V.isCell, faddrA, loadA, storeA, splice, cut, mkVal, mkAgg, mkFn, pures, lenA, iaddrSlA, iaddrArrA, natOf?, elemAt, binA, intBin, strBin, unA, convA, eqRes, eqNil, isNil?, eqCell, eqCells, partA, fillA, callA, mkRes, snapL_eq, snapLF, snapLF_pvs, snap_pv, snap_slt, snap_slx, snap_nils, snap_agg, snap_fn, snap_ptr, snap_sln, sliceStrA, sliceSlA, bounds, idxStrA, idxArrA, srcCells, strideOk, isSlV, weak, weak.weakL, chunks, mkPV, growMax, ent_new, ent_cons0, ent_consS, ent_at, ent_at0]; rfl) (W.retS (Fin.pv (by simp [trimR, trimL])))
  | cons c b =>
    refine W.go (by simp [stepsA, stepA, wantA, opA, St.eval, evals, putA, PV.cells, V.cells, PV.isCell, V.isCell, faddrA, loadA, storeA, splice, cut, mkVal, mkAgg, mkFn, pures, lenA, iaddrSlA, iaddrArrA, natOf?, elemAt, binA, intBin, strBin, unA, convA, eqRes, eqNil, isNil?, eqCell, eqCells, partA, fillA, callA, mkRes, snapL_eq, snapLF, snapLF_pvs, snap_pv, snap_slt, snap_slx, snap_nils, snap_agg, snap_fn, snap_ptr, snap_sln, sliceStrA, sliceSlA, bounds, idxStrA, idxArrA, srcCells, strideOk, isSlV, weak, weak.weakL, chunks, mkPV, growMax, ent_new, ent_cons0, ent_consS, ent_at, ent_at0]; rfl) ?_
    refine W.condS (t := false) (by simp [stepsA, stepA, wantA, opA, St.eval, evals, putA, PV.cells, V.cells, PV.isCell, V.isCell, faddrA, loadA, storeA, splice, cut, mkVal, mkAgg, mkFn, pures, lenA, iaddrSlA, iaddrArrA, natOf?, elemAt, binA, intBin, strBin, unA, convA, eqRes, eqNil, isNil?, eqCell, eqCells, partA, fillA, callA, mkRes, snapL_eq, snapLF, snapLF_pvs, snap_pv, snap_slt, snap_slx, snap_nils, snap_agg, snap_fn, snap_ptr, snap_sln, sliceStrA, sliceSlA, bounds, idxStrA, idxArrA, srcCells, strideOk, isSlV, weak, weak.weakL, chunks, mkPV, growMax, ent_new, ent_cons0, ent_consS, ent_at, ent_at0]) (fun h => by cases h) (fun _ => W.skipS ?_)
    refine W.go (by simp [stepsA, stepA, wantA, opA, St.eval, evals, putA, PV.cells, V.cells, PV.isCell, V.isCell, faddrA, loadA, storeA, splice, cut, mkVal, mkAgg, mkFn, pures, lenA, iaddrSlA, iaddrArrA, natOf?, elemAt, binA, intBin, strBin, unA, convA, eqRes, eqNil, isNil?, eqCell, eqCells, partA, fillA, callA, mkRes, snapL_eq, snapLF, snapLF_pvs, snap_pv, snap_slt, snap_slx, snap_nils, snap_agg, snap_fn, snap_ptr, snap_sln, sliceStrA, sliceSlA, bounds, idxStrA, idxArrA, srcCells, strideOk, isSlV, weak, weak.weakL, chunks, mkPV, growMax, ent_new, ent_cons0, ent_consS, ent_at, ent_at0]; rfl) ?_
    refine W.condS (t := false) (by simp [stepsA, stepA, wantA, opA, St.eval, evals, putA, PV.cells, V.cells, PV.isCell, V.isCell, faddrA, loadA, storeA, splice, cut, mkVal, mkAgg, mkFn, pures, lenA, iaddrSlA, iaddrArrA, natOf?, elemAt, binA, intBin, strBin, unA, convA, eqRes, eqNil, isNil?, eqCell, eqCells, partA, fillA, callA, mkRes, snapL_eq, snapLF, snapLF_pvs, snap_pv, snap_slt, snap_slx, snap_nils, snap_agg, snap_fn, snap_ptr, snap_sln, sliceStrA, sliceSlA, bounds, idxStrA, idxArrA, srcCells, strideOk, isSlV, weak, weak.weakL, chunks, mkPV, growMax, ent_new, ent_cons0, ent_consS, ent_at, ent_at0]) (fun h => by cases h) (fun _ => W.skipS ?_)
    have hst : ∀ te, storeA [Ent.blk (List.replicate 256 (V.pv (PV.bool false))) te] 256 (.ptr 0 0) (.pv (.agg setPV)) = some [.blk (setPV.map .pv) te] := fun te => by
      rw [storeA_whole (cs := List.replicate 256 (V.pv (PV.bool false))) (t := te) rfl (by rw [List.length_replicate]) (by simp [V.cells, PV.cells, setPV_len]) (by simp [V.cells, PV.cells, setPV, V.isCell, PV.isCell])]
      rfl
    have hsn : snapLF (snap 999) (setPV.map .pv) [Ent.dead] = some (setPV, [Ent.dead]) := snapLF_pvs setPV
    refine W.go (by simp [stepsA, stepA, wantA, opA, St.eval, evals, putA, PV.cells, V.cells, PV.isCell, V.isCell, faddrA, loadA, cut, mkVal, mkAgg, mkFn, pures, lenA, iaddrSlA, iaddrArrA, natOf?, elemAt, binA, intBin, strBin, unA, convA, eqRes, eqNil, isNil?, eqCell, eqCells, partA, fillA, callA, mkRes, snapL_eq, snapLF, snapLF_pvs, snap_pv, snap_slt, snap_slx, snap_nils, snap_agg, snap_fn, snap_ptr, snap_sln, sliceStrA, sliceSlA, bounds, idxStrA, idxArrA, srcCells, strideOk, isSlV, weak, weak.weakL, chunks, mkPV, growMax, ent_new, ent_cons0, ent_consS, ent_at, ent_at0, hr, hk, hst, -List.reduceReplicate]; rfl) ?_
    refine W.go (by simp [stepsA, stepA, wantA, opA, St.eval, evals, putA, PV.cells, V.cells, PV.isCell, V.isCell, faddrA, loadA, storeA, splice, cut, mkVal, mkAgg, mkFn, pures, lenA, iaddrSlA, iaddrArrA, natOf?, elemAt, binA, intBin, strBin, unA, convA, eqRes, eqNil, isNil?, eqCell, eqCells, partA, fillA, callA, mkRes, snapL_eq, snapLF, snapLF_pvs, snap_pv, snap_slt, snap_slx, snap_nils, snap_agg, snap_fn, snap_ptr, snap_sln, sliceStrA, sliceSlA, bounds, idxStrA, idxArrA, srcCells, strideOk, isSlV, weak, weak.weakL, chunks, mkPV, growMax, ent_new, ent_cons0, ent_consS, ent_at, ent_at0]; rfl) ?_
    refine W.condS (t := true) (by simp [stepsA, stepA, wantA, opA, St.eval, evals, putA, PV.cells, V.cells, PV.isCell, V.isCell, faddrA, loadA, storeA, splice, cut, mkVal, mkAgg, mkFn, pures, lenA, iaddrSlA, iaddrArrA, natOf?, elemAt, binA, intBin, strBin, unA, convA, eqRes, eqNil, isNil?, eqCell, eqCells, partA, fillA, callA, mkRes, snapL_eq, snapLF, snapLF_pvs, snap_pv, snap_slt, snap_slx, snap_nils, snap_agg, snap_fn, snap_ptr, snap_sln, sliceStrA, sliceSlA, bounds, idxStrA, idxArrA, srcCells, strideOk, isSlV, weak, weak.weakL, chunks, mkPV, growMax, ent_new, ent_cons0, ent_consS, ent_at, ent_at0]) (fun _ => ?_) (fun h => by cases h)
    refine W.go (by simp [stepsA, stepA, wantA, opA, St.eval, evals, putA, PV.cells, V.cells, PV.isCell, V.isCell, faddrA, loadA, storeA, splice, cut, mkVal, mkAgg, mkFn, pures, lenA, iaddrSlA, iaddrArrA, natOf?, elemAt, binA, intBin, strBin, unA, convA, eqRes, eqNil, isNil?, eqCell, eqCells, partA, fillA, callA, mkRes, snapL_eq, snapLF, snapLF_pvs, snap_pv, snap_slt, snap_slx, snap_nils, snap_agg, snap_fn, snap_ptr, snap_sln, sliceStrA, sliceSlA, bounds, idxStrA, idxArrA, srcCells, strideOk, isSlV, weak, weak.weakL, chunks, mkPV, growMax, ent_new, ent_cons0, ent_consS, ent_at, ent_at0, hsn, HR.raw, HL.raw, h1, h2]; rfl) (W.retS (Fin.pv (by simp)))

/-- How many kids one of a kind has, if it may be. -/
def many (k : Int) (b : List UInt8) (n : Nat) : Option Int :=
  if k = 0 then (if b = [] then some 0 else none) else if k = 1 then some 0 else if k = 2 then some 0 else if k = 3 then some 2 else if k = 4 then some n else if k = 5 then some 1 else none

/-- May it be, within a depth? -/
def goodS : Cd → Int → Bool
  | .mk k b s0 s1 s2 s3 l, d => !(decide (d < 1)) && (b.all is01 && ((k == 2 || (s0 == 0 && (s1 == 0 && (s2 == 0 && s3 == 0)))) && match many k b l.length with
    | none => false
    | some m => decide ((l.length : Int) = m) && goodL l (d - 1)))
where
  goodL : List Cd → Int → Bool
  | [], _ => true
  | x :: l, d => goodS x d && goodL l d

theorem goodL_any : ∀ (l : List Cd) (d : Int), goodS.goodL l d = !(l.any fun y => !goodS y d)
  | [], _ => rfl
  | x :: l, d => by simp [goodS.goodL, goodL_any l d]

/-- How many words, as a machine counts. -/
def sizeS : Cd → Int
  | .mk _ _ _ _ _ _ l => sizeL 1 l
where
  sizeL (n : Int) : List Cd → Int
  | [] => n
  | x :: l => sizeL (IntKind.i64.wrap (n + sizeS x)) l

theorem size_ok (H : Has E 35 c35) : ∀ x, Fine x → limP E 35 [enc x] = some [.int .i64 (sizeS x)] := by
  refine Cd.ind fun k1 b1 s0 s1 s2 s3 l ih hf => ?_
  obtain ⟨hf1, hf2⟩ := hf
  rw [fineL_iff] at hf2
  refine H.lim (Nat.le_of_ble_eq_true rfl) ?_
  unfold c35
  simp only [enc_mk]
  refine W.go (by simp [stepsA, stepA, wantA, opA, St.eval, evals, putA, PV.cells, V.cells, PV.isCell, V.isCell, faddrA, loadA, storeA, splice, cut, mkVal, mkAgg, mkFn, pures, lenA, iaddrSlA, iaddrArrA, natOf?, elemAt, binA, intBin, strBin, unA, convA, eqRes, eqNil, isNil?, eqCell, eqCells, partA, fillA, callA, mkRes, snapL_eq, snapLF, snapLF_pvs, snap_pv, snap_slt, snap_slx, snap_nils, snap_agg, snap_fn, snap_ptr, snap_sln, sliceStrA, sliceSlA, bounds, idxStrA, idxArrA, srcCells, strideOk, isSlV, weak, weak.weakL, chunks, mkPV, growMax, ent_new, ent_cons0, ent_consS, ent_at, ent_at0]; rfl) ?_
  refine W.go (by simp [stepsA, stepA, wantA, opA, St.eval, evals, putA, PV.cells, V.cells, PV.isCell, V.isCell, faddrA, loadA, storeA, splice, cut, mkVal, mkAgg, mkFn, pures, lenA, iaddrSlA, iaddrArrA, natOf?, elemAt, binA, intBin, strBin, unA, convA, eqRes, eqNil, isNil?, eqCell, eqCells, partA, fillA, callA, mkRes, snapL_eq, snapLF, snapLF_pvs, snap_pv, snap_slt, snap_slx, snap_nils, snap_agg, snap_fn, snap_ptr, snap_sln, sliceStrA, sliceSlA, bounds, idxStrA, idxArrA, srcCells, strideOk, isSlV, weak, weak.weakL, chunks, mkPV, growMax, ent_new, ent_cons0, ent_consS, ent_at, ent_at0]; rfl) ?_
  refine W.go (by simp [stepsA, stepA, wantA, opA, St.eval, evals, putA, PV.cells, V.cells, PV.isCell, V.isCell, faddrA, loadA, storeA, splice, cut, mkVal, mkAgg, mkFn, pures, lenA, iaddrSlA, iaddrArrA, natOf?, elemAt, binA, intBin, strBin, unA, convA, eqRes, eqNil, isNil?, eqCell, eqCells, partA, fillA, callA, mkRes, snapL_eq, snapLF, snapLF_pvs, snap_pv, snap_slt, snap_slx, snap_nils, snap_agg, snap_fn, snap_ptr, snap_sln, sliceStrA, sliceSlA, bounds, idxStrA, idxArrA, srcCells, strideOk, isSlV, weak, weak.weakL, chunks, mkPV, growMax, ent_new, ent_cons0, ent_consS, ent_at, ent_at0]; rfl) ?_
  refine W.blockS ?_
  refine W.loopS (fun k st => ∃ (j : Nat) (n : Int), j ≤ l.length ∧ k = l.length - j ∧ sizeS.sizeL n (l.drop j) = sizeS.sizeL 1 l ∧ ∃ x0 x1 x2 x4 x5 x6 x10 x11 x12 x13 x14 x15 x16 x17 x18 h,
    st = ⟨[x0, x1, x2, .pv (.int .i64 n), x4, x5, x6, .pv (.sl (l.map enc)), .pv (.int .i64 l.length), .pv (.int .i64 j), x10, x11, x12, x13, x14, x15, x16, x17, x18], h⟩) l.length ⟨0, 1, by omega, by omega, rfl, _, _, _, _, _, _, _, _, _, _, _, _, _, _, _, _, rfl⟩ ?_
  rintro k st ⟨j, n, hj, rfl, hi, x0, x1, x2, x4, x5, x6, x10, x11, x12, x13, x14, x15, x16, x17, x18, h, rfl⟩
  refine W.go (by simp [stepsA, stepA, wantA, opA, St.eval, evals, putA, PV.cells, V.cells, PV.isCell, V.isCell, faddrA, loadA, storeA, splice, cut, mkVal, mkAgg, mkFn, pures, lenA, iaddrSlA, iaddrArrA, natOf?, elemAt, binA, intBin, strBin, unA, convA, eqRes, eqNil, isNil?, eqCell, eqCells, partA, fillA, callA, mkRes, snapL_eq, snapLF, snapLF_pvs, snap_pv, snap_slt, snap_slx, snap_nils, snap_agg, snap_fn, snap_ptr, snap_sln, sliceStrA, sliceSlA, bounds, idxStrA, idxArrA, srcCells, strideOk, isSlV, weak, weak.weakL, chunks, mkPV, growMax, ent_new, ent_cons0, ent_consS, ent_at, ent_at0]; rfl) ?_
  refine W.condS (t := decide (j < l.length)) (by simp [stepsA, stepA, wantA, opA, St.eval, evals, putA, PV.cells, V.cells, PV.isCell, V.isCell, faddrA, loadA, storeA, splice, cut, mkVal, mkAgg, mkFn, pures, lenA, iaddrSlA, iaddrArrA, natOf?, elemAt, binA, intBin, strBin, unA, convA, eqRes, eqNil, isNil?, eqCell, eqCells, partA, fillA, callA, mkRes, snapL_eq, snapLF, snapLF_pvs, snap_pv, snap_slt, snap_slx, snap_nils, snap_agg, snap_fn, snap_ptr, snap_sln, sliceStrA, sliceSlA, bounds, idxStrA, idxArrA, srcCells, strideOk, isSlV, weak, weak.weakL, chunks, mkPV, growMax, ent_new, ent_cons0, ent_consS, ent_at, ent_at0]) (fun ht => W.skipS ?_) (fun ht => W.exitS (inB.here ?_))
  · have hj1 : j < l.length := of_decide_eq_true ht
    have hw : IntKind.i64.wrap ((j : Int) + 1) = (j : Int) + 1 := wrap_i64 (by omega)
    obtain ⟨x, hx⟩ : ∃ x, l[j]? = some x := ⟨_, List.getElem?_eq_getElem hj1⟩
    have hc := ih x (List.mem_of_getElem? hx) (hf2 x (List.mem_of_getElem? hx))
    rw [drop_at hx] at hi
    simp only [sizeS.sizeL] at hi
    obtain ⟨k2, b2, t0, t1, t2, t3, l2⟩ := x
    simp only [enc_mk] at hc
    refine W.blockS ?_
    refine W.go (by simp [stepsA, stepA, wantA, opA, St.eval, evals, putA, PV.cells, V.cells, PV.isCell, V.isCell, faddrA, loadA, storeA, splice, cut, mkVal, mkAgg, mkFn, pures, lenA, iaddrSlA, iaddrArrA, natOf?, elemAt, binA, intBin, strBin, unA, convA, eqRes, eqNil, isNil?, eqCell, eqCells, partA, fillA, callA, mkRes, snapL_eq, snapLF, snapLF_pvs, snap_pv, snap_slt, snap_slx, snap_nils, snap_agg, snap_fn, snap_ptr, snap_sln, sliceStrA, sliceSlA, bounds, idxStrA, idxArrA, srcCells, strideOk, isSlV, weak, weak.weakL, chunks, mkPV, growMax, ent_new, ent_cons0, ent_consS, ent_at, ent_at0, List.getElem?_map, hx, enc_mk]; rfl) ?_
    refine W.go (by simp [stepsA, stepA, wantA, opA, St.eval, evals, putA, PV.cells, V.cells, PV.isCell, V.isCell, faddrA, loadA, storeA, splice, cut, mkVal, mkAgg, mkFn, pures, lenA, iaddrSlA, iaddrArrA, natOf?, elemAt, binA, intBin, strBin, unA, convA, eqRes, eqNil, isNil?, eqCell, eqCells, partA, fillA, callA, mkRes, snapL_eq, snapLF, snapLF_pvs, snap_pv, snap_slt, snap_slx, snap_nils, snap_agg, snap_fn, snap_ptr, snap_sln, sliceStrA, sliceSlA, bounds, idxStrA, idxArrA, srcCells, strideOk, isSlV, weak, weak.weakL, chunks, mkPV, growMax, ent_new, ent_cons0, ent_consS, ent_at, ent_at0, H.raw, hc]; rfl) (W.skip ?_)
    refine W.go (by simp [stepsA, stepA, wantA, opA, St.eval, evals, putA, PV.cells, V.cells, PV.isCell, V.isCell, faddrA, loadA, storeA, splice, cut, mkVal, mkAgg, mkFn, pures, lenA, iaddrSlA, iaddrArrA, natOf?, elemAt, binA, intBin, strBin, unA, convA, eqRes, eqNil, isNil?, eqCell, eqCells, partA, fillA, callA, mkRes, snapL_eq, snapLF, snapLF_pvs, snap_pv, snap_slt, snap_slx, snap_nils, snap_agg, snap_fn, snap_ptr, snap_sln, sliceStrA, sliceSlA, bounds, idxStrA, idxArrA, srcCells, strideOk, isSlV, weak, weak.weakL, chunks, mkPV, growMax, ent_new, ent_cons0, ent_consS, ent_at, ent_at0, hw]; rfl) (W.skip ?_)
    exact ⟨l.length - (j + 1), by omega, j + 1, _, by omega, rfl, hi, _, _, _, _, _, _, _, _, _, _, _, _, _, _, _, _, rfl⟩
  · have hj1 : l.length ≤ j := by simpa using ht
    rw [List.drop_eq_nil_of_le hj1] at hi
    refine W.go (by simp [stepsA, stepA, wantA, opA, St.eval, evals, putA, PV.cells, V.cells, PV.isCell, V.isCell, faddrA, loadA, storeA, splice, cut, mkVal, mkAgg, mkFn, pures, lenA, iaddrSlA, iaddrArrA, natOf?, elemAt, binA, intBin, strBin, unA, convA, eqRes, eqNil, isNil?, eqCell, eqCells, partA, fillA, callA, mkRes, snapL_eq, snapLF, snapLF_pvs, snap_pv, snap_slt, snap_slx, snap_nils, snap_agg, snap_fn, snap_ptr, snap_sln, sliceStrA, sliceSlA, bounds, idxStrA, idxArrA, srcCells, strideOk, isSlV, weak, weak.weakL, chunks, mkPV, growMax, ent_new, ent_cons0, ent_consS, ent_at, ent_at0]; rfl) (W.retS (Fin.pv ?_))
    simp only [sizeS.sizeL] at hi
    simp [sizeS, ← hi]


/-- Texts and rows no longer than a number tells. -/
def FineB : Cd → Prop
  | .mk _ b _ _ _ _ l => b.length ≤ 9223372036854775807 ∧ l.length ≤ 9223372036854775807 ∧ FineBL l
where
  FineBL : List Cd → Prop
  | [] => True
  | x :: l => FineB x ∧ FineBL l

theorem fineBL_iff : ∀ {l : List Cd}, FineB.FineBL l ↔ ∀ x ∈ l, FineB x
  | [] => by simp [FineB.FineBL]
  | x :: l => by simp [FineB.FineBL, fineBL_iff (l := l)]

theorem FineB.fine : ∀ x, FineB x → Fine x := by
  refine Cd.ind fun k1 b1 s0 s1 s2 s3 l ih hf => ?_
  obtain ⟨_, hf1, hf2⟩ := hf
  rw [fineBL_iff] at hf2
  exact ⟨hf1, fineL_iff.2 fun x hx => ih x hx (hf2 x hx)⟩

/-- What Good's walk leans on. -/
structure HasGood (E : Env) : Prop where
  good : Has E 43 c43
  good1 : Has E 77 c77
  trim : Has E 76 c76
  trimL : Has E 106 c106
  trimR : Has E 107 c107
  has : Has E 121 c121
  rset : E.raw 105 = false
  set : limP E 105 [.str [48, 49]] = some [.agg setPV, .bool true]
  con : Has E 47 c47
  idx : Has E 79 c79
  size : Has E 35 c35
  Good : Has E 12 c12

/-- Its closure. -/
theorem good1_ok (H : HasGood E) {y : Cd} {d : Int} {r : Bool} (hw : IntKind.i64.wrap (d - 1) = d - 1) (h : limP E 43 [enc y, .int .i64 (d - 1)] = some [.bool r]) : limP E 77 [enc y, .ip [.int .i64 d] 0] = some [.bool !r] := by
  obtain ⟨k2, b2, t0, t1, t2, t3, l2⟩ := y
  rw [enc_mk] at h ⊢
  refine H.good1.lim (Nat.le_of_ble_eq_true rfl) ?_
  unfold c77
  refine W.go (by simp [stepsA, stepA, wantA, opA, St.eval, evals, putA, PV.cells, V.cells, PV.isCell, V.isCell, faddrA, loadA, storeA, splice, cut, mkVal, mkAgg, mkFn, pures, lenA, iaddrSlA, iaddrArrA, natOf?, elemAt, binA, intBin, strBin, unA, convA, eqRes, eqNil, isNil?, eqCell, eqCells, partA, fillA, callA, mkRes, snapL_eq, snapLF, snapLF_pvs, snap_pv, snap_slt, snap_slx, snap_nils, snap_agg, snap_fn, snap_ptr, snap_sln, sliceStrA, sliceSlA, bounds, idxStrA, idxArrA, srcCells, strideOk, isSlV, weak, weak.weakL, chunks, mkPV, growMax, ent_new, ent_cons0, ent_consS, ent_at, ent_at0]; rfl) ?_
  exact W.go (by simp [stepsA, stepA, wantA, opA, St.eval, evals, putA, PV.cells, V.cells, PV.isCell, V.isCell, faddrA, loadA, storeA, splice, cut, mkVal, mkAgg, mkFn, pures, lenA, iaddrSlA, iaddrArrA, natOf?, elemAt, binA, intBin, strBin, unA, convA, eqRes, eqNil, isNil?, eqCell, eqCells, partA, fillA, callA, mkRes, snapL_eq, snapLF, snapLF_pvs, snap_pv, snap_slt, snap_slx, snap_nils, snap_agg, snap_fn, snap_ptr, snap_sln, sliceStrA, sliceSlA, bounds, idxStrA, idxArrA, srcCells, strideOk, isSlV, weak, weak.weakL, chunks, mkPV, growMax, ent_new, ent_cons0, ent_consS, ent_at, ent_at0, hw, H.good.raw, h]; rfl) (W.retS (Fin.pv (by simp)))

theorem good_ok (H : HasGood E) : ∀ x, FineB x → ∀ d : Int, d ≤ 9223372036854775807 → limP E 43 [enc x, .int .i64 d] = some [.bool (goodS x d)] := by
  refine Cd.ind fun k1 b1 s0 s1 s2 s3 l ih hf d hd => ?_
  obtain ⟨hf0, hf1, hf2⟩ := hf
  rw [fineBL_iff] at hf2
  have htr := trim_ok H.trim H.trimL H.trimR H.has H.rset H.set b1 hf0
  refine H.good.lim (Nat.le_of_ble_eq_true rfl) ?_
  unfold c43
  simp only [enc_mk]
  refine W.go (by simp [stepsA, stepA, wantA, opA, St.eval, evals, putA, PV.cells, V.cells, PV.isCell, V.isCell, faddrA, loadA, storeA, splice, cut, mkVal, mkAgg, mkFn, pures, lenA, iaddrSlA, iaddrArrA, natOf?, elemAt, binA, intBin, strBin, unA, convA, eqRes, eqNil, isNil?, eqCell, eqCells, partA, fillA, callA, mkRes, snapL_eq, snapLF, snapLF_pvs, snap_pv, snap_slt, snap_slx, snap_nils, snap_agg, snap_fn, snap_ptr, snap_sln, sliceStrA, sliceSlA, bounds, idxStrA, idxArrA, srcCells, strideOk, isSlV, weak, weak.weakL, chunks, mkPV, growMax, ent_new, ent_cons0, ent_consS, ent_at, ent_at0]; rfl) ?_
  cases h8 : decide (d < 1) with
  | true =>
    refine W.go (by simp [stepsA, stepA, wantA, opA, St.eval, evals, putA, PV.cells, V.cells, PV.isCell, V.isCell, faddrA, loadA, storeA, splice, cut, mkVal, mkAgg, mkFn, pures, lenA, iaddrSlA, iaddrArrA, natOf?, elemAt, binA, intBin, strBin, unA, convA, eqRes, eqNil, isNil?, eqCell, eqCells, partA, fillA, callA, mkRes, snapL_eq, snapLF, snapLF_pvs, snap_pv, snap_slt, snap_slx, snap_nils, snap_agg, snap_fn, snap_ptr, snap_sln, sliceStrA, sliceSlA, bounds, idxStrA, idxArrA, srcCells, strideOk, isSlV, weak, weak.weakL, chunks, mkPV, growMax, ent_new, ent_cons0, ent_consS, ent_at, ent_at0, h8]; rfl) ?_
    refine W.condS (t := true) (by simp [stepsA, stepA, wantA, opA, St.eval, evals, putA, PV.cells, V.cells, PV.isCell, V.isCell, faddrA, loadA, storeA, splice, cut, mkVal, mkAgg, mkFn, pures, lenA, iaddrSlA, iaddrArrA, natOf?, elemAt, binA, intBin, strBin, unA, convA, eqRes, eqNil, isNil?, eqCell, eqCells, partA, fillA, callA, mkRes, snapL_eq, snapLF, snapLF_pvs, snap_pv, snap_slt, snap_slx, snap_nils, snap_agg, snap_fn, snap_ptr, snap_sln, sliceStrA, sliceSlA, bounds, idxStrA, idxArrA, srcCells, strideOk, isSlV, weak, weak.weakL, chunks, mkPV, growMax, ent_new, ent_cons0, ent_consS, ent_at, ent_at0]) (fun _ => ?_) (fun h => by cases h)
    exact W.go (by simp [stepsA, stepA, wantA, opA, St.eval, evals, putA, PV.cells, V.cells, PV.isCell, V.isCell, faddrA, loadA, storeA, splice, cut, mkVal, mkAgg, mkFn, pures, lenA, iaddrSlA, iaddrArrA, natOf?, elemAt, binA, intBin, strBin, unA, convA, eqRes, eqNil, isNil?, eqCell, eqCells, partA, fillA, callA, mkRes, snapL_eq, snapLF, snapLF_pvs, snap_pv, snap_slt, snap_slx, snap_nils, snap_agg, snap_fn, snap_ptr, snap_sln, sliceStrA, sliceSlA, bounds, idxStrA, idxArrA, srcCells, strideOk, isSlV, weak, weak.weakL, chunks, mkPV, growMax, ent_new, ent_cons0, ent_consS, ent_at, ent_at0]; rfl) (W.retS (Fin.pv (by simp [goodS, h8])))
  | false =>
    have hd1 : ¬ d < 1 := by simpa using h8
    have hw : IntKind.i64.wrap (d - 1) = d - 1 := wrap_i64 (by omega)
    cases hb : (trimL (trimR b1) == []) with
    | false =>
      have hb' : b1.all is01 = false := by
        have : ¬ trimL (trimR b1) = [] := by simpa using hb
        rw [trim_all] at this; simpa using this
      refine W.go (by simp [stepsA, stepA, wantA, opA, St.eval, evals, putA, PV.cells, V.cells, PV.isCell, V.isCell, faddrA, loadA, storeA, splice, cut, mkVal, mkAgg, mkFn, pures, lenA, iaddrSlA, iaddrArrA, natOf?, elemAt, binA, intBin, strBin, unA, convA, eqRes, eqNil, isNil?, eqCell, eqCells, partA, fillA, callA, mkRes, snapL_eq, snapLF, snapLF_pvs, snap_pv, snap_slt, snap_slx, snap_nils, snap_agg, snap_fn, snap_ptr, snap_sln, sliceStrA, sliceSlA, bounds, idxStrA, idxArrA, srcCells, strideOk, isSlV, weak, weak.weakL, chunks, mkPV, growMax, ent_new, ent_cons0, ent_consS, ent_at, ent_at0, h8, H.trim.raw, htr, hb]; rfl) ?_
      refine W.condS (t := true) (by simp [stepsA, stepA, wantA, opA, St.eval, evals, putA, PV.cells, V.cells, PV.isCell, V.isCell, faddrA, loadA, storeA, splice, cut, mkVal, mkAgg, mkFn, pures, lenA, iaddrSlA, iaddrArrA, natOf?, elemAt, binA, intBin, strBin, unA, convA, eqRes, eqNil, isNil?, eqCell, eqCells, partA, fillA, callA, mkRes, snapL_eq, snapLF, snapLF_pvs, snap_pv, snap_slt, snap_slx, snap_nils, snap_agg, snap_fn, snap_ptr, snap_sln, sliceStrA, sliceSlA, bounds, idxStrA, idxArrA, srcCells, strideOk, isSlV, weak, weak.weakL, chunks, mkPV, growMax, ent_new, ent_cons0, ent_consS, ent_at, ent_at0]) (fun _ => ?_) (fun h => by cases h)
      exact W.go (by simp [stepsA, stepA, wantA, opA, St.eval, evals, putA, PV.cells, V.cells, PV.isCell, V.isCell, faddrA, loadA, storeA, splice, cut, mkVal, mkAgg, mkFn, pures, lenA, iaddrSlA, iaddrArrA, natOf?, elemAt, binA, intBin, strBin, unA, convA, eqRes, eqNil, isNil?, eqCell, eqCells, partA, fillA, callA, mkRes, snapL_eq, snapLF, snapLF_pvs, snap_pv, snap_slt, snap_slx, snap_nils, snap_agg, snap_fn, snap_ptr, snap_sln, sliceStrA, sliceSlA, bounds, idxStrA, idxArrA, srcCells, strideOk, isSlV, weak, weak.weakL, chunks, mkPV, growMax, ent_new, ent_cons0, ent_consS, ent_at, ent_at0]; rfl) (W.retS (Fin.pv (by simp [goodS, hb'])))
    | true =>
      have hb' : b1.all is01 = true := by
        have : trimL (trimR b1) = [] := by simpa using hb
        rwa [trim_all] at this
      cases hs : (k1 == 2 || (s0 == 0 && (s1 == 0 && (s2 == 0 && s3 == 0)))) with
      | false =>
        have hk2 : (k1 != 2) = true := by
          cases hk : (k1 == 2) with
          | true => rw [hk] at hs; cases hs
          | false => simpa using hk
        have hz : (s0 == 0 && (s1 == 0 && (s2 == 0 && s3 == 0))) = false := (Bool.or_eq_false_iff.1 hs).2
        refine W.go (by simp [stepsA, stepA, wantA, opA, St.eval, evals, putA, PV.cells, V.cells, PV.isCell, V.isCell, faddrA, loadA, storeA, splice, cut, mkVal, mkAgg, mkFn, pures, lenA, iaddrSlA, iaddrArrA, natOf?, elemAt, binA, intBin, strBin, unA, convA, eqRes, eqNil, isNil?, eqCell, eqCells, partA, fillA, callA, mkRes, snapL_eq, snapLF, snapLF_pvs, snap_pv, snap_slt, snap_slx, snap_nils, snap_agg, snap_fn, snap_ptr, snap_sln, sliceStrA, sliceSlA, bounds, idxStrA, idxArrA, srcCells, strideOk, isSlV, weak, weak.weakL, chunks, mkPV, growMax, ent_new, ent_cons0, ent_consS, ent_at, ent_at0, h8, H.trim.raw, htr, hb, hk2, hz]; rfl) ?_
        refine W.condS (t := true) (by simp [stepsA, stepA, wantA, opA, St.eval, evals, putA, PV.cells, V.cells, PV.isCell, V.isCell, faddrA, loadA, storeA, splice, cut, mkVal, mkAgg, mkFn, pures, lenA, iaddrSlA, iaddrArrA, natOf?, elemAt, binA, intBin, strBin, unA, convA, eqRes, eqNil, isNil?, eqCell, eqCells, partA, fillA, callA, mkRes, snapL_eq, snapLF, snapLF_pvs, snap_pv, snap_slt, snap_slx, snap_nils, snap_agg, snap_fn, snap_ptr, snap_sln, sliceStrA, sliceSlA, bounds, idxStrA, idxArrA, srcCells, strideOk, isSlV, weak, weak.weakL, chunks, mkPV, growMax, ent_new, ent_cons0, ent_consS, ent_at, ent_at0]) (fun _ => ?_) (fun h => by cases h)
        exact W.go (by simp [stepsA, stepA, wantA, opA, St.eval, evals, putA, PV.cells, V.cells, PV.isCell, V.isCell, faddrA, loadA, storeA, splice, cut, mkVal, mkAgg, mkFn, pures, lenA, iaddrSlA, iaddrArrA, natOf?, elemAt, binA, intBin, strBin, unA, convA, eqRes, eqNil, isNil?, eqCell, eqCells, partA, fillA, callA, mkRes, snapL_eq, snapLF, snapLF_pvs, snap_pv, snap_slt, snap_slx, snap_nils, snap_agg, snap_fn, snap_ptr, snap_sln, sliceStrA, sliceSlA, bounds, idxStrA, idxArrA, srcCells, strideOk, isSlV, weak, weak.weakL, chunks, mkPV, growMax, ent_new, ent_cons0, ent_consS, ent_at, ent_at0]; rfl) (W.retS (Fin.pv (by simp only [goodS, hs]; simp)))
      | true =>
        have hX : goodS (.mk k1 b1 s0 s1 s2 s3 l) d = match many k1 b1 l.length with
            | none => false
            | some m => decide ((l.length : Int) = m) && goodS.goodL l (d - 1) := by
          simp only [goodS, h8, hb', hs, Bool.true_and, Bool.not_false]
        refine W.goMid (fun st => ∃ x0 x1 x4 x5 x6 x7 x8 x9 x10 x11 x12 x13 x14 x15 x16 x17 x18 x19 x20 x21 x22 x23 x25 x26 x27 x28 x29 x30 x31 x32 x33 x34 x35 x36 x37 x38 x39 x40 x41 x42 x43 x44 x45 x46 x47 x48 x49 x50 x51 x52 x53 x54 x55, st = ⟨[x0, x1, .ptr 0 0, .ptr 1 0, x4, x5, x6, x7, x8, x9, x10, x11, x12, x13, x14, x15, x16, x17, x18, x19, x20, x21, x22, x23, .pv (.bool false), x25, x26, x27, x28, x29, x30, x31, x32, x33, x34, x35, x36, x37, x38, x39, x40, x41, x42, x43, x44, x45, x46, x47, x48, x49, x50, x51, x52, x53, x54, x55], [.blk [.pv (.int .i64 k1), .pv (.str b1), .pv (.int .u64 s0), .pv (.int .u64 s1), .pv (.int .u64 s2), .pv (.int .u64 s3), .pv (.sl (l.map enc))] none, .blk [.pv (.int .i64 d)] none]⟩) ?_ ?_
        · cases hk2 : (k1 != 2) with
          | true =>
            have hz : (s0 == 0 && (s1 == 0 && (s2 == 0 && s3 == 0))) = true := by
              have : (k1 == 2) = false := by simpa using hk2
              rw [this, Bool.false_or] at hs; exact hs
            refine ⟨_, by simp [stepsA, stepA, wantA, opA, St.eval, evals, putA, PV.cells, V.cells, PV.isCell, V.isCell, faddrA, loadA, storeA, splice, cut, mkVal, mkAgg, mkFn, pures, lenA, iaddrSlA, iaddrArrA, natOf?, elemAt, binA, intBin, strBin, unA, convA, eqRes, eqNil, isNil?, eqCell, eqCells, partA, fillA, callA, mkRes, snapL_eq, snapLF, snapLF_pvs, snap_pv, snap_slt, snap_slx, snap_nils, snap_agg, snap_fn, snap_ptr, snap_sln, sliceStrA, sliceSlA, bounds, idxStrA, idxArrA, srcCells, strideOk, isSlV, weak, weak.weakL, chunks, mkPV, growMax, ent_new, ent_cons0, ent_consS, ent_at, ent_at0, h8, H.trim.raw, htr, hb, hk2, hz]; rfl, ?_⟩
            exact ⟨_, _, _, _, _, _, _, _, _, _, _, _, _, _, _, _, _, _, _, _, _, _, _, _, _, _, _, _, _, _, _, _, _, _, _, _, _, _, _, _, _, _, _, _, _, _, _, _, _, _, _, _, _, rfl⟩
          | false =>
            refine ⟨_, by simp [stepsA, stepA, wantA, opA, St.eval, evals, putA, PV.cells, V.cells, PV.isCell, V.isCell, faddrA, loadA, storeA, splice, cut, mkVal, mkAgg, mkFn, pures, lenA, iaddrSlA, iaddrArrA, natOf?, elemAt, binA, intBin, strBin, unA, convA, eqRes, eqNil, isNil?, eqCell, eqCells, partA, fillA, callA, mkRes, snapL_eq, snapLF, snapLF_pvs, snap_pv, snap_slt, snap_slx, snap_nils, snap_agg, snap_fn, snap_ptr, snap_sln, sliceStrA, sliceSlA, bounds, idxStrA, idxArrA, srcCells, strideOk, isSlV, weak, weak.weakL, chunks, mkPV, growMax, ent_new, ent_cons0, ent_consS, ent_at, ent_at0, h8, H.trim.raw, htr, hb, hk2]; rfl, ?_⟩
            exact ⟨_, _, _, _, _, _, _, _, _, _, _, _, _, _, _, _, _, _, _, _, _, _, _, _, _, _, _, _, _, _, _, _, _, _, _, _, _, _, _, _, _, _, _, _, _, _, _, _, _, _, _, _, _, rfl⟩
        rintro st ⟨x0, x1, x4, x5, x6, x7, x8, x9, x10, x11, x12, x13, x14, x15, x16, x17, x18, x19, x20, x21, x22, x23, x25, x26, x27, x28, x29, x30, x31, x32, x33, x34, x35, x36, x37, x38, x39, x40, x41, x42, x43, x44, x45, x46, x47, x48, x49, x50, x51, x52, x53, x54, x55, rfl⟩
        refine W.condS (t := false) (by simp [stepsA, stepA, wantA, opA, St.eval, evals, putA, PV.cells, V.cells, PV.isCell, V.isCell, faddrA, loadA, storeA, splice, cut, mkVal, mkAgg, mkFn, pures, lenA, iaddrSlA, iaddrArrA, natOf?, elemAt, binA, intBin, strBin, unA, convA, eqRes, eqNil, isNil?, eqCell, eqCells, partA, fillA, callA, mkRes, snapL_eq, snapLF, snapLF_pvs, snap_pv, snap_slt, snap_slx, snap_nils, snap_agg, snap_fn, snap_ptr, snap_sln, sliceStrA, sliceSlA, bounds, idxStrA, idxArrA, srcCells, strideOk, isSlV, weak, weak.weakL, chunks, mkPV, growMax, ent_new, ent_cons0, ent_consS, ent_at, ent_at0]) (fun h => by cases h) (fun _ => W.skipS ?_)
        refine W.go (by simp [stepsA, stepA, wantA, opA, St.eval, evals, putA, PV.cells, V.cells, PV.isCell, V.isCell, faddrA, loadA, storeA, splice, cut, mkVal, mkAgg, mkFn, pures, lenA, iaddrSlA, iaddrArrA, natOf?, elemAt, binA, intBin, strBin, unA, convA, eqRes, eqNil, isNil?, eqCell, eqCells, partA, fillA, callA, mkRes, snapL_eq, snapLF, snapLF_pvs, snap_pv, snap_slt, snap_slx, snap_nils, snap_agg, snap_fn, snap_ptr, snap_sln, sliceStrA, sliceSlA, bounds, idxStrA, idxArrA, srcCells, strideOk, isSlV, weak, weak.weakL, chunks, mkPV, growMax, ent_new, ent_cons0, ent_consS, ent_at, ent_at0]; rfl) ?_
        refine W.go (by simp [stepsA, stepA, wantA, opA, St.eval, evals, putA, PV.cells, V.cells, PV.isCell, V.isCell, faddrA, loadA, storeA, splice, cut, mkVal, mkAgg, mkFn, pures, lenA, iaddrSlA, iaddrArrA, natOf?, elemAt, binA, intBin, strBin, unA, convA, eqRes, eqNil, isNil?, eqCell, eqCells, partA, fillA, callA, mkRes, snapL_eq, snapLF, snapLF_pvs, snap_pv, snap_slt, snap_slx, snap_nils, snap_agg, snap_fn, snap_ptr, snap_sln, sliceStrA, sliceSlA, bounds, idxStrA, idxArrA, srcCells, strideOk, isSlV, weak, weak.weakL, chunks, mkPV, growMax, ent_new, ent_cons0, ent_consS, ent_at, ent_at0]; rfl) ?_
        refine W.blockMid (fun st => ∃ m x0 x1 x4 x6 x7 x8 x9 x10 x11 x12 x13 x14 x15 x16 x17 x18 x19 x20 x21 x22 x23 x24 x25 x26 x27 x28 x29 x30 x31 x32 x33 x34 x35 x36 x37 x38 x39 x40 x41 x42 x43 x44 x45 x46 x47 x48 x49 x50 x51 x52 x53 x54 x55, many k1 b1 l.length = some m ∧ st = ⟨[x0, x1, .ptr 0 0, .ptr 1 0, x4, .pv (.int .i64 m), x6, x7, x8, x9, x10, x11, x12, x13, x14, x15, x16, x17, x18, x19, x20, x21, x22, x23, x24, x25, x26, x27, x28, x29, x30, x31, x32, x33, x34, x35, x36, x37, x38, x39, x40, x41, x42, x43, x44, x45, x46, x47, x48, x49, x50, x51, x52, x53, x54, x55], [.blk [.pv (.int .i64 k1), .pv (.str b1), .pv (.int .u64 s0), .pv (.int .u64 s1), .pv (.int .u64 s2), .pv (.int .u64 s3), .pv (.sl (l.map enc))] none, .blk [.pv (.int .i64 d)] none]⟩) ?_ ?_
        · cases h0 : (k1 == 0) with
          | true =>
            have h0' : k1 = 0 := by simpa using h0
            refine W.go (by simp [stepsA, stepA, wantA, opA, St.eval, evals, putA, PV.cells, V.cells, PV.isCell, V.isCell, faddrA, loadA, storeA, splice, cut, mkVal, mkAgg, mkFn, pures, lenA, iaddrSlA, iaddrArrA, natOf?, elemAt, binA, intBin, strBin, unA, convA, eqRes, eqNil, isNil?, eqCell, eqCells, partA, fillA, callA, mkRes, snapL_eq, snapLF, snapLF_pvs, snap_pv, snap_slt, snap_slx, snap_nils, snap_agg, snap_fn, snap_ptr, snap_sln, sliceStrA, sliceSlA, bounds, idxStrA, idxArrA, srcCells, strideOk, isSlV, weak, weak.weakL, chunks, mkPV, growMax, ent_new, ent_cons0, ent_consS, ent_at, ent_at0, h0]; rfl) ?_
            refine W.condS (t := true) (by simp [stepsA, stepA, wantA, opA, St.eval, evals, putA, PV.cells, V.cells, PV.isCell, V.isCell, faddrA, loadA, storeA, splice, cut, mkVal, mkAgg, mkFn, pures, lenA, iaddrSlA, iaddrArrA, natOf?, elemAt, binA, intBin, strBin, unA, convA, eqRes, eqNil, isNil?, eqCell, eqCells, partA, fillA, callA, mkRes, snapL_eq, snapLF, snapLF_pvs, snap_pv, snap_slt, snap_slx, snap_nils, snap_agg, snap_fn, snap_ptr, snap_sln, sliceStrA, sliceSlA, bounds, idxStrA, idxArrA, srcCells, strideOk, isSlV, weak, weak.weakL, chunks, mkPV, growMax, ent_new, ent_cons0, ent_consS, ent_at, ent_at0]) (fun _ => ?_) (fun h => by cases h)
            cases hbe : (b1 == []) with
            | false =>
              have hbe' : ¬ b1 = [] := by simpa using hbe
              refine W.go (by simp [stepsA, stepA, wantA, opA, St.eval, evals, putA, PV.cells, V.cells, PV.isCell, V.isCell, faddrA, loadA, storeA, splice, cut, mkVal, mkAgg, mkFn, pures, lenA, iaddrSlA, iaddrArrA, natOf?, elemAt, binA, intBin, strBin, unA, convA, eqRes, eqNil, isNil?, eqCell, eqCells, partA, fillA, callA, mkRes, snapL_eq, snapLF, snapLF_pvs, snap_pv, snap_slt, snap_slx, snap_nils, snap_agg, snap_fn, snap_ptr, snap_sln, sliceStrA, sliceSlA, bounds, idxStrA, idxArrA, srcCells, strideOk, isSlV, weak, weak.weakL, chunks, mkPV, growMax, ent_new, ent_cons0, ent_consS, ent_at, ent_at0, hbe]; rfl) ?_
              refine W.condS (t := true) (by simp [stepsA, stepA, wantA, opA, St.eval, evals, putA, PV.cells, V.cells, PV.isCell, V.isCell, faddrA, loadA, storeA, splice, cut, mkVal, mkAgg, mkFn, pures, lenA, iaddrSlA, iaddrArrA, natOf?, elemAt, binA, intBin, strBin, unA, convA, eqRes, eqNil, isNil?, eqCell, eqCells, partA, fillA, callA, mkRes, snapL_eq, snapLF, snapLF_pvs, snap_pv, snap_slt, snap_slx, snap_nils, snap_agg, snap_fn, snap_ptr, snap_sln, sliceStrA, sliceSlA, bounds, idxStrA, idxArrA, srcCells, strideOk, isSlV, weak, weak.weakL, chunks, mkPV, growMax, ent_new, ent_cons0, ent_consS, ent_at, ent_at0]) (fun _ => ?_) (fun h => by cases h)
              exact W.go (by simp [stepsA, stepA, wantA, opA, St.eval, evals, putA, PV.cells, V.cells, PV.isCell, V.isCell, faddrA, loadA, storeA, splice, cut, mkVal, mkAgg, mkFn, pures, lenA, iaddrSlA, iaddrArrA, natOf?, elemAt, binA, intBin, strBin, unA, convA, eqRes, eqNil, isNil?, eqCell, eqCells, partA, fillA, callA, mkRes, snapL_eq, snapLF, snapLF_pvs, snap_pv, snap_slt, snap_slx, snap_nils, snap_agg, snap_fn, snap_ptr, snap_sln, sliceStrA, sliceSlA, bounds, idxStrA, idxArrA, srcCells, strideOk, isSlV, weak, weak.weakL, chunks, mkPV, growMax, ent_new, ent_cons0, ent_consS, ent_at, ent_at0]; rfl) (W.retS (Fin.pv (by rw [hX]; simp [many, h0', hbe'])))
            | true =>
              have hbe' : b1 = [] := by simpa using hbe
              refine W.go (by simp [stepsA, stepA, wantA, opA, St.eval, evals, putA, PV.cells, V.cells, PV.isCell, V.isCell, faddrA, loadA, storeA, splice, cut, mkVal, mkAgg, mkFn, pures, lenA, iaddrSlA, iaddrArrA, natOf?, elemAt, binA, intBin, strBin, unA, convA, eqRes, eqNil, isNil?, eqCell, eqCells, partA, fillA, callA, mkRes, snapL_eq, snapLF, snapLF_pvs, snap_pv, snap_slt, snap_slx, snap_nils, snap_agg, snap_fn, snap_ptr, snap_sln, sliceStrA, sliceSlA, bounds, idxStrA, idxArrA, srcCells, strideOk, isSlV, weak, weak.weakL, chunks, mkPV, growMax, ent_new, ent_cons0, ent_consS, ent_at, ent_at0, hbe]; rfl) ?_
              refine W.condS (t := false) (by simp [stepsA, stepA, wantA, opA, St.eval, evals, putA, PV.cells, V.cells, PV.isCell, V.isCell, faddrA, loadA, storeA, splice, cut, mkVal, mkAgg, mkFn, pures, lenA, iaddrSlA, iaddrArrA, natOf?, elemAt, binA, intBin, strBin, unA, convA, eqRes, eqNil, isNil?, eqCell, eqCells, partA, fillA, callA, mkRes, snapL_eq, snapLF, snapLF_pvs, snap_pv, snap_slt, snap_slx, snap_nils, snap_agg, snap_fn, snap_ptr, snap_sln, sliceStrA, sliceSlA, bounds, idxStrA, idxArrA, srcCells, strideOk, isSlV, weak, weak.weakL, chunks, mkPV, growMax, ent_new, ent_cons0, ent_consS, ent_at, ent_at0]) (fun h => by cases h) (fun _ => W.skipS (W.skip ?_))
              exact ⟨0, _, _, _, _, _, _, _, _, _, _, _, _, _, _, _, _, _, _, _, _, _, _, _, _, _, _, _, _, _, _, _, _, _, _, _, _, _, _, _, _, _, _, _, _, _, _, _, _, _, _, _, _, _, by simp [many, h0', hbe'], rfl⟩
          | false =>
            have h0' : ¬ k1 = 0 := by simpa using h0
            refine W.go (by simp [stepsA, stepA, wantA, opA, St.eval, evals, putA, PV.cells, V.cells, PV.isCell, V.isCell, faddrA, loadA, storeA, splice, cut, mkVal, mkAgg, mkFn, pures, lenA, iaddrSlA, iaddrArrA, natOf?, elemAt, binA, intBin, strBin, unA, convA, eqRes, eqNil, isNil?, eqCell, eqCells, partA, fillA, callA, mkRes, snapL_eq, snapLF, snapLF_pvs, snap_pv, snap_slt, snap_slx, snap_nils, snap_agg, snap_fn, snap_ptr, snap_sln, sliceStrA, sliceSlA, bounds, idxStrA, idxArrA, srcCells, strideOk, isSlV, weak, weak.weakL, chunks, mkPV, growMax, ent_new, ent_cons0, ent_consS, ent_at, ent_at0, h0]; rfl) ?_
            refine W.condS (t := false) (by simp [stepsA, stepA, wantA, opA, St.eval, evals, putA, PV.cells, V.cells, PV.isCell, V.isCell, faddrA, loadA, storeA, splice, cut, mkVal, mkAgg, mkFn, pures, lenA, iaddrSlA, iaddrArrA, natOf?, elemAt, binA, intBin, strBin, unA, convA, eqRes, eqNil, isNil?, eqCell, eqCells, partA, fillA, callA, mkRes, snapL_eq, snapLF, snapLF_pvs, snap_pv, snap_slt, snap_slx, snap_nils, snap_agg, snap_fn, snap_ptr, snap_sln, sliceStrA, sliceSlA, bounds, idxStrA, idxArrA, srcCells, strideOk, isSlV, weak, weak.weakL, chunks, mkPV, growMax, ent_new, ent_cons0, ent_consS, ent_at, ent_at0]) (fun h => by cases h) (fun _ => ?_)
            cases h1 : (k1 == 1) with
            | true =>
              have h1' : k1 = 1 := by simpa using h1
              refine W.go (by simp [stepsA, stepA, wantA, opA, St.eval, evals, putA, PV.cells, V.cells, PV.isCell, V.isCell, faddrA, loadA, storeA, splice, cut, mkVal, mkAgg, mkFn, pures, lenA, iaddrSlA, iaddrArrA, natOf?, elemAt, binA, intBin, strBin, unA, convA, eqRes, eqNil, isNil?, eqCell, eqCells, partA, fillA, callA, mkRes, snapL_eq, snapLF, snapLF_pvs, snap_pv, snap_slt, snap_slx, snap_nils, snap_agg, snap_fn, snap_ptr, snap_sln, sliceStrA, sliceSlA, bounds, idxStrA, idxArrA, srcCells, strideOk, isSlV, weak, weak.weakL, chunks, mkPV, growMax, ent_new, ent_cons0, ent_consS, ent_at, ent_at0, h1]; rfl) ?_
              refine W.condS (t := true) (by simp [stepsA, stepA, wantA, opA, St.eval, evals, putA, PV.cells, V.cells, PV.isCell, V.isCell, faddrA, loadA, storeA, splice, cut, mkVal, mkAgg, mkFn, pures, lenA, iaddrSlA, iaddrArrA, natOf?, elemAt, binA, intBin, strBin, unA, convA, eqRes, eqNil, isNil?, eqCell, eqCells, partA, fillA, callA, mkRes, snapL_eq, snapLF, snapLF_pvs, snap_pv, snap_slt, snap_slx, snap_nils, snap_agg, snap_fn, snap_ptr, snap_sln, sliceStrA, sliceSlA, bounds, idxStrA, idxArrA, srcCells, strideOk, isSlV, weak, weak.weakL, chunks, mkPV, growMax, ent_new, ent_cons0, ent_consS, ent_at, ent_at0]) (fun _ => W.skipS ?_) (fun h => by cases h)
              refine W.condS (t := true) (by simp [stepsA, stepA, wantA, opA, St.eval, evals, putA, PV.cells, V.cells, PV.isCell, V.isCell, faddrA, loadA, storeA, splice, cut, mkVal, mkAgg, mkFn, pures, lenA, iaddrSlA, iaddrArrA, natOf?, elemAt, binA, intBin, strBin, unA, convA, eqRes, eqNil, isNil?, eqCell, eqCells, partA, fillA, callA, mkRes, snapL_eq, snapLF, snapLF_pvs, snap_pv, snap_slt, snap_slx, snap_nils, snap_agg, snap_fn, snap_ptr, snap_sln, sliceStrA, sliceSlA, bounds, idxStrA, idxArrA, srcCells, strideOk, isSlV, weak, weak.weakL, chunks, mkPV, growMax, ent_new, ent_cons0, ent_consS, ent_at, ent_at0]) (fun _ => W.skipS (W.skip ?_)) (fun h => by cases h)
              exact ⟨0, _, _, _, _, _, _, _, _, _, _, _, _, _, _, _, _, _, _, _, _, _, _, _, _, _, _, _, _, _, _, _, _, _, _, _, _, _, _, _, _, _, _, _, _, _, _, _, _, _, _, _, _, _, by simp [many, h1'], rfl⟩
            | false =>
              have h1' : ¬ k1 = 1 := by simpa using h1
              refine W.go (by simp [stepsA, stepA, wantA, opA, St.eval, evals, putA, PV.cells, V.cells, PV.isCell, V.isCell, faddrA, loadA, storeA, splice, cut, mkVal, mkAgg, mkFn, pures, lenA, iaddrSlA, iaddrArrA, natOf?, elemAt, binA, intBin, strBin, unA, convA, eqRes, eqNil, isNil?, eqCell, eqCells, partA, fillA, callA, mkRes, snapL_eq, snapLF, snapLF_pvs, snap_pv, snap_slt, snap_slx, snap_nils, snap_agg, snap_fn, snap_ptr, snap_sln, sliceStrA, sliceSlA, bounds, idxStrA, idxArrA, srcCells, strideOk, isSlV, weak, weak.weakL, chunks, mkPV, growMax, ent_new, ent_cons0, ent_consS, ent_at, ent_at0, h1]; rfl) ?_
              refine W.condS (t := false) (by simp [stepsA, stepA, wantA, opA, St.eval, evals, putA, PV.cells, V.cells, PV.isCell, V.isCell, faddrA, loadA, storeA, splice, cut, mkVal, mkAgg, mkFn, pures, lenA, iaddrSlA, iaddrArrA, natOf?, elemAt, binA, intBin, strBin, unA, convA, eqRes, eqNil, isNil?, eqCell, eqCells, partA, fillA, callA, mkRes, snapL_eq, snapLF, snapLF_pvs, snap_pv, snap_slt, snap_slx, snap_nils, snap_agg, snap_fn, snap_ptr, snap_sln, sliceStrA, sliceSlA, bounds, idxStrA, idxArrA, srcCells, strideOk, isSlV, weak, weak.weakL, chunks, mkPV, growMax, ent_new, ent_cons0, ent_consS, ent_at, ent_at0]) (fun h => by cases h) (fun _ => ?_)
              cases h2 : (k1 == 2) with
              | true =>
                have h2' : k1 = 2 := by simpa using h2
                refine W.go (by simp [stepsA, stepA, wantA, opA, St.eval, evals, putA, PV.cells, V.cells, PV.isCell, V.isCell, faddrA, loadA, storeA, splice, cut, mkVal, mkAgg, mkFn, pures, lenA, iaddrSlA, iaddrArrA, natOf?, elemAt, binA, intBin, strBin, unA, convA, eqRes, eqNil, isNil?, eqCell, eqCells, partA, fillA, callA, mkRes, snapL_eq, snapLF, snapLF_pvs, snap_pv, snap_slt, snap_slx, snap_nils, snap_agg, snap_fn, snap_ptr, snap_sln, sliceStrA, sliceSlA, bounds, idxStrA, idxArrA, srcCells, strideOk, isSlV, weak, weak.weakL, chunks, mkPV, growMax, ent_new, ent_cons0, ent_consS, ent_at, ent_at0, h2]; rfl) ?_
                refine W.condS (t := true) (by simp [stepsA, stepA, wantA, opA, St.eval, evals, putA, PV.cells, V.cells, PV.isCell, V.isCell, faddrA, loadA, storeA, splice, cut, mkVal, mkAgg, mkFn, pures, lenA, iaddrSlA, iaddrArrA, natOf?, elemAt, binA, intBin, strBin, unA, convA, eqRes, eqNil, isNil?, eqCell, eqCells, partA, fillA, callA, mkRes, snapL_eq, snapLF, snapLF_pvs, snap_pv, snap_slt, snap_slx, snap_nils, snap_agg, snap_fn, snap_ptr, snap_sln, sliceStrA, sliceSlA, bounds, idxStrA, idxArrA, srcCells, strideOk, isSlV, weak, weak.weakL, chunks, mkPV, growMax, ent_new, ent_cons0, ent_consS, ent_at, ent_at0]) (fun _ => W.skipS (W.skip ?_)) (fun h => by cases h)
                exact ⟨0, _, _, _, _, _, _, _, _, _, _, _, _, _, _, _, _, _, _, _, _, _, _, _, _, _, _, _, _, _, _, _, _, _, _, _, _, _, _, _, _, _, _, _, _, _, _, _, _, _, _, _, _, _, by simp [many, h2'], rfl⟩
              | false =>
                have h2' : ¬ k1 = 2 := by simpa using h2
                refine W.go (by simp [stepsA, stepA, wantA, opA, St.eval, evals, putA, PV.cells, V.cells, PV.isCell, V.isCell, faddrA, loadA, storeA, splice, cut, mkVal, mkAgg, mkFn, pures, lenA, iaddrSlA, iaddrArrA, natOf?, elemAt, binA, intBin, strBin, unA, convA, eqRes, eqNil, isNil?, eqCell, eqCells, partA, fillA, callA, mkRes, snapL_eq, snapLF, snapLF_pvs, snap_pv, snap_slt, snap_slx, snap_nils, snap_agg, snap_fn, snap_ptr, snap_sln, sliceStrA, sliceSlA, bounds, idxStrA, idxArrA, srcCells, strideOk, isSlV, weak, weak.weakL, chunks, mkPV, growMax, ent_new, ent_cons0, ent_consS, ent_at, ent_at0, h2]; rfl) ?_
                refine W.condS (t := false) (by simp [stepsA, stepA, wantA, opA, St.eval, evals, putA, PV.cells, V.cells, PV.isCell, V.isCell, faddrA, loadA, storeA, splice, cut, mkVal, mkAgg, mkFn, pures, lenA, iaddrSlA, iaddrArrA, natOf?, elemAt, binA, intBin, strBin, unA, convA, eqRes, eqNil, isNil?, eqCell, eqCells, partA, fillA, callA, mkRes, snapL_eq, snapLF, snapLF_pvs, snap_pv, snap_slt, snap_slx, snap_nils, snap_agg, snap_fn, snap_ptr, snap_sln, sliceStrA, sliceSlA, bounds, idxStrA, idxArrA, srcCells, strideOk, isSlV, weak, weak.weakL, chunks, mkPV, growMax, ent_new, ent_cons0, ent_consS, ent_at, ent_at0]) (fun h => by cases h) (fun _ => ?_)
                cases h3 : (k1 == 3) with
                | true =>
                  have h3' : k1 = 3 := by simpa using h3
                  refine W.go (by simp [stepsA, stepA, wantA, opA, St.eval, evals, putA, PV.cells, V.cells, PV.isCell, V.isCell, faddrA, loadA, storeA, splice, cut, mkVal, mkAgg, mkFn, pures, lenA, iaddrSlA, iaddrArrA, natOf?, elemAt, binA, intBin, strBin, unA, convA, eqRes, eqNil, isNil?, eqCell, eqCells, partA, fillA, callA, mkRes, snapL_eq, snapLF, snapLF_pvs, snap_pv, snap_slt, snap_slx, snap_nils, snap_agg, snap_fn, snap_ptr, snap_sln, sliceStrA, sliceSlA, bounds, idxStrA, idxArrA, srcCells, strideOk, isSlV, weak, weak.weakL, chunks, mkPV, growMax, ent_new, ent_cons0, ent_consS, ent_at, ent_at0, h3]; rfl) ?_
                  refine W.condS (t := true) (by simp [stepsA, stepA, wantA, opA, St.eval, evals, putA, PV.cells, V.cells, PV.isCell, V.isCell, faddrA, loadA, storeA, splice, cut, mkVal, mkAgg, mkFn, pures, lenA, iaddrSlA, iaddrArrA, natOf?, elemAt, binA, intBin, strBin, unA, convA, eqRes, eqNil, isNil?, eqCell, eqCells, partA, fillA, callA, mkRes, snapL_eq, snapLF, snapLF_pvs, snap_pv, snap_slt, snap_slx, snap_nils, snap_agg, snap_fn, snap_ptr, snap_sln, sliceStrA, sliceSlA, bounds, idxStrA, idxArrA, srcCells, strideOk, isSlV, weak, weak.weakL, chunks, mkPV, growMax, ent_new, ent_cons0, ent_consS, ent_at, ent_at0]) (fun _ => ?_) (fun h => by cases h)
                  refine W.go (by simp [stepsA, stepA, wantA, opA, St.eval, evals, putA, PV.cells, V.cells, PV.isCell, V.isCell, faddrA, loadA, storeA, splice, cut, mkVal, mkAgg, mkFn, pures, lenA, iaddrSlA, iaddrArrA, natOf?, elemAt, binA, intBin, strBin, unA, convA, eqRes, eqNil, isNil?, eqCell, eqCells, partA, fillA, callA, mkRes, snapL_eq, snapLF, snapLF_pvs, snap_pv, snap_slt, snap_slx, snap_nils, snap_agg, snap_fn, snap_ptr, snap_sln, sliceStrA, sliceSlA, bounds, idxStrA, idxArrA, srcCells, strideOk, isSlV, weak, weak.weakL, chunks, mkPV, growMax, ent_new, ent_cons0, ent_consS, ent_at, ent_at0]; rfl) (W.skip ?_)
                  exact ⟨2, _, _, _, _, _, _, _, _, _, _, _, _, _, _, _, _, _, _, _, _, _, _, _, _, _, _, _, _, _, _, _, _, _, _, _, _, _, _, _, _, _, _, _, _, _, _, _, _, _, _, _, _, _, by simp [many, h3'], rfl⟩
                | false =>
                  have h3' : ¬ k1 = 3 := by simpa using h3
                  refine W.go (by simp [stepsA, stepA, wantA, opA, St.eval, evals, putA, PV.cells, V.cells, PV.isCell, V.isCell, faddrA, loadA, storeA, splice, cut, mkVal, mkAgg, mkFn, pures, lenA, iaddrSlA, iaddrArrA, natOf?, elemAt, binA, intBin, strBin, unA, convA, eqRes, eqNil, isNil?, eqCell, eqCells, partA, fillA, callA, mkRes, snapL_eq, snapLF, snapLF_pvs, snap_pv, snap_slt, snap_slx, snap_nils, snap_agg, snap_fn, snap_ptr, snap_sln, sliceStrA, sliceSlA, bounds, idxStrA, idxArrA, srcCells, strideOk, isSlV, weak, weak.weakL, chunks, mkPV, growMax, ent_new, ent_cons0, ent_consS, ent_at, ent_at0, h3]; rfl) ?_
                  refine W.condS (t := false) (by simp [stepsA, stepA, wantA, opA, St.eval, evals, putA, PV.cells, V.cells, PV.isCell, V.isCell, faddrA, loadA, storeA, splice, cut, mkVal, mkAgg, mkFn, pures, lenA, iaddrSlA, iaddrArrA, natOf?, elemAt, binA, intBin, strBin, unA, convA, eqRes, eqNil, isNil?, eqCell, eqCells, partA, fillA, callA, mkRes, snapL_eq, snapLF, snapLF_pvs, snap_pv, snap_slt, snap_slx, snap_nils, snap_agg, snap_fn, snap_ptr, snap_sln, sliceStrA, sliceSlA, bounds, idxStrA, idxArrA, srcCells, strideOk, isSlV, weak, weak.weakL, chunks, mkPV, growMax, ent_new, ent_cons0, ent_consS, ent_at, ent_at0]) (fun h => by cases h) (fun _ => ?_)
                  cases h4 : (k1 == 4) with
                  | true =>
                    have h4' : k1 = 4 := by simpa using h4
                    refine W.go (by simp [stepsA, stepA, wantA, opA, St.eval, evals, putA, PV.cells, V.cells, PV.isCell, V.isCell, faddrA, loadA, storeA, splice, cut, mkVal, mkAgg, mkFn, pures, lenA, iaddrSlA, iaddrArrA, natOf?, elemAt, binA, intBin, strBin, unA, convA, eqRes, eqNil, isNil?, eqCell, eqCells, partA, fillA, callA, mkRes, snapL_eq, snapLF, snapLF_pvs, snap_pv, snap_slt, snap_slx, snap_nils, snap_agg, snap_fn, snap_ptr, snap_sln, sliceStrA, sliceSlA, bounds, idxStrA, idxArrA, srcCells, strideOk, isSlV, weak, weak.weakL, chunks, mkPV, growMax, ent_new, ent_cons0, ent_consS, ent_at, ent_at0, h4]; rfl) ?_
                    refine W.condS (t := true) (by simp [stepsA, stepA, wantA, opA, St.eval, evals, putA, PV.cells, V.cells, PV.isCell, V.isCell, faddrA, loadA, storeA, splice, cut, mkVal, mkAgg, mkFn, pures, lenA, iaddrSlA, iaddrArrA, natOf?, elemAt, binA, intBin, strBin, unA, convA, eqRes, eqNil, isNil?, eqCell, eqCells, partA, fillA, callA, mkRes, snapL_eq, snapLF, snapLF_pvs, snap_pv, snap_slt, snap_slx, snap_nils, snap_agg, snap_fn, snap_ptr, snap_sln, sliceStrA, sliceSlA, bounds, idxStrA, idxArrA, srcCells, strideOk, isSlV, weak, weak.weakL, chunks, mkPV, growMax, ent_new, ent_cons0, ent_consS, ent_at, ent_at0]) (fun _ => ?_) (fun h => by cases h)
                    refine W.go (by simp [stepsA, stepA, wantA, opA, St.eval, evals, putA, PV.cells, V.cells, PV.isCell, V.isCell, faddrA, loadA, storeA, splice, cut, mkVal, mkAgg, mkFn, pures, lenA, iaddrSlA, iaddrArrA, natOf?, elemAt, binA, intBin, strBin, unA, convA, eqRes, eqNil, isNil?, eqCell, eqCells, partA, fillA, callA, mkRes, snapL_eq, snapLF, snapLF_pvs, snap_pv, snap_slt, snap_slx, snap_nils, snap_agg, snap_fn, snap_ptr, snap_sln, sliceStrA, sliceSlA, bounds, idxStrA, idxArrA, srcCells, strideOk, isSlV, weak, weak.weakL, chunks, mkPV, growMax, ent_new, ent_cons0, ent_consS, ent_at, ent_at0]; rfl) (W.skip ?_)
                    exact ⟨l.length, _, _, _, _, _, _, _, _, _, _, _, _, _, _, _, _, _, _, _, _, _, _, _, _, _, _, _, _, _, _, _, _, _, _, _, _, _, _, _, _, _, _, _, _, _, _, _, _, _, _, _, _, _, by simp [many, h4'], rfl⟩
                  | false =>
                    have h4' : ¬ k1 = 4 := by simpa using h4
                    refine W.go (by simp [stepsA, stepA, wantA, opA, St.eval, evals, putA, PV.cells, V.cells, PV.isCell, V.isCell, faddrA, loadA, storeA, splice, cut, mkVal, mkAgg, mkFn, pures, lenA, iaddrSlA, iaddrArrA, natOf?, elemAt, binA, intBin, strBin, unA, convA, eqRes, eqNil, isNil?, eqCell, eqCells, partA, fillA, callA, mkRes, snapL_eq, snapLF, snapLF_pvs, snap_pv, snap_slt, snap_slx, snap_nils, snap_agg, snap_fn, snap_ptr, snap_sln, sliceStrA, sliceSlA, bounds, idxStrA, idxArrA, srcCells, strideOk, isSlV, weak, weak.weakL, chunks, mkPV, growMax, ent_new, ent_cons0, ent_consS, ent_at, ent_at0, h4]; rfl) ?_
                    refine W.condS (t := false) (by simp [stepsA, stepA, wantA, opA, St.eval, evals, putA, PV.cells, V.cells, PV.isCell, V.isCell, faddrA, loadA, storeA, splice, cut, mkVal, mkAgg, mkFn, pures, lenA, iaddrSlA, iaddrArrA, natOf?, elemAt, binA, intBin, strBin, unA, convA, eqRes, eqNil, isNil?, eqCell, eqCells, partA, fillA, callA, mkRes, snapL_eq, snapLF, snapLF_pvs, snap_pv, snap_slt, snap_slx, snap_nils, snap_agg, snap_fn, snap_ptr, snap_sln, sliceStrA, sliceSlA, bounds, idxStrA, idxArrA, srcCells, strideOk, isSlV, weak, weak.weakL, chunks, mkPV, growMax, ent_new, ent_cons0, ent_consS, ent_at, ent_at0]) (fun h => by cases h) (fun _ => ?_)
                    cases h5 : (k1 == 5) with
                    | true =>
                      have h5' : k1 = 5 := by simpa using h5
                      refine W.go (by simp [stepsA, stepA, wantA, opA, St.eval, evals, putA, PV.cells, V.cells, PV.isCell, V.isCell, faddrA, loadA, storeA, splice, cut, mkVal, mkAgg, mkFn, pures, lenA, iaddrSlA, iaddrArrA, natOf?, elemAt, binA, intBin, strBin, unA, convA, eqRes, eqNil, isNil?, eqCell, eqCells, partA, fillA, callA, mkRes, snapL_eq, snapLF, snapLF_pvs, snap_pv, snap_slt, snap_slx, snap_nils, snap_agg, snap_fn, snap_ptr, snap_sln, sliceStrA, sliceSlA, bounds, idxStrA, idxArrA, srcCells, strideOk, isSlV, weak, weak.weakL, chunks, mkPV, growMax, ent_new, ent_cons0, ent_consS, ent_at, ent_at0, h5]; rfl) ?_
                      refine W.condS (t := true) (by simp [stepsA, stepA, wantA, opA, St.eval, evals, putA, PV.cells, V.cells, PV.isCell, V.isCell, faddrA, loadA, storeA, splice, cut, mkVal, mkAgg, mkFn, pures, lenA, iaddrSlA, iaddrArrA, natOf?, elemAt, binA, intBin, strBin, unA, convA, eqRes, eqNil, isNil?, eqCell, eqCells, partA, fillA, callA, mkRes, snapL_eq, snapLF, snapLF_pvs, snap_pv, snap_slt, snap_slx, snap_nils, snap_agg, snap_fn, snap_ptr, snap_sln, sliceStrA, sliceSlA, bounds, idxStrA, idxArrA, srcCells, strideOk, isSlV, weak, weak.weakL, chunks, mkPV, growMax, ent_new, ent_cons0, ent_consS, ent_at, ent_at0]) (fun _ => ?_) (fun h => by cases h)
                      refine W.go (by simp [stepsA, stepA, wantA, opA, St.eval, evals, putA, PV.cells, V.cells, PV.isCell, V.isCell, faddrA, loadA, storeA, splice, cut, mkVal, mkAgg, mkFn, pures, lenA, iaddrSlA, iaddrArrA, natOf?, elemAt, binA, intBin, strBin, unA, convA, eqRes, eqNil, isNil?, eqCell, eqCells, partA, fillA, callA, mkRes, snapL_eq, snapLF, snapLF_pvs, snap_pv, snap_slt, snap_slx, snap_nils, snap_agg, snap_fn, snap_ptr, snap_sln, sliceStrA, sliceSlA, bounds, idxStrA, idxArrA, srcCells, strideOk, isSlV, weak, weak.weakL, chunks, mkPV, growMax, ent_new, ent_cons0, ent_consS, ent_at, ent_at0]; rfl) (W.skip ?_)
                      exact ⟨1, _, _, _, _, _, _, _, _, _, _, _, _, _, _, _, _, _, _, _, _, _, _, _, _, _, _, _, _, _, _, _, _, _, _, _, _, _, _, _, _, _, _, _, _, _, _, _, _, _, _, _, _, _, by simp [many, h5'], rfl⟩
                    | false =>
                      have h5' : ¬ k1 = 5 := by simpa using h5
                      refine W.go (by simp [stepsA, stepA, wantA, opA, St.eval, evals, putA, PV.cells, V.cells, PV.isCell, V.isCell, faddrA, loadA, storeA, splice, cut, mkVal, mkAgg, mkFn, pures, lenA, iaddrSlA, iaddrArrA, natOf?, elemAt, binA, intBin, strBin, unA, convA, eqRes, eqNil, isNil?, eqCell, eqCells, partA, fillA, callA, mkRes, snapL_eq, snapLF, snapLF_pvs, snap_pv, snap_slt, snap_slx, snap_nils, snap_agg, snap_fn, snap_ptr, snap_sln, sliceStrA, sliceSlA, bounds, idxStrA, idxArrA, srcCells, strideOk, isSlV, weak, weak.weakL, chunks, mkPV, growMax, ent_new, ent_cons0, ent_consS, ent_at, ent_at0, h5]; rfl) ?_
                      refine W.condS (t := false) (by simp [stepsA, stepA, wantA, opA, St.eval, evals, putA, PV.cells, V.cells, PV.isCell, V.isCell, faddrA, loadA, storeA, splice, cut, mkVal, mkAgg, mkFn, pures, lenA, iaddrSlA, iaddrArrA, natOf?, elemAt, binA, intBin, strBin, unA, convA, eqRes, eqNil, isNil?, eqCell, eqCells, partA, fillA, callA, mkRes, snapL_eq, snapLF, snapLF_pvs, snap_pv, snap_slt, snap_slx, snap_nils, snap_agg, snap_fn, snap_ptr, snap_sln, sliceStrA, sliceSlA, bounds, idxStrA, idxArrA, srcCells, strideOk, isSlV, weak, weak.weakL, chunks, mkPV, growMax, ent_new, ent_cons0, ent_consS, ent_at, ent_at0]) (fun h => by cases h) (fun _ => ?_)
                      exact W.go (by simp [stepsA, stepA, wantA, opA, St.eval, evals, putA, PV.cells, V.cells, PV.isCell, V.isCell, faddrA, loadA, storeA, splice, cut, mkVal, mkAgg, mkFn, pures, lenA, iaddrSlA, iaddrArrA, natOf?, elemAt, binA, intBin, strBin, unA, convA, eqRes, eqNil, isNil?, eqCell, eqCells, partA, fillA, callA, mkRes, snapL_eq, snapLF, snapLF_pvs, snap_pv, snap_slt, snap_slx, snap_nils, snap_agg, snap_fn, snap_ptr, snap_sln, sliceStrA, sliceSlA, bounds, idxStrA, idxArrA, srcCells, strideOk, isSlV, weak, weak.weakL, chunks, mkPV, growMax, ent_new, ent_cons0, ent_consS, ent_at, ent_at0]; rfl) (W.retS (Fin.pv (by rw [hX]; simp [many, h0', h1', h2', h3', h4', h5'])))
        · rintro st ⟨m, x0, x1, x4, x6, x7, x8, x9, x10, x11, x12, x13, x14, x15, x16, x17, x18, x19, x20, x21, x22, x23, x24, x25, x26, x27, x28, x29, x30, x31, x32, x33, x34, x35, x36, x37, x38, x39, x40, x41, x42, x43, x44, x45, x46, x47, x48, x49, x50, x51, x52, x53, x54, x55, hm, rfl⟩
          rw [hm] at hX
          have hX : goodS (.mk k1 b1 s0 s1 s2 s3 l) d = (decide ((l.length : Int) = m) && goodS.goodL l (d - 1)) := hX
          have hc := contains_ok H.con H.idx (g := 77) (caps := [.ip [.int .i64 d] 0]) (xs := l) (r := fun y => !goodS y (d - 1)) H.good1.raw hf1 fun y hy => good1_ok H hw (ih y hy (hf2 y hy) (d - 1) (by omega))
          cases hl : decide ((l.length : Int) = m) with
          | false =>
            have hl' : ((l.length : Int) == m) = false := by simpa using hl
            exact W.go (by simp [stepsA, stepA, wantA, opA, St.eval, evals, putA, PV.cells, V.cells, PV.isCell, V.isCell, faddrA, loadA, storeA, splice, cut, mkVal, mkAgg, mkFn, pures, lenA, iaddrSlA, iaddrArrA, natOf?, elemAt, binA, intBin, strBin, unA, convA, eqRes, eqNil, isNil?, eqCell, eqCells, partA, fillA, callA, mkRes, snapL_eq, snapLF, snapLF_pvs, snap_pv, snap_slt, snap_slx, snap_nils, snap_agg, snap_fn, snap_ptr, snap_sln, sliceStrA, sliceSlA, bounds, idxStrA, idxArrA, srcCells, strideOk, isSlV, weak, weak.weakL, chunks, mkPV, growMax, ent_new, ent_cons0, ent_consS, ent_at, ent_at0, hl']; rfl) (W.retS (Fin.pv (by rw [hX, hl]; simp)))
          | true =>
            have hl' : ((l.length : Int) == m) = true := by simpa using hl
            exact W.go (by simp [stepsA, stepA, wantA, opA, St.eval, evals, putA, PV.cells, V.cells, PV.isCell, V.isCell, faddrA, loadA, storeA, splice, cut, mkVal, mkAgg, mkFn, pures, lenA, iaddrSlA, iaddrArrA, natOf?, elemAt, binA, intBin, strBin, unA, convA, eqRes, eqNil, isNil?, eqCell, eqCells, partA, fillA, callA, mkRes, snapL_eq, snapLF, snapLF_pvs, snap_pv, snap_slt, snap_slx, snap_nils, snap_agg, snap_fn, snap_ptr, snap_sln, sliceStrA, sliceSlA, bounds, idxStrA, idxArrA, srcCells, strideOk, isSlV, weak, weak.weakL, chunks, mkPV, growMax, ent_new, ent_cons0, ent_consS, ent_at, ent_at0, hl', H.con.raw, hc]; rfl) (W.retS (Fin.pv (by rw [hX, hl, goodL_any]; simp)))

theorem Good_ok (H : HasGood E) (x : Cd) (hx : FineB x) : limP E 12 [enc x] = some [.bool (decide (sizeS x ≤ 20000) && goodS x 8000)] := by
  have h1 := size_ok H.size x hx.fine
  have h2 := good_ok H x hx 8000 (by omega)
  obtain ⟨k1, b1, s0, s1, s2, s3, l⟩ := x
  refine H.Good.lim (Nat.le_of_ble_eq_true rfl) ?_
  unfold c12
  simp only [enc_mk] at h1 h2 ⊢
  refine W.go (by simp [stepsA, stepA, wantA, opA, St.eval, evals, putA, PV.cells, V.cells, PV.isCell, V.isCell, faddrA, loadA, storeA, splice, cut, mkVal, mkAgg, mkFn, pures, lenA, iaddrSlA, iaddrArrA, natOf?, elemAt, binA, intBin, strBin, unA, convA, eqRes, eqNil, isNil?, eqCell, eqCells, partA, fillA, callA, mkRes, snapL_eq, snapLF, snapLF_pvs, snap_pv, snap_slt, snap_slx, snap_nils, snap_agg, snap_fn, snap_ptr, snap_sln, sliceStrA, sliceSlA, bounds, idxStrA, idxArrA, srcCells, strideOk, isSlV, weak, weak.weakL, chunks, mkPV, growMax, ent_new, ent_cons0, ent_consS, ent_at, ent_at0]; rfl) ?_
  cases hs : decide (sizeS (.mk k1 b1 s0 s1 s2 s3 l) ≤ 20000) with
  | false => exact W.go (by simp [stepsA, stepA, wantA, opA, St.eval, evals, putA, PV.cells, V.cells, PV.isCell, V.isCell, faddrA, loadA, storeA, splice, cut, mkVal, mkAgg, mkFn, pures, lenA, iaddrSlA, iaddrArrA, natOf?, elemAt, binA, intBin, strBin, unA, convA, eqRes, eqNil, isNil?, eqCell, eqCells, partA, fillA, callA, mkRes, snapL_eq, snapLF, snapLF_pvs, snap_pv, snap_slt, snap_slx, snap_nils, snap_agg, snap_fn, snap_ptr, snap_sln, sliceStrA, sliceSlA, bounds, idxStrA, idxArrA, srcCells, strideOk, isSlV, weak, weak.weakL, chunks, mkPV, growMax, ent_new, ent_cons0, ent_consS, ent_at, ent_at0, H.size.raw, h1, hs]; rfl) (W.retS (Fin.pv (by simp)))
  | true => exact W.go (by simp [stepsA, stepA, wantA, opA, St.eval, evals, putA, PV.cells, V.cells, PV.isCell, V.isCell, faddrA, loadA, storeA, splice, cut, mkVal, mkAgg, mkFn, pures, lenA, iaddrSlA, iaddrArrA, natOf?, elemAt, binA, intBin, strBin, unA, convA, eqRes, eqNil, isNil?, eqCell, eqCells, partA, fillA, callA, mkRes, snapL_eq, snapLF, snapLF_pvs, snap_pv, snap_slt, snap_slx, snap_nils, snap_agg, snap_fn, snap_ptr, snap_sln, sliceStrA, sliceSlA, bounds, idxStrA, idxArrA, srcCells, strideOk, isSlV, weak, weak.weakL, chunks, mkPV, growMax, ent_new, ent_cons0, ent_consS, ent_at, ent_at0, H.size.raw, h1, hs, H.good.raw, h2]; rfl) (W.retS (Fin.pv (by simp)))

end Cds
