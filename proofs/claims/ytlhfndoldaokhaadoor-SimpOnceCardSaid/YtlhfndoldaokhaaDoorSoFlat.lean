/- Walks: flat rows of coded cores; how great they are. -/
import Derived.Test.YtlhfndoldaokhaaDoorSoWalk
set_option linter.unusedSimpArgs false
set_option linter.unusedVariables false
namespace Cds
open Go Ab Go.Proofs.YtlhfndoldaokhaaDoor.Mach

variable {E : Env}

/-- What one is in a flat row. -/
def flat1 : Cd → List Cd
  | .mk k b s0 s1 s2 s3 l => if k = 0 then [] else if k = 4 then l.map (fuse b) else [.mk k b s0 s1 s2 s3 l]

def flat (l : List Cd) : List Cd := l.flatMap flat1

theorem flat_ok (H : Has E 14 c14) (H1 : Has E 45 c45) {l : List Cd} (hl : l.length ≤ 1000) (hx1 : ∀ x ∈ l, x.l.length ≤ 1000) (hx2 : ∀ x ∈ l, ∀ y ∈ x.l, x.bits.length + y.bits.length ≤ 4611686018427387904) :
    limP E 14 [.sl (l.map enc)] = some [.sl ((flat l).map enc)] := by
  refine H.lim (Nat.le_of_ble_eq_true rfl) ?_
  unfold c14
  refine W.go (by simp [stepsA, stepA, wantA, opA, St.eval, evals, putA, PV.cells, V.cells, PV.isCell, V.isCell, faddrA, loadA, storeA, splice, cut, mkVal, mkAgg, mkFn, pures, lenA, iaddrSlA, iaddrArrA, natOf?, elemAt, binA, intBin, strBin, unA, convA, eqRes, eqNil, isNil?, eqCell, eqCells, partA, fillA, callA, mkRes, snapL_eq, snapLF, snapLF_pvs, snap_pv, snap_slt, snap_slx, snap_nils, snap_agg, snap_fn, snap_ptr, snap_sln, sliceStrA, sliceSlA, bounds, idxStrA, idxArrA, srcCells, strideOk, isSlV, weak, weak.weakL, chunks, mkPV, growMax, ent_new, ent_cons0, ent_consS, ent_at, ent_at0]; rfl) ?_
  refine W.go (by simp [stepsA, stepA, wantA, opA, St.eval, evals, putA, PV.cells, V.cells, PV.isCell, V.isCell, faddrA, loadA, storeA, splice, cut, mkVal, mkAgg, mkFn, pures, lenA, iaddrSlA, iaddrArrA, natOf?, elemAt, binA, intBin, strBin, unA, convA, eqRes, eqNil, isNil?, eqCell, eqCells, partA, fillA, callA, mkRes, snapL_eq, snapLF, snapLF_pvs, snap_pv, snap_slt, snap_slx, snap_nils, snap_agg, snap_fn, snap_ptr, snap_sln, sliceStrA, sliceSlA, bounds, idxStrA, idxArrA, srcCells, strideOk, isSlV, weak, weak.weakL, chunks, mkPV, growMax, ent_new, ent_cons0, ent_consS, ent_at, ent_at0]; rfl) ?_
  refine W.go (by simp [stepsA, stepA, wantA, opA, St.eval, evals, putA, PV.cells, V.cells, PV.isCell, V.isCell, faddrA, loadA, storeA, splice, cut, mkVal, mkAgg, mkFn, pures, lenA, iaddrSlA, iaddrArrA, natOf?, elemAt, binA, intBin, strBin, unA, convA, eqRes, eqNil, isNil?, eqCell, eqCells, partA, fillA, callA, mkRes, snapL_eq, snapLF, snapLF_pvs, snap_pv, snap_slt, snap_slx, snap_nils, snap_agg, snap_fn, snap_ptr, snap_sln, sliceStrA, sliceSlA, bounds, idxStrA, idxArrA, srcCells, strideOk, isSlV, weak, weak.weakL, chunks, mkPV, growMax, ent_new, ent_cons0, ent_consS, ent_at, ent_at0]; rfl) ?_
  refine W.blockS ?_
  refine W.loopS (fun k st => ∃ (j : Nat) (o : List Cd), j ≤ l.length ∧ k = l.length - j ∧ o.length ≤ 1000 * j ∧ o ++ flat (l.drop j) = flat l ∧ ∃ v x0 x1 x2 x4 x5 x6 x7 x11 x12 x13 x14 x15 x16 x17 x18 x19 x20 x21 x22 x23 x24 x25 x26 x27 x28 x29 x30 x31 x32 x33 x34 x35 x36 x37 x38 x39 x40 h, Row h v (o.map enc) ∧
    st = ⟨[x0, x1, x2, v, x4, x5, x6, x7, .pv (.sl (l.map enc)), .pv (.int .i64 l.length), .pv (.int .i64 j), x11, x12, x13, x14, x15, x16, x17, x18, x19, x20, x21, x22, x23, x24, x25, x26, x27, x28, x29, x30, x31, x32, x33, x34, x35, x36, x37, x38, x39, x40], h⟩) l.length ⟨0, [], by omega, by omega, by simp, rfl, .nils, _, _, _, _, _, _, _, _, _, _, _, _, _, _, _, _, _, _, _, _, _, _, _, _, _, _, _, _, _, _, _, _, _, _, _, _, _, _, Row.nil, rfl⟩ ?_
  rintro k st ⟨j, o, hj, rfl, hol, hi, v, x0, x1, x2, x4, x5, x6, x7, x11, x12, x13, x14, x15, x16, x17, x18, x19, x20, x21, x22, x23, x24, x25, x26, x27, x28, x29, x30, x31, x32, x33, x34, x35, x36, x37, x38, x39, x40, h, hrow, rfl⟩
  refine W.go (by simp [stepsA, stepA, wantA, opA, St.eval, evals, putA, PV.cells, V.cells, PV.isCell, V.isCell, faddrA, loadA, storeA, splice, cut, mkVal, mkAgg, mkFn, pures, lenA, iaddrSlA, iaddrArrA, natOf?, elemAt, binA, intBin, strBin, unA, convA, eqRes, eqNil, isNil?, eqCell, eqCells, partA, fillA, callA, mkRes, snapL_eq, snapLF, snapLF_pvs, snap_pv, snap_slt, snap_slx, snap_nils, snap_agg, snap_fn, snap_ptr, snap_sln, sliceStrA, sliceSlA, bounds, idxStrA, idxArrA, srcCells, strideOk, isSlV, weak, weak.weakL, chunks, mkPV, growMax, ent_new, ent_cons0, ent_consS, ent_at, ent_at0]; rfl) ?_
  refine W.condS (t := decide (j < l.length)) (by simp [stepsA, stepA, wantA, opA, St.eval, evals, putA, PV.cells, V.cells, PV.isCell, V.isCell, faddrA, loadA, storeA, splice, cut, mkVal, mkAgg, mkFn, pures, lenA, iaddrSlA, iaddrArrA, natOf?, elemAt, binA, intBin, strBin, unA, convA, eqRes, eqNil, isNil?, eqCell, eqCells, partA, fillA, callA, mkRes, snapL_eq, snapLF, snapLF_pvs, snap_pv, snap_slt, snap_slx, snap_nils, snap_agg, snap_fn, snap_ptr, snap_sln, sliceStrA, sliceSlA, bounds, idxStrA, idxArrA, srcCells, strideOk, isSlV, weak, weak.weakL, chunks, mkPV, growMax, ent_new, ent_cons0, ent_consS, ent_at, ent_at0]) (fun ht => W.skipS ?_) (fun ht => W.exitS (inB.here ?_))
  · have hj1 : j < l.length := of_decide_eq_true ht
    have hw : IntKind.i64.wrap ((j : Int) + 1) = (j : Int) + 1 := wrap_i64 (by omega)
    obtain ⟨x, hx⟩ : ∃ x, l[j]? = some x := ⟨_, List.getElem?_eq_getElem hj1⟩
    have hk1 := hx1 x (List.mem_of_getElem? hx)
    have hk2 := hx2 x (List.mem_of_getElem? hx)
    rw [drop_at hx] at hi
    obtain ⟨k1, b1, s0, s1, s2, s3, l1⟩ := x
    have hk1 : l1.length ≤ 1000 := hk1
    have hk2 : ∀ y ∈ l1, b1.length + y.bits.length ≤ 4611686018427387904 := hk2
    refine W.blockS ?_
    refine W.go (by simp [stepsA, stepA, wantA, opA, St.eval, evals, putA, PV.cells, V.cells, PV.isCell, V.isCell, faddrA, loadA, storeA, splice, cut, mkVal, mkAgg, mkFn, pures, lenA, iaddrSlA, iaddrArrA, natOf?, elemAt, binA, intBin, strBin, unA, convA, eqRes, eqNil, isNil?, eqCell, eqCells, partA, fillA, callA, mkRes, snapL_eq, snapLF, snapLF_pvs, snap_pv, snap_slt, snap_slx, snap_nils, snap_agg, snap_fn, snap_ptr, snap_sln, sliceStrA, sliceSlA, bounds, idxStrA, idxArrA, srcCells, strideOk, isSlV, weak, weak.weakL, chunks, mkPV, growMax, ent_new, ent_cons0, ent_consS, ent_at, ent_at0, List.getElem?_map, hx, enc_mk]; rfl) ?_
    refine W.go (by simp [stepsA, stepA, wantA, opA, St.eval, evals, putA, PV.cells, V.cells, PV.isCell, V.isCell, faddrA, loadA, storeA, splice, cut, mkVal, mkAgg, mkFn, pures, lenA, iaddrSlA, iaddrArrA, natOf?, elemAt, binA, intBin, strBin, unA, convA, eqRes, eqNil, isNil?, eqCell, eqCells, partA, fillA, callA, mkRes, snapL_eq, snapLF, snapLF_pvs, snap_pv, snap_slt, snap_slx, snap_nils, snap_agg, snap_fn, snap_ptr, snap_sln, sliceStrA, sliceSlA, bounds, idxStrA, idxArrA, srcCells, strideOk, isSlV, weak, weak.weakL, chunks, mkPV, growMax, ent_new, ent_cons0, ent_consS, ent_at, ent_at0]; rfl) ?_
    refine W.blockS ?_
    cases h0 : (k1 == 0) with
    | true =>
      have h0' : k1 = 0 := by simpa using h0
      refine W.go (by simp [stepsA, stepA, wantA, opA, St.eval, evals, putA, PV.cells, V.cells, PV.isCell, V.isCell, faddrA, loadA, storeA, splice, cut, mkVal, mkAgg, mkFn, pures, lenA, iaddrSlA, iaddrArrA, natOf?, elemAt, binA, intBin, strBin, unA, convA, eqRes, eqNil, isNil?, eqCell, eqCells, partA, fillA, callA, mkRes, snapL_eq, snapLF, snapLF_pvs, snap_pv, snap_slt, snap_slx, snap_nils, snap_agg, snap_fn, snap_ptr, snap_sln, sliceStrA, sliceSlA, bounds, idxStrA, idxArrA, srcCells, strideOk, isSlV, weak, weak.weakL, chunks, mkPV, growMax, ent_new, ent_cons0, ent_consS, ent_at, ent_at0, h0]; rfl) ?_
      refine W.condS (t := true) rfl (fun _ => W.skipS (W.skip ?_)) (fun h => by cases h)
      refine W.skip ?_
      refine W.go (by simp [stepsA, stepA, wantA, opA, St.eval, evals, putA, PV.cells, V.cells, PV.isCell, V.isCell, faddrA, loadA, storeA, splice, cut, mkVal, mkAgg, mkFn, pures, lenA, iaddrSlA, iaddrArrA, natOf?, elemAt, binA, intBin, strBin, unA, convA, eqRes, eqNil, isNil?, eqCell, eqCells, partA, fillA, callA, mkRes, snapL_eq, snapLF, snapLF_pvs, snap_pv, snap_slt, snap_slx, snap_nils, snap_agg, snap_fn, snap_ptr, snap_sln, sliceStrA, sliceSlA, bounds, idxStrA, idxArrA, srcCells, strideOk, isSlV, weak, weak.weakL, chunks, mkPV, growMax, ent_new, ent_cons0, ent_consS, ent_at, ent_at0, hw]; rfl) (W.skip ?_)
      refine ⟨l.length - (j + 1), by omega, j + 1, o, by omega, rfl, by omega, ?_, v, _, _, _, _, _, _, _, _, _, _, _, _, _, _, _, _, _, _, _, _, _, _, _, _, _, _, _, _, _, _, _, _, _, _, _, _, _, _, hrow.mono, rfl⟩
      simpa [flat, flat1, h0'] using hi
    | false =>
      have h0' : ¬ k1 = 0 := by simpa using h0
      refine W.go (by simp [stepsA, stepA, wantA, opA, St.eval, evals, putA, PV.cells, V.cells, PV.isCell, V.isCell, faddrA, loadA, storeA, splice, cut, mkVal, mkAgg, mkFn, pures, lenA, iaddrSlA, iaddrArrA, natOf?, elemAt, binA, intBin, strBin, unA, convA, eqRes, eqNil, isNil?, eqCell, eqCells, partA, fillA, callA, mkRes, snapL_eq, snapLF, snapLF_pvs, snap_pv, snap_slt, snap_slx, snap_nils, snap_agg, snap_fn, snap_ptr, snap_sln, sliceStrA, sliceSlA, bounds, idxStrA, idxArrA, srcCells, strideOk, isSlV, weak, weak.weakL, chunks, mkPV, growMax, ent_new, ent_cons0, ent_consS, ent_at, ent_at0, h0]; rfl) ?_
      refine W.condS (t := false) rfl (fun h => by cases h) (fun _ => ?_)
      cases h4 : (k1 == 4) with
      | true =>
        have h4' : k1 = 4 := by simpa using h4
        refine W.go (by simp [stepsA, stepA, wantA, opA, St.eval, evals, putA, PV.cells, V.cells, PV.isCell, V.isCell, faddrA, loadA, storeA, splice, cut, mkVal, mkAgg, mkFn, pures, lenA, iaddrSlA, iaddrArrA, natOf?, elemAt, binA, intBin, strBin, unA, convA, eqRes, eqNil, isNil?, eqCell, eqCells, partA, fillA, callA, mkRes, snapL_eq, snapLF, snapLF_pvs, snap_pv, snap_slt, snap_slx, snap_nils, snap_agg, snap_fn, snap_ptr, snap_sln, sliceStrA, sliceSlA, bounds, idxStrA, idxArrA, srcCells, strideOk, isSlV, weak, weak.weakL, chunks, mkPV, growMax, ent_new, ent_cons0, ent_consS, ent_at, ent_at0, h4]; rfl) ?_
        refine W.condS (t := true) rfl (fun _ => ?_) (fun h => by cases h)
        refine W.go (by simp [stepsA, stepA, wantA, opA, St.eval, evals, putA, PV.cells, V.cells, PV.isCell, V.isCell, faddrA, loadA, storeA, splice, cut, mkVal, mkAgg, mkFn, pures, lenA, iaddrSlA, iaddrArrA, natOf?, elemAt, binA, intBin, strBin, unA, convA, eqRes, eqNil, isNil?, eqCell, eqCells, partA, fillA, callA, mkRes, snapL_eq, snapLF, snapLF_pvs, snap_pv, snap_slt, snap_slx, snap_nils, snap_agg, snap_fn, snap_ptr, snap_sln, sliceStrA, sliceSlA, bounds, idxStrA, idxArrA, srcCells, strideOk, isSlV, weak, weak.weakL, chunks, mkPV, growMax, ent_new, ent_cons0, ent_consS, ent_at, ent_at0]; rfl) ?_
        refine W.blockS ?_
        have hi : o ++ l1.map (fuse b1) ++ flat (l.drop (j + 1)) = flat l := by
          rw [← hi]
          simp [flat, flat1, h4']
        refine W.loopS (fun k st => ∃ (i : Nat) (p : List Cd), i ≤ l1.length ∧ k = l1.length - i ∧ p.length ≤ 1000 * j + i ∧ p ++ (l1.drop i).map (fuse b1) = o ++ l1.map (fuse b1) ∧ ∃ v n te x0 x1 x2 x4 x6 x7 x11 x12 x13 x14 x15 x16 x17 x18 x19 x20 x21 x22 x23 x24 x28 x29 x30 x31 x32 x33 x34 x35 x36 x37 x38 x39 x40 h, Row h v (p.map enc) ∧
          ent h n = .blk [.pv (.int .i64 k1), .pv (.str b1), .pv (.int .u64 s0), .pv (.int .u64 s1), .pv (.int .u64 s2), .pv (.int .u64 s3), .pv (.sl (l1.map enc))] te ∧
          st = ⟨[x0, x1, x2, v, x4, .ptr n 0, x6, x7, .pv (.sl (l.map enc)), .pv (.int .i64 l.length), .pv (.int .i64 j), x11, x12, x13, x14, x15, x16, x17, x18, x19, x20, x21, x22, x23, x24, .pv (.sl (l1.map enc)), .pv (.int .i64 l1.length), .pv (.int .i64 i), x28, x29, x30, x31, x32, x33, x34, x35, x36, x37, x38, x39, x40], h⟩)
          l1.length ⟨0, o, by omega, by omega, by omega, rfl, v, h.length, _, _, _, _, _, _, _, _, _, _, _, _, _, _, _, _, _, _, _, _, _, _, _, _, _, _, _, _, _, _, _, _, _, _, _, hrow.mono, ent_new, rfl⟩ ?_
        clear hrow
        rintro k st ⟨i, p, hi2, rfl, hpl, hp, v, n, te, x0, x1, x2, x4, x6, x7, x11, x12, x13, x14, x15, x16, x17, x18, x19, x20, x21, x22, x23, x24, x28, x29, x30, x31, x32, x33, x34, x35, x36, x37, x38, x39, x40, h, hrow, hn, rfl⟩
        refine W.go (by simp [stepsA, stepA, wantA, opA, St.eval, evals, putA, PV.cells, V.cells, PV.isCell, V.isCell, faddrA, loadA, storeA, splice, cut, mkVal, mkAgg, mkFn, pures, lenA, iaddrSlA, iaddrArrA, natOf?, elemAt, binA, intBin, strBin, unA, convA, eqRes, eqNil, isNil?, eqCell, eqCells, partA, fillA, callA, mkRes, snapL_eq, snapLF, snapLF_pvs, snap_pv, snap_slt, snap_slx, snap_nils, snap_agg, snap_fn, snap_ptr, snap_sln, sliceStrA, sliceSlA, bounds, idxStrA, idxArrA, srcCells, strideOk, isSlV, weak, weak.weakL, chunks, mkPV, growMax, ent_new, ent_cons0, ent_consS, ent_at, ent_at0]; rfl) ?_
        refine W.condS (t := decide (i < l1.length)) (by simp [stepsA, stepA, wantA, opA, St.eval, evals, putA, PV.cells, V.cells, PV.isCell, V.isCell, faddrA, loadA, storeA, splice, cut, mkVal, mkAgg, mkFn, pures, lenA, iaddrSlA, iaddrArrA, natOf?, elemAt, binA, intBin, strBin, unA, convA, eqRes, eqNil, isNil?, eqCell, eqCells, partA, fillA, callA, mkRes, snapL_eq, snapLF, snapLF_pvs, snap_pv, snap_slt, snap_slx, snap_nils, snap_agg, snap_fn, snap_ptr, snap_sln, sliceStrA, sliceSlA, bounds, idxStrA, idxArrA, srcCells, strideOk, isSlV, weak, weak.weakL, chunks, mkPV, growMax, ent_new, ent_cons0, ent_consS, ent_at, ent_at0]) (fun ht => W.skipS ?_) (fun ht => W.exitS (inB.here ?_))
        · have hi1 : i < l1.length := of_decide_eq_true ht
          have hw : IntKind.i64.wrap ((i : Int) + 1) = (i : Int) + 1 := wrap_i64 (by omega)
          obtain ⟨y, hy⟩ : ∃ y, l1[i]? = some y := ⟨_, List.getElem?_eq_getElem hi1⟩
          have hf := fuse_ok H1 b1 y (hk2 y (List.mem_of_getElem? hy))
          rw [drop_at hy] at hp
          generalize hz : fuse b1 y = z at hf
          simp only [List.map_cons, hz] at hp
          obtain ⟨k2, b2, t0, t1, t2, t3, l2⟩ := y
          obtain ⟨k3, b3, u0, u1, u2, u3, l3⟩ := z
          simp only [enc_mk] at hf
          have hn' : ∀ l', ent (h ++ l') n = .blk [.pv (.int .i64 k1), .pv (.str b1), .pv (.int .u64 s0), .pv (.int .u64 s1), .pv (.int .u64 s2), .pv (.int .u64 s3), .pv (.sl (l1.map enc))] te := fun l' => ent_app hn (by simp)
          have happ : ∀ (l' : Heap) (te : TypeId), appendA (h ++ l') true false 7 80 te v 1 [.pv (.int .i64 k3), .pv (.str b3), .pv (.int .u64 u0), .pv (.int .u64 u1), .pv (.int .u64 u2), .pv (.int .u64 u3), .pv (.sl (l3.map enc))] =
              some (.slt ((p ++ [Cd.mk k3 b3 u0 u1 u2 u3 l3]).map enc) (h ++ l').length, kill (h ++ l') v ++ [.tok]) := fun l' te => by
            rw [(hrow.mono (l := l')).app (by omega) (stride_enc p) rfl (by simp; omega) rfl rfl]
            simp [chunks, mkPV, enc_mk]
          refine W.blockS ?_
          refine W.go (by simp [stepsA, stepA, wantA, opA, St.eval, evals, putA, PV.cells, V.cells, PV.isCell, V.isCell, faddrA, loadA, storeA, splice, cut, mkVal, mkAgg, mkFn, pures, lenA, iaddrSlA, iaddrArrA, natOf?, elemAt, binA, intBin, strBin, unA, convA, eqRes, eqNil, isNil?, eqCell, eqCells, partA, fillA, callA, mkRes, snapL_eq, snapLF, snapLF_pvs, snap_pv, snap_slt, snap_slx, snap_nils, snap_agg, snap_fn, snap_ptr, snap_sln, sliceStrA, sliceSlA, bounds, idxStrA, idxArrA, srcCells, strideOk, isSlV, weak, weak.weakL, chunks, mkPV, growMax, ent_new, ent_cons0, ent_consS, ent_at, ent_at0, List.getElem?_map, hy, enc_mk]; rfl) ?_
          refine W.go (by simp [stepsA, stepA, wantA, opA, St.eval, evals, putA, PV.cells, V.cells, PV.isCell, V.isCell, faddrA, loadA, storeA, splice, cut, mkVal, mkAgg, mkFn, pures, lenA, iaddrSlA, iaddrArrA, natOf?, elemAt, binA, intBin, strBin, unA, convA, eqRes, eqNil, isNil?, eqCell, eqCells, partA, fillA, callA, mkRes, snapL_eq, snapLF, snapLF_pvs, snap_pv, snap_slt, snap_slx, snap_nils, snap_agg, snap_fn, snap_ptr, snap_sln, sliceStrA, sliceSlA, bounds, idxStrA, idxArrA, srcCells, strideOk, isSlV, weak, weak.weakL, chunks, mkPV, growMax, ent_new, ent_cons0, ent_consS, ent_at, ent_at0, hn', H1.raw, hf, happ]; rfl) (W.skip ?_)
          refine W.go (by simp [stepsA, stepA, wantA, opA, St.eval, evals, putA, PV.cells, V.cells, PV.isCell, V.isCell, faddrA, loadA, storeA, splice, cut, mkVal, mkAgg, mkFn, pures, lenA, iaddrSlA, iaddrArrA, natOf?, elemAt, binA, intBin, strBin, unA, convA, eqRes, eqNil, isNil?, eqCell, eqCells, partA, fillA, callA, mkRes, snapL_eq, snapLF, snapLF_pvs, snap_pv, snap_slt, snap_slx, snap_nils, snap_agg, snap_fn, snap_ptr, snap_sln, sliceStrA, sliceSlA, bounds, idxStrA, idxArrA, srcCells, strideOk, isSlV, weak, weak.weakL, chunks, mkPV, growMax, ent_new, ent_cons0, ent_consS, ent_at, ent_at0, hw]; rfl) (W.skip ?_)
          refine ⟨l1.length - (i + 1), by omega, i + 1, p ++ [Cd.mk k3 b3 u0 u1 u2 u3 l3], by omega, rfl, by simp; omega, by simpa using hp, _, n, te, _, _, _, _, _, _, _, _, _, _, _, _, _, _, _, _, _, _, _, _, _, _, _, _, _, _, _, _, _, _, _, _, _, _, ?_, ?_, rfl⟩
          · rw [List.map_append]
            exact Row.done (by simp) (by simp)
          · exact Row.keep (hrow.mono) (hn' _) (by simp) (by simp)
        · have hi1 : l1.length ≤ i := by simpa using ht
          rw [List.drop_eq_nil_of_le hi1] at hp
          have hp : p = o ++ l1.map (fuse b1) := by simpa using hp
          have hw : IntKind.i64.wrap ((j : Int) + 1) = (j : Int) + 1 := wrap_i64 (by omega)
          refine W.skip (W.skip ?_)
          refine W.go (by simp [stepsA, stepA, wantA, opA, St.eval, evals, putA, PV.cells, V.cells, PV.isCell, V.isCell, faddrA, loadA, storeA, splice, cut, mkVal, mkAgg, mkFn, pures, lenA, iaddrSlA, iaddrArrA, natOf?, elemAt, binA, intBin, strBin, unA, convA, eqRes, eqNil, isNil?, eqCell, eqCells, partA, fillA, callA, mkRes, snapL_eq, snapLF, snapLF_pvs, snap_pv, snap_slt, snap_slx, snap_nils, snap_agg, snap_fn, snap_ptr, snap_sln, sliceStrA, sliceSlA, bounds, idxStrA, idxArrA, srcCells, strideOk, isSlV, weak, weak.weakL, chunks, mkPV, growMax, ent_new, ent_cons0, ent_consS, ent_at, ent_at0, hw]; rfl) (W.skip ?_)
          refine ⟨l.length - (j + 1), by omega, j + 1, p, by omega, rfl, by omega, ?_, v, _, _, _, _, _, _, _, _, _, _, _, _, _, _, _, _, _, _, _, _, _, _, _, _, _, _, _, _, _, _, _, _, _, _, _, _, _, _, hrow, rfl⟩
          rw [hp]; exact hi
      | false =>
        have h4' : ¬ k1 = 4 := by simpa using h4
        refine W.go (by simp [stepsA, stepA, wantA, opA, St.eval, evals, putA, PV.cells, V.cells, PV.isCell, V.isCell, faddrA, loadA, storeA, splice, cut, mkVal, mkAgg, mkFn, pures, lenA, iaddrSlA, iaddrArrA, natOf?, elemAt, binA, intBin, strBin, unA, convA, eqRes, eqNil, isNil?, eqCell, eqCells, partA, fillA, callA, mkRes, snapL_eq, snapLF, snapLF_pvs, snap_pv, snap_slt, snap_slx, snap_nils, snap_agg, snap_fn, snap_ptr, snap_sln, sliceStrA, sliceSlA, bounds, idxStrA, idxArrA, srcCells, strideOk, isSlV, weak, weak.weakL, chunks, mkPV, growMax, ent_new, ent_cons0, ent_consS, ent_at, ent_at0, h4]; rfl) ?_
        refine W.condS (t := false) rfl (fun h => by cases h) (fun _ => ?_)
        have happ : ∀ (l' : Heap) (te : TypeId), appendA (h ++ l') true false 7 80 te v 1 [.pv (.int .i64 k1), .pv (.str b1), .pv (.int .u64 s0), .pv (.int .u64 s1), .pv (.int .u64 s2), .pv (.int .u64 s3), .pv (.sl (l1.map enc))] =
            some (.slt ((o ++ [Cd.mk k1 b1 s0 s1 s2 s3 l1]).map enc) (h ++ l').length, kill (h ++ l') v ++ [.tok]) := fun l' te => by
          rw [(hrow.mono (l := l')).app (by omega) (stride_enc o) rfl (by simp; omega) rfl rfl]
          simp [chunks, mkPV, enc_mk]
        refine W.go (by simp [stepsA, stepA, wantA, opA, St.eval, evals, putA, PV.cells, V.cells, PV.isCell, V.isCell, faddrA, loadA, storeA, splice, cut, mkVal, mkAgg, mkFn, pures, lenA, iaddrSlA, iaddrArrA, natOf?, elemAt, binA, intBin, strBin, unA, convA, eqRes, eqNil, isNil?, eqCell, eqCells, partA, fillA, callA, mkRes, snapL_eq, snapLF, snapLF_pvs, snap_pv, snap_slt, snap_slx, snap_nils, snap_agg, snap_fn, snap_ptr, snap_sln, sliceStrA, sliceSlA, bounds, idxStrA, idxArrA, srcCells, strideOk, isSlV, weak, weak.weakL, chunks, mkPV, growMax, ent_new, ent_cons0, ent_consS, ent_at, ent_at0, happ]; rfl) (W.skip ?_)
        refine W.skip ?_
        refine W.go (by simp [stepsA, stepA, wantA, opA, St.eval, evals, putA, PV.cells, V.cells, PV.isCell, V.isCell, faddrA, loadA, storeA, splice, cut, mkVal, mkAgg, mkFn, pures, lenA, iaddrSlA, iaddrArrA, natOf?, elemAt, binA, intBin, strBin, unA, convA, eqRes, eqNil, isNil?, eqCell, eqCells, partA, fillA, callA, mkRes, snapL_eq, snapLF, snapLF_pvs, snap_pv, snap_slt, snap_slx, snap_nils, snap_agg, snap_fn, snap_ptr, snap_sln, sliceStrA, sliceSlA, bounds, idxStrA, idxArrA, srcCells, strideOk, isSlV, weak, weak.weakL, chunks, mkPV, growMax, ent_new, ent_cons0, ent_consS, ent_at, ent_at0, hw]; rfl) (W.skip ?_)
        refine ⟨l.length - (j + 1), by omega, j + 1, o ++ [Cd.mk k1 b1 s0 s1 s2 s3 l1], by omega, rfl, by simp; omega, ?_, _, _, _, _, _, _, _, _, _, _, _, _, _, _, _, _, _, _, _, _, _, _, _, _, _, _, _, _, _, _, _, _, _, _, _, _, _, _, _, ?_, rfl⟩
        · simpa [flat, flat1, h0', h4'] using hi
        · rw [List.map_append]
          exact Row.done (by simp) (by simp)
  · have hj1 : l.length ≤ j := by simpa using ht
    rw [List.drop_eq_nil_of_le hj1] at hi
    have hi : o = flat l := by simpa [flat] using hi
    refine W.go (by simp [stepsA, stepA, wantA, opA, St.eval, evals, putA, PV.cells, V.cells, PV.isCell, V.isCell, faddrA, loadA, storeA, splice, cut, mkVal, mkAgg, mkFn, pures, lenA, iaddrSlA, iaddrArrA, natOf?, elemAt, binA, intBin, strBin, unA, convA, eqRes, eqNil, isNil?, eqCell, eqCells, partA, fillA, callA, mkRes, snapL_eq, snapLF, snapLF_pvs, snap_pv, snap_slt, snap_slx, snap_nils, snap_agg, snap_fn, snap_ptr, snap_sln, sliceStrA, sliceSlA, bounds, idxStrA, idxArrA, srcCells, strideOk, isSlV, weak, weak.weakL, chunks, mkPV, growMax, ent_new, ent_cons0, ent_consS, ent_at, ent_at0]; rfl) (W.retS ?_)
    rw [← hi]
    exact Fin.row (by simp) hrow

end Cds
