/- Walks: coded cores alike, each said once, flat rows. -/
import Derived.Test.YtlhfndoldaokhaaDoorAbWalk
import Derived.Test.YtlhfndoldaokhaaDoorSoPlain
import Derived.Test.YtlhfndoldaokhaaDoorSoCode
set_option linter.unusedSimpArgs false
set_option linter.unusedVariables false
namespace Cds
open Go Ab Go.Proofs.YtlhfndoldaokhaaDoor.Mach

/-- A coded core as a value. -/
def enc : Cd → PV
  | .mk k b s0 s1 s2 s3 l => .agg [.int .i64 k, .str b, .int .u64 s0, .int .u64 s1, .int .u64 s2, .int .u64 s3, .sl (encL l)]
where
  encL : List Cd → List PV
  | [] => []
  | x :: l => enc x :: encL l

theorem encL_map : ∀ l, enc.encL l = l.map enc
  | [] => rfl
  | x :: l => by simp [enc.encL, encL_map l]

theorem enc_mk (k b s0 s1 s2 s3 l) : enc (.mk k b s0 s1 s2 s3 l) = .agg [.int .i64 k, .str b, .int .u64 s0, .int .u64 s1, .int .u64 s2, .int .u64 s3, .sl (l.map enc)] := by simp [enc, encL_map]

theorem Cd.ind {p : Cd → Prop} (h : ∀ k b s0 s1 s2 s3 l, (∀ y ∈ l, p y) → p (.mk k b s0 s1 s2 s3 l)) : ∀ x, p x
  | .mk k b s0 s1 s2 s3 l => h k b s0 s1 s2 s3 l (indL h l)
where
  indL {p : Cd → Prop} (h : ∀ k b s0 s1 s2 s3 l, (∀ y ∈ l, p y) → p (.mk k b s0 s1 s2 s3 l)) : ∀ (l : List Cd), ∀ y ∈ l, p y
  | [], y, hy => by cases hy
  | x :: l, y, hy => by
    rcases List.mem_cons.1 hy with h1 | h1
    · rw [h1]; exact Cd.ind h x
    · exact indL h l y h1

/-- A function as the text has it, no answer known ahead. -/
structure Has (E : Env) (f : FuncId) (c : AFunc) : Prop where
  func : E.func f = some c
  raw : E.raw f = false
  ext : ∀ ps, E.ext f ps = none

/-- At a function's end. -/
def Fin (res : List AResult) (rs : List PV) (ex : AExit) (st : St) : Prop := (ex = .normal ∨ ex = .ret) ∧ ∃ us, resA st res = some us ∧ pureRes (oneOf us) st.heap = some rs

theorem Fin.pv {i : Nat} {p : PV} {st : St} (h : st.tmps[i]? = some (.pv p)) : Fin [.tmp i] [p] .ret st :=
  ⟨.inr rfl, [.pv p], by simp [resA, h], by simp [oneOf, pureRes, snap, snapFuel]⟩
theorem Fin.slt {i tok : Nat} {es : List PV} {st : St} (h : st.tmps[i]? = some (.slt es tok)) : Fin [.tmp i] [.sl es] .ret st :=
  ⟨.inr rfl, [.slt es tok], by simp [resA, h], by simp [oneOf, pureRes, snap, snapFuel]⟩
theorem Fin.nils {i : Nat} {st : St} (h : st.tmps[i]? = some .nils) : Fin [.tmp i] [.sl []] .ret st :=
  ⟨.inr rfl, [.nils], by simp [resA, h], by simp [oneOf, pureRes, snap, snapFuel]⟩

theorem Fin.row {i : Nat} {v : V} {es : List PV} {st : St} {h : Heap} (h0 : st.tmps[i]? = some v) (r : Row h v es) : Fin [.tmp i] [.sl es] .ret st := by
  rcases r with ⟨rfl, rfl⟩ | ⟨_, tok, rfl, _⟩
  · exact Fin.nils h0
  · exact Fin.slt h0

theorem Has.lim {E : Env} {f : FuncId} {af : AFunc} {ps rs : List PV} (h : Has E f af) (hl : ps.length ≤ af.ntmps)
    (hw : W E (app af.body .skip) ⟨ps.map .pv ++ List.replicate (af.ntmps - ps.length) (.tup []), []⟩ (Fin af.results rs)) : limP E f ps = some rs :=
  (Ans.enter (h.ext _) h.func hl (W.start hw)).lim

theorem wrap_i64 {n : Int} (h : -9223372036854775808 ≤ n ∧ n ≤ 9223372036854775807) : IntKind.i64.wrap n = n := by
  rw [IntKind.wrap_i64]; omega

variable {E : Env}

/-- All alike, one by one. -/
def eqAll (r : Cd → Cd → Bool) : List Cd → List Cd → Bool
  | [], [] => true
  | x :: xs, y :: ys => r x y && eqAll r xs ys
  | _, _ => false

theorem eqAll_length {r : Cd → Cd → Bool} : ∀ {xs ys : List Cd}, xs.length ≠ ys.length → eqAll r xs ys = false
  | [], [], h => absurd rfl h
  | [], _ :: _, _ => rfl
  | _ :: _, [], _ => rfl
  | x :: xs, y :: ys, h => by simp [eqAll, eqAll_length (xs := xs) (ys := ys) (by simpa using h)]

theorem drop_at {α : Type} {l : List α} {j : Nat} {y : α} (hy : l[j]? = some y) : l.drop j = y :: l.drop (j + 1) := by
  obtain ⟨hj, rfl⟩ := List.getElem?_eq_some_iff.1 hy
  exact List.drop_eq_getElem_cons hj

theorem lt_of_at {α : Type} {l : List α} {j : Nat} {y : α} (hy : l[j]? = some y) : j < l.length := (List.getElem?_eq_some_iff.1 hy).1

/-- slices.EqualFunc. -/
theorem equal_ok (H : Has E 53 c53) {g : FuncId} {caps : List PV} {xs ys : List Cd} {r : Cd → Cd → Bool} (hg : E.raw g = false) (hl : xs.length ≤ 9223372036854775807)
    (hr : ∀ x ∈ xs, ∀ y ∈ ys, limP E g (enc x :: enc y :: caps) = some [.bool (r x y)]) : limP E 53 [.sl (xs.map enc), .sl (ys.map enc), .fn g caps] = some [.bool (eqAll r xs ys)] := by
  refine H.lim (Nat.le_of_ble_eq_true rfl) ?_
  unfold c53
  refine W.go (by simp [stepsA, stepA, wantA, opA, St.eval, evals, putA, PV.cells, V.cells, PV.isCell, V.isCell, faddrA, loadA, storeA, splice, cut, mkVal, mkAgg, mkFn, pures, lenA, iaddrSlA, iaddrArrA, natOf?, elemAt, binA, intBin, strBin, unA, convA, eqRes, eqNil, isNil?, eqCell, eqCells, partA, fillA, callA, mkRes, snapL_eq, snapLF, snapLF_pvs, snap_pv, snap_slt, snap_slx, snap_nils, snap_agg, snap_fn, snap_ptr, snap_sln, sliceStrA, sliceSlA, bounds, idxStrA, idxArrA, srcCells, strideOk, isSlV, weak, weak.weakL, chunks, mkPV, growMax, ent_new, ent_cons0, ent_consS, ent_at, ent_at0]; rfl) ?_
  refine W.go (by simp [stepsA, stepA, wantA, opA, St.eval, evals, putA, PV.cells, V.cells, PV.isCell, V.isCell, faddrA, loadA, storeA, splice, cut, mkVal, mkAgg, mkFn, pures, lenA, iaddrSlA, iaddrArrA, natOf?, elemAt, binA, intBin, strBin, unA, convA, eqRes, eqNil, isNil?, eqCell, eqCells, partA, fillA, callA, mkRes, snapL_eq, snapLF, snapLF_pvs, snap_pv, snap_slt, snap_slx, snap_nils, snap_agg, snap_fn, snap_ptr, snap_sln, sliceStrA, sliceSlA, bounds, idxStrA, idxArrA, srcCells, strideOk, isSlV, weak, weak.weakL, chunks, mkPV, growMax, ent_new, ent_cons0, ent_consS, ent_at, ent_at0]; rfl) ?_
  refine W.condS (by simp [stepsA, stepA, wantA, opA, St.eval, evals, putA, PV.cells, V.cells, PV.isCell, V.isCell, faddrA, loadA, storeA, splice, cut, mkVal, mkAgg, mkFn, pures, lenA, iaddrSlA, iaddrArrA, natOf?, elemAt, binA, intBin, strBin, unA, convA, eqRes, eqNil, isNil?, eqCell, eqCells, partA, fillA, callA, mkRes, snapL_eq, snapLF, snapLF_pvs, snap_pv, snap_slt, snap_slx, snap_nils, snap_agg, snap_fn, snap_ptr, snap_sln, sliceStrA, sliceSlA, bounds, idxStrA, idxArrA, srcCells, strideOk, isSlV, weak, weak.weakL, chunks, mkPV, growMax, ent_new, ent_cons0, ent_consS, ent_at, ent_at0]; rfl) (fun ht => ?_) (fun ht => ?_)
  · refine W.go (by simp [stepsA, stepA, wantA, opA, St.eval, evals, putA, PV.cells, V.cells, PV.isCell, V.isCell, faddrA, loadA, storeA, splice, cut, mkVal, mkAgg, mkFn, pures, lenA, iaddrSlA, iaddrArrA, natOf?, elemAt, binA, intBin, strBin, unA, convA, eqRes, eqNil, isNil?, eqCell, eqCells, partA, fillA, callA, mkRes, snapL_eq, snapLF, snapLF_pvs, snap_pv, snap_slt, snap_slx, snap_nils, snap_agg, snap_fn, snap_ptr, snap_sln, sliceStrA, sliceSlA, bounds, idxStrA, idxArrA, srcCells, strideOk, isSlV, weak, weak.weakL, chunks, mkPV, growMax, ent_new, ent_cons0, ent_consS, ent_at, ent_at0]; rfl) (W.retS (Fin.pv ?_))
    have hne : xs.length ≠ ys.length := by simp at ht; omega
    simp [eqAll_length (r := r) hne]
  have hxy : xs.length = ys.length := by simp at ht; omega
  refine W.skipS ?_
  refine W.go (by simp [stepsA, stepA, wantA, opA, St.eval, evals, putA, PV.cells, V.cells, PV.isCell, V.isCell, faddrA, loadA, storeA, splice, cut, mkVal, mkAgg, mkFn, pures, lenA, iaddrSlA, iaddrArrA, natOf?, elemAt, binA, intBin, strBin, unA, convA, eqRes, eqNil, isNil?, eqCell, eqCells, partA, fillA, callA, mkRes, snapL_eq, snapLF, snapLF_pvs, snap_pv, snap_slt, snap_slx, snap_nils, snap_agg, snap_fn, snap_ptr, snap_sln, sliceStrA, sliceSlA, bounds, idxStrA, idxArrA, srcCells, strideOk, isSlV, weak, weak.weakL, chunks, mkPV, growMax, ent_new, ent_cons0, ent_consS, ent_at, ent_at0]; rfl) ?_
  refine W.blockS ?_
  refine W.loopS (fun k st => ∃ j : Nat, j ≤ xs.length ∧ k = xs.length - j ∧ eqAll r (xs.drop j) (ys.drop j) = eqAll r xs ys ∧ ∃ x0 x3 x4 x5 x6 x7 x8 x9 x10 x11 x12 x13 x14 x18 x19 x20 x21 x22 x23 x24 x25 x26 x27 x28 x29 x30 x31 h,
    st = ⟨[x0, .pv (.sl (ys.map enc)), .pv (.fn g caps), x3, x4, x5, x6, x7, x8, x9, x10, x11, x12, x13, x14, .pv (.sl (xs.map enc)), .pv (.int .i64 xs.length), .pv (.int .i64 j), x18, x19, x20, x21, x22, x23, x24, x25, x26, x27, x28, x29, x30, x31], h⟩) xs.length ⟨0, by omega, by omega, rfl, _, _, _, _, _, _, _, _, _, _, _, _, _, _, _, _, _, _, _, _, _, _, _, _, _, _, _, _, rfl⟩ ?_
  rintro k st ⟨j, hj, rfl, hi, x0, x3, x4, x5, x6, x7, x8, x9, x10, x11, x12, x13, x14, x18, x19, x20, x21, x22, x23, x24, x25, x26, x27, x28, x29, x30, x31, h, rfl⟩
  refine W.go (by simp [stepsA, stepA, wantA, opA, St.eval, evals, putA, PV.cells, V.cells, PV.isCell, V.isCell, faddrA, loadA, storeA, splice, cut, mkVal, mkAgg, mkFn, pures, lenA, iaddrSlA, iaddrArrA, natOf?, elemAt, binA, intBin, strBin, unA, convA, eqRes, eqNil, isNil?, eqCell, eqCells, partA, fillA, callA, mkRes, snapL_eq, snapLF, snapLF_pvs, snap_pv, snap_slt, snap_slx, snap_nils, snap_agg, snap_fn, snap_ptr, snap_sln, sliceStrA, sliceSlA, bounds, idxStrA, idxArrA, srcCells, strideOk, isSlV, weak, weak.weakL, chunks, mkPV, growMax, ent_new, ent_cons0, ent_consS, ent_at, ent_at0]; rfl) ?_
  refine W.condS (t := decide (j < xs.length)) (by simp [stepsA, stepA, wantA, opA, St.eval, evals, putA, PV.cells, V.cells, PV.isCell, V.isCell, faddrA, loadA, storeA, splice, cut, mkVal, mkAgg, mkFn, pures, lenA, iaddrSlA, iaddrArrA, natOf?, elemAt, binA, intBin, strBin, unA, convA, eqRes, eqNil, isNil?, eqCell, eqCells, partA, fillA, callA, mkRes, snapL_eq, snapLF, snapLF_pvs, snap_pv, snap_slt, snap_slx, snap_nils, snap_agg, snap_fn, snap_ptr, snap_sln, sliceStrA, sliceSlA, bounds, idxStrA, idxArrA, srcCells, strideOk, isSlV, weak, weak.weakL, chunks, mkPV, growMax, ent_new, ent_cons0, ent_consS, ent_at, ent_at0]) (fun ht => W.skipS ?_) (fun ht => W.exitS (inB.here ?_))
  · have hj1 : j < xs.length := of_decide_eq_true ht
    obtain ⟨x, hx⟩ : ∃ x, xs[j]? = some x := ⟨_, List.getElem?_eq_getElem hj1⟩
    obtain ⟨y, hy⟩ : ∃ y, ys[j]? = some y := ⟨_, List.getElem?_eq_getElem (hxy ▸ hj1)⟩
    have hc := hr x (List.mem_of_getElem? hx) y (List.mem_of_getElem? hy)
    rw [drop_at hx, drop_at hy] at hi
    simp only [eqAll] at hi
    obtain ⟨k1, b1, s0, s1, s2, s3, l1⟩ := x
    obtain ⟨k2, b2, t0, t1, t2, t3, l2⟩ := y
    simp only [enc_mk] at hc
    refine W.blockS ?_
    refine W.go (by simp [stepsA, stepA, wantA, opA, St.eval, evals, putA, PV.cells, V.cells, PV.isCell, V.isCell, faddrA, loadA, storeA, splice, cut, mkVal, mkAgg, mkFn, pures, lenA, iaddrSlA, iaddrArrA, natOf?, elemAt, binA, intBin, strBin, unA, convA, eqRes, eqNil, isNil?, eqCell, eqCells, partA, fillA, callA, mkRes, snapL_eq, snapLF, snapLF_pvs, snap_pv, snap_slt, snap_slx, snap_nils, snap_agg, snap_fn, snap_ptr, snap_sln, sliceStrA, sliceSlA, bounds, idxStrA, idxArrA, srcCells, strideOk, isSlV, weak, weak.weakL, chunks, mkPV, growMax, ent_new, ent_cons0, ent_consS, ent_at, ent_at0, List.getElem?_map, hx, enc_mk]; rfl) ?_
    refine W.go (by simp [stepsA, stepA, wantA, opA, St.eval, evals, putA, PV.cells, V.cells, PV.isCell, V.isCell, faddrA, loadA, storeA, splice, cut, mkVal, mkAgg, mkFn, pures, lenA, iaddrSlA, iaddrArrA, natOf?, elemAt, binA, intBin, strBin, unA, convA, eqRes, eqNil, isNil?, eqCell, eqCells, partA, fillA, callA, mkRes, snapL_eq, snapLF, snapLF_pvs, snap_pv, snap_slt, snap_slx, snap_nils, snap_agg, snap_fn, snap_ptr, snap_sln, sliceStrA, sliceSlA, bounds, idxStrA, idxArrA, srcCells, strideOk, isSlV, weak, weak.weakL, chunks, mkPV, growMax, ent_new, ent_cons0, ent_consS, ent_at, ent_at0, List.getElem?_map, hy, enc_mk]; rfl) ?_
    refine W.go (by simp [stepsA, stepA, wantA, opA, St.eval, evals, putA, PV.cells, V.cells, PV.isCell, V.isCell, faddrA, loadA, storeA, splice, cut, mkVal, mkAgg, mkFn, pures, lenA, iaddrSlA, iaddrArrA, natOf?, elemAt, binA, intBin, strBin, unA, convA, eqRes, eqNil, isNil?, eqCell, eqCells, partA, fillA, callA, mkRes, snapL_eq, snapLF, snapLF_pvs, snap_pv, snap_slt, snap_slx, snap_nils, snap_agg, snap_fn, snap_ptr, snap_sln, sliceStrA, sliceSlA, bounds, idxStrA, idxArrA, srcCells, strideOk, isSlV, weak, weak.weakL, chunks, mkPV, growMax, ent_new, ent_cons0, ent_consS, ent_at, ent_at0, hg, hc]; rfl) ?_
    refine W.condS (t := !(r (.mk k1 b1 s0 s1 s2 s3 l1) (.mk k2 b2 t0 t1 t2 t3 l2))) (by simp [stepsA, stepA, wantA, opA, St.eval, evals, putA, PV.cells, V.cells, PV.isCell, V.isCell, faddrA, loadA, storeA, splice, cut, mkVal, mkAgg, mkFn, pures, lenA, iaddrSlA, iaddrArrA, natOf?, elemAt, binA, intBin, strBin, unA, convA, eqRes, eqNil, isNil?, eqCell, eqCells, partA, fillA, callA, mkRes, snapL_eq, snapLF, snapLF_pvs, snap_pv, snap_slt, snap_slx, snap_nils, snap_agg, snap_fn, snap_ptr, snap_sln, sliceStrA, sliceSlA, bounds, idxStrA, idxArrA, srcCells, strideOk, isSlV, weak, weak.weakL, chunks, mkPV, growMax, ent_new, ent_cons0, ent_consS, ent_at, ent_at0]) (fun ht => ?_) (fun ht => W.skipS ?_)
    · have hf : r (.mk k1 b1 s0 s1 s2 s3 l1) (.mk k2 b2 t0 t1 t2 t3 l2) = false := by simpa using ht
      refine W.go (by simp [stepsA, stepA, wantA, opA, St.eval, evals, putA, PV.cells, V.cells, PV.isCell, V.isCell, faddrA, loadA, storeA, splice, cut, mkVal, mkAgg, mkFn, pures, lenA, iaddrSlA, iaddrArrA, natOf?, elemAt, binA, intBin, strBin, unA, convA, eqRes, eqNil, isNil?, eqCell, eqCells, partA, fillA, callA, mkRes, snapL_eq, snapLF, snapLF_pvs, snap_pv, snap_slt, snap_slx, snap_nils, snap_agg, snap_fn, snap_ptr, snap_sln, sliceStrA, sliceSlA, bounds, idxStrA, idxArrA, srcCells, strideOk, isSlV, weak, weak.weakL, chunks, mkPV, growMax, ent_new, ent_cons0, ent_consS, ent_at, ent_at0]; rfl) (W.retS (Fin.pv ?_))
      rw [← hi, hf]; rfl
    · have hf : r (.mk k1 b1 s0 s1 s2 s3 l1) (.mk k2 b2 t0 t1 t2 t3 l2) = true := by simpa using ht
      rw [hf, Bool.true_and] at hi
      refine W.skip ?_
      have hw : IntKind.i64.wrap ((j : Int) + 1) = (j : Int) + 1 := wrap_i64 (by omega)
      refine W.go (by simp [stepsA, stepA, wantA, opA, St.eval, evals, putA, PV.cells, V.cells, PV.isCell, V.isCell, faddrA, loadA, storeA, splice, cut, mkVal, mkAgg, mkFn, pures, lenA, iaddrSlA, iaddrArrA, natOf?, elemAt, binA, intBin, strBin, unA, convA, eqRes, eqNil, isNil?, eqCell, eqCells, partA, fillA, callA, mkRes, snapL_eq, snapLF, snapLF_pvs, snap_pv, snap_slt, snap_slx, snap_nils, snap_agg, snap_fn, snap_ptr, snap_sln, sliceStrA, sliceSlA, bounds, idxStrA, idxArrA, srcCells, strideOk, isSlV, weak, weak.weakL, chunks, mkPV, growMax, ent_new, ent_cons0, ent_consS, ent_at, ent_at0, hw]; rfl) (W.skip ?_)
      refine ⟨xs.length - (j + 1), by omega, j + 1, by omega, rfl, hi, _, _, _, _, _, _, _, _, _, _, _, _, _, _, _, _, _, _, _, _, _, _, _, _, _, _, _, _, rfl⟩
  · have hj1 : xs.length ≤ j := by simpa using ht
    rw [List.drop_eq_nil_of_le hj1, List.drop_eq_nil_of_le (hxy ▸ hj1)] at hi
    refine W.go (by simp [stepsA, stepA, wantA, opA, St.eval, evals, putA, PV.cells, V.cells, PV.isCell, V.isCell, faddrA, loadA, storeA, splice, cut, mkVal, mkAgg, mkFn, pures, lenA, iaddrSlA, iaddrArrA, natOf?, elemAt, binA, intBin, strBin, unA, convA, eqRes, eqNil, isNil?, eqCell, eqCells, partA, fillA, callA, mkRes, snapL_eq, snapLF, snapLF_pvs, snap_pv, snap_slt, snap_slx, snap_nils, snap_agg, snap_fn, snap_ptr, snap_sln, sliceStrA, sliceSlA, bounds, idxStrA, idxArrA, srcCells, strideOk, isSlV, weak, weak.weakL, chunks, mkPV, growMax, ent_new, ent_cons0, ent_consS, ent_at, ent_at0]; rfl) (W.retS (Fin.pv ?_))
    rw [← hi]; rfl

/-- slices.IndexFunc: the first's place. -/
def idxI (r : Cd → Bool) : List Cd → Int → Int
  | [], _ => -1
  | x :: xs, i => if r x = true then i else idxI r xs (i + 1)

theorem idxI_any (r : Cd → Bool) : ∀ (xs : List Cd) (i : Int), 0 ≤ i → decide (idxI r xs i ≥ 0) = xs.any r
  | [], _, _ => rfl
  | x :: xs, i, hi => by
    simp only [idxI, List.any_cons]
    by_cases hr : r x = true
    · simp [hr, hi]
    · have := idxI_any r xs (i + 1) (by omega)
      simp only [hr]
      simpa [hr] using this

theorem index_ok (H : Has E 79 c79) {g : FuncId} {caps : List PV} {xs : List Cd} {r : Cd → Bool} (hg : E.raw g = false) (hl : xs.length ≤ 9223372036854775807)
    (hr : ∀ x ∈ xs, limP E g (enc x :: caps) = some [.bool (r x)]) : limP E 79 [.sl (xs.map enc), .fn g caps] = some [.int .i64 (idxI r xs 0)] := by
  refine H.lim (Nat.le_of_ble_eq_true rfl) ?_
  unfold c79
  refine W.go (by simp [stepsA, stepA, wantA, opA, St.eval, evals, putA, PV.cells, V.cells, PV.isCell, V.isCell, faddrA, loadA, storeA, splice, cut, mkVal, mkAgg, mkFn, pures, lenA, iaddrSlA, iaddrArrA, natOf?, elemAt, binA, intBin, strBin, unA, convA, eqRes, eqNil, isNil?, eqCell, eqCells, partA, fillA, callA, mkRes, snapL_eq, snapLF, snapLF_pvs, snap_pv, snap_slt, snap_slx, snap_nils, snap_agg, snap_fn, snap_ptr, snap_sln, sliceStrA, sliceSlA, bounds, idxStrA, idxArrA, srcCells, strideOk, isSlV, weak, weak.weakL, chunks, mkPV, growMax, ent_new, ent_cons0, ent_consS, ent_at, ent_at0]; rfl) ?_
  refine W.go (by simp [stepsA, stepA, wantA, opA, St.eval, evals, putA, PV.cells, V.cells, PV.isCell, V.isCell, faddrA, loadA, storeA, splice, cut, mkVal, mkAgg, mkFn, pures, lenA, iaddrSlA, iaddrArrA, natOf?, elemAt, binA, intBin, strBin, unA, convA, eqRes, eqNil, isNil?, eqCell, eqCells, partA, fillA, callA, mkRes, snapL_eq, snapLF, snapLF_pvs, snap_pv, snap_slt, snap_slx, snap_nils, snap_agg, snap_fn, snap_ptr, snap_sln, sliceStrA, sliceSlA, bounds, idxStrA, idxArrA, srcCells, strideOk, isSlV, weak, weak.weakL, chunks, mkPV, growMax, ent_new, ent_cons0, ent_consS, ent_at, ent_at0]; rfl) ?_
  refine W.blockS ?_
  refine W.loopS (fun k st => ∃ j : Nat, j ≤ xs.length ∧ k = xs.length - j ∧ idxI r (xs.drop j) j = idxI r xs 0 ∧ ∃ x2 x3 x4 x5 x6 x9 x10 x11 x12 x13 x14 x15 x16 x17 x18 h,
    st = ⟨[.pv (.sl (xs.map enc)), .pv (.fn g caps), x2, x3, x4, x5, x6, .pv (.int .i64 xs.length), .pv (.int .i64 j), x9, x10, x11, x12, x13, x14, x15, x16, x17, x18], h⟩) xs.length ⟨0, by omega, by omega, rfl, _, _, _, _, _, _, _, _, _, _, _, _, _, _, _, _, rfl⟩ ?_
  rintro k st ⟨j, hj, rfl, hi, x2, x3, x4, x5, x6, x9, x10, x11, x12, x13, x14, x15, x16, x17, x18, h, rfl⟩
  refine W.go (by simp [stepsA, stepA, wantA, opA, St.eval, evals, putA, PV.cells, V.cells, PV.isCell, V.isCell, faddrA, loadA, storeA, splice, cut, mkVal, mkAgg, mkFn, pures, lenA, iaddrSlA, iaddrArrA, natOf?, elemAt, binA, intBin, strBin, unA, convA, eqRes, eqNil, isNil?, eqCell, eqCells, partA, fillA, callA, mkRes, snapL_eq, snapLF, snapLF_pvs, snap_pv, snap_slt, snap_slx, snap_nils, snap_agg, snap_fn, snap_ptr, snap_sln, sliceStrA, sliceSlA, bounds, idxStrA, idxArrA, srcCells, strideOk, isSlV, weak, weak.weakL, chunks, mkPV, growMax, ent_new, ent_cons0, ent_consS, ent_at, ent_at0]; rfl) ?_
  refine W.condS (t := decide (j < xs.length)) (by simp [stepsA, stepA, wantA, opA, St.eval, evals, putA, PV.cells, V.cells, PV.isCell, V.isCell, faddrA, loadA, storeA, splice, cut, mkVal, mkAgg, mkFn, pures, lenA, iaddrSlA, iaddrArrA, natOf?, elemAt, binA, intBin, strBin, unA, convA, eqRes, eqNil, isNil?, eqCell, eqCells, partA, fillA, callA, mkRes, snapL_eq, snapLF, snapLF_pvs, snap_pv, snap_slt, snap_slx, snap_nils, snap_agg, snap_fn, snap_ptr, snap_sln, sliceStrA, sliceSlA, bounds, idxStrA, idxArrA, srcCells, strideOk, isSlV, weak, weak.weakL, chunks, mkPV, growMax, ent_new, ent_cons0, ent_consS, ent_at, ent_at0]) (fun ht => W.skipS ?_) (fun ht => W.exitS (inB.here ?_))
  · have hj1 : j < xs.length := of_decide_eq_true ht
    obtain ⟨x, hx⟩ : ∃ x, xs[j]? = some x := ⟨_, List.getElem?_eq_getElem hj1⟩
    have hc := hr x (List.mem_of_getElem? hx)
    rw [drop_at hx] at hi
    simp only [idxI] at hi
    obtain ⟨k1, b1, s0, s1, s2, s3, l1⟩ := x
    simp only [enc_mk] at hc
    refine W.blockS ?_
    refine W.go (by simp [stepsA, stepA, wantA, opA, St.eval, evals, putA, PV.cells, V.cells, PV.isCell, V.isCell, faddrA, loadA, storeA, splice, cut, mkVal, mkAgg, mkFn, pures, lenA, iaddrSlA, iaddrArrA, natOf?, elemAt, binA, intBin, strBin, unA, convA, eqRes, eqNil, isNil?, eqCell, eqCells, partA, fillA, callA, mkRes, snapL_eq, snapLF, snapLF_pvs, snap_pv, snap_slt, snap_slx, snap_nils, snap_agg, snap_fn, snap_ptr, snap_sln, sliceStrA, sliceSlA, bounds, idxStrA, idxArrA, srcCells, strideOk, isSlV, weak, weak.weakL, chunks, mkPV, growMax, ent_new, ent_cons0, ent_consS, ent_at, ent_at0]; rfl) ?_
    refine W.go (by simp [stepsA, stepA, wantA, opA, St.eval, evals, putA, PV.cells, V.cells, PV.isCell, V.isCell, faddrA, loadA, storeA, splice, cut, mkVal, mkAgg, mkFn, pures, lenA, iaddrSlA, iaddrArrA, natOf?, elemAt, binA, intBin, strBin, unA, convA, eqRes, eqNil, isNil?, eqCell, eqCells, partA, fillA, callA, mkRes, snapL_eq, snapLF, snapLF_pvs, snap_pv, snap_slt, snap_slx, snap_nils, snap_agg, snap_fn, snap_ptr, snap_sln, sliceStrA, sliceSlA, bounds, idxStrA, idxArrA, srcCells, strideOk, isSlV, weak, weak.weakL, chunks, mkPV, growMax, ent_new, ent_cons0, ent_consS, ent_at, ent_at0, List.getElem?_map, hx, enc_mk, hg, hc]; rfl) ?_
    refine W.condS (t := r (.mk k1 b1 s0 s1 s2 s3 l1)) (by simp [stepsA, stepA, wantA, opA, St.eval, evals, putA, PV.cells, V.cells, PV.isCell, V.isCell, faddrA, loadA, storeA, splice, cut, mkVal, mkAgg, mkFn, pures, lenA, iaddrSlA, iaddrArrA, natOf?, elemAt, binA, intBin, strBin, unA, convA, eqRes, eqNil, isNil?, eqCell, eqCells, partA, fillA, callA, mkRes, snapL_eq, snapLF, snapLF_pvs, snap_pv, snap_slt, snap_slx, snap_nils, snap_agg, snap_fn, snap_ptr, snap_sln, sliceStrA, sliceSlA, bounds, idxStrA, idxArrA, srcCells, strideOk, isSlV, weak, weak.weakL, chunks, mkPV, growMax, ent_new, ent_cons0, ent_consS, ent_at, ent_at0]) (fun ht => ?_) (fun ht => W.skipS ?_)
    · refine W.go (by simp [stepsA, stepA, wantA, opA, St.eval, evals, putA, PV.cells, V.cells, PV.isCell, V.isCell, faddrA, loadA, storeA, splice, cut, mkVal, mkAgg, mkFn, pures, lenA, iaddrSlA, iaddrArrA, natOf?, elemAt, binA, intBin, strBin, unA, convA, eqRes, eqNil, isNil?, eqCell, eqCells, partA, fillA, callA, mkRes, snapL_eq, snapLF, snapLF_pvs, snap_pv, snap_slt, snap_slx, snap_nils, snap_agg, snap_fn, snap_ptr, snap_sln, sliceStrA, sliceSlA, bounds, idxStrA, idxArrA, srcCells, strideOk, isSlV, weak, weak.weakL, chunks, mkPV, growMax, ent_new, ent_cons0, ent_consS, ent_at, ent_at0]; rfl) (W.retS (Fin.pv ?_))
      rw [← hi, ht]; rfl
    · rw [ht] at hi
      refine W.skip ?_
      have hw : IntKind.i64.wrap ((j : Int) + 1) = (j : Int) + 1 := wrap_i64 (by omega)
      refine W.go (by simp [stepsA, stepA, wantA, opA, St.eval, evals, putA, PV.cells, V.cells, PV.isCell, V.isCell, faddrA, loadA, storeA, splice, cut, mkVal, mkAgg, mkFn, pures, lenA, iaddrSlA, iaddrArrA, natOf?, elemAt, binA, intBin, strBin, unA, convA, eqRes, eqNil, isNil?, eqCell, eqCells, partA, fillA, callA, mkRes, snapL_eq, snapLF, snapLF_pvs, snap_pv, snap_slt, snap_slx, snap_nils, snap_agg, snap_fn, snap_ptr, snap_sln, sliceStrA, sliceSlA, bounds, idxStrA, idxArrA, srcCells, strideOk, isSlV, weak, weak.weakL, chunks, mkPV, growMax, ent_new, ent_cons0, ent_consS, ent_at, ent_at0, hw]; rfl) (W.skip ?_)
      refine ⟨xs.length - (j + 1), by omega, j + 1, by omega, rfl, hi, _, _, _, _, _, _, _, _, _, _, _, _, _, _, _, _, rfl⟩
  · have hj1 : xs.length ≤ j := by simpa using ht
    rw [List.drop_eq_nil_of_le hj1] at hi
    refine W.go (by simp [stepsA, stepA, wantA, opA, St.eval, evals, putA, PV.cells, V.cells, PV.isCell, V.isCell, faddrA, loadA, storeA, splice, cut, mkVal, mkAgg, mkFn, pures, lenA, iaddrSlA, iaddrArrA, natOf?, elemAt, binA, intBin, strBin, unA, convA, eqRes, eqNil, isNil?, eqCell, eqCells, partA, fillA, callA, mkRes, snapL_eq, snapLF, snapLF_pvs, snap_pv, snap_slt, snap_slx, snap_nils, snap_agg, snap_fn, snap_ptr, snap_sln, sliceStrA, sliceSlA, bounds, idxStrA, idxArrA, srcCells, strideOk, isSlV, weak, weak.weakL, chunks, mkPV, growMax, ent_new, ent_cons0, ent_consS, ent_at, ent_at0]; rfl) (W.retS (Fin.pv ?_))
    rw [← hi]; rfl

theorem contains_ok (H : Has E 47 c47) (H2 : Has E 79 c79) {g : FuncId} {caps : List PV} {xs : List Cd} {r : Cd → Bool} (hg : E.raw g = false) (hl : xs.length ≤ 9223372036854775807)
    (hr : ∀ x ∈ xs, limP E g (enc x :: caps) = some [.bool (r x)]) : limP E 47 [.sl (xs.map enc), .fn g caps] = some [.bool (xs.any r)] := by
  refine H.lim (Nat.le_of_ble_eq_true rfl) ?_
  unfold c47
  have hi := index_ok H2 hg hl hr
  refine W.go (by simp [stepsA, stepA, wantA, opA, St.eval, evals, putA, PV.cells, V.cells, PV.isCell, V.isCell, faddrA, loadA, storeA, splice, cut, mkVal, mkAgg, mkFn, pures, lenA, iaddrSlA, iaddrArrA, natOf?, elemAt, binA, intBin, strBin, unA, convA, eqRes, eqNil, isNil?, eqCell, eqCells, partA, fillA, callA, mkRes, snapL_eq, snapLF, snapLF_pvs, snap_pv, snap_slt, snap_slx, snap_nils, snap_agg, snap_fn, snap_ptr, snap_sln, sliceStrA, sliceSlA, bounds, idxStrA, idxArrA, srcCells, strideOk, isSlV, weak, weak.weakL, chunks, mkPV, growMax, ent_new, ent_cons0, ent_consS, ent_at, ent_at0]; rfl) ?_
  refine W.go (by simp [stepsA, stepA, wantA, opA, St.eval, evals, putA, PV.cells, V.cells, PV.isCell, V.isCell, faddrA, loadA, storeA, splice, cut, mkVal, mkAgg, mkFn, pures, lenA, iaddrSlA, iaddrArrA, natOf?, elemAt, binA, intBin, strBin, unA, convA, eqRes, eqNil, isNil?, eqCell, eqCells, partA, fillA, callA, mkRes, snapL_eq, snapLF, snapLF_pvs, snap_pv, snap_slt, snap_slx, snap_nils, snap_agg, snap_fn, snap_ptr, snap_sln, sliceStrA, sliceSlA, bounds, idxStrA, idxArrA, srcCells, strideOk, isSlV, weak, weak.weakL, chunks, mkPV, growMax, ent_new, ent_cons0, ent_consS, ent_at, ent_at0, H2.raw, hi]; rfl) (W.retS (Fin.pv ?_))
  rw [← idxI_any r xs 0 (by omega)]
  rfl

/-- Alike but for choices, on the parts. -/
theorem same_mk (k1 b1 s0 s1 s2 s3 l1 k2 b2 t0 t1 t2 t3 l2) : same (.mk k1 b1 s0 s1 s2 s3 l1) (.mk k2 b2 t0 t1 t2 t3 l2) =
    (decide (k1 = k2) && (decide (s0 = t0 ∧ s1 = t1 ∧ s2 = t2 ∧ s3 = t3) && eqAll same l1 l2)) := by
  have hl : ∀ l1 l2, eqAll same l1 l2 = true ↔ strip.stripL l1 = strip.stripL l2 := by
    intro l1
    induction l1 with
    | nil => intro l2; cases l2 <;> simp [eqAll, strip.stripL]
    | cons x l1 ih => intro l2; cases l2 with
      | nil => simp [eqAll, strip.stripL]
      | cons y l2 => simp [eqAll, strip.stripL, ih, same_iff]
  rw [Bool.eq_iff_iff]
  simp only [same_iff, strip, Cd.mk.injEq, Bool.and_eq_true, decide_eq_true_eq, true_and, hl]
  constructor
  · rintro ⟨a, b, c, d, e, f⟩; exact ⟨a, ⟨b, c, d, e⟩, f⟩
  · rintro ⟨a, ⟨b, c, d, e⟩, f⟩; exact ⟨a, b, c, d, e, f⟩

/-- Rows that are no longer than a number tells. -/
def Fine : Cd → Prop
  | .mk _ _ _ _ _ _ l => l.length ≤ 9223372036854775807 ∧ FineL l
where
  FineL : List Cd → Prop
  | [] => True
  | x :: l => Fine x ∧ FineL l

theorem fineL_iff : ∀ {l : List Cd}, Fine.FineL l ↔ ∀ x ∈ l, Fine x
  | [] => by simp [Fine.FineL]
  | x :: l => by simp [Fine.FineL, fineL_iff (l := l)]

theorem same_ok (H : Has E 21 c21) (H2 : Has E 53 c53) : ∀ a, Fine a → ∀ b, limP E 21 [enc a, enc b] = some [.bool (same a b)] := by
  refine Cd.ind fun k1 b1 s0 s1 s2 s3 l1 ih hf b => ?_
  obtain ⟨k2, b2, t0, t1, t2, t3, l2⟩ := b
  rw [enc_mk, enc_mk, same_mk]
  obtain ⟨hf1, hf2⟩ := hf
  rw [fineL_iff] at hf2
  have he : limP E 53 [.sl (l1.map enc), .sl (l2.map enc), .fn 21 []] = some [.bool (eqAll same l1 l2)] := equal_ok H2 H.raw hf1 fun x hx y _ => ih x hx (hf2 x hx) y
  refine H.lim (Nat.le_of_ble_eq_true rfl) ?_
  unfold c21
  refine W.go (by simp [stepsA, stepA, wantA, opA, St.eval, evals, putA, PV.cells, V.cells, PV.isCell, V.isCell, faddrA, loadA, storeA, splice, cut, mkVal, mkAgg, mkFn, pures, lenA, iaddrSlA, iaddrArrA, natOf?, elemAt, binA, intBin, strBin, unA, convA, eqRes, eqNil, isNil?, eqCell, eqCells, partA, fillA, callA, mkRes, snapL_eq, snapLF, snapLF_pvs, snap_pv, snap_slt, snap_slx, snap_nils, snap_agg, snap_fn, snap_ptr, snap_sln, sliceStrA, sliceSlA, bounds, idxStrA, idxArrA, srcCells, strideOk, isSlV, weak, weak.weakL, chunks, mkPV, growMax, ent_new, ent_cons0, ent_consS, ent_at, ent_at0]; rfl) ?_
  cases hk : (k1 == k2) with
  | false =>
    refine W.go (by simp [stepsA, stepA, wantA, opA, St.eval, evals, putA, PV.cells, V.cells, PV.isCell, V.isCell, faddrA, loadA, storeA, splice, cut, mkVal, mkAgg, mkFn, pures, lenA, iaddrSlA, iaddrArrA, natOf?, elemAt, binA, intBin, strBin, unA, convA, eqRes, eqNil, isNil?, eqCell, eqCells, partA, fillA, callA, mkRes, snapL_eq, snapLF, snapLF_pvs, snap_pv, snap_slt, snap_slx, snap_nils, snap_agg, snap_fn, snap_ptr, snap_sln, sliceStrA, sliceSlA, bounds, idxStrA, idxArrA, srcCells, strideOk, isSlV, weak, weak.weakL, chunks, mkPV, growMax, ent_new, ent_cons0, ent_consS, ent_at, ent_at0, hk]; rfl) (W.retS (Fin.pv ?_))
    have : ¬ k1 = k2 := by simpa using hk
    simp [this]
  | true =>
    have hk' : k1 = k2 := by simpa using hk
    cases hs : (s0 == t0 && (s1 == t1 && (s2 == t2 && s3 == t3))) with
    | false =>
      refine W.go (by simp [stepsA, stepA, wantA, opA, St.eval, evals, putA, PV.cells, V.cells, PV.isCell, V.isCell, faddrA, loadA, storeA, splice, cut, mkVal, mkAgg, mkFn, pures, lenA, iaddrSlA, iaddrArrA, natOf?, elemAt, binA, intBin, strBin, unA, convA, eqRes, eqNil, isNil?, eqCell, eqCells, partA, fillA, callA, mkRes, snapL_eq, snapLF, snapLF_pvs, snap_pv, snap_slt, snap_slx, snap_nils, snap_agg, snap_fn, snap_ptr, snap_sln, sliceStrA, sliceSlA, bounds, idxStrA, idxArrA, srcCells, strideOk, isSlV, weak, weak.weakL, chunks, mkPV, growMax, ent_new, ent_cons0, ent_consS, ent_at, ent_at0, hk, hs]; rfl) (W.retS (Fin.pv ?_))
      have : ¬ (s0 = t0 ∧ s1 = t1 ∧ s2 = t2 ∧ s3 = t3) := by
        rintro ⟨rfl, rfl, rfl, rfl⟩
        simp at hs
      simp [hk', this]
    | true =>
      refine W.go (by simp [stepsA, stepA, wantA, opA, St.eval, evals, putA, PV.cells, V.cells, PV.isCell, V.isCell, faddrA, loadA, storeA, splice, cut, mkVal, mkAgg, mkFn, pures, lenA, iaddrSlA, iaddrArrA, natOf?, elemAt, binA, intBin, strBin, unA, convA, eqRes, eqNil, isNil?, eqCell, eqCells, partA, fillA, callA, mkRes, snapL_eq, snapLF, snapLF_pvs, snap_pv, snap_slt, snap_slx, snap_nils, snap_agg, snap_fn, snap_ptr, snap_sln, sliceStrA, sliceSlA, bounds, idxStrA, idxArrA, srcCells, strideOk, isSlV, weak, weak.weakL, chunks, mkPV, growMax, ent_new, ent_cons0, ent_consS, ent_at, ent_at0, hk, hs, H2.raw, he]; rfl) (W.retS (Fin.pv ?_))
      have : (s0 = t0 ∧ s1 = t1 ∧ s2 = t2 ∧ s3 = t3) := by simpa using hs
      simp [hk', this]

/-- The closure within Once. -/
theorem like_ok (H : Has E 48 c48) (H1 : Has E 21 c21) (H2 : Has E 53 c53) {x : Cd} (hx : Fine x) (y : Cd) : limP E 48 [enc y, .ip (enc x).cells 0] = some [.bool (same x y)] := by
  have hs := same_ok H1 H2 x hx y
  obtain ⟨k1, b1, s0, s1, s2, s3, l1⟩ := x
  obtain ⟨k2, b2, t0, t1, t2, t3, l2⟩ := y
  rw [enc_mk, enc_mk] at hs ⊢
  refine H.lim (Nat.le_of_ble_eq_true rfl) ?_
  unfold c48
  refine W.go (by simp [stepsA, stepA, wantA, opA, St.eval, evals, putA, PV.cells, V.cells, PV.isCell, V.isCell, faddrA, loadA, storeA, splice, cut, mkVal, mkAgg, mkFn, pures, lenA, iaddrSlA, iaddrArrA, natOf?, elemAt, binA, intBin, strBin, unA, convA, eqRes, eqNil, isNil?, eqCell, eqCells, partA, fillA, callA, mkRes, snapL_eq, snapLF, snapLF_pvs, snap_pv, snap_slt, snap_slx, snap_nils, snap_agg, snap_fn, snap_ptr, snap_sln, sliceStrA, sliceSlA, bounds, idxStrA, idxArrA, srcCells, strideOk, isSlV, weak, weak.weakL, chunks, mkPV, growMax, ent_new, ent_cons0, ent_consS, ent_at, ent_at0]; rfl) ?_
  exact W.go (by simp [stepsA, stepA, wantA, opA, St.eval, evals, putA, PV.cells, V.cells, PV.isCell, V.isCell, faddrA, loadA, storeA, splice, cut, mkVal, mkAgg, mkFn, pures, lenA, iaddrSlA, iaddrArrA, natOf?, elemAt, binA, intBin, strBin, unA, convA, eqRes, eqNil, isNil?, eqCell, eqCells, partA, fillA, callA, mkRes, snapL_eq, snapLF, snapLF_pvs, snap_pv, snap_slt, snap_slx, snap_nils, snap_agg, snap_fn, snap_ptr, snap_sln, sliceStrA, sliceSlA, bounds, idxStrA, idxArrA, srcCells, strideOk, isSlV, weak, weak.weakL, chunks, mkPV, growMax, ent_new, ent_cons0, ent_consS, ent_at, ent_at0, H1.raw, hs]; rfl) (W.retS (Fin.pv (by simp)))

theorem enc_cells (x : Cd) : (enc x).cells.length = 7 := by obtain ⟨k1, b1, s0, s1, s2, s3, l1⟩ := x; simp [enc_mk, PV.cells]

theorem stride_enc (l : List Cd) : strideOk 7 (l.map enc) = true := strideOk_of fun e he => by
  obtain ⟨x, _, rfl⟩ := List.mem_map.1 he
  exact enc_cells x

theorem once_ok (H : Has E 16 c16) (H0 : Has E 48 c48) (H1 : Has E 21 c21) (H2 : Has E 53 c53)
    (H3 : Has E 47 c47) (H4 : Has E 79 c79) {l : List Cd} (hl : l.length ≤ 1000000000) (hf : ∀ x ∈ l, Fine x) :
    limP E 16 [.sl (l.map enc)] = some [.sl ((once l).map enc)] := by
  refine H.lim (Nat.le_of_ble_eq_true rfl) ?_
  unfold c16
  refine W.go (by simp [stepsA, stepA, wantA, opA, St.eval, evals, putA, PV.cells, V.cells, PV.isCell, V.isCell, faddrA, loadA, storeA, splice, cut, mkVal, mkAgg, mkFn, pures, lenA, iaddrSlA, iaddrArrA, natOf?, elemAt, binA, intBin, strBin, unA, convA, eqRes, eqNil, isNil?, eqCell, eqCells, partA, fillA, callA, mkRes, snapL_eq, snapLF, snapLF_pvs, snap_pv, snap_slt, snap_slx, snap_nils, snap_agg, snap_fn, snap_ptr, snap_sln, sliceStrA, sliceSlA, bounds, idxStrA, idxArrA, srcCells, strideOk, isSlV, weak, weak.weakL, chunks, mkPV, growMax, ent_new, ent_cons0, ent_consS, ent_at, ent_at0]; rfl) ?_
  refine W.go (by simp [stepsA, stepA, wantA, opA, St.eval, evals, putA, PV.cells, V.cells, PV.isCell, V.isCell, faddrA, loadA, storeA, splice, cut, mkVal, mkAgg, mkFn, pures, lenA, iaddrSlA, iaddrArrA, natOf?, elemAt, binA, intBin, strBin, unA, convA, eqRes, eqNil, isNil?, eqCell, eqCells, partA, fillA, callA, mkRes, snapL_eq, snapLF, snapLF_pvs, snap_pv, snap_slt, snap_slx, snap_nils, snap_agg, snap_fn, snap_ptr, snap_sln, sliceStrA, sliceSlA, bounds, idxStrA, idxArrA, srcCells, strideOk, isSlV, weak, weak.weakL, chunks, mkPV, growMax, ent_new, ent_cons0, ent_consS, ent_at, ent_at0]; rfl) ?_
  refine W.go (by simp [stepsA, stepA, wantA, opA, St.eval, evals, putA, PV.cells, V.cells, PV.isCell, V.isCell, faddrA, loadA, storeA, splice, cut, mkVal, mkAgg, mkFn, pures, lenA, iaddrSlA, iaddrArrA, natOf?, elemAt, binA, intBin, strBin, unA, convA, eqRes, eqNil, isNil?, eqCell, eqCells, partA, fillA, callA, mkRes, snapL_eq, snapLF, snapLF_pvs, snap_pv, snap_slt, snap_slx, snap_nils, snap_agg, snap_fn, snap_ptr, snap_sln, sliceStrA, sliceSlA, bounds, idxStrA, idxArrA, srcCells, strideOk, isSlV, weak, weak.weakL, chunks, mkPV, growMax, ent_new, ent_cons0, ent_consS, ent_at, ent_at0]; rfl) ?_
  refine W.blockS ?_
  refine W.loopS (fun k st => ∃ (j : Nat) (o : List Cd), j ≤ l.length ∧ k = l.length - j ∧ o.length ≤ j ∧ (l.drop j).foldl once1 o = once l ∧ ∃ v x0 x1 x2 x4 x5 x9 x10 x11 x12 x13 x14 x15 x16 x17 x18 x19 x20 x21 h, Row h v (o.map enc) ∧
    st = ⟨[x0, x1, x2, v, x4, x5, .pv (.sl (l.map enc)), .pv (.int .i64 l.length), .pv (.int .i64 j), x9, x10, x11, x12, x13, x14, x15, x16, x17, x18, x19, x20, x21], h⟩) l.length ⟨0, [], by omega, by omega, by simp, rfl, .nils, _, _, _, _, _, _, _, _, _, _, _, _, _, _, _, _, _, _, _, Row.nil, rfl⟩ ?_
  rintro k st ⟨j, o, hj, rfl, hol, hi, v, x0, x1, x2, x4, x5, x9, x10, x11, x12, x13, x14, x15, x16, x17, x18, x19, x20, x21, h, hrow, rfl⟩
  refine W.go (by simp [stepsA, stepA, wantA, opA, St.eval, evals, putA, PV.cells, V.cells, PV.isCell, V.isCell, faddrA, loadA, storeA, splice, cut, mkVal, mkAgg, mkFn, pures, lenA, iaddrSlA, iaddrArrA, natOf?, elemAt, binA, intBin, strBin, unA, convA, eqRes, eqNil, isNil?, eqCell, eqCells, partA, fillA, callA, mkRes, snapL_eq, snapLF, snapLF_pvs, snap_pv, snap_slt, snap_slx, snap_nils, snap_agg, snap_fn, snap_ptr, snap_sln, sliceStrA, sliceSlA, bounds, idxStrA, idxArrA, srcCells, strideOk, isSlV, weak, weak.weakL, chunks, mkPV, growMax, ent_new, ent_cons0, ent_consS, ent_at, ent_at0]; rfl) ?_
  refine W.condS (t := decide (j < l.length)) (by simp [stepsA, stepA, wantA, opA, St.eval, evals, putA, PV.cells, V.cells, PV.isCell, V.isCell, faddrA, loadA, storeA, splice, cut, mkVal, mkAgg, mkFn, pures, lenA, iaddrSlA, iaddrArrA, natOf?, elemAt, binA, intBin, strBin, unA, convA, eqRes, eqNil, isNil?, eqCell, eqCells, partA, fillA, callA, mkRes, snapL_eq, snapLF, snapLF_pvs, snap_pv, snap_slt, snap_slx, snap_nils, snap_agg, snap_fn, snap_ptr, snap_sln, sliceStrA, sliceSlA, bounds, idxStrA, idxArrA, srcCells, strideOk, isSlV, weak, weak.weakL, chunks, mkPV, growMax, ent_new, ent_cons0, ent_consS, ent_at, ent_at0]) (fun ht => W.skipS ?_) (fun ht => W.exitS (inB.here ?_))
  · have hj1 : j < l.length := of_decide_eq_true ht
    obtain ⟨x, hx⟩ : ∃ x, l[j]? = some x := ⟨_, List.getElem?_eq_getElem hj1⟩
    have hc := contains_ok H3 H4 (g := 48) (caps := [.ip (enc x).cells 0]) (xs := o) (r := fun y => same x y) H0.raw (by omega) fun y _ => like_ok H0 H1 H2 (hf x (List.mem_of_getElem? hx)) y
    rw [drop_at hx, List.foldl_cons] at hi
    have hon : once1 o x = if (o.any fun y => same x y) = true then o else o ++ [x] := rfl
    obtain ⟨k1, b1, s0, s1, s2, s3, l1⟩ := x
    simp only [enc_mk, PV.cells] at hc
    refine W.blockS ?_
    refine W.go (by simp [stepsA, stepA, wantA, opA, St.eval, evals, putA, PV.cells, V.cells, PV.isCell, V.isCell, faddrA, loadA, storeA, splice, cut, mkVal, mkAgg, mkFn, pures, lenA, iaddrSlA, iaddrArrA, natOf?, elemAt, binA, intBin, strBin, unA, convA, eqRes, eqNil, isNil?, eqCell, eqCells, partA, fillA, callA, mkRes, snapL_eq, snapLF, snapLF_pvs, snap_pv, snap_slt, snap_slx, snap_nils, snap_agg, snap_fn, snap_ptr, snap_sln, sliceStrA, sliceSlA, bounds, idxStrA, idxArrA, srcCells, strideOk, isSlV, weak, weak.weakL, chunks, mkPV, growMax, ent_new, ent_cons0, ent_consS, ent_at, ent_at0, List.getElem?_map, hx, enc_mk]; rfl) ?_
    refine W.go (by simp [stepsA, stepA, wantA, opA, St.eval, evals, putA, PV.cells, V.cells, PV.isCell, V.isCell, faddrA, loadA, storeA, splice, cut, mkVal, mkAgg, mkFn, pures, lenA, iaddrSlA, iaddrArrA, natOf?, elemAt, binA, intBin, strBin, unA, convA, eqRes, eqNil, isNil?, eqCell, eqCells, partA, fillA, callA, mkRes, snapL_eq, snapLF, snapLF_pvs, snap_pv, snap_slt, snap_slx, snap_nils, snap_agg, snap_fn, snap_ptr, snap_sln, sliceStrA, sliceSlA, bounds, idxStrA, idxArrA, srcCells, strideOk, isSlV, weak, weak.weakL, chunks, mkPV, growMax, ent_new, ent_cons0, ent_consS, ent_at, ent_at0, hrow.snap, H3.raw, hc]; rfl) ?_
    refine W.condS (t := !(o.any fun y => same (.mk k1 b1 s0 s1 s2 s3 l1) y)) (by simp [stepsA, stepA, wantA, opA, St.eval, evals, putA, PV.cells, V.cells, PV.isCell, V.isCell, faddrA, loadA, storeA, splice, cut, mkVal, mkAgg, mkFn, pures, lenA, iaddrSlA, iaddrArrA, natOf?, elemAt, binA, intBin, strBin, unA, convA, eqRes, eqNil, isNil?, eqCell, eqCells, partA, fillA, callA, mkRes, snapL_eq, snapLF, snapLF_pvs, snap_pv, snap_slt, snap_slx, snap_nils, snap_agg, snap_fn, snap_ptr, snap_sln, sliceStrA, sliceSlA, bounds, idxStrA, idxArrA, srcCells, strideOk, isSlV, weak, weak.weakL, chunks, mkPV, growMax, ent_new, ent_cons0, ent_consS, ent_at, ent_at0]) (fun ht => ?_) (fun ht => W.skipS ?_)
    · have hn : (o.any fun y => same (.mk k1 b1 s0 s1 s2 s3 l1) y) = false := by simpa using ht
      rw [hn] at hon
      rw [hon] at hi
      have happ : ∀ (l' : Heap) (te : TypeId), appendA (h ++ l') true false 7 80 te v 1 [.pv (.int .i64 k1), .pv (.str b1), .pv (.int .u64 s0), .pv (.int .u64 s1), .pv (.int .u64 s2), .pv (.int .u64 s3), .pv (.sl (l1.map enc))] =
          some (.slt ((o ++ [Cd.mk k1 b1 s0 s1 s2 s3 l1]).map enc) (h ++ l').length, kill (h ++ l') v ++ [.tok]) := fun l' te => by
        rw [(hrow.mono (l := l')).app (by omega) (stride_enc o) rfl (by simp; omega) rfl rfl]
        simp [chunks, mkPV, enc_mk]
      refine W.go (by simp [stepsA, stepA, wantA, opA, St.eval, evals, putA, PV.cells, V.cells, PV.isCell, V.isCell, faddrA, loadA, storeA, splice, cut, mkVal, mkAgg, mkFn, pures, lenA, iaddrSlA, iaddrArrA, natOf?, elemAt, binA, intBin, strBin, unA, convA, eqRes, eqNil, isNil?, eqCell, eqCells, partA, fillA, callA, mkRes, snapL_eq, snapLF, snapLF_pvs, snap_pv, snap_slt, snap_slx, snap_nils, snap_agg, snap_fn, snap_ptr, snap_sln, sliceStrA, sliceSlA, bounds, idxStrA, idxArrA, srcCells, strideOk, isSlV, weak, weak.weakL, chunks, mkPV, growMax, ent_new, ent_cons0, ent_consS, ent_at, ent_at0, happ]; rfl) (W.skip ?_)
      have hw : IntKind.i64.wrap ((j : Int) + 1) = (j : Int) + 1 := wrap_i64 (by omega)
      refine W.go (by simp [stepsA, stepA, wantA, opA, St.eval, evals, putA, PV.cells, V.cells, PV.isCell, V.isCell, faddrA, loadA, storeA, splice, cut, mkVal, mkAgg, mkFn, pures, lenA, iaddrSlA, iaddrArrA, natOf?, elemAt, binA, intBin, strBin, unA, convA, eqRes, eqNil, isNil?, eqCell, eqCells, partA, fillA, callA, mkRes, snapL_eq, snapLF, snapLF_pvs, snap_pv, snap_slt, snap_slx, snap_nils, snap_agg, snap_fn, snap_ptr, snap_sln, sliceStrA, sliceSlA, bounds, idxStrA, idxArrA, srcCells, strideOk, isSlV, weak, weak.weakL, chunks, mkPV, growMax, ent_new, ent_cons0, ent_consS, ent_at, ent_at0, hw]; rfl) (W.skip ?_)
      refine ⟨l.length - (j + 1), by omega, j + 1, o ++ [Cd.mk k1 b1 s0 s1 s2 s3 l1], by omega, rfl, by simp; omega, hi, _, _, _, _, _, _, _, _, _, _, _, _, _, _, _, _, _, _, _, _, ?_, rfl⟩
      rw [List.map_append]
      exact Row.done (by simp) (by simp)
    · have hn : (o.any fun y => same (.mk k1 b1 s0 s1 s2 s3 l1) y) = true := by simpa using ht
      rw [hn] at hon
      rw [hon] at hi
      refine W.skip ?_
      have hw : IntKind.i64.wrap ((j : Int) + 1) = (j : Int) + 1 := wrap_i64 (by omega)
      refine W.go (by simp [stepsA, stepA, wantA, opA, St.eval, evals, putA, PV.cells, V.cells, PV.isCell, V.isCell, faddrA, loadA, storeA, splice, cut, mkVal, mkAgg, mkFn, pures, lenA, iaddrSlA, iaddrArrA, natOf?, elemAt, binA, intBin, strBin, unA, convA, eqRes, eqNil, isNil?, eqCell, eqCells, partA, fillA, callA, mkRes, snapL_eq, snapLF, snapLF_pvs, snap_pv, snap_slt, snap_slx, snap_nils, snap_agg, snap_fn, snap_ptr, snap_sln, sliceStrA, sliceSlA, bounds, idxStrA, idxArrA, srcCells, strideOk, isSlV, weak, weak.weakL, chunks, mkPV, growMax, ent_new, ent_cons0, ent_consS, ent_at, ent_at0, hw]; rfl) (W.skip ?_)
      refine ⟨l.length - (j + 1), by omega, j + 1, o, by omega, rfl, by omega, hi, v, _, _, _, _, _, _, _, _, _, _, _, _, _, _, _, _, _, _, _, hrow.mono, rfl⟩
  · have hj1 : l.length ≤ j := by simpa using ht
    rw [List.drop_eq_nil_of_le hj1] at hi
    have hi : o = once l := hi
    refine W.go (by simp [stepsA, stepA, wantA, opA, St.eval, evals, putA, PV.cells, V.cells, PV.isCell, V.isCell, faddrA, loadA, storeA, splice, cut, mkVal, mkAgg, mkFn, pures, lenA, iaddrSlA, iaddrArrA, natOf?, elemAt, binA, intBin, strBin, unA, convA, eqRes, eqNil, isNil?, eqCell, eqCells, partA, fillA, callA, mkRes, snapL_eq, snapLF, snapLF_pvs, snap_pv, snap_slt, snap_slx, snap_nils, snap_agg, snap_fn, snap_ptr, snap_sln, sliceStrA, sliceSlA, bounds, idxStrA, idxArrA, srcCells, strideOk, isSlV, weak, weak.weakL, chunks, mkPV, growMax, ent_new, ent_cons0, ent_consS, ent_at, ent_at0]; rfl) (W.retS ?_)
    rw [← hi]
    exact Fin.row (by simp) hrow


theorem Fin.cell {i id off sz : Nat} {p : PV} {st : St} (h : st.tmps[i]? = some (.ptr id off)) (h1 : loadA st.heap true sz (.ptr id off) = some (.pv p)) : Fin [.cell i true sz] [p] .ret st :=
  ⟨.inr rfl, [.pv p], by simp [resA, h, h1], by simp [oneOf, pureRes, snap, snapFuel]⟩

/-- Choices ahead of a core's own. -/
def fuse (bits : List UInt8) : Cd → Cd
  | .mk k b s0 s1 s2 s3 l => if k = 0 then .mk k b s0 s1 s2 s3 l else .mk k (bits ++ b) s0 s1 s2 s3 l

theorem fuse_ok (H : Has E 45 c45) (bits : List UInt8) (x : Cd) (hb : bits.length + x.bits.length ≤ 4611686018427387904) : limP E 45 [.str bits, enc x] = some [enc (fuse bits x)] := by
  obtain ⟨k1, b1, s0, s1, s2, s3, l1⟩ := x
  have hb : bits.length + b1.length ≤ 4611686018427387904 := hb
  refine H.lim (Nat.le_of_ble_eq_true rfl) ?_
  unfold c45
  simp only [enc_mk]
  refine W.go (by simp [stepsA, stepA, wantA, opA, St.eval, evals, putA, PV.cells, V.cells, PV.isCell, V.isCell, faddrA, loadA, storeA, splice, cut, mkVal, mkAgg, mkFn, pures, lenA, iaddrSlA, iaddrArrA, natOf?, elemAt, binA, intBin, strBin, unA, convA, eqRes, eqNil, isNil?, eqCell, eqCells, partA, fillA, callA, mkRes, snapL_eq, snapLF, snapLF_pvs, snap_pv, snap_slt, snap_slx, snap_nils, snap_agg, snap_fn, snap_ptr, snap_sln, sliceStrA, sliceSlA, bounds, idxStrA, idxArrA, srcCells, strideOk, isSlV, weak, weak.weakL, chunks, mkPV, growMax, ent_new, ent_cons0, ent_consS, ent_at, ent_at0]; rfl) ?_
  cases hk : (k1 != 0) with
  | true =>
    have hk' : ¬ k1 = 0 := by simpa using hk
    refine W.go (by simp [stepsA, stepA, wantA, opA, St.eval, evals, putA, PV.cells, V.cells, PV.isCell, V.isCell, faddrA, loadA, storeA, splice, cut, mkVal, mkAgg, mkFn, pures, lenA, iaddrSlA, iaddrArrA, natOf?, elemAt, binA, intBin, strBin, unA, convA, eqRes, eqNil, isNil?, eqCell, eqCells, partA, fillA, callA, mkRes, snapL_eq, snapLF, snapLF_pvs, snap_pv, snap_slt, snap_slx, snap_nils, snap_agg, snap_fn, snap_ptr, snap_sln, sliceStrA, sliceSlA, bounds, idxStrA, idxArrA, srcCells, strideOk, isSlV, weak, weak.weakL, chunks, mkPV, growMax, ent_new, ent_cons0, ent_consS, ent_at, ent_at0, hk]; rfl) ?_
    refine W.condS (t := true) rfl (fun _ => ?_) (fun h => by cases h)
    refine W.go (by simp [stepsA, stepA, wantA, opA, St.eval, evals, putA, PV.cells, V.cells, PV.isCell, V.isCell, faddrA, loadA, storeA, splice, cut, mkVal, mkAgg, mkFn, pures, lenA, iaddrSlA, iaddrArrA, natOf?, elemAt, binA, intBin, strBin, unA, convA, eqRes, eqNil, isNil?, eqCell, eqCells, partA, fillA, callA, mkRes, snapL_eq, snapLF, snapLF_pvs, snap_pv, snap_slt, snap_slx, snap_nils, snap_agg, snap_fn, snap_ptr, snap_sln, sliceStrA, sliceSlA, bounds, idxStrA, idxArrA, srcCells, strideOk, isSlV, weak, weak.weakL, chunks, mkPV, growMax, ent_new, ent_cons0, ent_consS, ent_at, ent_at0, hb]; rfl) ?_
    refine W.go (by simp [stepsA, stepA, wantA, opA, St.eval, evals, putA, PV.cells, V.cells, PV.isCell, V.isCell, faddrA, loadA, storeA, splice, cut, mkVal, mkAgg, mkFn, pures, lenA, iaddrSlA, iaddrArrA, natOf?, elemAt, binA, intBin, strBin, unA, convA, eqRes, eqNil, isNil?, eqCell, eqCells, partA, fillA, callA, mkRes, snapL_eq, snapLF, snapLF_pvs, snap_pv, snap_slt, snap_slx, snap_nils, snap_agg, snap_fn, snap_ptr, snap_sln, sliceStrA, sliceSlA, bounds, idxStrA, idxArrA, srcCells, strideOk, isSlV, weak, weak.weakL, chunks, mkPV, growMax, ent_new, ent_cons0, ent_consS, ent_at, ent_at0]; rfl) (W.retS (Fin.cell (by simp; exact ⟨rfl, rfl⟩) (by simp [stepsA, stepA, wantA, opA, St.eval, evals, putA, PV.cells, V.cells, PV.isCell, V.isCell, faddrA, loadA, storeA, splice, cut, mkVal, mkAgg, mkFn, pures, lenA, iaddrSlA, iaddrArrA, natOf?, elemAt, binA, intBin, strBin, unA, convA, eqRes, eqNil, isNil?, eqCell, eqCells, partA, fillA, callA, mkRes, snapL_eq, snapLF, snapLF_pvs, snap_pv, snap_slt, snap_slx, snap_nils, snap_agg, snap_fn, snap_ptr, snap_sln, sliceStrA, sliceSlA, bounds, idxStrA, idxArrA, srcCells, strideOk, isSlV, weak, weak.weakL, chunks, mkPV, growMax, ent_new, ent_cons0, ent_consS, ent_at, ent_at0, fuse, hk', enc_mk])))
  | false =>
    have hk' : k1 = 0 := by simpa using hk
    refine W.go (by simp [stepsA, stepA, wantA, opA, St.eval, evals, putA, PV.cells, V.cells, PV.isCell, V.isCell, faddrA, loadA, storeA, splice, cut, mkVal, mkAgg, mkFn, pures, lenA, iaddrSlA, iaddrArrA, natOf?, elemAt, binA, intBin, strBin, unA, convA, eqRes, eqNil, isNil?, eqCell, eqCells, partA, fillA, callA, mkRes, snapL_eq, snapLF, snapLF_pvs, snap_pv, snap_slt, snap_slx, snap_nils, snap_agg, snap_fn, snap_ptr, snap_sln, sliceStrA, sliceSlA, bounds, idxStrA, idxArrA, srcCells, strideOk, isSlV, weak, weak.weakL, chunks, mkPV, growMax, ent_new, ent_cons0, ent_consS, ent_at, ent_at0, hk]; rfl) ?_
    refine W.condS (t := false) rfl (fun h => by cases h) (fun _ => W.skipS ?_)
    refine W.go (by simp [stepsA, stepA, wantA, opA, St.eval, evals, putA, PV.cells, V.cells, PV.isCell, V.isCell, faddrA, loadA, storeA, splice, cut, mkVal, mkAgg, mkFn, pures, lenA, iaddrSlA, iaddrArrA, natOf?, elemAt, binA, intBin, strBin, unA, convA, eqRes, eqNil, isNil?, eqCell, eqCells, partA, fillA, callA, mkRes, snapL_eq, snapLF, snapLF_pvs, snap_pv, snap_slt, snap_slx, snap_nils, snap_agg, snap_fn, snap_ptr, snap_sln, sliceStrA, sliceSlA, bounds, idxStrA, idxArrA, srcCells, strideOk, isSlV, weak, weak.weakL, chunks, mkPV, growMax, ent_new, ent_cons0, ent_consS, ent_at, ent_at0]; rfl) (W.retS (Fin.cell (by simp; exact ⟨rfl, rfl⟩) (by simp [stepsA, stepA, wantA, opA, St.eval, evals, putA, PV.cells, V.cells, PV.isCell, V.isCell, faddrA, loadA, storeA, splice, cut, mkVal, mkAgg, mkFn, pures, lenA, iaddrSlA, iaddrArrA, natOf?, elemAt, binA, intBin, strBin, unA, convA, eqRes, eqNil, isNil?, eqCell, eqCells, partA, fillA, callA, mkRes, snapL_eq, snapLF, snapLF_pvs, snap_pv, snap_slt, snap_slx, snap_nils, snap_agg, snap_fn, snap_ptr, snap_sln, sliceStrA, sliceSlA, bounds, idxStrA, idxArrA, srcCells, strideOk, isSlV, weak, weak.weakL, chunks, mkPV, growMax, ent_new, ent_cons0, ent_consS, ent_at, ent_at0, fuse, hk', enc_mk])))

end Cds
