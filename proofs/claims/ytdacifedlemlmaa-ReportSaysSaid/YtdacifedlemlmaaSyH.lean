/- SyH: steps, walks, laws: see the remarks within. -/
import Derived.Test.YtdacifedlemlmaaSyG
set_option linter.unusedSimpArgs false
set_option linter.unusedVariables false
-- A law's own copies of values and reports, and whether they are the same: walked.
namespace Rp
open Go Ab Go.Proofs.Ytdacifedlemlmaa.Mach
variable {E : Env}

def SmV : Va → Prop
  | .mk _ _ l => l.length ≤ 100000 ∧ SmL l
where
  SmL : List Va → Prop
  | [] => True
  | x :: l => SmV x ∧ SmL l
theorem smVL : ∀ {l : List Va}, SmV.SmL l ↔ ∀ x ∈ l, SmV x
  | [] => by simp [SmV.SmL]
  | x :: l => by simp [SmV.SmL, smVL (l := l)]
theorem smV {c : Va} : SmV c ↔ c.l.length ≤ 100000 ∧ ∀ x ∈ c.l, SmV x := by
  cases c with | mk k b l => exact ⟨fun h => ⟨h.1, smVL.1 h.2⟩, fun h => ⟨h.1, smVL.2 h.2⟩⟩

theorem Rw.append_maskedT {te : TypeId} {b : Nat} {h : Heap} {v : V} {l : List Va} (r : Rw b h v (l.map encV)) (x : Va) (hl : l.length ≤ 100000) :
    opA E (limP E) (limR E) [] (mask v.ids h) (.append true false 3 40 te (.val v) (.val (.slx [.agg [.int .i64 x.k, .int .u8 x.b, .sl (x.l.map encV)]]))) = some (.slt ((l ++ [x]).map encV) h.length, kill (mask v.ids h) v ++ [.tok]) := by
  have h1 := r.masked.app (ag := true) (sz := 3) (bytes := 40) (te := te) (n := 1) (new := [.pv (.int .i64 x.k), .pv (.int .u8 x.b), .pv (.sl (x.l.map encV))]) (ps := [.int .i64 x.k, .int .u8 x.b, .sl (x.l.map encV)]) (by omega) (strideV l) rfl (by rw [List.length_map]; omega) rfl rfl
  have h2 : (l ++ [x]).map encV = l.map encV ++ (chunks 3 1 [.int .i64 x.k, .int .u8 x.b, .sl (x.l.map encV)]).map (mkPV true) := by simp [chunks, mkPV, eV]
  rw [h2, ← length_mask (F := v.ids) (h := h)]
  have h3 : srcCells (mask v.ids h) 3 (.slx [.agg [.int .i64 x.k, .int .u8 x.b, .sl (x.l.map encV)]]) = some [.pv (.int .i64 x.k), .pv (.int .u8 x.b), .pv (.sl (x.l.map encV))] := by simp [srcCells, strideOk, PV.cells]
  simp only [opA, St.eval, Ab.lenA, h3, List.length_cons, List.length_nil, Nat.zero_add]
  exact h1

set_option maxHeartbeats 8000000 in
theorem valueof_ok (H : Has E 64 c64) : ∀ v, SmV v → limP E 64 [encV v] = some [encV v] := by
  refine Va.ind fun v ih hf => ?_
  obtain ⟨hl, hk⟩ := smV.1 hf
  have ih' := fun x hx => ih x hx (hk x hx)
  clear ih hk hf
  have ea : (v.l.map encV).length = v.l.length := by simp
  rw [eV]
  refine H.limQ (Nat.le_of_ble_eq_true rfl) ?_; unfold c64
  (repeat' first
 | apply X.blockS
 | apply X.stepZ
 | (apply X.stepQ rfl; (focus (simp only [SB, reduceIte, Nat.reduceEqDiff]; with_reducible rfl)); (focus (simp [-getElem?_pos]; with_reducible (first | rfl | exact ⟨rfl, rfl⟩))))
 | fail)
  refine X.forS v.l.length (fun j st => ∃ (hh : Heap) (L : V) (f : Nat → V), (ent hh 0 = .blk [.pv (.int .i64 v.k), .pv (.int .u8 v.b), .pv (.sl (v.l.map encV))] none ∧ ent hh 1 = .blk [.pv (.int .i64 0), .pv (.int .u8 0), .nils] (some 68) ∧ ent hh 2 = .blk [.pv (.int .i64 v.k), .pv (.int .u8 v.b), L] (some 68) ∧ Rw 3 hh L ((v.l.take j).map encV)) ∧
    (fk (Fk.mk (f := f)) 1 = .ptr 0 0 ∧ fk (Fk.mk (f := f)) 2 = .ptr 1 0 ∧ fk (Fk.mk (f := f)) 3 = .ptr 2 0 ∧ fk (Fk.mk (f := f)) 4 = .pv (.int .i64 (j : Int))) ∧ st = ⟨TL 29 f, hh⟩) ?_ ?_
  · exact ⟨_, .nils, _, ⟨rfl, rfl, rfl, .inl ⟨rfl, rfl⟩⟩, by simp, rfl⟩
  rintro j st hj ⟨hh, L, f, ⟨x0, x1, x2, W⟩, ⟨f1, f2, f3, f4⟩, rfl⟩
  have h0 := Ab.ent_lt (h := hh) (i := 0) (by rw [x0]; simp)
  have h1 := Ab.ent_lt (h := hh) (i := 1) (by rw [x1]; simp)
  have h2 := Ab.ent_lt (h := hh) (i := 2) (by rw [x2]; simp)
  rcases Nat.lt_or_ge j v.l.length with hj1 | hj1
  · have w1 : binA .lss .no (.pv (.int .i64 (j : Int))) (.pv (.int .i64 (v.l.length : Int))) = some (.pv (.bool true)) := by simp [binA, intBin]; omega
    have hww : IntKind.i64.wrap ((j : Int) + 1) = (j : Int) + 1 := wrap_i64 (by omega)
    have w3 : binA .add .no (.pv (.int .i64 (j : Int))) (.pv (.int .i64 1)) = some (.pv (.int .i64 ((j : Int) + 1))) := by simp [binA, intBin, hww]
    obtain ⟨x, hx⟩ := at_of_lt hj1
    have hx2 : (v.l.map encV)[j]? = some (.agg [.int .i64 x.k, .int .u8 x.b, .sl (x.l.map encV)]) := by simp [hx, eV]
    have hc := ih' x (List.mem_of_getElem? hx)
    rw [eV x] at hc
    clear ih'
    (repeat' first
 | apply X.skipS
 | apply X.blockS
 | (apply X.condQ rfl; (focus (simp only [SB, reduceIte, Nat.reduceEqDiff, f1, f2, f3, f4]; with_reducible rfl)); all_goals (intro hbr; first | exact absurd hbr (by decide) | ((try rw [hbr]); (try simp at hbr))))
 | apply X.stepZ
 | (apply X.stepQ rfl; (focus (simp only [SB, reduceIte, Nat.reduceEqDiff, f1, f2, f3, f4]; with_reducible rfl)); (focus (simp [-getElem?_pos, -binA, w1, x0, ea]; with_reducible (first | rfl | exact ⟨rfl, rfl⟩))))
 | fail)
    refine X.drawC [] [0, 2] rfl ?_
    (repeat' first
 | (apply XC.calmQ rfl rfl rfl; (focus (simp only [SB, reduceIte, Nat.reduceEqDiff, f1, f2, f3, f4]; with_reducible rfl)); (focus (simp [-getElem?_pos, -binA, x0, x2, hx2, H.raw, hc]; done)); (focus (simp [-getElem?_pos, -binA, x0, x2, hx2, H.raw, hc]; with_reducible (first | rfl | exact ⟨rfl, rfl⟩))))
 | (apply XC.callP rfl; (focus (simp only [SB, reduceIte, Nat.reduceEqDiff, f1, f2, f3, f4]; simp; with_reducible rfl)); (focus (simp; with_reducible rfl)); (focus (simp [-getElem?_pos, -binA, x0, x2, hx2, H.raw, hc]; done)); (focus (simp [-getElem?_pos, -binA, x0, x2, hx2, H.raw, hc]; with_reducible rfl)))
 | (apply XC.makeQ rfl rfl rfl rfl; (focus (simp only [SB, reduceIte, Nat.reduceEqDiff, f1, f2, f3, f4]; with_reducible rfl)); (focus rfl); (focus (simp; done)); (focus (first | (simp; done) | (simp; omega))); (focus (simp [-getElem?_pos, -binA, x0, x2, hx2, H.raw, hc]; with_reducible (first | rfl | exact ⟨rfl, rfl⟩))); (focus (simp; done)); (focus (simp [-getElem?_pos, -binA, x0, x2, hx2, H.raw, hc]; with_reducible rfl)))
 | fail)
    have htl : (v.l.take j).length ≤ 100000 := by simp; omega
    have hap := W.append_maskedT (E := E) (te := 68) x htl
    have etk : v.l.take j ++ [x] = v.l.take (j + 1) := by rw [List.take_add_one, hx]; rfl
    rw [etk] at hap
    refine XC.growQ (F := L.ids) (vop := .append true false 3 40 68 (.val L) (.val (.slx [.agg [.int .i64 x.k, .int .u8 x.b, .sl (x.l.map encV)]]))) rfl rfl rfl (by simp only [SB, reduceIte, Nat.reduceEqDiff]) (by show L.ids ++ [] = _; rw [List.append_nil]) ?_ (by simp; omega) (fun x hx => Ab.ent_lt (by rw [(W.ids x hx).1]; simp)) hap (by simp [length_kill, length_mask]) (kill_mask W) ?_
    · rw [List.all_eq_true]
      intro y hy
      have := (W.ids y hy).2
      simp
      omega
    have u0 : ent (kill hh L ++ [.tok]) 0 = _ := (W.keep (by rw [x0]; simp) h0).trans x0
    have u1 : ent (kill hh L ++ [.tok]) 1 = _ := (W.keep (by rw [x1]; simp) h1).trans x1
    have u2 : ent (kill hh L ++ [.tok]) 2 = _ := (W.keep (by rw [x2]; simp) h2).trans x2
    have W5 : Rw 3 (kill hh L ++ [.tok]) (.slt ((v.l.take (j + 1)).map encV) hh.length) ((v.l.take (j + 1)).map encV) := Rw.done (by rw [← etk]; simp) rfl (by omega)
    have hH : hh.length < (kill hh L ++ [Ent.tok]).length := by simp [length_kill]
    clear hap W
    generalize kill hh L ++ [Ent.tok] = H at u0 u1 u2 W5 hH ⊢
    (repeat' first
 | (apply XC.calmQ rfl rfl rfl; (focus (simp only [SB, reduceIte, Nat.reduceEqDiff, f1, f2, f3, f4]; with_reducible rfl)); (focus (simp [-getElem?_pos, u2]; done)); (focus (simp [-getElem?_pos, u2]; with_reducible (first | rfl | exact ⟨rfl, rfl⟩))))
 | fail)
    have um : ent (mask [2] H) 2 = _ := (ent_mask_in (by simp)).trans u2
    have hst : opA E (limP E) (limR E) [] (mask [2] H) (.store 1 (.val (.ptr 2 2)) (.val (.slt ((v.l.take (j + 1)).map encV) hh.length))) = some (.tup [], (mask [2] H).set 2 (.blk [.pv (.int .i64 v.k), .pv (.int .u8 v.b), .slt ((v.l.take (j + 1)).map encV) hh.length] (some 68))) := by
      simp [opA, um, St.eval]
    refine XC.loudQ (F := [2]) (vop := .store 1 (.val (.ptr 2 2)) (.val (.slt ((v.l.take (j + 1)).map encV) hh.length))) rfl rfl (by simp only [SB, reduceIte, Nat.reduceEqDiff, f3]) rfl hst (by simp [length_mask]) (merge_mask_set (by simp)) ?_
    apply XC.nil
    (repeat' first
 | apply X.skipB
 | apply X.skipL
 | apply X.stepZ
 | (apply X.stepQ rfl; (focus (simp only [SB, reduceIte, Nat.reduceEqDiff, f1, f2, f3, f4]; with_reducible rfl)); (focus (simp [-getElem?_pos, -binA, w3]; with_reducible (first | rfl | exact ⟨rfl, rfl⟩))))
 | fail)
    refine ⟨hj1, _, .slt ((v.l.take (j + 1)).map encV) hh.length, _, ⟨?_, ?_, ?_, ?_⟩, by simp [f1, f2, f3], rfl⟩
    · rw [ent_set_ne (by omega)]; exact u0
    · rw [ent_set_ne (by omega)]; exact u1
    · rw [ent_set (by omega)]; simp
    · exact W5.but (S := [2]) (But.set (by simp)) (by intro i hi; simp at hi; subst hi; rw [u2]; simp)
  · have w1 : binA .lss .no (.pv (.int .i64 (j : Int))) (.pv (.int .i64 (v.l.length : Int))) = some (.pv (.bool false)) := by simp [binA, intBin]; omega
    rw [List.take_of_length_le hj1] at W
    have hS := W.shp
    have es1 := fun B => ent_set (e := B) h1
    clear W ih'
    obtain ⟨L', gL⟩ : ∃ L', L' = L := ⟨L, rfl⟩
    rcases hS with ⟨eL, rfl⟩ | rfl | ⟨tL, rfl⟩ <;> (try rw [eL])
    all_goals (repeat' first
 | apply X.retS
 | (apply X.exitS; first | apply X.here | (refine X.out (by decide) ?_; apply X.here))
 | (apply X.condQ rfl; (focus (simp only [SB, reduceIte, Nat.reduceEqDiff, f1, f2, f3, f4]; with_reducible rfl)); all_goals (intro hbr; first | exact absurd hbr (by decide) | ((try rw [hbr]); (try simp at hbr))))
 | apply X.stepZ
 | (apply X.stepQ rfl; (focus (simp only [SB, reduceIte, Nat.reduceEqDiff, f1, f2, f3, f4]; with_reducible rfl)); (focus (simp [-getElem?_pos, -binA, w1, x0, x1, x2, ea, es1]; with_reducible (first | rfl | exact ⟨rfl, rfl⟩))))
 | fail)
    all_goals refine Fin.mkQ (us := [.agg [.pv (.int .i64 v.k), .pv (.int .u8 v.b), L']]) rfl (by simp [resS, f2, es1, pures, gL]) (by simp [oneOf, pureRes, snapFuel, snapL, gL]) rfl

theorem Rw.append_maskedS {te : TypeId} {b : Nat} {h : Heap} {v : V} {l : List Sp} (r : Rw b h v (l.map encS)) (x : Sp) (hl : l.length ≤ 100000) :
    opA E (limP E) (limR E) [] (mask v.ids h) (.append true false 2 16 te (.val v) (.val (.slx [.agg [.int .i64 x.1, .int .i64 x.2]]))) = some (.slt ((l ++ [x]).map encS) h.length, kill (mask v.ids h) v ++ [.tok]) := by
  have h1 := r.masked.app (ag := true) (sz := 2) (bytes := 16) (te := te) (n := 1) (new := [.pv (.int .i64 x.1), .pv (.int .i64 x.2)]) (ps := [.int .i64 x.1, .int .i64 x.2]) (by omega) (strideS l) rfl (by rw [List.length_map]; omega) rfl rfl
  have h2 : (l ++ [x]).map encS = l.map encS ++ (chunks 2 1 [.int .i64 x.1, .int .i64 x.2]).map (mkPV true) := by simp [chunks, mkPV, encS]
  rw [h2, ← length_mask (F := v.ids) (h := h)]
  have h3 : srcCells (mask v.ids h) 2 (.slx [.agg [.int .i64 x.1, .int .i64 x.2]]) = some [.pv (.int .i64 x.1), .pv (.int .i64 x.2)] := by simp [srcCells, strideOk, PV.cells]
  simp only [opA, St.eval, Ab.lenA, h3, List.length_cons, List.length_nil, Nat.zero_add]
  exact h1

set_option maxHeartbeats 8000000 in
theorem reportof_ok (H : Has E 34 c34) (H2 : Has E 64 c64) (x : Re) (hs : x.sp.length ≤ 100000) (hf : SmV x.v) : limP E 34 [encX x] = some [encX x] := by
  obtain ⟨e, a, b, sp, v, q⟩ := x
  dsimp only at hs hf
  have hv := valueof_ok H2 v hf
  have ea : (sp.map encS).length = sp.length := by simp
  rw [eV] at hv
  simp only [encX, encR]
  clear hf
  refine H.limQ (Nat.le_of_ble_eq_true rfl) ?_; unfold c34
  (repeat' first
 | apply X.stepZ
 | (apply X.stepQ rfl; (focus (simp only [SB, reduceIte, Nat.reduceEqDiff]; with_reducible rfl)); (focus (simp [-getElem?_pos]; with_reducible (first | rfl | exact ⟨rfl, rfl⟩))))
 | fail)
  refine X.drawC [] [0] rfl ?_
  (repeat' first
 | (apply XC.calmQ rfl rfl rfl; (focus (simp only [SB, reduceIte, Nat.reduceEqDiff]; with_reducible rfl)); (focus (simp [-getElem?_pos, H2.raw, hv]; done)); (focus (simp [-getElem?_pos, H2.raw, hv]; with_reducible (first | rfl | exact ⟨rfl, rfl⟩))))
 | (apply XC.callP rfl; (focus (simp only [SB, reduceIte, Nat.reduceEqDiff]; simp; with_reducible rfl)); (focus (simp; with_reducible rfl)); (focus (simp [-getElem?_pos, H2.raw, hv]; done)); (focus (simp [-getElem?_pos, H2.raw, hv]; with_reducible rfl)))
 | (apply XC.makeQ rfl rfl rfl rfl; (focus (simp only [SB, reduceIte, Nat.reduceEqDiff]; with_reducible rfl)); (focus rfl); (focus (simp; done)); (focus (first | (simp; done) | (simp; omega))); (focus (simp [-getElem?_pos, H2.raw, hv]; with_reducible (first | rfl | exact ⟨rfl, rfl⟩))); (focus (simp; done)); (focus (simp [-getElem?_pos, H2.raw, hv]; with_reducible rfl)))
 | fail)
  refine XC.loudQ (F := [2]) (vop := .store 8 (.val (.ptr 2 0)) (.val (.agg [.pv (.int .i64 e), .pv (.int .i64 a), .pv (.int .i64 b), .nils, .pv (.int .i64 v.k), .pv (.int .u8 v.b), .pv (.sl (v.l.map encV)), .pv (.flt .f64 q)]))) (h1 := [.dead, .dead, .blk [.pv (.int .i64 e), .pv (.int .i64 a), .pv (.int .i64 b), .nils, .pv (.int .i64 v.k), .pv (.int .u8 v.b), .pv (.sl (v.l.map encV)), .pv (.flt .f64 q)] (some 70)]) (v := .tup []) (h2 := [.blk [.pv (.int .i64 e), .pv (.int .i64 a), .pv (.int .i64 b), .pv (.sl (sp.map encS)), .pv (.int .i64 v.k), .pv (.int .u8 v.b), .pv (.sl (v.l.map encV)), .pv (.flt .f64 q)] none, .blk [.pv (.int .i64 0), .pv (.int .i64 0), .pv (.int .i64 0), .nils, .pv (.int .i64 0), .pv (.int .u8 0), .nils, .pv (.flt .f64 0)] (some 70), .blk [.pv (.int .i64 e), .pv (.int .i64 a), .pv (.int .i64 b), .nils, .pv (.int .i64 v.k), .pv (.int .u8 v.b), .pv (.sl (v.l.map encV)), .pv (.flt .f64 q)] (some 70)]) rfl rfl (by simp only [SB, reduceIte, Nat.reduceEqDiff]) rfl rfl (by simp) rfl ?_
  apply XC.nil
  (repeat' first
 | apply X.blockS
 | apply X.stepZ
 | (apply X.stepQ rfl; (focus (simp only [SB, reduceIte, Nat.reduceEqDiff]; with_reducible rfl)); (focus (simp [-getElem?_pos]; with_reducible (first | rfl | exact ⟨rfl, rfl⟩))))
 | fail)
  refine X.forS sp.length (fun j st => ∃ (hh : Heap) (S : V) (f : Nat → V), (ent hh 0 = .blk [.pv (.int .i64 e), .pv (.int .i64 a), .pv (.int .i64 b), .pv (.sl (sp.map encS)), .pv (.int .i64 v.k), .pv (.int .u8 v.b), .pv (.sl (v.l.map encV)), .pv (.flt .f64 q)] none ∧ ent hh 1 = .blk [.pv (.int .i64 0), .pv (.int .i64 0), .pv (.int .i64 0), .nils, .pv (.int .i64 0), .pv (.int .u8 0), .nils, .pv (.flt .f64 0)] (some 70) ∧ ent hh 2 = .blk [.pv (.int .i64 e), .pv (.int .i64 a), .pv (.int .i64 b), S, .pv (.int .i64 v.k), .pv (.int .u8 v.b), .pv (.sl (v.l.map encV)), .pv (.flt .f64 q)] (some 70) ∧ Rw 3 hh S ((sp.take j).map encS)) ∧
    (fk (Fk.mk (f := f)) 1 = .ptr 0 0 ∧ fk (Fk.mk (f := f)) 2 = .ptr 1 0 ∧ fk (Fk.mk (f := f)) 3 = .ptr 2 0 ∧ fk (Fk.mk (f := f)) 4 = .pv (.int .i64 (j : Int))) ∧ st = ⟨TL 43 f, hh⟩) ?_ ?_
  · exact ⟨_, .nils, _, ⟨rfl, rfl, rfl, .inl ⟨rfl, rfl⟩⟩, by simp, rfl⟩
  rintro j st hj ⟨hh, S, f, ⟨x0, x1, x2, W⟩, ⟨f1, f2, f3, f4⟩, rfl⟩
  have h0 := Ab.ent_lt (h := hh) (i := 0) (by rw [x0]; simp)
  have h1 := Ab.ent_lt (h := hh) (i := 1) (by rw [x1]; simp)
  have h2 := Ab.ent_lt (h := hh) (i := 2) (by rw [x2]; simp)
  clear hv
  rcases Nat.lt_or_ge j sp.length with hj1 | hj1
  · have w1 : binA .lss .no (.pv (.int .i64 (j : Int))) (.pv (.int .i64 (sp.length : Int))) = some (.pv (.bool true)) := by simp [binA, intBin]; omega
    have hww : IntKind.i64.wrap ((j : Int) + 1) = (j : Int) + 1 := wrap_i64 (by omega)
    have w3 : binA .add .no (.pv (.int .i64 (j : Int))) (.pv (.int .i64 1)) = some (.pv (.int .i64 ((j : Int) + 1))) := by simp [binA, intBin, hww]
    obtain ⟨x, hx⟩ := at_of_lt hj1
    have hx2 : (sp.map encS)[j]? = some (.agg [.int .i64 x.1, .int .i64 x.2]) := by simp [hx, encS]
    (repeat' first
 | apply X.skipS
 | apply X.blockS
 | (apply X.condQ rfl; (focus (simp only [SB, reduceIte, Nat.reduceEqDiff, f1, f2, f3, f4]; with_reducible rfl)); all_goals (intro hbr; first | exact absurd hbr (by decide) | ((try rw [hbr]); (try simp at hbr))))
 | apply X.stepZ
 | (apply X.stepQ rfl; (focus (simp only [SB, reduceIte, Nat.reduceEqDiff, f1, f2, f3, f4]; with_reducible rfl)); (focus (simp [-getElem?_pos, -binA, w1, x0, ea]; with_reducible (first | rfl | exact ⟨rfl, rfl⟩))))
 | fail)
    refine X.drawC [] [0, 2] rfl ?_
    (repeat' first
 | (apply XC.calmQ rfl rfl rfl; (focus (simp only [SB, reduceIte, Nat.reduceEqDiff, f1, f2, f3, f4]; with_reducible rfl)); (focus (simp [-getElem?_pos, -binA, x0, x2, hx2]; done)); (focus (simp [-getElem?_pos, -binA, x0, x2, hx2]; with_reducible (first | rfl | exact ⟨rfl, rfl⟩))))
 | (apply XC.makeQ rfl rfl rfl rfl; (focus (simp only [SB, reduceIte, Nat.reduceEqDiff, f1, f2, f3, f4]; with_reducible rfl)); (focus rfl); (focus (simp; done)); (focus (first | (simp; done) | (simp; omega))); (focus (simp [-getElem?_pos, -binA, x0, x2, hx2]; with_reducible (first | rfl | exact ⟨rfl, rfl⟩))); (focus (simp; done)); (focus (simp [-getElem?_pos, -binA, x0, x2, hx2]; with_reducible rfl)))
 | fail)
    have htl : (sp.take j).length ≤ 100000 := by simp; omega
    have hap := W.append_maskedS (E := E) (te := 109) x htl
    have etk : sp.take j ++ [x] = sp.take (j + 1) := by rw [List.take_add_one, hx]; rfl
    rw [etk] at hap
    refine XC.growQ (F := S.ids) (vop := .append true false 2 16 109 (.val S) (.val (.slx [.agg [.int .i64 x.1, .int .i64 x.2]]))) rfl rfl rfl (by simp only [SB, reduceIte, Nat.reduceEqDiff]) (by show S.ids ++ [] = _; rw [List.append_nil]) ?_ (by simp; omega) (fun x hx => Ab.ent_lt (by rw [(W.ids x hx).1]; simp)) hap (by simp [length_kill, length_mask]) (kill_mask W) ?_
    · rw [List.all_eq_true]
      intro y hy
      have := (W.ids y hy).2
      simp
      omega
    have u0 : ent (kill hh S ++ [.tok]) 0 = _ := (W.keep (by rw [x0]; simp) h0).trans x0
    have u1 : ent (kill hh S ++ [.tok]) 1 = _ := (W.keep (by rw [x1]; simp) h1).trans x1
    have u2 : ent (kill hh S ++ [.tok]) 2 = _ := (W.keep (by rw [x2]; simp) h2).trans x2
    have W5 : Rw 3 (kill hh S ++ [.tok]) (.slt ((sp.take (j + 1)).map encS) hh.length) ((sp.take (j + 1)).map encS) := Rw.done (by rw [← etk]; simp) rfl (by omega)
    have hH : hh.length < (kill hh S ++ [Ent.tok]).length := by simp [length_kill]
    clear hap W
    generalize kill hh S ++ [Ent.tok] = H at u0 u1 u2 W5 hH ⊢
    (repeat' first
 | (apply XC.calmQ rfl rfl rfl; (focus (simp only [SB, reduceIte, Nat.reduceEqDiff, f1, f2, f3, f4]; with_reducible rfl)); (focus (simp [-getElem?_pos, u2]; done)); (focus (simp [-getElem?_pos, u2]; with_reducible (first | rfl | exact ⟨rfl, rfl⟩))))
 | fail)
    have um : ent (mask [2] H) 2 = _ := (ent_mask_in (by simp)).trans u2
    have hst : opA E (limP E) (limR E) [] (mask [2] H) (.store 1 (.val (.ptr 2 3)) (.val (.slt ((sp.take (j + 1)).map encS) hh.length))) = some (.tup [], (mask [2] H).set 2 (.blk [.pv (.int .i64 e), .pv (.int .i64 a), .pv (.int .i64 b), .slt ((sp.take (j + 1)).map encS) hh.length, .pv (.int .i64 v.k), .pv (.int .u8 v.b), .pv (.sl (v.l.map encV)), .pv (.flt .f64 q)] (some 70))) := by
      simp [opA, um, St.eval]
    refine XC.loudQ (F := [2]) (vop := .store 1 (.val (.ptr 2 3)) (.val (.slt ((sp.take (j + 1)).map encS) hh.length))) rfl rfl (by simp only [SB, reduceIte, Nat.reduceEqDiff, f3]) rfl hst (by simp [length_mask]) (merge_mask_set (by simp)) ?_
    apply XC.nil
    (repeat' first
 | apply X.skipB
 | apply X.skipL
 | apply X.stepZ
 | (apply X.stepQ rfl; (focus (simp only [SB, reduceIte, Nat.reduceEqDiff, f1, f2, f3, f4]; with_reducible rfl)); (focus (simp [-getElem?_pos, -binA, w3]; with_reducible (first | rfl | exact ⟨rfl, rfl⟩))))
 | fail)
    refine ⟨hj1, _, .slt ((sp.take (j + 1)).map encS) hh.length, _, ⟨?_, ?_, ?_, ?_⟩, by simp [f1, f2, f3], rfl⟩
    · rw [ent_set_ne (by omega)]; exact u0
    · rw [ent_set_ne (by omega)]; exact u1
    · rw [ent_set (by omega)]; simp
    · exact W5.but (S := [2]) (But.set (by simp)) (by intro i hi; simp at hi; subst hi; rw [u2]; simp)
  · have w1 : binA .lss .no (.pv (.int .i64 (j : Int))) (.pv (.int .i64 (sp.length : Int))) = some (.pv (.bool false)) := by simp [binA, intBin]; omega
    rw [List.take_of_length_le hj1] at W
    have hS := W.shp
    have es1 := fun B => ent_set (e := B) h1
    clear W
    obtain ⟨S', gS⟩ : ∃ S', S' = S := ⟨S, rfl⟩
    rcases hS with ⟨eL, rfl⟩ | rfl | ⟨tL, rfl⟩ <;> (try rw [eL])
    all_goals (repeat' first
 | apply X.retS
 | (apply X.exitS; first | apply X.here | (refine X.out (by decide) ?_; apply X.here))
 | (apply X.condQ rfl; (focus (simp only [SB, reduceIte, Nat.reduceEqDiff, f1, f2, f3, f4]; with_reducible rfl)); all_goals (intro hbr; first | exact absurd hbr (by decide) | ((try rw [hbr]); (try simp at hbr))))
 | apply X.stepZ
 | (apply X.stepQ rfl; (focus (simp only [SB, reduceIte, Nat.reduceEqDiff, f1, f2, f3, f4]; with_reducible rfl)); (focus (simp [-getElem?_pos, -binA, w1, x0, x1, x2, ea, es1]; with_reducible (first | rfl | exact ⟨rfl, rfl⟩))))
 | fail)
    all_goals refine Fin.mkQ (us := [.agg [.pv (.int .i64 e), .pv (.int .i64 a), .pv (.int .i64 b), S', .pv (.int .i64 v.k), .pv (.int .u8 v.b), .pv (.sl (v.l.map encV)), .pv (.flt .f64 q)]]) rfl (by simp [resS, f2, es1, pures, gS]) (by simp [oneOf, pureRes, snapFuel, snapL, gS]) rfl
end Rp

-- Reports alike: plain law.
namespace Rp
open Go Ab Go.Proofs.Ytdacifedlemlmaa.Mach

def Alike (x y : Re) : Prop := x.e = y.e ∧ x.a = y.a ∧ x.b = y.b ∧ x.sp = y.sp ∧ x.v = y.v ∧ ((nanB .f64 x.q = true ∧ nanB .f64 y.q = true) ∨ x.q = y.q)
theorem Alike.symm {x y : Re} (h : Alike x y) : Alike y x := ⟨h.1.symm, h.2.1.symm, h.2.2.1.symm, h.2.2.2.1.symm, h.2.2.2.2.1.symm, h.2.2.2.2.2.elim (fun h => .inl ⟨h.2, h.1⟩) fun h => .inr h.symm⟩
theorem Alike.trans {x y z : Re} (h : Alike x y) (k : Alike y z) : Alike x z := by
  obtain ⟨a1, a2, a3, a4, a5, a6⟩ := h
  obtain ⟨b1, b2, b3, b4, b5, b6⟩ := k
  refine ⟨a1.trans b1, a2.trans b2, a3.trans b3, a4.trans b4, a5.trans b5, ?_⟩
  rcases a6 with a6 | a6
  · rcases b6 with b6 | b6
    · exact .inl ⟨a6.1, b6.2⟩
    · exact .inl ⟨a6.1, by rw [← b6]; exact a6.2⟩
  · rcases b6 with b6 | b6
    · exact .inl ⟨by rw [a6]; exact b6.1, b6.2⟩
    · exact .inr (a6.trans b6)
def goodX (x : Re) : Bool := goodS x.e x.a x.b x.sp x.v x.q
theorem Alike.nan {x y : Re} (h : Alike x y) : nanB .f64 x.q = nanB .f64 y.q := by
  rcases h.2.2.2.2.2 with h | h
  · rw [h.1, h.2]
  · rw [h]
theorem Alike.bits {x y : Re} (h : Alike x y) : bitsS x.q = bitsS y.q := by
  rcases h.2.2.2.2.2 with h | h
  · unfold bitsS; rw [h.1, h.2]; rfl
  · rw [h]
theorem Alike.good {x y : Re} (h : Alike x y) : goodX x = goodX y := by
  have hn := h.nan
  obtain ⟨a1, a2, a3, a4, a5, _⟩ := h
  unfold goodX
  rw [a1, a2, a3, a4, a5]
  unfold goodS
  rw [hn]
theorem Alike.put {x y : Re} (h : Alike x y) : putX x = putX y := by
  have hg := h.good
  have hb := h.bits
  obtain ⟨a1, a2, a3, a4, a5, _⟩ := h
  unfold goodX at hg
  unfold putX putS
  rw [hg, a1, a2, a3, a4, a5]
  unfold scoreB
  rw [hb]
theorem back_alike {x : Re} (hg : goodX x = true) (hf : FineV x.v) (hq : x.q < 2 ^ 64) : ∃ y, candS (putX x) = some (y, false) ∧ Alike y x := by
  obtain ⟨y, h0, h1, h2, h3, h4, h5, h6⟩ := cand_back x hg hf hq
  exact ⟨y, h0, h1, h2, h3, h4, h5, h6⟩
theorem get_back {x : Re} (hg : goodX x = true) (hf : FineV x.v) (hq : x.q < 2 ^ 64) : ∃ y, getR (putX x) = (y, 0) ∧ Alike y x := by
  obtain ⟨y, h1, h2⟩ := back_alike hg hf hq
  refine ⟨y, ?_, h2⟩
  unfold getR getS
  rw [h1]
  dsimp only
  rw [if_pos ⟨rfl, h2.put⟩]
theorem put_inj {x y : Re} (hx : goodX x = true) (hy : goodX y = true) (fx : FineV x.v) (fy : FineV y.v) (qx : x.q < 2 ^ 64) (qy : y.q < 2 ^ 64) : putX x = putX y ↔ Alike x y := by
  refine ⟨fun h => ?_, fun h => h.put⟩
  obtain ⟨u, h1, h2⟩ := back_alike hx fx qx
  obtain ⟨w, h3, h4⟩ := back_alike hy fy qy
  rw [h, h3] at h1
  cases h1
  exact h2.symm.trans h4
theorem ofQ_lt (n : Int) : ofQ n < 2 ^ 64 := by
  have key : ∀ a : Int, (IntKind.u64.wrap a).toNat < 2 ^ 64 := fun a => by
    simp [IntKind.wrap, IntKind.bits, IntKind.signed]
    omega
  unfold ofQ
  split
  · exact key _
  · exact key _
theorem candS_q {bs : List Int} {x : Re} {bad : Bool} (h : candS bs = some (x, bad)) : x.q < 2 ^ 64 := by
  unfold candS at h
  dsimp only at h
  split at h
  · unfold bodyS at h
    dsimp only at h
    split at h
    · cases h
      unfold ofS
      split
      · exact ofQ_lt _
      · show 0 < 2 ^ 64
        decide
    · cases h
  · cases h
    show nanC < 2 ^ 64
    decide
theorem cand_nil : candS [] = none := by decide +kernel
theorem get_good {bs : List Int} {x : Re} (h : getR bs = (x, 0)) : goodX x = true ∧ putX x = bs ∧ x.q < 2 ^ 64 := by
  unfold getR getS at h
  cases hc : candS bs with
  | none => rw [hc] at h; cases h
  | some p =>
    obtain ⟨y, bad⟩ := p
    rw [hc] at h
    dsimp only at h
    by_cases hq : bad = false ∧ putX y = bs
    · rw [if_pos hq] at h
      cases h
      refine ⟨?_, hq.2, candS_q hc⟩
      cases hg : goodX x with
      | true => rfl
      | false =>
        have : putX x = [] := by
          unfold putX putS
          unfold goodX at hg
          rw [hg]
          rfl
        rw [← hq.2, this, cand_nil] at hc
        cases hc
    · rw [if_neg hq] at h; cases h
def alikeB (x y : Re) : Bool := decide (x.e = y.e) && (decide (x.a = y.a) && (decide (x.b = y.b) && (decide (x.sp = y.sp) && (eqV x.v y.v && ((nanB .f64 x.q && nanB .f64 y.q) || decide (x.q = y.q))))))
theorem alikeB_iff {x y : Re} : alikeB x y = true ↔ Alike x y := by
  unfold alikeB Alike
  simp only [Bool.and_eq_true, Bool.or_eq_true, decide_eq_true_eq, eqV_iff]
end Rp

-- A law's own test whether two reports are the same; report.Same where all is pure: walked.
namespace Rp
open Go Ab Go.Proofs.Ytdacifedlemlmaa.Mach
variable {E : Env}

theorem neI (x y : Int) : binA .neq .no (.pv (.int .i64 x)) (.pv (.int .i64 y)) = some (.pv (.bool (!decide (x = y)))) := by
  simp [binA, intBin, bne]
  rfl
theorem neF (q : Nat) : binA .neq .no (.pv (.flt .f64 q)) (.pv (.flt .f64 q)) = some (.pv (.bool (nanB .f64 q))) := by
  cases h : nanB .f64 q with
  | true => exact ne_nan h
  | false => simp [binA, fltBin, ord_self h]
structure HasSa (E : Env) : Prop where
  same : Has E 33 c33
  spans : Has E 61 c61
  value : Has E 62 c62
  rfb : E.raw 63 = false
  fb : ∀ b : Nat, limP E 63 [.flt .f64 b] = some [if b = nanOf .f64 then .top else .int .u64 b]

set_option maxHeartbeats 8000000 in
theorem same_alike (HH : HasSa E) (x y : Re) (hs : x.sp.length ≤ 9223372036854775807) (hf : FineV x.v) (qx : x.q < 2 ^ 64) (qy : y.q < 2 ^ 64) : limP E 33 [encX x, encX y] = some [.bool (alikeB x y)] := by
  obtain ⟨e, a, b, sp, v, q⟩ := x
  obtain ⟨e', a', b', sp', v', q'⟩ := y
  have H := HH.same
  dsimp only at hs hf qx qy
  have hsp := spans_same HH.spans sp sp' hs
  have hva := value_same HH.value v hf v'
  have hn : nanOf .f64 = 101452588805775163393 := rfl
  have fb1 := HH.fb q
  have fb2 := HH.fb q'
  rw [if_neg (by rw [hn]; omega)] at fb1 fb2
  have n1 := neF q
  have n2 := neF q'
  have w1 := neI e e'
  have w2 := neI a a'
  have w3 := neI b b'
  have w4 : binA .eql .no (.pv (.int .u64 (q : Int))) (.pv (.int .u64 (q' : Int))) = some (.pv (.bool (decide (q = q')))) := by
    by_cases h : q = q'
    · simp [binA, intBin, h]
    · simp [binA, intBin, h]; omega
  rw [eV, eV] at hva
  simp only [encX, encR]
  unfold alikeB
  dsimp only
  generalize decide (e = e') = p1 at w1 ⊢
  generalize decide (a = a') = p2 at w2 ⊢
  generalize decide (b = b') = p3 at w3 ⊢
  generalize decide (sp = sp') = p4 at hsp ⊢
  generalize eqV v v' = p5 at hva ⊢
  generalize decide (q = q') = p6 at w4 ⊢
  generalize nanB .f64 q = m1 at n1 ⊢
  generalize nanB .f64 q' = m2 at n2 ⊢
  clear hn
  refine H.limQ (Nat.le_of_ble_eq_true rfl) ?_; unfold c33
  cases p1 with
  | false =>
    (repeat' first
 | apply X.retS
 | (apply X.condQ rfl; (focus (simp only [SB, reduceIte, Nat.reduceEqDiff]; with_reducible rfl)); all_goals (intro hbr; first | exact absurd hbr (by decide) | ((try rw [hbr]); (try simp at hbr))))
 | apply X.stepZ
 | (apply X.stepQ rfl; (focus (simp only [SB, reduceIte, Nat.reduceEqDiff]; with_reducible rfl)); (focus (simp [-getElem?_pos, -binA, w1, w2, w3]; with_reducible (first | rfl | exact ⟨rfl, rfl⟩))))
 | ((first | apply X.stepGtQ rfl | apply X.stepGfQ rfl); (focus (simp only [SB, reduceIte, Nat.reduceEqDiff]; with_reducible rfl)); all_goals (intro hbr; first | exact absurd hbr (by decide) | ((try rw [hbr]); (try simp at hbr))))
 | fail)
    all_goals (refine Fin.mkQ rfl (by simp only [resS, SB, reduceIte, Nat.reduceEqDiff]; with_reducible rfl) (by simp [oneOf, pureRes, snapFuel, snapL]; with_reducible rfl) ?_)
    all_goals rfl
  | true =>
  cases p2 with
  | false =>
    (repeat' first
 | apply X.retS
 | (apply X.condQ rfl; (focus (simp only [SB, reduceIte, Nat.reduceEqDiff]; with_reducible rfl)); all_goals (intro hbr; first | exact absurd hbr (by decide) | ((try rw [hbr]); (try simp at hbr))))
 | apply X.stepZ
 | (apply X.stepQ rfl; (focus (simp only [SB, reduceIte, Nat.reduceEqDiff]; with_reducible rfl)); (focus (simp [-getElem?_pos, -binA, w1, w2, w3]; with_reducible (first | rfl | exact ⟨rfl, rfl⟩))))
 | ((first | apply X.stepGtQ rfl | apply X.stepGfQ rfl); (focus (simp only [SB, reduceIte, Nat.reduceEqDiff]; with_reducible rfl)); all_goals (intro hbr; first | exact absurd hbr (by decide) | ((try rw [hbr]); (try simp at hbr))))
 | fail)
    all_goals (refine Fin.mkQ rfl (by simp only [resS, SB, reduceIte, Nat.reduceEqDiff]; with_reducible rfl) (by simp [oneOf, pureRes, snapFuel, snapL]; with_reducible rfl) ?_)
    all_goals rfl
  | true =>
  cases p3 with
  | false =>
    (repeat' first
 | apply X.retS
 | (apply X.condQ rfl; (focus (simp only [SB, reduceIte, Nat.reduceEqDiff]; with_reducible rfl)); all_goals (intro hbr; first | exact absurd hbr (by decide) | ((try rw [hbr]); (try simp at hbr))))
 | apply X.stepZ
 | (apply X.stepQ rfl; (focus (simp only [SB, reduceIte, Nat.reduceEqDiff]; with_reducible rfl)); (focus (simp [-getElem?_pos, -binA, w1, w2, w3]; with_reducible (first | rfl | exact ⟨rfl, rfl⟩))))
 | ((first | apply X.stepGtQ rfl | apply X.stepGfQ rfl); (focus (simp only [SB, reduceIte, Nat.reduceEqDiff]; with_reducible rfl)); all_goals (intro hbr; first | exact absurd hbr (by decide) | ((try rw [hbr]); (try simp at hbr))))
 | fail)
    all_goals (refine Fin.mkQ rfl (by simp only [resS, SB, reduceIte, Nat.reduceEqDiff]; with_reducible rfl) (by simp [oneOf, pureRes, snapFuel, snapL]; with_reducible rfl) ?_)
    all_goals rfl
  | true =>
  cases p4 with
  | false =>
    (repeat' first
 | apply X.retS
 | (apply X.condQ rfl; (focus (simp only [SB, reduceIte, Nat.reduceEqDiff]; with_reducible rfl)); all_goals (intro hbr; first | exact absurd hbr (by decide) | ((try rw [hbr]); (try simp at hbr))))
 | apply X.stepZ
 | (apply X.stepQ rfl; (focus (simp only [SB, reduceIte, Nat.reduceEqDiff]; with_reducible rfl)); (focus (simp [-getElem?_pos, -binA, w1, w2, w3, HH.spans.raw, hsp]; with_reducible (first | rfl | exact ⟨rfl, rfl⟩))))
 | ((first | apply X.stepGtQ rfl | apply X.stepGfQ rfl); (focus (simp only [SB, reduceIte, Nat.reduceEqDiff]; with_reducible rfl)); all_goals (intro hbr; first | exact absurd hbr (by decide) | ((try rw [hbr]); (try simp at hbr))))
 | fail)
    all_goals (refine Fin.mkQ rfl (by simp only [resS, SB, reduceIte, Nat.reduceEqDiff]; with_reducible rfl) (by simp [oneOf, pureRes, snapFuel, snapL]; with_reducible rfl) ?_)
    all_goals rfl
  | true =>
  cases p5 with
  | false =>
    (repeat' first
 | apply X.retS
 | (apply X.condQ rfl; (focus (simp only [SB, reduceIte, Nat.reduceEqDiff]; with_reducible rfl)); all_goals (intro hbr; first | exact absurd hbr (by decide) | ((try rw [hbr]); (try simp at hbr))))
 | apply X.stepZ
 | (apply X.stepQ rfl; (focus (simp only [SB, reduceIte, Nat.reduceEqDiff]; with_reducible rfl)); (focus (simp [-getElem?_pos, -binA, w1, w2, w3, HH.spans.raw, hsp, HH.value.raw, hva]; with_reducible (first | rfl | exact ⟨rfl, rfl⟩))))
 | ((first | apply X.stepGtQ rfl | apply X.stepGfQ rfl); (focus (simp only [SB, reduceIte, Nat.reduceEqDiff]; with_reducible rfl)); all_goals (intro hbr; first | exact absurd hbr (by decide) | ((try rw [hbr]); (try simp at hbr))))
 | fail)
    all_goals (refine Fin.mkQ rfl (by simp only [resS, SB, reduceIte, Nat.reduceEqDiff]; with_reducible rfl) (by simp [oneOf, pureRes, snapFuel, snapL]; with_reducible rfl) ?_)
    all_goals rfl
  | true =>
  (repeat' first
 | apply X.skipS
 | (apply X.condQ rfl; (focus (simp only [SB, reduceIte, Nat.reduceEqDiff]; with_reducible rfl)); all_goals (intro hbr; first | exact absurd hbr (by decide) | ((try rw [hbr]); (try simp at hbr))))
 | apply X.stepZ
 | (apply X.stepQ rfl; (focus (simp only [SB, reduceIte, Nat.reduceEqDiff]; with_reducible rfl)); (focus (simp [-getElem?_pos, -binA, w1, w2, w3, HH.spans.raw, hsp, HH.value.raw, hva]; with_reducible (first | rfl | exact ⟨rfl, rfl⟩))))
 | ((first | apply X.stepGtQ rfl | apply X.stepGfQ rfl); (focus (simp only [SB, reduceIte, Nat.reduceEqDiff]; with_reducible rfl)); all_goals (intro hbr; first | exact absurd hbr (by decide) | ((try rw [hbr]); (try simp at hbr))))
 | fail)
  refine X.abs2 (fun st => ∃ (hh : Heap) (f : Nat → V), (ent hh 0 = .blk [.pv (.int .i64 e), .pv (.int .i64 a), .pv (.int .i64 b), .pv (.sl (sp.map encS)), .pv (.int .i64 v.k), .pv (.int .u8 v.b), .pv (.sl (v.l.map encV)), .pv (.flt .f64 q)] none ∧ ent hh 1 = .blk [.pv (.int .i64 e'), .pv (.int .i64 a'), .pv (.int .i64 b'), .pv (.sl (sp'.map encS)), .pv (.int .i64 v'.k), .pv (.int .u8 v'.b), .pv (.sl (v'.l.map encV)), .pv (.flt .f64 q')] none) ∧ (fk (Fk.mk (f := f)) 2 = .ptr 0 0 ∧ fk (Fk.mk (f := f)) 3 = .ptr 1 0) ∧ st = ⟨TL 61 f, hh⟩) ?_ ?_
  · exact ⟨_, _, ⟨rfl, rfl⟩, by simp, rfl⟩
  rintro st ⟨hh, f, ⟨x0, x1⟩, ⟨f2, f3⟩, rfl⟩
  clear w1 w2 w3 hsp hva
  cases m1 with
  | false =>
    (repeat' first
 | apply X.retS
 | (apply X.draw0; (focus rfl))
 | apply XD.nil
 | (apply XD.calmQ rfl rfl; (focus (simp only [SB, reduceIte, Nat.reduceEqDiff, f2, f3]; with_reducible rfl)); (focus (simp [-getElem?_pos, -binA, x0, x1, n1, n2, w4, HH.rfb, fb1, fb2]; with_reducible (first | rfl | exact ⟨rfl, rfl⟩))))
 | (apply XD.callQ rfl; (focus (simp only [SB, reduceIte, Nat.reduceEqDiff, f2, f3]; simp; with_reducible rfl)); (focus (simp; with_reducible rfl)); (focus (simp [-getElem?_pos, -binA, x0, x1, n1, n2, w4, HH.rfb, fb1, fb2]; done)); (focus (simp [-getElem?_pos, -binA, x0, x1, n1, n2, w4, HH.rfb, fb1, fb2]; with_reducible rfl)))
 | ((first | apply XD.stepGtQ rfl | apply XD.stepGfQ rfl); (focus (simp only [SB, reduceIte, Nat.reduceEqDiff, f2, f3]; with_reducible rfl)); all_goals (intro hbr; first | exact absurd hbr (by decide) | ((try rw [hbr]); (try simp at hbr))))
 | fail)
    all_goals (refine Fin.mkQ rfl (by simp only [resS, SB, reduceIte, Nat.reduceEqDiff]; with_reducible rfl) (by simp [oneOf, pureRes, snapFuel, snapL]; with_reducible rfl) ?_)
    all_goals rfl
  | true =>
  cases m2 with
  | false =>
    (repeat' first
 | apply X.retS
 | (apply X.draw0; (focus rfl))
 | apply XD.nil
 | (apply XD.calmQ rfl rfl; (focus (simp only [SB, reduceIte, Nat.reduceEqDiff, f2, f3]; with_reducible rfl)); (focus (simp [-getElem?_pos, -binA, x0, x1, n1, n2, w4, HH.rfb, fb1, fb2]; with_reducible (first | rfl | exact ⟨rfl, rfl⟩))))
 | (apply XD.callQ rfl; (focus (simp only [SB, reduceIte, Nat.reduceEqDiff, f2, f3]; simp; with_reducible rfl)); (focus (simp; with_reducible rfl)); (focus (simp [-getElem?_pos, -binA, x0, x1, n1, n2, w4, HH.rfb, fb1, fb2]; done)); (focus (simp [-getElem?_pos, -binA, x0, x1, n1, n2, w4, HH.rfb, fb1, fb2]; with_reducible rfl)))
 | ((first | apply XD.stepGtQ rfl | apply XD.stepGfQ rfl); (focus (simp only [SB, reduceIte, Nat.reduceEqDiff, f2, f3]; with_reducible rfl)); all_goals (intro hbr; first | exact absurd hbr (by decide) | ((try rw [hbr]); (try simp at hbr))))
 | fail)
    all_goals (refine Fin.mkQ rfl (by simp only [resS, SB, reduceIte, Nat.reduceEqDiff]; with_reducible rfl) (by simp [oneOf, pureRes, snapFuel, snapL]; with_reducible rfl) ?_)
    all_goals rfl
  | true =>
    (repeat' first
 | apply X.retS
 | (apply X.draw0; (focus rfl))
 | apply XD.nil
 | (apply XD.calmQ rfl rfl; (focus (simp only [SB, reduceIte, Nat.reduceEqDiff, f2, f3]; with_reducible rfl)); (focus (simp [-getElem?_pos, -binA, x0, x1, n1, n2, w4, HH.rfb, fb1, fb2]; with_reducible (first | rfl | exact ⟨rfl, rfl⟩))))
 | ((first | apply XD.stepGtQ rfl | apply XD.stepGfQ rfl); (focus (simp only [SB, reduceIte, Nat.reduceEqDiff, f2, f3]; with_reducible rfl)); all_goals (intro hbr; first | exact absurd hbr (by decide) | ((try rw [hbr]); (try simp at hbr))))
 | fail)
    all_goals (refine Fin.mkQ rfl (by simp only [resS, SB, reduceIte, Nat.reduceEqDiff]; with_reducible rfl) (by simp [oneOf, pureRes, snapFuel, snapL]; with_reducible rfl) ?_)
    all_goals rfl

set_option maxHeartbeats 4000000 in
theorem rsame_pure (HG : HasGt E) (H : Has E 32 c32) (heq : Has E 59 c59) (x y : Re) (hl : x.sp.length ≤ 9223372036854775807) (hf : FineV x.v) (hl' : y.sp.length ≤ 9223372036854775807) (hf' : FineV y.v) :
    limP E 32 [encX x, encX y] = some [.bool (goodX x && (goodX y && decide (putX x = putX y)))] := by
  obtain ⟨e, a, b, sp, v, q⟩ := x
  obtain ⟨e', a', b', sp', v', q'⟩ := y
  have g1 := good_ok HG.u.g e a b sp v q hl hf
  have g2 := good_ok HG.u.g e' a' b' sp' v' q' hl' hf'
  have p1 := Put_pure HG.putc HG.u e a b sp v q hl hf
  have p2 := Put_pure HG.putc HG.u e' a' b' sp' v' q' hl' hf'
  have heq2 := equal_ok heq (putS e a b sp v q) (putS e' a' b' sp' v' q') (byt_putS hf) (byt_putS hf')
  unfold goodX putX
  dsimp only
  generalize putS e a b sp v q = B1 at p1 heq2 ⊢
  generalize putS e' a' b' sp' v' q' = B2 at p2 heq2 ⊢
  generalize goodS e a b sp v q = x at g1 ⊢
  generalize goodS e' a' b' sp' v' q' = y at g2 ⊢
  generalize decide (B1 = B2) = z at heq2 ⊢
  simp only [encX, encR] at g1 g2 p1 p2 ⊢
  refine H.limQ (Nat.le_of_ble_eq_true rfl) ?_; unfold c32
  cases x with
  | false =>
    (repeat' first
 | apply X.retS
 | apply X.stepZ
 | (apply X.stepQ rfl; (focus (simp only [SB, reduceIte, Nat.reduceEqDiff]; with_reducible rfl)); (focus (simp [-getElem?_pos, HG.u.rg, g1, g2, HG.rput, p1, p2, heq.raw, heq2]; with_reducible (first | rfl | exact ⟨rfl, rfl⟩))))
 | (apply X.draw0; (focus rfl))
 | apply XD.nil
 | (apply XD.calmQ rfl rfl; (focus (simp only [SB, reduceIte, Nat.reduceEqDiff]; with_reducible rfl)); (focus (simp [-getElem?_pos, HG.u.rg, g1, g2, HG.rput, p1, p2, heq.raw, heq2]; with_reducible (first | rfl | exact ⟨rfl, rfl⟩))))
 | (apply XD.callQ rfl; (focus (simp only [SB, reduceIte, Nat.reduceEqDiff]; simp; with_reducible rfl)); (focus (simp; with_reducible rfl)); (focus (simp [-getElem?_pos, HG.u.rg, g1, g2, HG.rput, p1, p2, heq.raw, heq2]; done)); (focus (simp [-getElem?_pos, HG.u.rg, g1, g2, HG.rput, p1, p2, heq.raw, heq2]; with_reducible rfl)))
 | ((first | apply XD.stepGtQ rfl | apply XD.stepGfQ rfl); (focus (simp only [SB, reduceIte, Nat.reduceEqDiff]; with_reducible rfl)); all_goals (intro hbr; first | exact absurd hbr (by decide) | ((try rw [hbr]); (try simp at hbr))))
 | fail)
    all_goals (refine Fin.mkQ rfl (by simp only [resS, SB, reduceIte, Nat.reduceEqDiff]; with_reducible rfl) (by simp [oneOf, pureRes, snapFuel, snapL]; with_reducible rfl) ?_)
    all_goals rfl
  | true =>
  cases y with
  | false =>
    (repeat' first
 | apply X.retS
 | apply X.stepZ
 | (apply X.stepQ rfl; (focus (simp only [SB, reduceIte, Nat.reduceEqDiff]; with_reducible rfl)); (focus (simp [-getElem?_pos, HG.u.rg, g1, g2, HG.rput, p1, p2, heq.raw, heq2]; with_reducible (first | rfl | exact ⟨rfl, rfl⟩))))
 | (apply X.draw0; (focus rfl))
 | apply XD.nil
 | (apply XD.calmQ rfl rfl; (focus (simp only [SB, reduceIte, Nat.reduceEqDiff]; with_reducible rfl)); (focus (simp [-getElem?_pos, HG.u.rg, g1, g2, HG.rput, p1, p2, heq.raw, heq2]; with_reducible (first | rfl | exact ⟨rfl, rfl⟩))))
 | (apply XD.callQ rfl; (focus (simp only [SB, reduceIte, Nat.reduceEqDiff]; simp; with_reducible rfl)); (focus (simp; with_reducible rfl)); (focus (simp [-getElem?_pos, HG.u.rg, g1, g2, HG.rput, p1, p2, heq.raw, heq2]; done)); (focus (simp [-getElem?_pos, HG.u.rg, g1, g2, HG.rput, p1, p2, heq.raw, heq2]; with_reducible rfl)))
 | ((first | apply XD.stepGtQ rfl | apply XD.stepGfQ rfl); (focus (simp only [SB, reduceIte, Nat.reduceEqDiff]; with_reducible rfl)); all_goals (intro hbr; first | exact absurd hbr (by decide) | ((try rw [hbr]); (try simp at hbr))))
 | fail)
    all_goals (refine Fin.mkQ rfl (by simp only [resS, SB, reduceIte, Nat.reduceEqDiff]; with_reducible rfl) (by simp [oneOf, pureRes, snapFuel, snapL]; with_reducible rfl) ?_)
    all_goals rfl
  | true =>
    (repeat' first
 | apply X.retS
 | apply X.stepZ
 | (apply X.stepQ rfl; (focus (simp only [SB, reduceIte, Nat.reduceEqDiff]; with_reducible rfl)); (focus (simp [-getElem?_pos, HG.u.rg, g1, g2, HG.rput, p1, p2, heq.raw, heq2]; with_reducible (first | rfl | exact ⟨rfl, rfl⟩))))
 | (apply X.draw0; (focus rfl))
 | apply XD.nil
 | (apply XD.calmQ rfl rfl; (focus (simp only [SB, reduceIte, Nat.reduceEqDiff]; with_reducible rfl)); (focus (simp [-getElem?_pos, HG.u.rg, g1, g2, HG.rput, p1, p2, heq.raw, heq2]; with_reducible (first | rfl | exact ⟨rfl, rfl⟩))))
 | (apply XD.callQ rfl; (focus (simp only [SB, reduceIte, Nat.reduceEqDiff]; simp; with_reducible rfl)); (focus (simp; with_reducible rfl)); (focus (simp [-getElem?_pos, HG.u.rg, g1, g2, HG.rput, p1, p2, heq.raw, heq2]; done)); (focus (simp [-getElem?_pos, HG.u.rg, g1, g2, HG.rput, p1, p2, heq.raw, heq2]; with_reducible rfl)))
 | ((first | apply XD.stepGtQ rfl | apply XD.stepGfQ rfl); (focus (simp only [SB, reduceIte, Nat.reduceEqDiff]; with_reducible rfl)); all_goals (intro hbr; first | exact absurd hbr (by decide) | ((try rw [hbr]); (try simp at hbr))))
 | fail)
    all_goals (refine Fin.mkQ rfl (by simp only [resS, SB, reduceIte, Nat.reduceEqDiff]; with_reducible rfl) (by simp [oneOf, pureRes, snapFuel, snapL]; with_reducible rfl) ?_)
    all_goals rfl
end Rp
