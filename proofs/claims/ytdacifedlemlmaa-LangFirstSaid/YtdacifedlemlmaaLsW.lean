/- LsW: steps, walks, laws: see the remarks within. -/
import Derived.Test.YtdacifedlemlmaaAbStep
import Derived.Test.YtdacifedlemlmaaLsA
set_option linter.unusedSimpArgs false
set_option linter.unusedVariables false
-- row, of what is never said, nothing, a byte.
namespace Lng
open Go Ab Cps Go.Proofs.Ytdacifedlemlmaa.Mach
variable {E : Env}
variable {B tid pid eid q a i : Nat} {P : List Pt} {kvs : List V} {s : List Int} {h1 h2 : Heap} {es1 es2 : List V} {c x0 x1 : Co} {k0 k1 tok : Nat} {kv : V} {r9 : List V} {f : Nat → V} {Q : AExit → Ab.St → Prop}
set_option maxHeartbeats 4000000 in
set_option maxRecDepth 100000 in
theorem row_k0 (HH : HasW E) (hs : s.length ≤ 256) (hb : ∀ x ∈ s, 0 ≤ x ∧ x < 256) (hi : i ≤ s.length) (haP : a < P.length) (hcl : (cellsT P kvs).length = P.length * 8) (hcell : (cellsT P kvs).drop (a * 8) = coreV c ++ kv :: r9)
    (O : Own B tid pid eid P kvs s h1 es1 q h2 es2 none') (g0 : fk (Fk.mk (f := f)) 0 = .ptr tid 0) (g1 : fk (Fk.mk (f := f)) 1 = .pv (.int .i64 (a : Int))) (g2 : fk (Fk.mk (f := f)) 2 = .pv (.int .i64 (i : Int))) (g8 : fk (Fk.mk (f := f)) 8 = .ptr q 0) (g9 : fk (Fk.mk (f := f)) 9 = .ptr pid (a * 8))
    (g59 : fk (Fk.mk (f := f)) 59 = .pv (.int .i64 0)) (hk : c.k = 0)  : X E (app rowB .skip) ⟨TL 206 f, h2⟩ (inB 0 (thenQ (RowM B tid pid eid P kvs s h1 es1 q a i c) Q)) := by
  unfold rowB
  (repeat' first
    | apply X.retS
    | apply X.skipS
    | apply X.skipB
    | apply X.skipL
    | (apply X.exitS; first | apply X.here | (refine X.out (by decide) ?_; apply X.here))
    | apply X.blockS
    | (apply X.condQ rfl; (focus (simp only [sub, subO, subL, subM, sub3, sub2, fk_some, fk_none, fk_arg0, fk_argS, fk_argN, fk_map0, fk_mapS, fk_mapN, reduceIte, Nat.reduceEqDiff, Nat.reduceAdd, g59]; with_reducible rfl)); all_goals (intro hbr; first | exact absurd hbr (by decide) | ((try rw [hbr]); (try simp at hbr))))
    | apply X.stepZ
    | (apply X.stepQ rfl; (focus (simp only [sub, subO, subL, subM, sub3, sub2, fk_some, fk_none, fk_arg0, fk_argS, fk_argN, fk_map0, fk_mapS, fk_mapN, reduceIte, Nat.reduceEqDiff, Nat.reduceAdd, g59]; with_reducible rfl)); (focus (simp [-getElem?_pos]; with_reducible (first | rfl | exact ⟨rfl, rfl⟩))))
    | (apply X.stepNQ rfl; (focus (simp only [sub, subO, subL, subM, sub3, sub2, fk_some, fk_none, fk_arg0, fk_argS, fk_argN, fk_map0, fk_mapS, fk_mapN, reduceIte, Nat.reduceEqDiff, Nat.reduceAdd, g59]; with_reducible rfl)))
    | ((first | apply X.stepGtQ rfl | apply X.stepGfQ rfl); (focus (simp only [sub, subO, subL, subM, sub3, sub2, fk_some, fk_none, fk_arg0, fk_argS, fk_argN, fk_map0, fk_mapS, fk_mapN, reduceIte, Nat.reduceEqDiff, Nat.reduceAdd, g59]; with_reducible rfl)); all_goals (intro hbr; first | exact absurd hbr (by decide) | ((try rw [hbr]); (try simp at hbr))))
    | (apply X.draw0; (focus rfl))
    | (apply X.drawH0; (focus rfl))
    | apply XD.nil
    | (apply XD.calmQ rfl rfl; (focus (simp only [sub, subO, subL, subM, sub3, sub2, fk_some, fk_none, fk_arg0, fk_argS, fk_argN, fk_map0, fk_mapS, fk_mapN, reduceIte, Nat.reduceEqDiff, Nat.reduceAdd, g59]; with_reducible rfl)); (focus (simp [-getElem?_pos]; with_reducible (first | rfl | exact ⟨rfl, rfl⟩))))
    | (apply XD.callQ rfl; (focus (simp only [sub, subO, subL, subM, sub3, sub2, fk_some, fk_none, fk_arg0, fk_argS, fk_argN, fk_map0, fk_mapS, fk_mapN, reduceIte, Nat.reduceEqDiff, Nat.reduceAdd, g59]; simp; with_reducible rfl)); (focus (simp; with_reducible rfl)); (focus (simp [-getElem?_pos]; done)); (focus (simp [-getElem?_pos]; with_reducible rfl)))
    | (apply XD.stepNQ rfl; (focus (simp only [sub, subO, subL, subM, sub3, sub2, fk_some, fk_none, fk_arg0, fk_argS, fk_argN, fk_map0, fk_mapS, fk_mapN, reduceIte, Nat.reduceEqDiff, Nat.reduceAdd, g59]; with_reducible rfl)))
    | ((first | apply XD.stepGtQ rfl | apply XD.stepGfQ rfl); (focus (simp only [sub, subO, subL, subM, sub3, sub2, fk_some, fk_none, fk_arg0, fk_argS, fk_argN, fk_map0, fk_mapS, fk_mapN, reduceIte, Nat.reduceEqDiff, Nat.reduceAdd, g59]; with_reducible rfl)); all_goals (intro hbr; first | exact absurd hbr (by decide) | ((try rw [hbr]); (try simp at hbr))))
    | (apply XD.loudQ rfl; (focus (simp only [sub, subO, subL, subM, sub3, sub2, fk_some, fk_none, fk_arg0, fk_argS, fk_argN, fk_map0, fk_mapS, fk_mapN, reduceIte, Nat.reduceEqDiff, Nat.reduceAdd, g59]; with_reducible rfl)); (focus (simp; with_reducible rfl)); (focus (simp [-getElem?_pos]; with_reducible (first | rfl | exact ⟨rfl, rfl⟩))); (focus (simp; done)); (focus (simp [-getElem?_pos]; with_reducible rfl))))
  all_goals exact ⟨h2, es2, _, by rw [rowS_eq, hk]; simpa using O, by simp [g0, g1, g2, g8], rfl⟩
set_option maxHeartbeats 4000000 in
set_option maxRecDepth 100000 in
theorem row_k1 (HH : HasW E) (hs : s.length ≤ 256) (hb : ∀ x ∈ s, 0 ≤ x ∧ x < 256) (hi : i ≤ s.length) (haP : a < P.length) (hcl : (cellsT P kvs).length = P.length * 8) (hcell : (cellsT P kvs).drop (a * 8) = coreV c ++ kv :: r9)
    (O : Own B tid pid eid P kvs s h1 es1 q h2 es2 none') (g0 : fk (Fk.mk (f := f)) 0 = .ptr tid 0) (g1 : fk (Fk.mk (f := f)) 1 = .pv (.int .i64 (a : Int))) (g2 : fk (Fk.mk (f := f)) 2 = .pv (.int .i64 (i : Int))) (g8 : fk (Fk.mk (f := f)) 8 = .ptr q 0) (g9 : fk (Fk.mk (f := f)) 9 = .ptr pid (a * 8))
    (g59 : fk (Fk.mk (f := f)) 59 = .pv (.int .i64 1)) (hk : c.k = 1)  : X E (app rowB .skip) ⟨TL 206 f, h2⟩ (inB 0 (thenQ (RowM B tid pid eid P kvs s h1 es1 q a i c) Q)) := by
  unfold rowB
  (repeat' first
    | apply X.retS
    | apply X.skipS
    | apply X.skipB
    | apply X.skipL
    | (apply X.exitS; first | apply X.here | (refine X.out (by decide) ?_; apply X.here))
    | apply X.blockS
    | (apply X.condQ rfl; (focus (simp only [sub, subO, subL, subM, sub3, sub2, fk_some, fk_none, fk_arg0, fk_argS, fk_argN, fk_map0, fk_mapS, fk_mapN, reduceIte, Nat.reduceEqDiff, Nat.reduceAdd, g2, g8, g59]; with_reducible rfl)); all_goals (intro hbr; first | exact absurd hbr (by decide) | ((try rw [hbr]); (try simp at hbr))))
    | apply X.stepZ
    | (apply X.stepQ rfl; (focus (simp only [sub, subO, subL, subM, sub3, sub2, fk_some, fk_none, fk_arg0, fk_argS, fk_argN, fk_map0, fk_mapS, fk_mapN, reduceIte, Nat.reduceEqDiff, Nat.reduceAdd, g2, g8, g59]; with_reducible rfl)); (focus (simp [-getElem?_pos]; with_reducible (first | rfl | exact ⟨rfl, rfl⟩))))
    | (apply X.stepNQ rfl; (focus (simp only [sub, subO, subL, subM, sub3, sub2, fk_some, fk_none, fk_arg0, fk_argS, fk_argN, fk_map0, fk_mapS, fk_mapN, reduceIte, Nat.reduceEqDiff, Nat.reduceAdd, g2, g8, g59]; with_reducible rfl)))
    | ((first | apply X.stepGtQ rfl | apply X.stepGfQ rfl); (focus (simp only [sub, subO, subL, subM, sub3, sub2, fk_some, fk_none, fk_arg0, fk_argS, fk_argN, fk_map0, fk_mapS, fk_mapN, reduceIte, Nat.reduceEqDiff, Nat.reduceAdd, g2, g8, g59]; with_reducible rfl)); all_goals (intro hbr; first | exact absurd hbr (by decide) | ((try rw [hbr]); (try simp at hbr))))
    | (apply X.draw0; (focus rfl))
    | (apply X.drawH0; (focus rfl))
    | apply XD.nil
    | (apply XD.calmQ rfl rfl; (focus (simp only [sub, subO, subL, subM, sub3, sub2, fk_some, fk_none, fk_arg0, fk_argS, fk_argN, fk_map0, fk_mapS, fk_mapN, reduceIte, Nat.reduceEqDiff, Nat.reduceAdd, g2, g8, g59]; with_reducible rfl)); (focus (simp [-getElem?_pos]; with_reducible (first | rfl | exact ⟨rfl, rfl⟩))))
    | (apply XD.callQ rfl; (focus (simp only [sub, subO, subL, subM, sub3, sub2, fk_some, fk_none, fk_arg0, fk_argS, fk_argN, fk_map0, fk_mapS, fk_mapN, reduceIte, Nat.reduceEqDiff, Nat.reduceAdd, g2, g8, g59]; simp; with_reducible rfl)); (focus (simp; with_reducible rfl)); (focus (simp [-getElem?_pos]; done)); (focus (simp [-getElem?_pos]; with_reducible rfl)))
    | (apply XD.stepNQ rfl; (focus (simp only [sub, subO, subL, subM, sub3, sub2, fk_some, fk_none, fk_arg0, fk_argS, fk_argN, fk_map0, fk_mapS, fk_mapN, reduceIte, Nat.reduceEqDiff, Nat.reduceAdd, g2, g8, g59]; with_reducible rfl)))
    | ((first | apply XD.stepGtQ rfl | apply XD.stepGfQ rfl); (focus (simp only [sub, subO, subL, subM, sub3, sub2, fk_some, fk_none, fk_arg0, fk_argS, fk_argN, fk_map0, fk_mapS, fk_mapN, reduceIte, Nat.reduceEqDiff, Nat.reduceAdd, g2, g8, g59]; with_reducible rfl)); all_goals (intro hbr; first | exact absurd hbr (by decide) | ((try rw [hbr]); (try simp at hbr))))
    | (apply XD.loudQ rfl; (focus (simp only [sub, subO, subL, subM, sub3, sub2, fk_some, fk_none, fk_arg0, fk_argS, fk_argN, fk_map0, fk_mapS, fk_mapN, reduceIte, Nat.reduceEqDiff, Nat.reduceAdd, g2, g8, g59]; with_reducible rfl)); (focus (simp; with_reducible rfl)); (focus (simp [-getElem?_pos]; with_reducible (first | rfl | exact ⟨rfl, rfl⟩))); (focus (simp; done)); (focus (simp [-getElem?_pos]; with_reducible rfl))))
  refine X.callRQ (P := _) rfl (by simp only [sub, subO, subL, subM, sub3, sub2, fk_some, fk_none, fk_arg0, fk_argS, fk_argN, fk_map0, fk_mapS, fk_mapN, reduceIte, Nat.reduceEqDiff, Nat.reduceAdd, g2, g8]; all_goals (first | with_reducible rfl | (simp <;> with_reducible rfl))) HH.p.put.raw (by simp [pures]) (O.put HH.p (by omega)) ?_
  rintro v hh ⟨rfl, O2, _⟩
  (repeat' first
    | apply X.retS
    | apply X.skipS
    | apply X.skipB
    | apply X.skipL
    | (apply X.exitS; first | apply X.here | (refine X.out (by decide) ?_; apply X.here))
    | apply X.blockS
    | (apply X.condQ rfl; (focus (simp only [sub, subO, subL, subM, sub3, sub2, fk_some, fk_none, fk_arg0, fk_argS, fk_argN, fk_map0, fk_mapS, fk_mapN, reduceIte, Nat.reduceEqDiff, Nat.reduceAdd, g59]; with_reducible rfl)); all_goals (intro hbr; first | exact absurd hbr (by decide) | ((try rw [hbr]); (try simp at hbr))))
    | apply X.stepZ
    | (apply X.stepQ rfl; (focus (simp only [sub, subO, subL, subM, sub3, sub2, fk_some, fk_none, fk_arg0, fk_argS, fk_argN, fk_map0, fk_mapS, fk_mapN, reduceIte, Nat.reduceEqDiff, Nat.reduceAdd, g59]; with_reducible rfl)); (focus (simp [-getElem?_pos]; with_reducible (first | rfl | exact ⟨rfl, rfl⟩))))
    | (apply X.stepNQ rfl; (focus (simp only [sub, subO, subL, subM, sub3, sub2, fk_some, fk_none, fk_arg0, fk_argS, fk_argN, fk_map0, fk_mapS, fk_mapN, reduceIte, Nat.reduceEqDiff, Nat.reduceAdd, g59]; with_reducible rfl)))
    | ((first | apply X.stepGtQ rfl | apply X.stepGfQ rfl); (focus (simp only [sub, subO, subL, subM, sub3, sub2, fk_some, fk_none, fk_arg0, fk_argS, fk_argN, fk_map0, fk_mapS, fk_mapN, reduceIte, Nat.reduceEqDiff, Nat.reduceAdd, g59]; with_reducible rfl)); all_goals (intro hbr; first | exact absurd hbr (by decide) | ((try rw [hbr]); (try simp at hbr))))
    | (apply X.draw0; (focus rfl))
    | (apply X.drawH0; (focus rfl))
    | apply XD.nil
    | (apply XD.calmQ rfl rfl; (focus (simp only [sub, subO, subL, subM, sub3, sub2, fk_some, fk_none, fk_arg0, fk_argS, fk_argN, fk_map0, fk_mapS, fk_mapN, reduceIte, Nat.reduceEqDiff, Nat.reduceAdd, g59]; with_reducible rfl)); (focus (simp [-getElem?_pos]; with_reducible (first | rfl | exact ⟨rfl, rfl⟩))))
    | (apply XD.callQ rfl; (focus (simp only [sub, subO, subL, subM, sub3, sub2, fk_some, fk_none, fk_arg0, fk_argS, fk_argN, fk_map0, fk_mapS, fk_mapN, reduceIte, Nat.reduceEqDiff, Nat.reduceAdd, g59]; simp; with_reducible rfl)); (focus (simp; with_reducible rfl)); (focus (simp [-getElem?_pos]; done)); (focus (simp [-getElem?_pos]; with_reducible rfl)))
    | (apply XD.stepNQ rfl; (focus (simp only [sub, subO, subL, subM, sub3, sub2, fk_some, fk_none, fk_arg0, fk_argS, fk_argN, fk_map0, fk_mapS, fk_mapN, reduceIte, Nat.reduceEqDiff, Nat.reduceAdd, g59]; with_reducible rfl)))
    | ((first | apply XD.stepGtQ rfl | apply XD.stepGfQ rfl); (focus (simp only [sub, subO, subL, subM, sub3, sub2, fk_some, fk_none, fk_arg0, fk_argS, fk_argN, fk_map0, fk_mapS, fk_mapN, reduceIte, Nat.reduceEqDiff, Nat.reduceAdd, g59]; with_reducible rfl)); all_goals (intro hbr; first | exact absurd hbr (by decide) | ((try rw [hbr]); (try simp at hbr))))
    | (apply XD.loudQ rfl; (focus (simp only [sub, subO, subL, subM, sub3, sub2, fk_some, fk_none, fk_arg0, fk_argS, fk_argN, fk_map0, fk_mapS, fk_mapN, reduceIte, Nat.reduceEqDiff, Nat.reduceAdd, g59]; with_reducible rfl)); (focus (simp; with_reducible rfl)); (focus (simp [-getElem?_pos]; with_reducible (first | rfl | exact ⟨rfl, rfl⟩))); (focus (simp; done)); (focus (simp [-getElem?_pos]; with_reducible rfl))))
  all_goals exact ⟨hh, es2, _, by rw [rowS_eq, hk]; have e : orP none' (one i) = one i := by funext j; simp [orP, none']
                                  rw [e] at O2; simpa using O2, by simp [g0, g1, g2, g8], rfl⟩
set_option maxHeartbeats 4000000 in
set_option maxRecDepth 100000 in
theorem row_k2 (HH : HasW E) (hs : s.length ≤ 256) (hb : ∀ x ∈ s, 0 ≤ x ∧ x < 256) (hi : i ≤ s.length) (haP : a < P.length) (hcl : (cellsT P kvs).length = P.length * 8) (hcell : (cellsT P kvs).drop (a * 8) = coreV c ++ kv :: r9)
    (O : Own B tid pid eid P kvs s h1 es1 q h2 es2 none') (g0 : fk (Fk.mk (f := f)) 0 = .ptr tid 0) (g1 : fk (Fk.mk (f := f)) 1 = .pv (.int .i64 (a : Int))) (g2 : fk (Fk.mk (f := f)) 2 = .pv (.int .i64 (i : Int))) (g8 : fk (Fk.mk (f := f)) 8 = .ptr q 0) (g9 : fk (Fk.mk (f := f)) 9 = .ptr pid (a * 8))
    (g59 : fk (Fk.mk (f := f)) 59 = .pv (.int .i64 2)) (hk : c.k = 2)  : X E (app rowB .skip) ⟨TL 206 f, h2⟩ (inB 0 (thenQ (RowM B tid pid eid P kvs s h1 es1 q a i c) Q)) := by
  unfold rowB
  have hd7 : (cellsT P kvs).drop (a * 8 + 7) = kv :: r9 := by rw [← List.drop_drop, hcell]; simp [coreV]
  have hd1 : (cellsT P kvs).drop (a * 8 + 1) = .pv (.int .u64 c.s0) :: .pv (.int .u64 c.s1) :: .pv (.int .u64 c.s2) :: .pv (.int .u64 c.s3) :: .pv (.int .i64 c.n) :: .pv (.sl (c.l.map encC)) :: kv :: r9 := by rw [← List.drop_drop, hcell]; simp [coreV]
  have hbA : a * 8 + 7 + 1 ≤ P.length * 8 := by omega
  have hbB : a * 8 + 7 < P.length * 8 := by omega
  have hbC : a * 8 + 8 ≤ P.length * 8 := by omega
  have hbD : a * 8 + 1 + 4 ≤ P.length * 8 := by omega
  have hbE : a * 8 + 5 ≤ P.length * 8 := by omega
  have hbF : a * 8 + 4 < P.length * 8 := by omega
  have hls := encB_len s
  obtain ⟨tt, ht⟩ := O.T.t
  obtain ⟨tp, hp⟩ := O.T.p
  rcases Nat.lt_or_ge i s.length with hlt | hge
  · have hlt' : (i : Int) < (s.length : Int) := by omega
    obtain ⟨b, hsb⟩ := at_of_lt hlt
    have hbi : (encB s)[i]? = some (.int .u8 b) := by simp [encB, hsb]
    have hHas := Has_ok HH.has c b (hb b (List.mem_of_getElem? hsb))
    have hw1 : IntKind.i64.wrap ((i : Int) + 1) = (i : Int) + 1 := wrap_i64 (by omega)
    have hrow : rowS s c i = if hasS c b then one (i + 1) else none' := by rw [rowS_eq, hk, hsb]; simp
    cases hhs : hasS c b with
    | false =>
      rw [hhs] at hHas hrow
      (repeat' first
    | apply X.retS
    | apply X.skipS
    | apply X.skipB
    | apply X.skipL
    | (apply X.exitS; first | apply X.here | (refine X.out (by decide) ?_; apply X.here))
    | apply X.blockS
    | (apply X.condQ rfl; (focus (simp only [sub, subO, subL, subM, sub3, sub2, fk_some, fk_none, fk_arg0, fk_argS, fk_argN, fk_map0, fk_mapS, fk_mapN, reduceIte, Nat.reduceEqDiff, Nat.reduceAdd, g0, g1, g2, g8, g9, g59]; with_reducible rfl)); all_goals (intro hbr; first | exact absurd hbr (by decide) | ((try rw [hbr]); (try simp at hbr))))
    | apply X.stepZ
    | (apply X.stepQ rfl; (focus (simp only [sub, subO, subL, subM, sub3, sub2, fk_some, fk_none, fk_arg0, fk_argS, fk_argN, fk_map0, fk_mapS, fk_mapN, reduceIte, Nat.reduceEqDiff, Nat.reduceAdd, g0, g1, g2, g8, g9, g59]; with_reducible rfl)); (focus (simp [-getElem?_pos, ht, hp, hcl, hd7, hd1, hbA, hbB, hbC, hbD, hbE, hbF, hls, hlt, hlt', hbi, hHas, HH.has.raw]; with_reducible (first | rfl | exact ⟨rfl, rfl⟩))))
    | (apply X.stepNQ rfl; (focus (simp only [sub, subO, subL, subM, sub3, sub2, fk_some, fk_none, fk_arg0, fk_argS, fk_argN, fk_map0, fk_mapS, fk_mapN, reduceIte, Nat.reduceEqDiff, Nat.reduceAdd, g0, g1, g2, g8, g9, g59]; with_reducible rfl)))
    | ((first | apply X.stepGtQ rfl | apply X.stepGfQ rfl); (focus (simp only [sub, subO, subL, subM, sub3, sub2, fk_some, fk_none, fk_arg0, fk_argS, fk_argN, fk_map0, fk_mapS, fk_mapN, reduceIte, Nat.reduceEqDiff, Nat.reduceAdd, g0, g1, g2, g8, g9, g59]; with_reducible rfl)); all_goals (intro hbr; first | exact absurd hbr (by decide) | ((try rw [hbr]); (try simp at hbr))))
    | (apply X.draw0; (focus rfl))
    | (apply X.drawH0; (focus rfl))
    | apply XD.nil
    | (apply XD.calmQ rfl rfl; (focus (simp only [sub, subO, subL, subM, sub3, sub2, fk_some, fk_none, fk_arg0, fk_argS, fk_argN, fk_map0, fk_mapS, fk_mapN, reduceIte, Nat.reduceEqDiff, Nat.reduceAdd, g0, g1, g2, g8, g9, g59]; with_reducible rfl)); (focus (simp [-getElem?_pos, ht, hp, hcl, hd7, hd1, hbA, hbB, hbC, hbD, hbE, hbF, hls, hlt, hlt', hbi, hHas, HH.has.raw]; with_reducible (first | rfl | exact ⟨rfl, rfl⟩))))
    | (apply XD.callQ rfl; (focus (simp only [sub, subO, subL, subM, sub3, sub2, fk_some, fk_none, fk_arg0, fk_argS, fk_argN, fk_map0, fk_mapS, fk_mapN, reduceIte, Nat.reduceEqDiff, Nat.reduceAdd, g0, g1, g2, g8, g9, g59]; simp; with_reducible rfl)); (focus (simp; with_reducible rfl)); (focus (simp [-getElem?_pos, ht, hp, hcl, hd7, hd1, hbA, hbB, hbC, hbD, hbE, hbF, hls, hlt, hlt', hbi, hHas, HH.has.raw]; done)); (focus (simp [-getElem?_pos, ht, hp, hcl, hd7, hd1, hbA, hbB, hbC, hbD, hbE, hbF, hls, hlt, hlt', hbi, hHas, HH.has.raw]; with_reducible rfl)))
    | (apply XD.stepNQ rfl; (focus (simp only [sub, subO, subL, subM, sub3, sub2, fk_some, fk_none, fk_arg0, fk_argS, fk_argN, fk_map0, fk_mapS, fk_mapN, reduceIte, Nat.reduceEqDiff, Nat.reduceAdd, g0, g1, g2, g8, g9, g59]; with_reducible rfl)))
    | ((first | apply XD.stepGtQ rfl | apply XD.stepGfQ rfl); (focus (simp only [sub, subO, subL, subM, sub3, sub2, fk_some, fk_none, fk_arg0, fk_argS, fk_argN, fk_map0, fk_mapS, fk_mapN, reduceIte, Nat.reduceEqDiff, Nat.reduceAdd, g0, g1, g2, g8, g9, g59]; with_reducible rfl)); all_goals (intro hbr; first | exact absurd hbr (by decide) | ((try rw [hbr]); (try simp at hbr))))
    | (apply XD.loudQ rfl; (focus (simp only [sub, subO, subL, subM, sub3, sub2, fk_some, fk_none, fk_arg0, fk_argS, fk_argN, fk_map0, fk_mapS, fk_mapN, reduceIte, Nat.reduceEqDiff, Nat.reduceAdd, g0, g1, g2, g8, g9, g59]; with_reducible rfl)); (focus (simp; with_reducible rfl)); (focus (simp [-getElem?_pos, ht, hp, hcl, hd7, hd1, hbA, hbB, hbC, hbD, hbE, hbF, hls, hlt, hlt', hbi, hHas, HH.has.raw]; with_reducible (first | rfl | exact ⟨rfl, rfl⟩))); (focus (simp; done)); (focus (simp [-getElem?_pos, ht, hp, hcl, hd7, hd1, hbA, hbB, hbC, hbD, hbE, hbF, hls, hlt, hlt', hbi, hHas, HH.has.raw]; with_reducible rfl))))
      all_goals exact ⟨h2, es2, _, by rw [hrow]; simpa using O, by simp [g0, g1, g2, g8], rfl⟩
    | true =>
      rw [hhs] at hHas hrow
      have hput := O.put HH.p (i := i + 1) (by omega)
      have hci : (((i + 1 : Nat)) : Int) = (i : Int) + 1 := by omega
      rw [hci] at hput
      (repeat' first
    | apply X.retS
    | apply X.skipS
    | apply X.skipB
    | apply X.skipL
    | (apply X.exitS; first | apply X.here | (refine X.out (by decide) ?_; apply X.here))
    | apply X.blockS
    | (apply X.condQ rfl; (focus (simp only [sub, subO, subL, subM, sub3, sub2, fk_some, fk_none, fk_arg0, fk_argS, fk_argN, fk_map0, fk_mapS, fk_mapN, reduceIte, Nat.reduceEqDiff, Nat.reduceAdd, g0, g1, g2, g8, g9, g59]; with_reducible rfl)); all_goals (intro hbr; first | exact absurd hbr (by decide) | ((try rw [hbr]); (try simp at hbr))))
    | apply X.stepZ
    | (apply X.stepQ rfl; (focus (simp only [sub, subO, subL, subM, sub3, sub2, fk_some, fk_none, fk_arg0, fk_argS, fk_argN, fk_map0, fk_mapS, fk_mapN, reduceIte, Nat.reduceEqDiff, Nat.reduceAdd, g0, g1, g2, g8, g9, g59]; with_reducible rfl)); (focus (simp [-getElem?_pos, ht, hp, hcl, hd7, hd1, hbA, hbB, hbC, hbD, hbE, hbF, hls, hlt, hlt', hbi, hHas, HH.has.raw, hw1]; with_reducible (first | rfl | exact ⟨rfl, rfl⟩))))
    | (apply X.stepNQ rfl; (focus (simp only [sub, subO, subL, subM, sub3, sub2, fk_some, fk_none, fk_arg0, fk_argS, fk_argN, fk_map0, fk_mapS, fk_mapN, reduceIte, Nat.reduceEqDiff, Nat.reduceAdd, g0, g1, g2, g8, g9, g59]; with_reducible rfl)))
    | ((first | apply X.stepGtQ rfl | apply X.stepGfQ rfl); (focus (simp only [sub, subO, subL, subM, sub3, sub2, fk_some, fk_none, fk_arg0, fk_argS, fk_argN, fk_map0, fk_mapS, fk_mapN, reduceIte, Nat.reduceEqDiff, Nat.reduceAdd, g0, g1, g2, g8, g9, g59]; with_reducible rfl)); all_goals (intro hbr; first | exact absurd hbr (by decide) | ((try rw [hbr]); (try simp at hbr))))
    | (apply X.draw0; (focus rfl))
    | (apply X.drawH0; (focus rfl))
    | apply XD.nil
    | (apply XD.calmQ rfl rfl; (focus (simp only [sub, subO, subL, subM, sub3, sub2, fk_some, fk_none, fk_arg0, fk_argS, fk_argN, fk_map0, fk_mapS, fk_mapN, reduceIte, Nat.reduceEqDiff, Nat.reduceAdd, g0, g1, g2, g8, g9, g59]; with_reducible rfl)); (focus (simp [-getElem?_pos, ht, hp, hcl, hd7, hd1, hbA, hbB, hbC, hbD, hbE, hbF, hls, hlt, hlt', hbi, hHas, HH.has.raw, hw1]; with_reducible (first | rfl | exact ⟨rfl, rfl⟩))))
    | (apply XD.callQ rfl; (focus (simp only [sub, subO, subL, subM, sub3, sub2, fk_some, fk_none, fk_arg0, fk_argS, fk_argN, fk_map0, fk_mapS, fk_mapN, reduceIte, Nat.reduceEqDiff, Nat.reduceAdd, g0, g1, g2, g8, g9, g59]; simp; with_reducible rfl)); (focus (simp; with_reducible rfl)); (focus (simp [-getElem?_pos, ht, hp, hcl, hd7, hd1, hbA, hbB, hbC, hbD, hbE, hbF, hls, hlt, hlt', hbi, hHas, HH.has.raw, hw1]; done)); (focus (simp [-getElem?_pos, ht, hp, hcl, hd7, hd1, hbA, hbB, hbC, hbD, hbE, hbF, hls, hlt, hlt', hbi, hHas, HH.has.raw, hw1]; with_reducible rfl)))
    | (apply XD.stepNQ rfl; (focus (simp only [sub, subO, subL, subM, sub3, sub2, fk_some, fk_none, fk_arg0, fk_argS, fk_argN, fk_map0, fk_mapS, fk_mapN, reduceIte, Nat.reduceEqDiff, Nat.reduceAdd, g0, g1, g2, g8, g9, g59]; with_reducible rfl)))
    | ((first | apply XD.stepGtQ rfl | apply XD.stepGfQ rfl); (focus (simp only [sub, subO, subL, subM, sub3, sub2, fk_some, fk_none, fk_arg0, fk_argS, fk_argN, fk_map0, fk_mapS, fk_mapN, reduceIte, Nat.reduceEqDiff, Nat.reduceAdd, g0, g1, g2, g8, g9, g59]; with_reducible rfl)); all_goals (intro hbr; first | exact absurd hbr (by decide) | ((try rw [hbr]); (try simp at hbr))))
    | (apply XD.loudQ rfl; (focus (simp only [sub, subO, subL, subM, sub3, sub2, fk_some, fk_none, fk_arg0, fk_argS, fk_argN, fk_map0, fk_mapS, fk_mapN, reduceIte, Nat.reduceEqDiff, Nat.reduceAdd, g0, g1, g2, g8, g9, g59]; with_reducible rfl)); (focus (simp; with_reducible rfl)); (focus (simp [-getElem?_pos, ht, hp, hcl, hd7, hd1, hbA, hbB, hbC, hbD, hbE, hbF, hls, hlt, hlt', hbi, hHas, HH.has.raw, hw1]; with_reducible (first | rfl | exact ⟨rfl, rfl⟩))); (focus (simp; done)); (focus (simp [-getElem?_pos, ht, hp, hcl, hd7, hd1, hbA, hbB, hbC, hbD, hbE, hbF, hls, hlt, hlt', hbi, hHas, HH.has.raw, hw1]; with_reducible rfl))))
      refine X.callRQ (P := _) rfl (by simp only [sub, subO, subL, subM, sub3, sub2, fk_some, fk_none, fk_arg0, fk_argS, fk_argN, fk_map0, fk_mapS, fk_mapN, reduceIte, Nat.reduceEqDiff, Nat.reduceAdd, g2, g8]; all_goals (first | with_reducible rfl | (simp <;> with_reducible rfl))) HH.p.put.raw (by simp [pures]) (hput) ?_
      rintro v hh ⟨rfl, O2, _⟩
      (repeat' first
    | apply X.retS
    | apply X.skipS
    | apply X.skipB
    | apply X.skipL
    | (apply X.exitS; first | apply X.here | (refine X.out (by decide) ?_; apply X.here))
    | apply X.blockS
    | (apply X.condQ rfl; (focus (simp only [sub, subO, subL, subM, sub3, sub2, fk_some, fk_none, fk_arg0, fk_argS, fk_argN, fk_map0, fk_mapS, fk_mapN, reduceIte, Nat.reduceEqDiff, Nat.reduceAdd, g59]; with_reducible rfl)); all_goals (intro hbr; first | exact absurd hbr (by decide) | ((try rw [hbr]); (try simp at hbr))))
    | apply X.stepZ
    | (apply X.stepQ rfl; (focus (simp only [sub, subO, subL, subM, sub3, sub2, fk_some, fk_none, fk_arg0, fk_argS, fk_argN, fk_map0, fk_mapS, fk_mapN, reduceIte, Nat.reduceEqDiff, Nat.reduceAdd, g59]; with_reducible rfl)); (focus (simp [-getElem?_pos]; with_reducible (first | rfl | exact ⟨rfl, rfl⟩))))
    | (apply X.stepNQ rfl; (focus (simp only [sub, subO, subL, subM, sub3, sub2, fk_some, fk_none, fk_arg0, fk_argS, fk_argN, fk_map0, fk_mapS, fk_mapN, reduceIte, Nat.reduceEqDiff, Nat.reduceAdd, g59]; with_reducible rfl)))
    | ((first | apply X.stepGtQ rfl | apply X.stepGfQ rfl); (focus (simp only [sub, subO, subL, subM, sub3, sub2, fk_some, fk_none, fk_arg0, fk_argS, fk_argN, fk_map0, fk_mapS, fk_mapN, reduceIte, Nat.reduceEqDiff, Nat.reduceAdd, g59]; with_reducible rfl)); all_goals (intro hbr; first | exact absurd hbr (by decide) | ((try rw [hbr]); (try simp at hbr))))
    | (apply X.draw0; (focus rfl))
    | (apply X.drawH0; (focus rfl))
    | apply XD.nil
    | (apply XD.calmQ rfl rfl; (focus (simp only [sub, subO, subL, subM, sub3, sub2, fk_some, fk_none, fk_arg0, fk_argS, fk_argN, fk_map0, fk_mapS, fk_mapN, reduceIte, Nat.reduceEqDiff, Nat.reduceAdd, g59]; with_reducible rfl)); (focus (simp [-getElem?_pos]; with_reducible (first | rfl | exact ⟨rfl, rfl⟩))))
    | (apply XD.callQ rfl; (focus (simp only [sub, subO, subL, subM, sub3, sub2, fk_some, fk_none, fk_arg0, fk_argS, fk_argN, fk_map0, fk_mapS, fk_mapN, reduceIte, Nat.reduceEqDiff, Nat.reduceAdd, g59]; simp; with_reducible rfl)); (focus (simp; with_reducible rfl)); (focus (simp [-getElem?_pos]; done)); (focus (simp [-getElem?_pos]; with_reducible rfl)))
    | (apply XD.stepNQ rfl; (focus (simp only [sub, subO, subL, subM, sub3, sub2, fk_some, fk_none, fk_arg0, fk_argS, fk_argN, fk_map0, fk_mapS, fk_mapN, reduceIte, Nat.reduceEqDiff, Nat.reduceAdd, g59]; with_reducible rfl)))
    | ((first | apply XD.stepGtQ rfl | apply XD.stepGfQ rfl); (focus (simp only [sub, subO, subL, subM, sub3, sub2, fk_some, fk_none, fk_arg0, fk_argS, fk_argN, fk_map0, fk_mapS, fk_mapN, reduceIte, Nat.reduceEqDiff, Nat.reduceAdd, g59]; with_reducible rfl)); all_goals (intro hbr; first | exact absurd hbr (by decide) | ((try rw [hbr]); (try simp at hbr))))
    | (apply XD.loudQ rfl; (focus (simp only [sub, subO, subL, subM, sub3, sub2, fk_some, fk_none, fk_arg0, fk_argS, fk_argN, fk_map0, fk_mapS, fk_mapN, reduceIte, Nat.reduceEqDiff, Nat.reduceAdd, g59]; with_reducible rfl)); (focus (simp; with_reducible rfl)); (focus (simp [-getElem?_pos]; with_reducible (first | rfl | exact ⟨rfl, rfl⟩))); (focus (simp; done)); (focus (simp [-getElem?_pos]; with_reducible rfl))))
      all_goals exact ⟨hh, es2, _, by rw [hrow]; have e : orP none' (one (i + 1)) = one (i + 1) := by funext j; simp [orP, none']
                                      rw [e] at O2; simpa using O2, by simp [g0, g1, g2, g8], rfl⟩
  · have hge' : ¬ (i : Int) < (s.length : Int) := by omega
    have hge'' : ¬ i < s.length := by omega
    have hsb : s[i]? = none := by rw [List.getElem?_eq_none_iff]; exact hge
    (repeat' first
    | apply X.retS
    | apply X.skipS
    | apply X.skipB
    | apply X.skipL
    | (apply X.exitS; first | apply X.here | (refine X.out (by decide) ?_; apply X.here))
    | apply X.blockS
    | (apply X.condQ rfl; (focus (simp only [sub, subO, subL, subM, sub3, sub2, fk_some, fk_none, fk_arg0, fk_argS, fk_argN, fk_map0, fk_mapS, fk_mapN, reduceIte, Nat.reduceEqDiff, Nat.reduceAdd, g0, g1, g2, g8, g9, g59]; with_reducible rfl)); all_goals (intro hbr; first | exact absurd hbr (by decide) | ((try rw [hbr]); (try simp at hbr))))
    | apply X.stepZ
    | (apply X.stepQ rfl; (focus (simp only [sub, subO, subL, subM, sub3, sub2, fk_some, fk_none, fk_arg0, fk_argS, fk_argN, fk_map0, fk_mapS, fk_mapN, reduceIte, Nat.reduceEqDiff, Nat.reduceAdd, g0, g1, g2, g8, g9, g59]; with_reducible rfl)); (focus (simp [-getElem?_pos, ht, hp, hcl, hd7, hd1, hbA, hbB, hbC, hbD, hbE, hbF, hls, hge', hge, hge'']; with_reducible (first | rfl | exact ⟨rfl, rfl⟩))))
    | (apply X.stepNQ rfl; (focus (simp only [sub, subO, subL, subM, sub3, sub2, fk_some, fk_none, fk_arg0, fk_argS, fk_argN, fk_map0, fk_mapS, fk_mapN, reduceIte, Nat.reduceEqDiff, Nat.reduceAdd, g0, g1, g2, g8, g9, g59]; with_reducible rfl)))
    | ((first | apply X.stepGtQ rfl | apply X.stepGfQ rfl); (focus (simp only [sub, subO, subL, subM, sub3, sub2, fk_some, fk_none, fk_arg0, fk_argS, fk_argN, fk_map0, fk_mapS, fk_mapN, reduceIte, Nat.reduceEqDiff, Nat.reduceAdd, g0, g1, g2, g8, g9, g59]; with_reducible rfl)); all_goals (intro hbr; first | exact absurd hbr (by decide) | ((try rw [hbr]); (try simp at hbr))))
    | (apply X.draw0; (focus rfl))
    | (apply X.drawH0; (focus rfl))
    | apply XD.nil
    | (apply XD.calmQ rfl rfl; (focus (simp only [sub, subO, subL, subM, sub3, sub2, fk_some, fk_none, fk_arg0, fk_argS, fk_argN, fk_map0, fk_mapS, fk_mapN, reduceIte, Nat.reduceEqDiff, Nat.reduceAdd, g0, g1, g2, g8, g9, g59]; with_reducible rfl)); (focus (simp [-getElem?_pos, ht, hp, hcl, hd7, hd1, hbA, hbB, hbC, hbD, hbE, hbF, hls, hge', hge, hge'']; with_reducible (first | rfl | exact ⟨rfl, rfl⟩))))
    | (apply XD.callQ rfl; (focus (simp only [sub, subO, subL, subM, sub3, sub2, fk_some, fk_none, fk_arg0, fk_argS, fk_argN, fk_map0, fk_mapS, fk_mapN, reduceIte, Nat.reduceEqDiff, Nat.reduceAdd, g0, g1, g2, g8, g9, g59]; simp; with_reducible rfl)); (focus (simp; with_reducible rfl)); (focus (simp [-getElem?_pos, ht, hp, hcl, hd7, hd1, hbA, hbB, hbC, hbD, hbE, hbF, hls, hge', hge, hge'']; done)); (focus (simp [-getElem?_pos, ht, hp, hcl, hd7, hd1, hbA, hbB, hbC, hbD, hbE, hbF, hls, hge', hge, hge'']; with_reducible rfl)))
    | (apply XD.stepNQ rfl; (focus (simp only [sub, subO, subL, subM, sub3, sub2, fk_some, fk_none, fk_arg0, fk_argS, fk_argN, fk_map0, fk_mapS, fk_mapN, reduceIte, Nat.reduceEqDiff, Nat.reduceAdd, g0, g1, g2, g8, g9, g59]; with_reducible rfl)))
    | ((first | apply XD.stepGtQ rfl | apply XD.stepGfQ rfl); (focus (simp only [sub, subO, subL, subM, sub3, sub2, fk_some, fk_none, fk_arg0, fk_argS, fk_argN, fk_map0, fk_mapS, fk_mapN, reduceIte, Nat.reduceEqDiff, Nat.reduceAdd, g0, g1, g2, g8, g9, g59]; with_reducible rfl)); all_goals (intro hbr; first | exact absurd hbr (by decide) | ((try rw [hbr]); (try simp at hbr))))
    | (apply XD.loudQ rfl; (focus (simp only [sub, subO, subL, subM, sub3, sub2, fk_some, fk_none, fk_arg0, fk_argS, fk_argN, fk_map0, fk_mapS, fk_mapN, reduceIte, Nat.reduceEqDiff, Nat.reduceAdd, g0, g1, g2, g8, g9, g59]; with_reducible rfl)); (focus (simp; with_reducible rfl)); (focus (simp [-getElem?_pos, ht, hp, hcl, hd7, hd1, hbA, hbB, hbC, hbD, hbE, hbF, hls, hge', hge, hge'']; with_reducible (first | rfl | exact ⟨rfl, rfl⟩))); (focus (simp; done)); (focus (simp [-getElem?_pos, ht, hp, hcl, hd7, hd1, hbA, hbB, hbC, hbD, hbE, hbF, hls, hge', hge, hge'']; with_reducible rfl))))
    all_goals exact ⟨h2, es2, _, by rw [rowS_eq, hk, hsb]; simpa using O, by simp [g0, g1, g2, g8], rfl⟩
end Lng

-- row, of one behind the other.
namespace Lng
open Go Ab Cps Go.Proofs.Ytdacifedlemlmaa.Mach
variable {E : Env}
variable {B tid pid eid q a i : Nat} {P : List Pt} {kvs : List V} {s : List Int} {h1 h2 : Heap} {es1 es2 : List V} {c x0 x1 : Co} {k0 k1 tok : Nat} {kv : V} {r9 : List V} {f : Nat → V} {Q : AExit → Ab.St → Prop}
set_option maxHeartbeats 4000000 in
set_option maxRecDepth 100000 in
theorem row_k3 (HH : HasW E) (hs : s.length ≤ 256) (hb : ∀ x ∈ s, 0 ≤ x ∧ x < 256) (hi : i ≤ s.length) (haP : a < P.length) (hcl : (cellsT P kvs).length = P.length * 8) (hcell : (cellsT P kvs).drop (a * 8) = coreV c ++ kv :: r9)
    (O : Own B tid pid eid P kvs s h1 es1 q h2 es2 none') (g0 : fk (Fk.mk (f := f)) 0 = .ptr tid 0) (g1 : fk (Fk.mk (f := f)) 1 = .pv (.int .i64 (a : Int))) (g2 : fk (Fk.mk (f := f)) 2 = .pv (.int .i64 (i : Int))) (g8 : fk (Fk.mk (f := f)) 8 = .ptr q 0) (g9 : fk (Fk.mk (f := f)) 9 = .ptr pid (a * 8))
    (g59 : fk (Fk.mk (f := f)) 59 = .pv (.int .i64 3)) (hk : c.k = 3) (hl : c.l = [x0, x1]) (hkv : kv = .slt [.int .i64 (k0 : Int), .int .i64 (k1 : Int)] tok) (R0 : RowOk E s x0) (t0 : Tree P x0 k0) (R1 : RowOk E s x1) (t1 : Tree P x1 k1) : X E (app rowB .skip) ⟨TL 206 f, h2⟩ (inB 0 (thenQ (RowM B tid pid eid P kvs s h1 es1 q a i c) Q)) := by
  unfold rowB
  have hd7 : (cellsT P kvs).drop (a * 8 + 7) = kv :: r9 := by rw [← List.drop_drop, hcell]; simp [coreV]
  have hd1 : (cellsT P kvs).drop (a * 8 + 1) = .pv (.int .u64 c.s0) :: .pv (.int .u64 c.s1) :: .pv (.int .u64 c.s2) :: .pv (.int .u64 c.s3) :: .pv (.int .i64 c.n) :: .pv (.sl (c.l.map encC)) :: kv :: r9 := by rw [← List.drop_drop, hcell]; simp [coreV]
  have hbA : a * 8 + 7 + 1 ≤ P.length * 8 := by omega
  have hbB : a * 8 + 7 < P.length * 8 := by omega
  have hbC : a * 8 + 8 ≤ P.length * 8 := by omega
  have hbD : a * 8 + 1 + 4 ≤ P.length * 8 := by omega
  have hbE : a * 8 + 5 ≤ P.length * 8 := by omega
  have hbF : a * 8 + 4 < P.length * 8 := by omega
  have hls := encB_len s
  obtain ⟨tt, ht⟩ := O.T.t
  obtain ⟨tp, hp⟩ := O.T.p
  subst hkv
  have hrow : rowS s c i = goB (rowS s x0 i) (rowS s x1) (s.length + 1 - i) i none' := by rw [rowS_eq, hk, hl]; simp [rowS.rowAt]
  (repeat' first
    | apply X.retS
    | apply X.skipS
    | apply X.skipB
    | apply X.skipL
    | (apply X.exitS; first | apply X.here | (refine X.out (by decide) ?_; apply X.here))
    | apply X.blockS
    | (apply X.condQ rfl; (focus (simp only [sub, subO, subL, subM, sub3, sub2, fk_some, fk_none, fk_arg0, fk_argS, fk_argN, fk_map0, fk_mapS, fk_mapN, reduceIte, Nat.reduceEqDiff, Nat.reduceAdd, g0, g1, g2, g8, g9, g59]; with_reducible rfl)); all_goals (intro hbr; first | exact absurd hbr (by decide) | ((try rw [hbr]); (try simp at hbr))))
    | apply X.stepZ
    | (apply X.stepQ rfl; (focus (simp only [sub, subO, subL, subM, sub3, sub2, fk_some, fk_none, fk_arg0, fk_argS, fk_argN, fk_map0, fk_mapS, fk_mapN, reduceIte, Nat.reduceEqDiff, Nat.reduceAdd, g0, g1, g2, g8, g9, g59]; with_reducible rfl)); (focus (simp [-getElem?_pos, ht, hp, hcl, hd7, hd1, hbA, hbB, hbC, hbD, hbE, hbF, hls]; with_reducible (first | rfl | exact ⟨rfl, rfl⟩))))
    | (apply X.stepNQ rfl; (focus (simp only [sub, subO, subL, subM, sub3, sub2, fk_some, fk_none, fk_arg0, fk_argS, fk_argN, fk_map0, fk_mapS, fk_mapN, reduceIte, Nat.reduceEqDiff, Nat.reduceAdd, g0, g1, g2, g8, g9, g59]; with_reducible rfl)))
    | ((first | apply X.stepGtQ rfl | apply X.stepGfQ rfl); (focus (simp only [sub, subO, subL, subM, sub3, sub2, fk_some, fk_none, fk_arg0, fk_argS, fk_argN, fk_map0, fk_mapS, fk_mapN, reduceIte, Nat.reduceEqDiff, Nat.reduceAdd, g0, g1, g2, g8, g9, g59]; with_reducible rfl)); all_goals (intro hbr; first | exact absurd hbr (by decide) | ((try rw [hbr]); (try simp at hbr))))
    | (apply X.draw0; (focus rfl))
    | (apply X.drawH0; (focus rfl))
    | apply XD.nil
    | (apply XD.calmQ rfl rfl; (focus (simp only [sub, subO, subL, subM, sub3, sub2, fk_some, fk_none, fk_arg0, fk_argS, fk_argN, fk_map0, fk_mapS, fk_mapN, reduceIte, Nat.reduceEqDiff, Nat.reduceAdd, g0, g1, g2, g8, g9, g59]; with_reducible rfl)); (focus (simp [-getElem?_pos, ht, hp, hcl, hd7, hd1, hbA, hbB, hbC, hbD, hbE, hbF, hls]; with_reducible (first | rfl | exact ⟨rfl, rfl⟩))))
    | (apply XD.callQ rfl; (focus (simp only [sub, subO, subL, subM, sub3, sub2, fk_some, fk_none, fk_arg0, fk_argS, fk_argN, fk_map0, fk_mapS, fk_mapN, reduceIte, Nat.reduceEqDiff, Nat.reduceAdd, g0, g1, g2, g8, g9, g59]; simp; with_reducible rfl)); (focus (simp; with_reducible rfl)); (focus (simp [-getElem?_pos, ht, hp, hcl, hd7, hd1, hbA, hbB, hbC, hbD, hbE, hbF, hls]; done)); (focus (simp [-getElem?_pos, ht, hp, hcl, hd7, hd1, hbA, hbB, hbC, hbD, hbE, hbF, hls]; with_reducible rfl)))
    | (apply XD.stepNQ rfl; (focus (simp only [sub, subO, subL, subM, sub3, sub2, fk_some, fk_none, fk_arg0, fk_argS, fk_argN, fk_map0, fk_mapS, fk_mapN, reduceIte, Nat.reduceEqDiff, Nat.reduceAdd, g0, g1, g2, g8, g9, g59]; with_reducible rfl)))
    | ((first | apply XD.stepGtQ rfl | apply XD.stepGfQ rfl); (focus (simp only [sub, subO, subL, subM, sub3, sub2, fk_some, fk_none, fk_arg0, fk_argS, fk_argN, fk_map0, fk_mapS, fk_mapN, reduceIte, Nat.reduceEqDiff, Nat.reduceAdd, g0, g1, g2, g8, g9, g59]; with_reducible rfl)); all_goals (intro hbr; first | exact absurd hbr (by decide) | ((try rw [hbr]); (try simp at hbr))))
    | (apply XD.loudQ rfl; (focus (simp only [sub, subO, subL, subM, sub3, sub2, fk_some, fk_none, fk_arg0, fk_argS, fk_argN, fk_map0, fk_mapS, fk_mapN, reduceIte, Nat.reduceEqDiff, Nat.reduceAdd, g0, g1, g2, g8, g9, g59]; with_reducible rfl)); (focus (simp; with_reducible rfl)); (focus (simp [-getElem?_pos, ht, hp, hcl, hd7, hd1, hbA, hbB, hbC, hbD, hbE, hbF, hls]; with_reducible (first | rfl | exact ⟨rfl, rfl⟩))); (focus (simp; done)); (focus (simp [-getElem?_pos, ht, hp, hcl, hd7, hd1, hbA, hbB, hbC, hbD, hbE, hbF, hls]; with_reducible rfl))))
  refine X.callRQ (P := _) rfl (by simp only [sub, subO, subL, subM, sub3, sub2, fk_some, fk_none, fk_arg0, fk_argS, fk_argN, fk_map0, fk_mapS, fk_mapN, reduceIte, Nat.reduceEqDiff, Nat.reduceAdd, g0, g2, g9]; all_goals (first | with_reducible rfl | (simp <;> with_reducible rfl))) HH.row.raw (by simp [pures]) (O.row R0 t0 hi) ?_
  rintro v h3 ⟨q2, es3, rfl, O3, S3, hne3, _⟩
  (repeat' first
    | apply X.retS
    | apply X.skipS
    | apply X.skipB
    | apply X.skipL
    | (apply X.exitS; first | apply X.here | (refine X.out (by decide) ?_; apply X.here))
    | apply X.blockS
    | (apply X.condQ rfl; (focus (simp only [sub, subO, subL, subM, sub3, sub2, fk_some, fk_none, fk_arg0, fk_argS, fk_argN, fk_map0, fk_mapS, fk_mapN, reduceIte, Nat.reduceEqDiff, Nat.reduceAdd, g0, g1, g2, g8, g9, g59]; with_reducible rfl)); all_goals (intro hbr; first | exact absurd hbr (by decide) | ((try rw [hbr]); (try simp at hbr))))
    | apply X.stepZ
    | (apply X.stepQ rfl; (focus (simp only [sub, subO, subL, subM, sub3, sub2, fk_some, fk_none, fk_arg0, fk_argS, fk_argN, fk_map0, fk_mapS, fk_mapN, reduceIte, Nat.reduceEqDiff, Nat.reduceAdd, g0, g1, g2, g8, g9, g59]; with_reducible rfl)); (focus (simp [-getElem?_pos]; with_reducible (first | rfl | exact ⟨rfl, rfl⟩))))
    | (apply X.stepNQ rfl; (focus (simp only [sub, subO, subL, subM, sub3, sub2, fk_some, fk_none, fk_arg0, fk_argS, fk_argN, fk_map0, fk_mapS, fk_mapN, reduceIte, Nat.reduceEqDiff, Nat.reduceAdd, g0, g1, g2, g8, g9, g59]; with_reducible rfl)))
    | ((first | apply X.stepGtQ rfl | apply X.stepGfQ rfl); (focus (simp only [sub, subO, subL, subM, sub3, sub2, fk_some, fk_none, fk_arg0, fk_argS, fk_argN, fk_map0, fk_mapS, fk_mapN, reduceIte, Nat.reduceEqDiff, Nat.reduceAdd, g0, g1, g2, g8, g9, g59]; with_reducible rfl)); all_goals (intro hbr; first | exact absurd hbr (by decide) | ((try rw [hbr]); (try simp at hbr))))
    | (apply X.draw0; (focus rfl))
    | (apply X.drawH0; (focus rfl))
    | apply XD.nil
    | (apply XD.calmQ rfl rfl; (focus (simp only [sub, subO, subL, subM, sub3, sub2, fk_some, fk_none, fk_arg0, fk_argS, fk_argN, fk_map0, fk_mapS, fk_mapN, reduceIte, Nat.reduceEqDiff, Nat.reduceAdd, g0, g1, g2, g8, g9, g59]; with_reducible rfl)); (focus (simp [-getElem?_pos]; with_reducible (first | rfl | exact ⟨rfl, rfl⟩))))
    | (apply XD.callQ rfl; (focus (simp only [sub, subO, subL, subM, sub3, sub2, fk_some, fk_none, fk_arg0, fk_argS, fk_argN, fk_map0, fk_mapS, fk_mapN, reduceIte, Nat.reduceEqDiff, Nat.reduceAdd, g0, g1, g2, g8, g9, g59]; simp; with_reducible rfl)); (focus (simp; with_reducible rfl)); (focus (simp [-getElem?_pos]; done)); (focus (simp [-getElem?_pos]; with_reducible rfl)))
    | (apply XD.stepNQ rfl; (focus (simp only [sub, subO, subL, subM, sub3, sub2, fk_some, fk_none, fk_arg0, fk_argS, fk_argN, fk_map0, fk_mapS, fk_mapN, reduceIte, Nat.reduceEqDiff, Nat.reduceAdd, g0, g1, g2, g8, g9, g59]; with_reducible rfl)))
    | ((first | apply XD.stepGtQ rfl | apply XD.stepGfQ rfl); (focus (simp only [sub, subO, subL, subM, sub3, sub2, fk_some, fk_none, fk_arg0, fk_argS, fk_argN, fk_map0, fk_mapS, fk_mapN, reduceIte, Nat.reduceEqDiff, Nat.reduceAdd, g0, g1, g2, g8, g9, g59]; with_reducible rfl)); all_goals (intro hbr; first | exact absurd hbr (by decide) | ((try rw [hbr]); (try simp at hbr))))
    | (apply XD.loudQ rfl; (focus (simp only [sub, subO, subL, subM, sub3, sub2, fk_some, fk_none, fk_arg0, fk_argS, fk_argN, fk_map0, fk_mapS, fk_mapN, reduceIte, Nat.reduceEqDiff, Nat.reduceAdd, g0, g1, g2, g8, g9, g59]; with_reducible rfl)); (focus (simp; with_reducible rfl)); (focus (simp [-getElem?_pos]; with_reducible (first | rfl | exact ⟨rfl, rfl⟩))); (focus (simp; done)); (focus (simp [-getElem?_pos]; with_reducible rfl))))
  refine X.forS (s.length + 1 - i) (fun j st => ∃ (hh : Heap) (es4 : List V) (p : Pl) (k : Nat) (f : Nat → V), (k = i + j ∧ Own B tid pid eid P kvs s h1 es1 q hh es4 p ∧ Side hh q2 (rowS s x0 i) ∧ goB (rowS s x0 i) (rowS s x1) (s.length + 1 - i - j) k p = rowS s c i) ∧
    (fk (Fk.mk (f := f)) 0 = .ptr tid 0 ∧ fk (Fk.mk (f := f)) 1 = .pv (.int .i64 (a : Int)) ∧ fk (Fk.mk (f := f)) 2 = .pv (.int .i64 (i : Int)) ∧ fk (Fk.mk (f := f)) 8 = .ptr q 0 ∧ fk (Fk.mk (f := f)) 9 = .ptr pid (a * 8) ∧ fk (Fk.mk (f := f)) 10 = .ptr q2 0 ∧ fk (Fk.mk (f := f)) 11 = .pv (.int .i64 (k : Int))) ∧ st = ⟨TL 206 f, hh⟩) ?_ ?_
  · exact ⟨h3, es3, none', i, _, ⟨rfl, O3, S3, hrow.symm⟩, by simp [g0, g1, g2, g8, g9], rfl⟩
  clear ht hp g0 g1 g2 g8 g9 g59
  rintro j st hj ⟨hh, es4, p, k, f, ⟨hkj, O4, S4, hgo⟩, ⟨g0, g1, g2, g8, g9, g10, g11⟩, rfl⟩
  obtain ⟨tt4, ht4⟩ := O4.T.t
  obtain ⟨tp4, hp4⟩ := O4.T.p
  have hww : IntKind.i64.wrap ((k : Int) + 1) = (k : Int) + 1 := wrap_i64 (by omega)
  rcases Nat.lt_or_ge j (s.length + 1 - i) with hj1 | hj1
  · have hle : (k : Int) ≤ (s.length : Int) := by omega
    have hle' : k ≤ s.length := by omega
    have hn : s.length + 1 - i - j = (s.length + 1 - i - (j + 1)) + 1 := by omega
    rw [hn, goB] at hgo
    have hhas := S4.has HH.p (i := k) (by omega)
    cases hlk : rowS s x0 i k with
    | false =>
      rw [hlk] at hhas hgo
      (repeat' first
    | apply X.retS
    | apply X.skipS
    | apply X.skipB
    | apply X.skipL
    | (apply X.exitS; first | apply X.here | (refine X.out (by decide) ?_; apply X.here))
    | apply X.blockS
    | (apply X.condQ rfl; (focus (simp only [sub, subO, subL, subM, sub3, sub2, fk_some, fk_none, fk_arg0, fk_argS, fk_argN, fk_map0, fk_mapS, fk_mapN, reduceIte, Nat.reduceEqDiff, Nat.reduceAdd, g0, g1, g2, g8, g9, g10, g11]; with_reducible rfl)); all_goals (intro hbr; first | exact absurd hbr (by decide) | ((try rw [hbr]); (try simp at hbr))))
    | apply X.stepZ
    | (apply X.stepQ rfl; (focus (simp only [sub, subO, subL, subM, sub3, sub2, fk_some, fk_none, fk_arg0, fk_argS, fk_argN, fk_map0, fk_mapS, fk_mapN, reduceIte, Nat.reduceEqDiff, Nat.reduceAdd, g0, g1, g2, g8, g9, g10, g11]; with_reducible rfl)); (focus (simp [-getElem?_pos, ht4, hp4, hcl, hd7, hd1, hbA, hbB, hbC, hbD, hbE, hbF, hls, hle, hle']; with_reducible (first | rfl | exact ⟨rfl, rfl⟩))))
    | (apply X.stepNQ rfl; (focus (simp only [sub, subO, subL, subM, sub3, sub2, fk_some, fk_none, fk_arg0, fk_argS, fk_argN, fk_map0, fk_mapS, fk_mapN, reduceIte, Nat.reduceEqDiff, Nat.reduceAdd, g0, g1, g2, g8, g9, g10, g11]; with_reducible rfl)))
    | ((first | apply X.stepGtQ rfl | apply X.stepGfQ rfl); (focus (simp only [sub, subO, subL, subM, sub3, sub2, fk_some, fk_none, fk_arg0, fk_argS, fk_argN, fk_map0, fk_mapS, fk_mapN, reduceIte, Nat.reduceEqDiff, Nat.reduceAdd, g0, g1, g2, g8, g9, g10, g11]; with_reducible rfl)); all_goals (intro hbr; first | exact absurd hbr (by decide) | ((try rw [hbr]); (try simp at hbr))))
    | (apply X.draw0; (focus rfl))
    | (apply X.drawH0; (focus rfl))
    | apply XD.nil
    | (apply XD.calmQ rfl rfl; (focus (simp only [sub, subO, subL, subM, sub3, sub2, fk_some, fk_none, fk_arg0, fk_argS, fk_argN, fk_map0, fk_mapS, fk_mapN, reduceIte, Nat.reduceEqDiff, Nat.reduceAdd, g0, g1, g2, g8, g9, g10, g11]; with_reducible rfl)); (focus (simp [-getElem?_pos, ht4, hp4, hcl, hd7, hd1, hbA, hbB, hbC, hbD, hbE, hbF, hls, hle, hle']; with_reducible (first | rfl | exact ⟨rfl, rfl⟩))))
    | (apply XD.callQ rfl; (focus (simp only [sub, subO, subL, subM, sub3, sub2, fk_some, fk_none, fk_arg0, fk_argS, fk_argN, fk_map0, fk_mapS, fk_mapN, reduceIte, Nat.reduceEqDiff, Nat.reduceAdd, g0, g1, g2, g8, g9, g10, g11]; simp; with_reducible rfl)); (focus (simp; with_reducible rfl)); (focus (simp [-getElem?_pos, ht4, hp4, hcl, hd7, hd1, hbA, hbB, hbC, hbD, hbE, hbF, hls, hle, hle']; done)); (focus (simp [-getElem?_pos, ht4, hp4, hcl, hd7, hd1, hbA, hbB, hbC, hbD, hbE, hbF, hls, hle, hle']; with_reducible rfl)))
    | (apply XD.stepNQ rfl; (focus (simp only [sub, subO, subL, subM, sub3, sub2, fk_some, fk_none, fk_arg0, fk_argS, fk_argN, fk_map0, fk_mapS, fk_mapN, reduceIte, Nat.reduceEqDiff, Nat.reduceAdd, g0, g1, g2, g8, g9, g10, g11]; with_reducible rfl)))
    | ((first | apply XD.stepGtQ rfl | apply XD.stepGfQ rfl); (focus (simp only [sub, subO, subL, subM, sub3, sub2, fk_some, fk_none, fk_arg0, fk_argS, fk_argN, fk_map0, fk_mapS, fk_mapN, reduceIte, Nat.reduceEqDiff, Nat.reduceAdd, g0, g1, g2, g8, g9, g10, g11]; with_reducible rfl)); all_goals (intro hbr; first | exact absurd hbr (by decide) | ((try rw [hbr]); (try simp at hbr))))
    | (apply XD.loudQ rfl; (focus (simp only [sub, subO, subL, subM, sub3, sub2, fk_some, fk_none, fk_arg0, fk_argS, fk_argN, fk_map0, fk_mapS, fk_mapN, reduceIte, Nat.reduceEqDiff, Nat.reduceAdd, g0, g1, g2, g8, g9, g10, g11]; with_reducible rfl)); (focus (simp; with_reducible rfl)); (focus (simp [-getElem?_pos, ht4, hp4, hcl, hd7, hd1, hbA, hbB, hbC, hbD, hbE, hbF, hls, hle, hle']; with_reducible (first | rfl | exact ⟨rfl, rfl⟩))); (focus (simp; done)); (focus (simp [-getElem?_pos, ht4, hp4, hcl, hd7, hd1, hbA, hbB, hbC, hbD, hbE, hbF, hls, hle, hle']; with_reducible rfl))))
      refine X.callRQ (P := _) rfl (by simp only [sub, subO, subL, subM, sub3, sub2, fk_some, fk_none, fk_arg0, fk_argS, fk_argN, fk_map0, fk_mapS, fk_mapN, reduceIte, Nat.reduceEqDiff, Nat.reduceAdd, g0, g2, g9, g10, g11]; all_goals (first | with_reducible rfl | (simp <;> with_reducible rfl))) HH.p.has.raw (by simp [pures]) (hhas) ?_
      rintro v h5 ⟨rfl, rfl⟩
      (repeat' first
    | apply X.retS
    | apply X.skipS
    | apply X.skipB
    | apply X.skipL
    | (apply X.exitS; first | apply X.here | (refine X.out (by decide) ?_; apply X.here))
    | apply X.blockS
    | (apply X.condQ rfl; (focus (simp only [sub, subO, subL, subM, sub3, sub2, fk_some, fk_none, fk_arg0, fk_argS, fk_argN, fk_map0, fk_mapS, fk_mapN, reduceIte, Nat.reduceEqDiff, Nat.reduceAdd, g0, g1, g2, g8, g9, g10, g11]; with_reducible rfl)); all_goals (intro hbr; first | exact absurd hbr (by decide) | ((try rw [hbr]); (try simp at hbr))))
    | apply X.stepZ
    | (apply X.stepQ rfl; (focus (simp only [sub, subO, subL, subM, sub3, sub2, fk_some, fk_none, fk_arg0, fk_argS, fk_argN, fk_map0, fk_mapS, fk_mapN, reduceIte, Nat.reduceEqDiff, Nat.reduceAdd, g0, g1, g2, g8, g9, g10, g11]; with_reducible rfl)); (focus (simp [-getElem?_pos, hww]; with_reducible (first | rfl | exact ⟨rfl, rfl⟩))))
    | (apply X.stepNQ rfl; (focus (simp only [sub, subO, subL, subM, sub3, sub2, fk_some, fk_none, fk_arg0, fk_argS, fk_argN, fk_map0, fk_mapS, fk_mapN, reduceIte, Nat.reduceEqDiff, Nat.reduceAdd, g0, g1, g2, g8, g9, g10, g11]; with_reducible rfl)))
    | ((first | apply X.stepGtQ rfl | apply X.stepGfQ rfl); (focus (simp only [sub, subO, subL, subM, sub3, sub2, fk_some, fk_none, fk_arg0, fk_argS, fk_argN, fk_map0, fk_mapS, fk_mapN, reduceIte, Nat.reduceEqDiff, Nat.reduceAdd, g0, g1, g2, g8, g9, g10, g11]; with_reducible rfl)); all_goals (intro hbr; first | exact absurd hbr (by decide) | ((try rw [hbr]); (try simp at hbr))))
    | (apply X.draw0; (focus rfl))
    | (apply X.drawH0; (focus rfl))
    | apply XD.nil
    | (apply XD.calmQ rfl rfl; (focus (simp only [sub, subO, subL, subM, sub3, sub2, fk_some, fk_none, fk_arg0, fk_argS, fk_argN, fk_map0, fk_mapS, fk_mapN, reduceIte, Nat.reduceEqDiff, Nat.reduceAdd, g0, g1, g2, g8, g9, g10, g11]; with_reducible rfl)); (focus (simp [-getElem?_pos, hww]; with_reducible (first | rfl | exact ⟨rfl, rfl⟩))))
    | (apply XD.callQ rfl; (focus (simp only [sub, subO, subL, subM, sub3, sub2, fk_some, fk_none, fk_arg0, fk_argS, fk_argN, fk_map0, fk_mapS, fk_mapN, reduceIte, Nat.reduceEqDiff, Nat.reduceAdd, g0, g1, g2, g8, g9, g10, g11]; simp; with_reducible rfl)); (focus (simp; with_reducible rfl)); (focus (simp [-getElem?_pos, hww]; done)); (focus (simp [-getElem?_pos, hww]; with_reducible rfl)))
    | (apply XD.stepNQ rfl; (focus (simp only [sub, subO, subL, subM, sub3, sub2, fk_some, fk_none, fk_arg0, fk_argS, fk_argN, fk_map0, fk_mapS, fk_mapN, reduceIte, Nat.reduceEqDiff, Nat.reduceAdd, g0, g1, g2, g8, g9, g10, g11]; with_reducible rfl)))
    | ((first | apply XD.stepGtQ rfl | apply XD.stepGfQ rfl); (focus (simp only [sub, subO, subL, subM, sub3, sub2, fk_some, fk_none, fk_arg0, fk_argS, fk_argN, fk_map0, fk_mapS, fk_mapN, reduceIte, Nat.reduceEqDiff, Nat.reduceAdd, g0, g1, g2, g8, g9, g10, g11]; with_reducible rfl)); all_goals (intro hbr; first | exact absurd hbr (by decide) | ((try rw [hbr]); (try simp at hbr))))
    | (apply XD.loudQ rfl; (focus (simp only [sub, subO, subL, subM, sub3, sub2, fk_some, fk_none, fk_arg0, fk_argS, fk_argN, fk_map0, fk_mapS, fk_mapN, reduceIte, Nat.reduceEqDiff, Nat.reduceAdd, g0, g1, g2, g8, g9, g10, g11]; with_reducible rfl)); (focus (simp; with_reducible rfl)); (focus (simp [-getElem?_pos, hww]; with_reducible (first | rfl | exact ⟨rfl, rfl⟩))); (focus (simp; done)); (focus (simp [-getElem?_pos, hww]; with_reducible rfl))))
      all_goals exact ⟨hj1, _, es4, p, k + 1, _, ⟨by omega, O4, S4, by simpa using hgo⟩, by simp [g0, g1, g2, g8, g9, g10], rfl⟩
    | true =>
      rw [hlk] at hhas hgo
      (repeat' first
    | apply X.retS
    | apply X.skipS
    | apply X.skipB
    | apply X.skipL
    | (apply X.exitS; first | apply X.here | (refine X.out (by decide) ?_; apply X.here))
    | apply X.blockS
    | (apply X.condQ rfl; (focus (simp only [sub, subO, subL, subM, sub3, sub2, fk_some, fk_none, fk_arg0, fk_argS, fk_argN, fk_map0, fk_mapS, fk_mapN, reduceIte, Nat.reduceEqDiff, Nat.reduceAdd, g0, g1, g2, g8, g9, g10, g11]; with_reducible rfl)); all_goals (intro hbr; first | exact absurd hbr (by decide) | ((try rw [hbr]); (try simp at hbr))))
    | apply X.stepZ
    | (apply X.stepQ rfl; (focus (simp only [sub, subO, subL, subM, sub3, sub2, fk_some, fk_none, fk_arg0, fk_argS, fk_argN, fk_map0, fk_mapS, fk_mapN, reduceIte, Nat.reduceEqDiff, Nat.reduceAdd, g0, g1, g2, g8, g9, g10, g11]; with_reducible rfl)); (focus (simp [-getElem?_pos, ht4, hp4, hcl, hd7, hd1, hbA, hbB, hbC, hbD, hbE, hbF, hls, hle, hle']; with_reducible (first | rfl | exact ⟨rfl, rfl⟩))))
    | (apply X.stepNQ rfl; (focus (simp only [sub, subO, subL, subM, sub3, sub2, fk_some, fk_none, fk_arg0, fk_argS, fk_argN, fk_map0, fk_mapS, fk_mapN, reduceIte, Nat.reduceEqDiff, Nat.reduceAdd, g0, g1, g2, g8, g9, g10, g11]; with_reducible rfl)))
    | ((first | apply X.stepGtQ rfl | apply X.stepGfQ rfl); (focus (simp only [sub, subO, subL, subM, sub3, sub2, fk_some, fk_none, fk_arg0, fk_argS, fk_argN, fk_map0, fk_mapS, fk_mapN, reduceIte, Nat.reduceEqDiff, Nat.reduceAdd, g0, g1, g2, g8, g9, g10, g11]; with_reducible rfl)); all_goals (intro hbr; first | exact absurd hbr (by decide) | ((try rw [hbr]); (try simp at hbr))))
    | (apply X.draw0; (focus rfl))
    | (apply X.drawH0; (focus rfl))
    | apply XD.nil
    | (apply XD.calmQ rfl rfl; (focus (simp only [sub, subO, subL, subM, sub3, sub2, fk_some, fk_none, fk_arg0, fk_argS, fk_argN, fk_map0, fk_mapS, fk_mapN, reduceIte, Nat.reduceEqDiff, Nat.reduceAdd, g0, g1, g2, g8, g9, g10, g11]; with_reducible rfl)); (focus (simp [-getElem?_pos, ht4, hp4, hcl, hd7, hd1, hbA, hbB, hbC, hbD, hbE, hbF, hls, hle, hle']; with_reducible (first | rfl | exact ⟨rfl, rfl⟩))))
    | (apply XD.callQ rfl; (focus (simp only [sub, subO, subL, subM, sub3, sub2, fk_some, fk_none, fk_arg0, fk_argS, fk_argN, fk_map0, fk_mapS, fk_mapN, reduceIte, Nat.reduceEqDiff, Nat.reduceAdd, g0, g1, g2, g8, g9, g10, g11]; simp; with_reducible rfl)); (focus (simp; with_reducible rfl)); (focus (simp [-getElem?_pos, ht4, hp4, hcl, hd7, hd1, hbA, hbB, hbC, hbD, hbE, hbF, hls, hle, hle']; done)); (focus (simp [-getElem?_pos, ht4, hp4, hcl, hd7, hd1, hbA, hbB, hbC, hbD, hbE, hbF, hls, hle, hle']; with_reducible rfl)))
    | (apply XD.stepNQ rfl; (focus (simp only [sub, subO, subL, subM, sub3, sub2, fk_some, fk_none, fk_arg0, fk_argS, fk_argN, fk_map0, fk_mapS, fk_mapN, reduceIte, Nat.reduceEqDiff, Nat.reduceAdd, g0, g1, g2, g8, g9, g10, g11]; with_reducible rfl)))
    | ((first | apply XD.stepGtQ rfl | apply XD.stepGfQ rfl); (focus (simp only [sub, subO, subL, subM, sub3, sub2, fk_some, fk_none, fk_arg0, fk_argS, fk_argN, fk_map0, fk_mapS, fk_mapN, reduceIte, Nat.reduceEqDiff, Nat.reduceAdd, g0, g1, g2, g8, g9, g10, g11]; with_reducible rfl)); all_goals (intro hbr; first | exact absurd hbr (by decide) | ((try rw [hbr]); (try simp at hbr))))
    | (apply XD.loudQ rfl; (focus (simp only [sub, subO, subL, subM, sub3, sub2, fk_some, fk_none, fk_arg0, fk_argS, fk_argN, fk_map0, fk_mapS, fk_mapN, reduceIte, Nat.reduceEqDiff, Nat.reduceAdd, g0, g1, g2, g8, g9, g10, g11]; with_reducible rfl)); (focus (simp; with_reducible rfl)); (focus (simp [-getElem?_pos, ht4, hp4, hcl, hd7, hd1, hbA, hbB, hbC, hbD, hbE, hbF, hls, hle, hle']; with_reducible (first | rfl | exact ⟨rfl, rfl⟩))); (focus (simp; done)); (focus (simp [-getElem?_pos, ht4, hp4, hcl, hd7, hd1, hbA, hbB, hbC, hbD, hbE, hbF, hls, hle, hle']; with_reducible rfl))))
      refine X.callRQ (P := _) rfl (by simp only [sub, subO, subL, subM, sub3, sub2, fk_some, fk_none, fk_arg0, fk_argS, fk_argN, fk_map0, fk_mapS, fk_mapN, reduceIte, Nat.reduceEqDiff, Nat.reduceAdd, g0, g2, g9, g10, g11]; all_goals (first | with_reducible rfl | (simp <;> with_reducible rfl))) HH.p.has.raw (by simp [pures]) (hhas) ?_
      rintro v h5 ⟨rfl, rfl⟩
      (repeat' first
    | apply X.retS
    | apply X.skipS
    | apply X.skipB
    | apply X.skipL
    | (apply X.exitS; first | apply X.here | (refine X.out (by decide) ?_; apply X.here))
    | apply X.blockS
    | (apply X.condQ rfl; (focus (simp only [sub, subO, subL, subM, sub3, sub2, fk_some, fk_none, fk_arg0, fk_argS, fk_argN, fk_map0, fk_mapS, fk_mapN, reduceIte, Nat.reduceEqDiff, Nat.reduceAdd, g0, g1, g2, g8, g9, g10, g11]; with_reducible rfl)); all_goals (intro hbr; first | exact absurd hbr (by decide) | ((try rw [hbr]); (try simp at hbr))))
    | apply X.stepZ
    | (apply X.stepQ rfl; (focus (simp only [sub, subO, subL, subM, sub3, sub2, fk_some, fk_none, fk_arg0, fk_argS, fk_argN, fk_map0, fk_mapS, fk_mapN, reduceIte, Nat.reduceEqDiff, Nat.reduceAdd, g0, g1, g2, g8, g9, g10, g11]; with_reducible rfl)); (focus (simp [-getElem?_pos, ht4, hp4, hcl, hd7, hd1, hbA, hbB, hbC, hbD, hbE, hbF, hls]; with_reducible (first | rfl | exact ⟨rfl, rfl⟩))))
    | (apply X.stepNQ rfl; (focus (simp only [sub, subO, subL, subM, sub3, sub2, fk_some, fk_none, fk_arg0, fk_argS, fk_argN, fk_map0, fk_mapS, fk_mapN, reduceIte, Nat.reduceEqDiff, Nat.reduceAdd, g0, g1, g2, g8, g9, g10, g11]; with_reducible rfl)))
    | ((first | apply X.stepGtQ rfl | apply X.stepGfQ rfl); (focus (simp only [sub, subO, subL, subM, sub3, sub2, fk_some, fk_none, fk_arg0, fk_argS, fk_argN, fk_map0, fk_mapS, fk_mapN, reduceIte, Nat.reduceEqDiff, Nat.reduceAdd, g0, g1, g2, g8, g9, g10, g11]; with_reducible rfl)); all_goals (intro hbr; first | exact absurd hbr (by decide) | ((try rw [hbr]); (try simp at hbr))))
    | (apply X.draw0; (focus rfl))
    | (apply X.drawH0; (focus rfl))
    | apply XD.nil
    | (apply XD.calmQ rfl rfl; (focus (simp only [sub, subO, subL, subM, sub3, sub2, fk_some, fk_none, fk_arg0, fk_argS, fk_argN, fk_map0, fk_mapS, fk_mapN, reduceIte, Nat.reduceEqDiff, Nat.reduceAdd, g0, g1, g2, g8, g9, g10, g11]; with_reducible rfl)); (focus (simp [-getElem?_pos, ht4, hp4, hcl, hd7, hd1, hbA, hbB, hbC, hbD, hbE, hbF, hls]; with_reducible (first | rfl | exact ⟨rfl, rfl⟩))))
    | (apply XD.callQ rfl; (focus (simp only [sub, subO, subL, subM, sub3, sub2, fk_some, fk_none, fk_arg0, fk_argS, fk_argN, fk_map0, fk_mapS, fk_mapN, reduceIte, Nat.reduceEqDiff, Nat.reduceAdd, g0, g1, g2, g8, g9, g10, g11]; simp; with_reducible rfl)); (focus (simp; with_reducible rfl)); (focus (simp [-getElem?_pos, ht4, hp4, hcl, hd7, hd1, hbA, hbB, hbC, hbD, hbE, hbF, hls]; done)); (focus (simp [-getElem?_pos, ht4, hp4, hcl, hd7, hd1, hbA, hbB, hbC, hbD, hbE, hbF, hls]; with_reducible rfl)))
    | (apply XD.stepNQ rfl; (focus (simp only [sub, subO, subL, subM, sub3, sub2, fk_some, fk_none, fk_arg0, fk_argS, fk_argN, fk_map0, fk_mapS, fk_mapN, reduceIte, Nat.reduceEqDiff, Nat.reduceAdd, g0, g1, g2, g8, g9, g10, g11]; with_reducible rfl)))
    | ((first | apply XD.stepGtQ rfl | apply XD.stepGfQ rfl); (focus (simp only [sub, subO, subL, subM, sub3, sub2, fk_some, fk_none, fk_arg0, fk_argS, fk_argN, fk_map0, fk_mapS, fk_mapN, reduceIte, Nat.reduceEqDiff, Nat.reduceAdd, g0, g1, g2, g8, g9, g10, g11]; with_reducible rfl)); all_goals (intro hbr; first | exact absurd hbr (by decide) | ((try rw [hbr]); (try simp at hbr))))
    | (apply XD.loudQ rfl; (focus (simp only [sub, subO, subL, subM, sub3, sub2, fk_some, fk_none, fk_arg0, fk_argS, fk_argN, fk_map0, fk_mapS, fk_mapN, reduceIte, Nat.reduceEqDiff, Nat.reduceAdd, g0, g1, g2, g8, g9, g10, g11]; with_reducible rfl)); (focus (simp; with_reducible rfl)); (focus (simp [-getElem?_pos, ht4, hp4, hcl, hd7, hd1, hbA, hbB, hbC, hbD, hbE, hbF, hls]; with_reducible (first | rfl | exact ⟨rfl, rfl⟩))); (focus (simp; done)); (focus (simp [-getElem?_pos, ht4, hp4, hcl, hd7, hd1, hbA, hbB, hbC, hbD, hbE, hbF, hls]; with_reducible rfl))))
      refine X.callRQ (P := _) rfl (by simp only [sub, subO, subL, subM, sub3, sub2, fk_some, fk_none, fk_arg0, fk_argS, fk_argN, fk_map0, fk_mapS, fk_mapN, reduceIte, Nat.reduceEqDiff, Nat.reduceAdd, g0, g2, g9, g10, g11]; all_goals (first | with_reducible rfl | (simp <;> with_reducible rfl))) HH.row.raw (by simp [pures]) (O4.row R1 t1 hle') ?_
      rintro v h6 ⟨q3, es6, rfl, O6, S6, hne6, keep6⟩
      (repeat' first
    | apply X.retS
    | apply X.skipS
    | apply X.skipB
    | apply X.skipL
    | (apply X.exitS; first | apply X.here | (refine X.out (by decide) ?_; apply X.here))
    | apply X.blockS
    | (apply X.condQ rfl; (focus (simp only [sub, subO, subL, subM, sub3, sub2, fk_some, fk_none, fk_arg0, fk_argS, fk_argN, fk_map0, fk_mapS, fk_mapN, reduceIte, Nat.reduceEqDiff, Nat.reduceAdd, g0, g1, g2, g8, g9, g10, g11]; with_reducible rfl)); all_goals (intro hbr; first | exact absurd hbr (by decide) | ((try rw [hbr]); (try simp at hbr))))
    | apply X.stepZ
    | (apply X.stepQ rfl; (focus (simp only [sub, subO, subL, subM, sub3, sub2, fk_some, fk_none, fk_arg0, fk_argS, fk_argN, fk_map0, fk_mapS, fk_mapN, reduceIte, Nat.reduceEqDiff, Nat.reduceAdd, g0, g1, g2, g8, g9, g10, g11]; with_reducible rfl)); (focus (simp [-getElem?_pos]; with_reducible (first | rfl | exact ⟨rfl, rfl⟩))))
    | (apply X.stepNQ rfl; (focus (simp only [sub, subO, subL, subM, sub3, sub2, fk_some, fk_none, fk_arg0, fk_argS, fk_argN, fk_map0, fk_mapS, fk_mapN, reduceIte, Nat.reduceEqDiff, Nat.reduceAdd, g0, g1, g2, g8, g9, g10, g11]; with_reducible rfl)))
    | ((first | apply X.stepGtQ rfl | apply X.stepGfQ rfl); (focus (simp only [sub, subO, subL, subM, sub3, sub2, fk_some, fk_none, fk_arg0, fk_argS, fk_argN, fk_map0, fk_mapS, fk_mapN, reduceIte, Nat.reduceEqDiff, Nat.reduceAdd, g0, g1, g2, g8, g9, g10, g11]; with_reducible rfl)); all_goals (intro hbr; first | exact absurd hbr (by decide) | ((try rw [hbr]); (try simp at hbr))))
    | (apply X.draw0; (focus rfl))
    | (apply X.drawH0; (focus rfl))
    | apply XD.nil
    | (apply XD.calmQ rfl rfl; (focus (simp only [sub, subO, subL, subM, sub3, sub2, fk_some, fk_none, fk_arg0, fk_argS, fk_argN, fk_map0, fk_mapS, fk_mapN, reduceIte, Nat.reduceEqDiff, Nat.reduceAdd, g0, g1, g2, g8, g9, g10, g11]; with_reducible rfl)); (focus (simp [-getElem?_pos]; with_reducible (first | rfl | exact ⟨rfl, rfl⟩))))
    | (apply XD.callQ rfl; (focus (simp only [sub, subO, subL, subM, sub3, sub2, fk_some, fk_none, fk_arg0, fk_argS, fk_argN, fk_map0, fk_mapS, fk_mapN, reduceIte, Nat.reduceEqDiff, Nat.reduceAdd, g0, g1, g2, g8, g9, g10, g11]; simp; with_reducible rfl)); (focus (simp; with_reducible rfl)); (focus (simp [-getElem?_pos]; done)); (focus (simp [-getElem?_pos]; with_reducible rfl)))
    | (apply XD.stepNQ rfl; (focus (simp only [sub, subO, subL, subM, sub3, sub2, fk_some, fk_none, fk_arg0, fk_argS, fk_argN, fk_map0, fk_mapS, fk_mapN, reduceIte, Nat.reduceEqDiff, Nat.reduceAdd, g0, g1, g2, g8, g9, g10, g11]; with_reducible rfl)))
    | ((first | apply XD.stepGtQ rfl | apply XD.stepGfQ rfl); (focus (simp only [sub, subO, subL, subM, sub3, sub2, fk_some, fk_none, fk_arg0, fk_argS, fk_argN, fk_map0, fk_mapS, fk_mapN, reduceIte, Nat.reduceEqDiff, Nat.reduceAdd, g0, g1, g2, g8, g9, g10, g11]; with_reducible rfl)); all_goals (intro hbr; first | exact absurd hbr (by decide) | ((try rw [hbr]); (try simp at hbr))))
    | (apply XD.loudQ rfl; (focus (simp only [sub, subO, subL, subM, sub3, sub2, fk_some, fk_none, fk_arg0, fk_argS, fk_argN, fk_map0, fk_mapS, fk_mapN, reduceIte, Nat.reduceEqDiff, Nat.reduceAdd, g0, g1, g2, g8, g9, g10, g11]; with_reducible rfl)); (focus (simp; with_reducible rfl)); (focus (simp [-getElem?_pos]; with_reducible (first | rfl | exact ⟨rfl, rfl⟩))); (focus (simp; done)); (focus (simp [-getElem?_pos]; with_reducible rfl))))
      refine X.callRQ (P := _) rfl (by simp only [sub, subO, subL, subM, sub3, sub2, fk_some, fk_none, fk_arg0, fk_argS, fk_argN, fk_map0, fk_mapS, fk_mapN, reduceIte, Nat.reduceEqDiff, Nat.reduceAdd, g0, g2, g8, g9, g10, g11]; all_goals (first | with_reducible rfl | (simp <;> with_reducible rfl))) HH.p.or.raw (by simp [pures]) (O6.or HH.p S6 hne6) ?_
      rintro v h7 ⟨rfl, O7, keep7⟩
      (repeat' first
    | apply X.retS
    | apply X.skipS
    | apply X.skipB
    | apply X.skipL
    | (apply X.exitS; first | apply X.here | (refine X.out (by decide) ?_; apply X.here))
    | apply X.blockS
    | (apply X.condQ rfl; (focus (simp only [sub, subO, subL, subM, sub3, sub2, fk_some, fk_none, fk_arg0, fk_argS, fk_argN, fk_map0, fk_mapS, fk_mapN, reduceIte, Nat.reduceEqDiff, Nat.reduceAdd, g0, g1, g2, g8, g9, g10, g11]; with_reducible rfl)); all_goals (intro hbr; first | exact absurd hbr (by decide) | ((try rw [hbr]); (try simp at hbr))))
    | apply X.stepZ
    | (apply X.stepQ rfl; (focus (simp only [sub, subO, subL, subM, sub3, sub2, fk_some, fk_none, fk_arg0, fk_argS, fk_argN, fk_map0, fk_mapS, fk_mapN, reduceIte, Nat.reduceEqDiff, Nat.reduceAdd, g0, g1, g2, g8, g9, g10, g11]; with_reducible rfl)); (focus (simp [-getElem?_pos, hww]; with_reducible (first | rfl | exact ⟨rfl, rfl⟩))))
    | (apply X.stepNQ rfl; (focus (simp only [sub, subO, subL, subM, sub3, sub2, fk_some, fk_none, fk_arg0, fk_argS, fk_argN, fk_map0, fk_mapS, fk_mapN, reduceIte, Nat.reduceEqDiff, Nat.reduceAdd, g0, g1, g2, g8, g9, g10, g11]; with_reducible rfl)))
    | ((first | apply X.stepGtQ rfl | apply X.stepGfQ rfl); (focus (simp only [sub, subO, subL, subM, sub3, sub2, fk_some, fk_none, fk_arg0, fk_argS, fk_argN, fk_map0, fk_mapS, fk_mapN, reduceIte, Nat.reduceEqDiff, Nat.reduceAdd, g0, g1, g2, g8, g9, g10, g11]; with_reducible rfl)); all_goals (intro hbr; first | exact absurd hbr (by decide) | ((try rw [hbr]); (try simp at hbr))))
    | (apply X.draw0; (focus rfl))
    | (apply X.drawH0; (focus rfl))
    | apply XD.nil
    | (apply XD.calmQ rfl rfl; (focus (simp only [sub, subO, subL, subM, sub3, sub2, fk_some, fk_none, fk_arg0, fk_argS, fk_argN, fk_map0, fk_mapS, fk_mapN, reduceIte, Nat.reduceEqDiff, Nat.reduceAdd, g0, g1, g2, g8, g9, g10, g11]; with_reducible rfl)); (focus (simp [-getElem?_pos, hww]; with_reducible (first | rfl | exact ⟨rfl, rfl⟩))))
    | (apply XD.callQ rfl; (focus (simp only [sub, subO, subL, subM, sub3, sub2, fk_some, fk_none, fk_arg0, fk_argS, fk_argN, fk_map0, fk_mapS, fk_mapN, reduceIte, Nat.reduceEqDiff, Nat.reduceAdd, g0, g1, g2, g8, g9, g10, g11]; simp; with_reducible rfl)); (focus (simp; with_reducible rfl)); (focus (simp [-getElem?_pos, hww]; done)); (focus (simp [-getElem?_pos, hww]; with_reducible rfl)))
    | (apply XD.stepNQ rfl; (focus (simp only [sub, subO, subL, subM, sub3, sub2, fk_some, fk_none, fk_arg0, fk_argS, fk_argN, fk_map0, fk_mapS, fk_mapN, reduceIte, Nat.reduceEqDiff, Nat.reduceAdd, g0, g1, g2, g8, g9, g10, g11]; with_reducible rfl)))
    | ((first | apply XD.stepGtQ rfl | apply XD.stepGfQ rfl); (focus (simp only [sub, subO, subL, subM, sub3, sub2, fk_some, fk_none, fk_arg0, fk_argS, fk_argN, fk_map0, fk_mapS, fk_mapN, reduceIte, Nat.reduceEqDiff, Nat.reduceAdd, g0, g1, g2, g8, g9, g10, g11]; with_reducible rfl)); all_goals (intro hbr; first | exact absurd hbr (by decide) | ((try rw [hbr]); (try simp at hbr))))
    | (apply XD.loudQ rfl; (focus (simp only [sub, subO, subL, subM, sub3, sub2, fk_some, fk_none, fk_arg0, fk_argS, fk_argN, fk_map0, fk_mapS, fk_mapN, reduceIte, Nat.reduceEqDiff, Nat.reduceAdd, g0, g1, g2, g8, g9, g10, g11]; with_reducible rfl)); (focus (simp; with_reducible rfl)); (focus (simp [-getElem?_pos, hww]; with_reducible (first | rfl | exact ⟨rfl, rfl⟩))); (focus (simp; done)); (focus (simp [-getElem?_pos, hww]; with_reducible rfl))))
      all_goals exact ⟨hj1, _, es6, _, k + 1, _, ⟨by omega, O7, keep7 _ _ hne3 (keep6 _ _ S4), by simpa using hgo⟩, by simp [g0, g1, g2, g8, g9, g10], rfl⟩
  · have hle : ¬ (k : Int) ≤ (s.length : Int) := by omega
    have hle' : ¬ k ≤ s.length := by omega
    have hn : s.length + 1 - i - j = 0 := by omega
    rw [hn, goB] at hgo
    subst hgo
    (repeat' first
    | apply X.retS
    | apply X.skipS
    | apply X.skipB
    | apply X.skipL
    | (apply X.exitS; first | apply X.here | (refine X.out (by decide) ?_; apply X.here))
    | apply X.blockS
    | (apply X.condQ rfl; (focus (simp only [sub, subO, subL, subM, sub3, sub2, fk_some, fk_none, fk_arg0, fk_argS, fk_argN, fk_map0, fk_mapS, fk_mapN, reduceIte, Nat.reduceEqDiff, Nat.reduceAdd, g0, g1, g2, g8, g9, g10, g11]; with_reducible rfl)); all_goals (intro hbr; first | exact absurd hbr (by decide) | ((try rw [hbr]); (try simp at hbr))))
    | apply X.stepZ
    | (apply X.stepQ rfl; (focus (simp only [sub, subO, subL, subM, sub3, sub2, fk_some, fk_none, fk_arg0, fk_argS, fk_argN, fk_map0, fk_mapS, fk_mapN, reduceIte, Nat.reduceEqDiff, Nat.reduceAdd, g0, g1, g2, g8, g9, g10, g11]; with_reducible rfl)); (focus (simp [-getElem?_pos, ht4, hp4, hcl, hd7, hd1, hbA, hbB, hbC, hbD, hbE, hbF, hls, hle, hle']; with_reducible (first | rfl | exact ⟨rfl, rfl⟩))))
    | (apply X.stepNQ rfl; (focus (simp only [sub, subO, subL, subM, sub3, sub2, fk_some, fk_none, fk_arg0, fk_argS, fk_argN, fk_map0, fk_mapS, fk_mapN, reduceIte, Nat.reduceEqDiff, Nat.reduceAdd, g0, g1, g2, g8, g9, g10, g11]; with_reducible rfl)))
    | ((first | apply X.stepGtQ rfl | apply X.stepGfQ rfl); (focus (simp only [sub, subO, subL, subM, sub3, sub2, fk_some, fk_none, fk_arg0, fk_argS, fk_argN, fk_map0, fk_mapS, fk_mapN, reduceIte, Nat.reduceEqDiff, Nat.reduceAdd, g0, g1, g2, g8, g9, g10, g11]; with_reducible rfl)); all_goals (intro hbr; first | exact absurd hbr (by decide) | ((try rw [hbr]); (try simp at hbr))))
    | (apply X.draw0; (focus rfl))
    | (apply X.drawH0; (focus rfl))
    | apply XD.nil
    | (apply XD.calmQ rfl rfl; (focus (simp only [sub, subO, subL, subM, sub3, sub2, fk_some, fk_none, fk_arg0, fk_argS, fk_argN, fk_map0, fk_mapS, fk_mapN, reduceIte, Nat.reduceEqDiff, Nat.reduceAdd, g0, g1, g2, g8, g9, g10, g11]; with_reducible rfl)); (focus (simp [-getElem?_pos, ht4, hp4, hcl, hd7, hd1, hbA, hbB, hbC, hbD, hbE, hbF, hls, hle, hle']; with_reducible (first | rfl | exact ⟨rfl, rfl⟩))))
    | (apply XD.callQ rfl; (focus (simp only [sub, subO, subL, subM, sub3, sub2, fk_some, fk_none, fk_arg0, fk_argS, fk_argN, fk_map0, fk_mapS, fk_mapN, reduceIte, Nat.reduceEqDiff, Nat.reduceAdd, g0, g1, g2, g8, g9, g10, g11]; simp; with_reducible rfl)); (focus (simp; with_reducible rfl)); (focus (simp [-getElem?_pos, ht4, hp4, hcl, hd7, hd1, hbA, hbB, hbC, hbD, hbE, hbF, hls, hle, hle']; done)); (focus (simp [-getElem?_pos, ht4, hp4, hcl, hd7, hd1, hbA, hbB, hbC, hbD, hbE, hbF, hls, hle, hle']; with_reducible rfl)))
    | (apply XD.stepNQ rfl; (focus (simp only [sub, subO, subL, subM, sub3, sub2, fk_some, fk_none, fk_arg0, fk_argS, fk_argN, fk_map0, fk_mapS, fk_mapN, reduceIte, Nat.reduceEqDiff, Nat.reduceAdd, g0, g1, g2, g8, g9, g10, g11]; with_reducible rfl)))
    | ((first | apply XD.stepGtQ rfl | apply XD.stepGfQ rfl); (focus (simp only [sub, subO, subL, subM, sub3, sub2, fk_some, fk_none, fk_arg0, fk_argS, fk_argN, fk_map0, fk_mapS, fk_mapN, reduceIte, Nat.reduceEqDiff, Nat.reduceAdd, g0, g1, g2, g8, g9, g10, g11]; with_reducible rfl)); all_goals (intro hbr; first | exact absurd hbr (by decide) | ((try rw [hbr]); (try simp at hbr))))
    | (apply XD.loudQ rfl; (focus (simp only [sub, subO, subL, subM, sub3, sub2, fk_some, fk_none, fk_arg0, fk_argS, fk_argN, fk_map0, fk_mapS, fk_mapN, reduceIte, Nat.reduceEqDiff, Nat.reduceAdd, g0, g1, g2, g8, g9, g10, g11]; with_reducible rfl)); (focus (simp; with_reducible rfl)); (focus (simp [-getElem?_pos, ht4, hp4, hcl, hd7, hd1, hbA, hbB, hbC, hbD, hbE, hbF, hls, hle, hle']; with_reducible (first | rfl | exact ⟨rfl, rfl⟩))); (focus (simp; done)); (focus (simp [-getElem?_pos, ht4, hp4, hcl, hd7, hd1, hbA, hbB, hbC, hbD, hbE, hbF, hls, hle, hle']; with_reducible rfl))))
    all_goals exact ⟨_, es4, _, O4, by simp [g0, g1, g2, g8], rfl⟩
end Lng

-- row, of one or the other, of groups.
namespace Lng
open Go Ab Cps Go.Proofs.Ytdacifedlemlmaa.Mach
variable {E : Env}
variable {B tid pid eid q a i : Nat} {P : List Pt} {kvs : List V} {s : List Int} {h1 h2 : Heap} {es1 es2 : List V} {c x0 x1 : Co} {k0 k1 tok : Nat} {kv : V} {r9 : List V} {f : Nat → V} {Q : AExit → Ab.St → Prop}
set_option maxHeartbeats 4000000 in
set_option maxRecDepth 100000 in
theorem row_k4 (HH : HasW E) (hs : s.length ≤ 256) (hb : ∀ x ∈ s, 0 ≤ x ∧ x < 256) (hi : i ≤ s.length) (haP : a < P.length) (hcl : (cellsT P kvs).length = P.length * 8) (hcell : (cellsT P kvs).drop (a * 8) = coreV c ++ kv :: r9)
    (O : Own B tid pid eid P kvs s h1 es1 q h2 es2 none') (g0 : fk (Fk.mk (f := f)) 0 = .ptr tid 0) (g1 : fk (Fk.mk (f := f)) 1 = .pv (.int .i64 (a : Int))) (g2 : fk (Fk.mk (f := f)) 2 = .pv (.int .i64 (i : Int))) (g8 : fk (Fk.mk (f := f)) 8 = .ptr q 0) (g9 : fk (Fk.mk (f := f)) 9 = .ptr pid (a * 8))
    (g59 : fk (Fk.mk (f := f)) 59 = .pv (.int .i64 4)) (hk : c.k = 4) (hl : c.l = [x0, x1]) (hkv : kv = .slt [.int .i64 (k0 : Int), .int .i64 (k1 : Int)] tok) (R0 : RowOk E s x0) (t0 : Tree P x0 k0) (R1 : RowOk E s x1) (t1 : Tree P x1 k1) : X E (app rowB .skip) ⟨TL 206 f, h2⟩ (inB 0 (thenQ (RowM B tid pid eid P kvs s h1 es1 q a i c) Q)) := by
  unfold rowB
  have hd7 : (cellsT P kvs).drop (a * 8 + 7) = kv :: r9 := by rw [← List.drop_drop, hcell]; simp [coreV]
  have hd1 : (cellsT P kvs).drop (a * 8 + 1) = .pv (.int .u64 c.s0) :: .pv (.int .u64 c.s1) :: .pv (.int .u64 c.s2) :: .pv (.int .u64 c.s3) :: .pv (.int .i64 c.n) :: .pv (.sl (c.l.map encC)) :: kv :: r9 := by rw [← List.drop_drop, hcell]; simp [coreV]
  have hbA : a * 8 + 7 + 1 ≤ P.length * 8 := by omega
  have hbB : a * 8 + 7 < P.length * 8 := by omega
  have hbC : a * 8 + 8 ≤ P.length * 8 := by omega
  have hbD : a * 8 + 1 + 4 ≤ P.length * 8 := by omega
  have hbE : a * 8 + 5 ≤ P.length * 8 := by omega
  have hbF : a * 8 + 4 < P.length * 8 := by omega
  have hls := encB_len s
  obtain ⟨tt, ht⟩ := O.T.t
  obtain ⟨tp, hp⟩ := O.T.p
  subst hkv
  have hrow : rowS s c i = orP (orP none' (rowS s x0 i)) (rowS s x1 i) := by rw [rowS_eq, hk, hl]; simp [rowS.rowAt]
  (repeat' first
    | apply X.retS
    | apply X.skipS
    | apply X.skipB
    | apply X.skipL
    | (apply X.exitS; first | apply X.here | (refine X.out (by decide) ?_; apply X.here))
    | apply X.blockS
    | (apply X.condQ rfl; (focus (simp only [sub, subO, subL, subM, sub3, sub2, fk_some, fk_none, fk_arg0, fk_argS, fk_argN, fk_map0, fk_mapS, fk_mapN, reduceIte, Nat.reduceEqDiff, Nat.reduceAdd, g0, g1, g2, g8, g9, g59]; with_reducible rfl)); all_goals (intro hbr; first | exact absurd hbr (by decide) | ((try rw [hbr]); (try simp at hbr))))
    | apply X.stepZ
    | (apply X.stepQ rfl; (focus (simp only [sub, subO, subL, subM, sub3, sub2, fk_some, fk_none, fk_arg0, fk_argS, fk_argN, fk_map0, fk_mapS, fk_mapN, reduceIte, Nat.reduceEqDiff, Nat.reduceAdd, g0, g1, g2, g8, g9, g59]; with_reducible rfl)); (focus (simp [-getElem?_pos, ht, hp, hcl, hd7, hd1, hbA, hbB, hbC, hbD, hbE, hbF, hls]; with_reducible (first | rfl | exact ⟨rfl, rfl⟩))))
    | (apply X.stepNQ rfl; (focus (simp only [sub, subO, subL, subM, sub3, sub2, fk_some, fk_none, fk_arg0, fk_argS, fk_argN, fk_map0, fk_mapS, fk_mapN, reduceIte, Nat.reduceEqDiff, Nat.reduceAdd, g0, g1, g2, g8, g9, g59]; with_reducible rfl)))
    | ((first | apply X.stepGtQ rfl | apply X.stepGfQ rfl); (focus (simp only [sub, subO, subL, subM, sub3, sub2, fk_some, fk_none, fk_arg0, fk_argS, fk_argN, fk_map0, fk_mapS, fk_mapN, reduceIte, Nat.reduceEqDiff, Nat.reduceAdd, g0, g1, g2, g8, g9, g59]; with_reducible rfl)); all_goals (intro hbr; first | exact absurd hbr (by decide) | ((try rw [hbr]); (try simp at hbr))))
    | (apply X.draw0; (focus rfl))
    | (apply X.drawH0; (focus rfl))
    | apply XD.nil
    | (apply XD.calmQ rfl rfl; (focus (simp only [sub, subO, subL, subM, sub3, sub2, fk_some, fk_none, fk_arg0, fk_argS, fk_argN, fk_map0, fk_mapS, fk_mapN, reduceIte, Nat.reduceEqDiff, Nat.reduceAdd, g0, g1, g2, g8, g9, g59]; with_reducible rfl)); (focus (simp [-getElem?_pos, ht, hp, hcl, hd7, hd1, hbA, hbB, hbC, hbD, hbE, hbF, hls]; with_reducible (first | rfl | exact ⟨rfl, rfl⟩))))
    | (apply XD.callQ rfl; (focus (simp only [sub, subO, subL, subM, sub3, sub2, fk_some, fk_none, fk_arg0, fk_argS, fk_argN, fk_map0, fk_mapS, fk_mapN, reduceIte, Nat.reduceEqDiff, Nat.reduceAdd, g0, g1, g2, g8, g9, g59]; simp; with_reducible rfl)); (focus (simp; with_reducible rfl)); (focus (simp [-getElem?_pos, ht, hp, hcl, hd7, hd1, hbA, hbB, hbC, hbD, hbE, hbF, hls]; done)); (focus (simp [-getElem?_pos, ht, hp, hcl, hd7, hd1, hbA, hbB, hbC, hbD, hbE, hbF, hls]; with_reducible rfl)))
    | (apply XD.stepNQ rfl; (focus (simp only [sub, subO, subL, subM, sub3, sub2, fk_some, fk_none, fk_arg0, fk_argS, fk_argN, fk_map0, fk_mapS, fk_mapN, reduceIte, Nat.reduceEqDiff, Nat.reduceAdd, g0, g1, g2, g8, g9, g59]; with_reducible rfl)))
    | ((first | apply XD.stepGtQ rfl | apply XD.stepGfQ rfl); (focus (simp only [sub, subO, subL, subM, sub3, sub2, fk_some, fk_none, fk_arg0, fk_argS, fk_argN, fk_map0, fk_mapS, fk_mapN, reduceIte, Nat.reduceEqDiff, Nat.reduceAdd, g0, g1, g2, g8, g9, g59]; with_reducible rfl)); all_goals (intro hbr; first | exact absurd hbr (by decide) | ((try rw [hbr]); (try simp at hbr))))
    | (apply XD.loudQ rfl; (focus (simp only [sub, subO, subL, subM, sub3, sub2, fk_some, fk_none, fk_arg0, fk_argS, fk_argN, fk_map0, fk_mapS, fk_mapN, reduceIte, Nat.reduceEqDiff, Nat.reduceAdd, g0, g1, g2, g8, g9, g59]; with_reducible rfl)); (focus (simp; with_reducible rfl)); (focus (simp [-getElem?_pos, ht, hp, hcl, hd7, hd1, hbA, hbB, hbC, hbD, hbE, hbF, hls]; with_reducible (first | rfl | exact ⟨rfl, rfl⟩))); (focus (simp; done)); (focus (simp [-getElem?_pos, ht, hp, hcl, hd7, hd1, hbA, hbB, hbC, hbD, hbE, hbF, hls]; with_reducible rfl))))
  refine X.callRQ (P := _) rfl (by simp only [sub, subO, subL, subM, sub3, sub2, fk_some, fk_none, fk_arg0, fk_argS, fk_argN, fk_map0, fk_mapS, fk_mapN, reduceIte, Nat.reduceEqDiff, Nat.reduceAdd, g0, g2, g9]; all_goals (first | with_reducible rfl | (simp <;> with_reducible rfl))) HH.row.raw (by simp [pures]) (O.row R0 t0 hi) ?_
  rintro v h3 ⟨q3, es3, rfl, O3, S3, hne3, _⟩
  (repeat' first
    | apply X.retS
    | apply X.skipS
    | apply X.skipB
    | apply X.skipL
    | (apply X.exitS; first | apply X.here | (refine X.out (by decide) ?_; apply X.here))
    | apply X.blockS
    | (apply X.condQ rfl; (focus (simp only [sub, subO, subL, subM, sub3, sub2, fk_some, fk_none, fk_arg0, fk_argS, fk_argN, fk_map0, fk_mapS, fk_mapN, reduceIte, Nat.reduceEqDiff, Nat.reduceAdd, g0, g1, g2, g8, g9, g59]; with_reducible rfl)); all_goals (intro hbr; first | exact absurd hbr (by decide) | ((try rw [hbr]); (try simp at hbr))))
    | apply X.stepZ
    | (apply X.stepQ rfl; (focus (simp only [sub, subO, subL, subM, sub3, sub2, fk_some, fk_none, fk_arg0, fk_argS, fk_argN, fk_map0, fk_mapS, fk_mapN, reduceIte, Nat.reduceEqDiff, Nat.reduceAdd, g0, g1, g2, g8, g9, g59]; with_reducible rfl)); (focus (simp [-getElem?_pos]; with_reducible (first | rfl | exact ⟨rfl, rfl⟩))))
    | (apply X.stepNQ rfl; (focus (simp only [sub, subO, subL, subM, sub3, sub2, fk_some, fk_none, fk_arg0, fk_argS, fk_argN, fk_map0, fk_mapS, fk_mapN, reduceIte, Nat.reduceEqDiff, Nat.reduceAdd, g0, g1, g2, g8, g9, g59]; with_reducible rfl)))
    | ((first | apply X.stepGtQ rfl | apply X.stepGfQ rfl); (focus (simp only [sub, subO, subL, subM, sub3, sub2, fk_some, fk_none, fk_arg0, fk_argS, fk_argN, fk_map0, fk_mapS, fk_mapN, reduceIte, Nat.reduceEqDiff, Nat.reduceAdd, g0, g1, g2, g8, g9, g59]; with_reducible rfl)); all_goals (intro hbr; first | exact absurd hbr (by decide) | ((try rw [hbr]); (try simp at hbr))))
    | (apply X.draw0; (focus rfl))
    | (apply X.drawH0; (focus rfl))
    | apply XD.nil
    | (apply XD.calmQ rfl rfl; (focus (simp only [sub, subO, subL, subM, sub3, sub2, fk_some, fk_none, fk_arg0, fk_argS, fk_argN, fk_map0, fk_mapS, fk_mapN, reduceIte, Nat.reduceEqDiff, Nat.reduceAdd, g0, g1, g2, g8, g9, g59]; with_reducible rfl)); (focus (simp [-getElem?_pos]; with_reducible (first | rfl | exact ⟨rfl, rfl⟩))))
    | (apply XD.callQ rfl; (focus (simp only [sub, subO, subL, subM, sub3, sub2, fk_some, fk_none, fk_arg0, fk_argS, fk_argN, fk_map0, fk_mapS, fk_mapN, reduceIte, Nat.reduceEqDiff, Nat.reduceAdd, g0, g1, g2, g8, g9, g59]; simp; with_reducible rfl)); (focus (simp; with_reducible rfl)); (focus (simp [-getElem?_pos]; done)); (focus (simp [-getElem?_pos]; with_reducible rfl)))
    | (apply XD.stepNQ rfl; (focus (simp only [sub, subO, subL, subM, sub3, sub2, fk_some, fk_none, fk_arg0, fk_argS, fk_argN, fk_map0, fk_mapS, fk_mapN, reduceIte, Nat.reduceEqDiff, Nat.reduceAdd, g0, g1, g2, g8, g9, g59]; with_reducible rfl)))
    | ((first | apply XD.stepGtQ rfl | apply XD.stepGfQ rfl); (focus (simp only [sub, subO, subL, subM, sub3, sub2, fk_some, fk_none, fk_arg0, fk_argS, fk_argN, fk_map0, fk_mapS, fk_mapN, reduceIte, Nat.reduceEqDiff, Nat.reduceAdd, g0, g1, g2, g8, g9, g59]; with_reducible rfl)); all_goals (intro hbr; first | exact absurd hbr (by decide) | ((try rw [hbr]); (try simp at hbr))))
    | (apply XD.loudQ rfl; (focus (simp only [sub, subO, subL, subM, sub3, sub2, fk_some, fk_none, fk_arg0, fk_argS, fk_argN, fk_map0, fk_mapS, fk_mapN, reduceIte, Nat.reduceEqDiff, Nat.reduceAdd, g0, g1, g2, g8, g9, g59]; with_reducible rfl)); (focus (simp; with_reducible rfl)); (focus (simp [-getElem?_pos]; with_reducible (first | rfl | exact ⟨rfl, rfl⟩))); (focus (simp; done)); (focus (simp [-getElem?_pos]; with_reducible rfl))))
  refine X.callRQ (P := _) rfl (by simp only [sub, subO, subL, subM, sub3, sub2, fk_some, fk_none, fk_arg0, fk_argS, fk_argN, fk_map0, fk_mapS, fk_mapN, reduceIte, Nat.reduceEqDiff, Nat.reduceAdd, g0, g2, g8, g9]; all_goals (first | with_reducible rfl | (simp <;> with_reducible rfl))) HH.p.or.raw (by simp [pures]) (O3.or HH.p S3 hne3) ?_
  rintro v h4 ⟨rfl, O4, _⟩
  obtain ⟨tt4, ht4⟩ := O4.T.t
  obtain ⟨tp4, hp4⟩ := O4.T.p
  (repeat' first
    | apply X.retS
    | apply X.skipS
    | apply X.skipB
    | apply X.skipL
    | (apply X.exitS; first | apply X.here | (refine X.out (by decide) ?_; apply X.here))
    | apply X.blockS
    | (apply X.condQ rfl; (focus (simp only [sub, subO, subL, subM, sub3, sub2, fk_some, fk_none, fk_arg0, fk_argS, fk_argN, fk_map0, fk_mapS, fk_mapN, reduceIte, Nat.reduceEqDiff, Nat.reduceAdd, g0, g1, g2, g8, g9, g59]; with_reducible rfl)); all_goals (intro hbr; first | exact absurd hbr (by decide) | ((try rw [hbr]); (try simp at hbr))))
    | apply X.stepZ
    | (apply X.stepQ rfl; (focus (simp only [sub, subO, subL, subM, sub3, sub2, fk_some, fk_none, fk_arg0, fk_argS, fk_argN, fk_map0, fk_mapS, fk_mapN, reduceIte, Nat.reduceEqDiff, Nat.reduceAdd, g0, g1, g2, g8, g9, g59]; with_reducible rfl)); (focus (simp [-getElem?_pos, ht4, hp4, hcl, hd7, hd1, hbA, hbB, hbC, hbD, hbE, hbF, hls]; with_reducible (first | rfl | exact ⟨rfl, rfl⟩))))
    | (apply X.stepNQ rfl; (focus (simp only [sub, subO, subL, subM, sub3, sub2, fk_some, fk_none, fk_arg0, fk_argS, fk_argN, fk_map0, fk_mapS, fk_mapN, reduceIte, Nat.reduceEqDiff, Nat.reduceAdd, g0, g1, g2, g8, g9, g59]; with_reducible rfl)))
    | ((first | apply X.stepGtQ rfl | apply X.stepGfQ rfl); (focus (simp only [sub, subO, subL, subM, sub3, sub2, fk_some, fk_none, fk_arg0, fk_argS, fk_argN, fk_map0, fk_mapS, fk_mapN, reduceIte, Nat.reduceEqDiff, Nat.reduceAdd, g0, g1, g2, g8, g9, g59]; with_reducible rfl)); all_goals (intro hbr; first | exact absurd hbr (by decide) | ((try rw [hbr]); (try simp at hbr))))
    | (apply X.draw0; (focus rfl))
    | (apply X.drawH0; (focus rfl))
    | apply XD.nil
    | (apply XD.calmQ rfl rfl; (focus (simp only [sub, subO, subL, subM, sub3, sub2, fk_some, fk_none, fk_arg0, fk_argS, fk_argN, fk_map0, fk_mapS, fk_mapN, reduceIte, Nat.reduceEqDiff, Nat.reduceAdd, g0, g1, g2, g8, g9, g59]; with_reducible rfl)); (focus (simp [-getElem?_pos, ht4, hp4, hcl, hd7, hd1, hbA, hbB, hbC, hbD, hbE, hbF, hls]; with_reducible (first | rfl | exact ⟨rfl, rfl⟩))))
    | (apply XD.callQ rfl; (focus (simp only [sub, subO, subL, subM, sub3, sub2, fk_some, fk_none, fk_arg0, fk_argS, fk_argN, fk_map0, fk_mapS, fk_mapN, reduceIte, Nat.reduceEqDiff, Nat.reduceAdd, g0, g1, g2, g8, g9, g59]; simp; with_reducible rfl)); (focus (simp; with_reducible rfl)); (focus (simp [-getElem?_pos, ht4, hp4, hcl, hd7, hd1, hbA, hbB, hbC, hbD, hbE, hbF, hls]; done)); (focus (simp [-getElem?_pos, ht4, hp4, hcl, hd7, hd1, hbA, hbB, hbC, hbD, hbE, hbF, hls]; with_reducible rfl)))
    | (apply XD.stepNQ rfl; (focus (simp only [sub, subO, subL, subM, sub3, sub2, fk_some, fk_none, fk_arg0, fk_argS, fk_argN, fk_map0, fk_mapS, fk_mapN, reduceIte, Nat.reduceEqDiff, Nat.reduceAdd, g0, g1, g2, g8, g9, g59]; with_reducible rfl)))
    | ((first | apply XD.stepGtQ rfl | apply XD.stepGfQ rfl); (focus (simp only [sub, subO, subL, subM, sub3, sub2, fk_some, fk_none, fk_arg0, fk_argS, fk_argN, fk_map0, fk_mapS, fk_mapN, reduceIte, Nat.reduceEqDiff, Nat.reduceAdd, g0, g1, g2, g8, g9, g59]; with_reducible rfl)); all_goals (intro hbr; first | exact absurd hbr (by decide) | ((try rw [hbr]); (try simp at hbr))))
    | (apply XD.loudQ rfl; (focus (simp only [sub, subO, subL, subM, sub3, sub2, fk_some, fk_none, fk_arg0, fk_argS, fk_argN, fk_map0, fk_mapS, fk_mapN, reduceIte, Nat.reduceEqDiff, Nat.reduceAdd, g0, g1, g2, g8, g9, g59]; with_reducible rfl)); (focus (simp; with_reducible rfl)); (focus (simp [-getElem?_pos, ht4, hp4, hcl, hd7, hd1, hbA, hbB, hbC, hbD, hbE, hbF, hls]; with_reducible (first | rfl | exact ⟨rfl, rfl⟩))); (focus (simp; done)); (focus (simp [-getElem?_pos, ht4, hp4, hcl, hd7, hd1, hbA, hbB, hbC, hbD, hbE, hbF, hls]; with_reducible rfl))))
  refine X.callRQ (P := _) rfl (by simp only [sub, subO, subL, subM, sub3, sub2, fk_some, fk_none, fk_arg0, fk_argS, fk_argN, fk_map0, fk_mapS, fk_mapN, reduceIte, Nat.reduceEqDiff, Nat.reduceAdd, g0, g2, g9]; all_goals (first | with_reducible rfl | (simp <;> with_reducible rfl))) HH.row.raw (by simp [pures]) (O4.row R1 t1 hi) ?_
  rintro v h5 ⟨q5, es5, rfl, O5, S5, hne5, _⟩
  (repeat' first
    | apply X.retS
    | apply X.skipS
    | apply X.skipB
    | apply X.skipL
    | (apply X.exitS; first | apply X.here | (refine X.out (by decide) ?_; apply X.here))
    | apply X.blockS
    | (apply X.condQ rfl; (focus (simp only [sub, subO, subL, subM, sub3, sub2, fk_some, fk_none, fk_arg0, fk_argS, fk_argN, fk_map0, fk_mapS, fk_mapN, reduceIte, Nat.reduceEqDiff, Nat.reduceAdd, g0, g1, g2, g8, g9, g59]; with_reducible rfl)); all_goals (intro hbr; first | exact absurd hbr (by decide) | ((try rw [hbr]); (try simp at hbr))))
    | apply X.stepZ
    | (apply X.stepQ rfl; (focus (simp only [sub, subO, subL, subM, sub3, sub2, fk_some, fk_none, fk_arg0, fk_argS, fk_argN, fk_map0, fk_mapS, fk_mapN, reduceIte, Nat.reduceEqDiff, Nat.reduceAdd, g0, g1, g2, g8, g9, g59]; with_reducible rfl)); (focus (simp [-getElem?_pos]; with_reducible (first | rfl | exact ⟨rfl, rfl⟩))))
    | (apply X.stepNQ rfl; (focus (simp only [sub, subO, subL, subM, sub3, sub2, fk_some, fk_none, fk_arg0, fk_argS, fk_argN, fk_map0, fk_mapS, fk_mapN, reduceIte, Nat.reduceEqDiff, Nat.reduceAdd, g0, g1, g2, g8, g9, g59]; with_reducible rfl)))
    | ((first | apply X.stepGtQ rfl | apply X.stepGfQ rfl); (focus (simp only [sub, subO, subL, subM, sub3, sub2, fk_some, fk_none, fk_arg0, fk_argS, fk_argN, fk_map0, fk_mapS, fk_mapN, reduceIte, Nat.reduceEqDiff, Nat.reduceAdd, g0, g1, g2, g8, g9, g59]; with_reducible rfl)); all_goals (intro hbr; first | exact absurd hbr (by decide) | ((try rw [hbr]); (try simp at hbr))))
    | (apply X.draw0; (focus rfl))
    | (apply X.drawH0; (focus rfl))
    | apply XD.nil
    | (apply XD.calmQ rfl rfl; (focus (simp only [sub, subO, subL, subM, sub3, sub2, fk_some, fk_none, fk_arg0, fk_argS, fk_argN, fk_map0, fk_mapS, fk_mapN, reduceIte, Nat.reduceEqDiff, Nat.reduceAdd, g0, g1, g2, g8, g9, g59]; with_reducible rfl)); (focus (simp [-getElem?_pos]; with_reducible (first | rfl | exact ⟨rfl, rfl⟩))))
    | (apply XD.callQ rfl; (focus (simp only [sub, subO, subL, subM, sub3, sub2, fk_some, fk_none, fk_arg0, fk_argS, fk_argN, fk_map0, fk_mapS, fk_mapN, reduceIte, Nat.reduceEqDiff, Nat.reduceAdd, g0, g1, g2, g8, g9, g59]; simp; with_reducible rfl)); (focus (simp; with_reducible rfl)); (focus (simp [-getElem?_pos]; done)); (focus (simp [-getElem?_pos]; with_reducible rfl)))
    | (apply XD.stepNQ rfl; (focus (simp only [sub, subO, subL, subM, sub3, sub2, fk_some, fk_none, fk_arg0, fk_argS, fk_argN, fk_map0, fk_mapS, fk_mapN, reduceIte, Nat.reduceEqDiff, Nat.reduceAdd, g0, g1, g2, g8, g9, g59]; with_reducible rfl)))
    | ((first | apply XD.stepGtQ rfl | apply XD.stepGfQ rfl); (focus (simp only [sub, subO, subL, subM, sub3, sub2, fk_some, fk_none, fk_arg0, fk_argS, fk_argN, fk_map0, fk_mapS, fk_mapN, reduceIte, Nat.reduceEqDiff, Nat.reduceAdd, g0, g1, g2, g8, g9, g59]; with_reducible rfl)); all_goals (intro hbr; first | exact absurd hbr (by decide) | ((try rw [hbr]); (try simp at hbr))))
    | (apply XD.loudQ rfl; (focus (simp only [sub, subO, subL, subM, sub3, sub2, fk_some, fk_none, fk_arg0, fk_argS, fk_argN, fk_map0, fk_mapS, fk_mapN, reduceIte, Nat.reduceEqDiff, Nat.reduceAdd, g0, g1, g2, g8, g9, g59]; with_reducible rfl)); (focus (simp; with_reducible rfl)); (focus (simp [-getElem?_pos]; with_reducible (first | rfl | exact ⟨rfl, rfl⟩))); (focus (simp; done)); (focus (simp [-getElem?_pos]; with_reducible rfl))))
  refine X.callRQ (P := _) rfl (by simp only [sub, subO, subL, subM, sub3, sub2, fk_some, fk_none, fk_arg0, fk_argS, fk_argN, fk_map0, fk_mapS, fk_mapN, reduceIte, Nat.reduceEqDiff, Nat.reduceAdd, g0, g2, g8, g9]; all_goals (first | with_reducible rfl | (simp <;> with_reducible rfl))) HH.p.or.raw (by simp [pures]) (O5.or HH.p S5 hne5) ?_
  rintro v h6 ⟨rfl, O6, _⟩
  (repeat' first
    | apply X.retS
    | apply X.skipS
    | apply X.skipB
    | apply X.skipL
    | (apply X.exitS; first | apply X.here | (refine X.out (by decide) ?_; apply X.here))
    | apply X.blockS
    | (apply X.condQ rfl; (focus (simp only [sub, subO, subL, subM, sub3, sub2, fk_some, fk_none, fk_arg0, fk_argS, fk_argN, fk_map0, fk_mapS, fk_mapN, reduceIte, Nat.reduceEqDiff, Nat.reduceAdd, g0, g1, g2, g8, g9, g59]; with_reducible rfl)); all_goals (intro hbr; first | exact absurd hbr (by decide) | ((try rw [hbr]); (try simp at hbr))))
    | apply X.stepZ
    | (apply X.stepQ rfl; (focus (simp only [sub, subO, subL, subM, sub3, sub2, fk_some, fk_none, fk_arg0, fk_argS, fk_argN, fk_map0, fk_mapS, fk_mapN, reduceIte, Nat.reduceEqDiff, Nat.reduceAdd, g0, g1, g2, g8, g9, g59]; with_reducible rfl)); (focus (simp [-getElem?_pos]; with_reducible (first | rfl | exact ⟨rfl, rfl⟩))))
    | (apply X.stepNQ rfl; (focus (simp only [sub, subO, subL, subM, sub3, sub2, fk_some, fk_none, fk_arg0, fk_argS, fk_argN, fk_map0, fk_mapS, fk_mapN, reduceIte, Nat.reduceEqDiff, Nat.reduceAdd, g0, g1, g2, g8, g9, g59]; with_reducible rfl)))
    | ((first | apply X.stepGtQ rfl | apply X.stepGfQ rfl); (focus (simp only [sub, subO, subL, subM, sub3, sub2, fk_some, fk_none, fk_arg0, fk_argS, fk_argN, fk_map0, fk_mapS, fk_mapN, reduceIte, Nat.reduceEqDiff, Nat.reduceAdd, g0, g1, g2, g8, g9, g59]; with_reducible rfl)); all_goals (intro hbr; first | exact absurd hbr (by decide) | ((try rw [hbr]); (try simp at hbr))))
    | (apply X.draw0; (focus rfl))
    | (apply X.drawH0; (focus rfl))
    | apply XD.nil
    | (apply XD.calmQ rfl rfl; (focus (simp only [sub, subO, subL, subM, sub3, sub2, fk_some, fk_none, fk_arg0, fk_argS, fk_argN, fk_map0, fk_mapS, fk_mapN, reduceIte, Nat.reduceEqDiff, Nat.reduceAdd, g0, g1, g2, g8, g9, g59]; with_reducible rfl)); (focus (simp [-getElem?_pos]; with_reducible (first | rfl | exact ⟨rfl, rfl⟩))))
    | (apply XD.callQ rfl; (focus (simp only [sub, subO, subL, subM, sub3, sub2, fk_some, fk_none, fk_arg0, fk_argS, fk_argN, fk_map0, fk_mapS, fk_mapN, reduceIte, Nat.reduceEqDiff, Nat.reduceAdd, g0, g1, g2, g8, g9, g59]; simp; with_reducible rfl)); (focus (simp; with_reducible rfl)); (focus (simp [-getElem?_pos]; done)); (focus (simp [-getElem?_pos]; with_reducible rfl)))
    | (apply XD.stepNQ rfl; (focus (simp only [sub, subO, subL, subM, sub3, sub2, fk_some, fk_none, fk_arg0, fk_argS, fk_argN, fk_map0, fk_mapS, fk_mapN, reduceIte, Nat.reduceEqDiff, Nat.reduceAdd, g0, g1, g2, g8, g9, g59]; with_reducible rfl)))
    | ((first | apply XD.stepGtQ rfl | apply XD.stepGfQ rfl); (focus (simp only [sub, subO, subL, subM, sub3, sub2, fk_some, fk_none, fk_arg0, fk_argS, fk_argN, fk_map0, fk_mapS, fk_mapN, reduceIte, Nat.reduceEqDiff, Nat.reduceAdd, g0, g1, g2, g8, g9, g59]; with_reducible rfl)); all_goals (intro hbr; first | exact absurd hbr (by decide) | ((try rw [hbr]); (try simp at hbr))))
    | (apply XD.loudQ rfl; (focus (simp only [sub, subO, subL, subM, sub3, sub2, fk_some, fk_none, fk_arg0, fk_argS, fk_argN, fk_map0, fk_mapS, fk_mapN, reduceIte, Nat.reduceEqDiff, Nat.reduceAdd, g0, g1, g2, g8, g9, g59]; with_reducible rfl)); (focus (simp; with_reducible rfl)); (focus (simp [-getElem?_pos]; with_reducible (first | rfl | exact ⟨rfl, rfl⟩))); (focus (simp; done)); (focus (simp [-getElem?_pos]; with_reducible rfl))))
  all_goals exact ⟨h6, es5, _, by rw [hrow]; exact O6, by simp [g0, g1, g2, g8], rfl⟩
set_option maxHeartbeats 4000000 in
set_option maxRecDepth 100000 in
theorem row_k6 (HH : HasW E) (hs : s.length ≤ 256) (hb : ∀ x ∈ s, 0 ≤ x ∧ x < 256) (hi : i ≤ s.length) (haP : a < P.length) (hcl : (cellsT P kvs).length = P.length * 8) (hcell : (cellsT P kvs).drop (a * 8) = coreV c ++ kv :: r9)
    (O : Own B tid pid eid P kvs s h1 es1 q h2 es2 none') (g0 : fk (Fk.mk (f := f)) 0 = .ptr tid 0) (g1 : fk (Fk.mk (f := f)) 1 = .pv (.int .i64 (a : Int))) (g2 : fk (Fk.mk (f := f)) 2 = .pv (.int .i64 (i : Int))) (g8 : fk (Fk.mk (f := f)) 8 = .ptr q 0) (g9 : fk (Fk.mk (f := f)) 9 = .ptr pid (a * 8))
    (g59 : fk (Fk.mk (f := f)) 59 = .pv (.int .i64 6)) (hk : c.k = 6) (hl : c.l = [x0]) (hkv : kv = .slt [.int .i64 (k0 : Int)] tok) (R0 : RowOk E s x0) (t0 : Tree P x0 k0) : X E (app rowB .skip) ⟨TL 206 f, h2⟩ (inB 0 (thenQ (RowM B tid pid eid P kvs s h1 es1 q a i c) Q)) := by
  unfold rowB
  have hd7 : (cellsT P kvs).drop (a * 8 + 7) = kv :: r9 := by rw [← List.drop_drop, hcell]; simp [coreV]
  have hd1 : (cellsT P kvs).drop (a * 8 + 1) = .pv (.int .u64 c.s0) :: .pv (.int .u64 c.s1) :: .pv (.int .u64 c.s2) :: .pv (.int .u64 c.s3) :: .pv (.int .i64 c.n) :: .pv (.sl (c.l.map encC)) :: kv :: r9 := by rw [← List.drop_drop, hcell]; simp [coreV]
  have hbA : a * 8 + 7 + 1 ≤ P.length * 8 := by omega
  have hbB : a * 8 + 7 < P.length * 8 := by omega
  have hbC : a * 8 + 8 ≤ P.length * 8 := by omega
  have hbD : a * 8 + 1 + 4 ≤ P.length * 8 := by omega
  have hbE : a * 8 + 5 ≤ P.length * 8 := by omega
  have hbF : a * 8 + 4 < P.length * 8 := by omega
  have hls := encB_len s
  obtain ⟨tt, ht⟩ := O.T.t
  obtain ⟨tp, hp⟩ := O.T.p
  subst hkv
  have hrow : rowS s c i = orP none' (rowS s x0 i) := by rw [rowS_eq, hk, hl]; simp [rowS.rowAt]
  (repeat' first
    | apply X.retS
    | apply X.skipS
    | apply X.skipB
    | apply X.skipL
    | (apply X.exitS; first | apply X.here | (refine X.out (by decide) ?_; apply X.here))
    | apply X.blockS
    | (apply X.condQ rfl; (focus (simp only [sub, subO, subL, subM, sub3, sub2, fk_some, fk_none, fk_arg0, fk_argS, fk_argN, fk_map0, fk_mapS, fk_mapN, reduceIte, Nat.reduceEqDiff, Nat.reduceAdd, g0, g1, g2, g8, g9, g59]; with_reducible rfl)); all_goals (intro hbr; first | exact absurd hbr (by decide) | ((try rw [hbr]); (try simp at hbr))))
    | apply X.stepZ
    | (apply X.stepQ rfl; (focus (simp only [sub, subO, subL, subM, sub3, sub2, fk_some, fk_none, fk_arg0, fk_argS, fk_argN, fk_map0, fk_mapS, fk_mapN, reduceIte, Nat.reduceEqDiff, Nat.reduceAdd, g0, g1, g2, g8, g9, g59]; with_reducible rfl)); (focus (simp [-getElem?_pos, ht, hp, hcl, hd7, hd1, hbA, hbB, hbC, hbD, hbE, hbF, hls]; with_reducible (first | rfl | exact ⟨rfl, rfl⟩))))
    | (apply X.stepNQ rfl; (focus (simp only [sub, subO, subL, subM, sub3, sub2, fk_some, fk_none, fk_arg0, fk_argS, fk_argN, fk_map0, fk_mapS, fk_mapN, reduceIte, Nat.reduceEqDiff, Nat.reduceAdd, g0, g1, g2, g8, g9, g59]; with_reducible rfl)))
    | ((first | apply X.stepGtQ rfl | apply X.stepGfQ rfl); (focus (simp only [sub, subO, subL, subM, sub3, sub2, fk_some, fk_none, fk_arg0, fk_argS, fk_argN, fk_map0, fk_mapS, fk_mapN, reduceIte, Nat.reduceEqDiff, Nat.reduceAdd, g0, g1, g2, g8, g9, g59]; with_reducible rfl)); all_goals (intro hbr; first | exact absurd hbr (by decide) | ((try rw [hbr]); (try simp at hbr))))
    | (apply X.draw0; (focus rfl))
    | (apply X.drawH0; (focus rfl))
    | apply XD.nil
    | (apply XD.calmQ rfl rfl; (focus (simp only [sub, subO, subL, subM, sub3, sub2, fk_some, fk_none, fk_arg0, fk_argS, fk_argN, fk_map0, fk_mapS, fk_mapN, reduceIte, Nat.reduceEqDiff, Nat.reduceAdd, g0, g1, g2, g8, g9, g59]; with_reducible rfl)); (focus (simp [-getElem?_pos, ht, hp, hcl, hd7, hd1, hbA, hbB, hbC, hbD, hbE, hbF, hls]; with_reducible (first | rfl | exact ⟨rfl, rfl⟩))))
    | (apply XD.callQ rfl; (focus (simp only [sub, subO, subL, subM, sub3, sub2, fk_some, fk_none, fk_arg0, fk_argS, fk_argN, fk_map0, fk_mapS, fk_mapN, reduceIte, Nat.reduceEqDiff, Nat.reduceAdd, g0, g1, g2, g8, g9, g59]; simp; with_reducible rfl)); (focus (simp; with_reducible rfl)); (focus (simp [-getElem?_pos, ht, hp, hcl, hd7, hd1, hbA, hbB, hbC, hbD, hbE, hbF, hls]; done)); (focus (simp [-getElem?_pos, ht, hp, hcl, hd7, hd1, hbA, hbB, hbC, hbD, hbE, hbF, hls]; with_reducible rfl)))
    | (apply XD.stepNQ rfl; (focus (simp only [sub, subO, subL, subM, sub3, sub2, fk_some, fk_none, fk_arg0, fk_argS, fk_argN, fk_map0, fk_mapS, fk_mapN, reduceIte, Nat.reduceEqDiff, Nat.reduceAdd, g0, g1, g2, g8, g9, g59]; with_reducible rfl)))
    | ((first | apply XD.stepGtQ rfl | apply XD.stepGfQ rfl); (focus (simp only [sub, subO, subL, subM, sub3, sub2, fk_some, fk_none, fk_arg0, fk_argS, fk_argN, fk_map0, fk_mapS, fk_mapN, reduceIte, Nat.reduceEqDiff, Nat.reduceAdd, g0, g1, g2, g8, g9, g59]; with_reducible rfl)); all_goals (intro hbr; first | exact absurd hbr (by decide) | ((try rw [hbr]); (try simp at hbr))))
    | (apply XD.loudQ rfl; (focus (simp only [sub, subO, subL, subM, sub3, sub2, fk_some, fk_none, fk_arg0, fk_argS, fk_argN, fk_map0, fk_mapS, fk_mapN, reduceIte, Nat.reduceEqDiff, Nat.reduceAdd, g0, g1, g2, g8, g9, g59]; with_reducible rfl)); (focus (simp; with_reducible rfl)); (focus (simp [-getElem?_pos, ht, hp, hcl, hd7, hd1, hbA, hbB, hbC, hbD, hbE, hbF, hls]; with_reducible (first | rfl | exact ⟨rfl, rfl⟩))); (focus (simp; done)); (focus (simp [-getElem?_pos, ht, hp, hcl, hd7, hd1, hbA, hbB, hbC, hbD, hbE, hbF, hls]; with_reducible rfl))))
  refine X.callRQ (P := _) rfl (by simp only [sub, subO, subL, subM, sub3, sub2, fk_some, fk_none, fk_arg0, fk_argS, fk_argN, fk_map0, fk_mapS, fk_mapN, reduceIte, Nat.reduceEqDiff, Nat.reduceAdd, g0, g2, g9]; all_goals (first | with_reducible rfl | (simp <;> with_reducible rfl))) HH.row.raw (by simp [pures]) (O.row R0 t0 hi) ?_
  rintro v h3 ⟨q3, es3, rfl, O3, S3, hne3, _⟩
  (repeat' first
    | apply X.retS
    | apply X.skipS
    | apply X.skipB
    | apply X.skipL
    | (apply X.exitS; first | apply X.here | (refine X.out (by decide) ?_; apply X.here))
    | apply X.blockS
    | (apply X.condQ rfl; (focus (simp only [sub, subO, subL, subM, sub3, sub2, fk_some, fk_none, fk_arg0, fk_argS, fk_argN, fk_map0, fk_mapS, fk_mapN, reduceIte, Nat.reduceEqDiff, Nat.reduceAdd, g0, g1, g2, g8, g9, g59]; with_reducible rfl)); all_goals (intro hbr; first | exact absurd hbr (by decide) | ((try rw [hbr]); (try simp at hbr))))
    | apply X.stepZ
    | (apply X.stepQ rfl; (focus (simp only [sub, subO, subL, subM, sub3, sub2, fk_some, fk_none, fk_arg0, fk_argS, fk_argN, fk_map0, fk_mapS, fk_mapN, reduceIte, Nat.reduceEqDiff, Nat.reduceAdd, g0, g1, g2, g8, g9, g59]; with_reducible rfl)); (focus (simp [-getElem?_pos]; with_reducible (first | rfl | exact ⟨rfl, rfl⟩))))
    | (apply X.stepNQ rfl; (focus (simp only [sub, subO, subL, subM, sub3, sub2, fk_some, fk_none, fk_arg0, fk_argS, fk_argN, fk_map0, fk_mapS, fk_mapN, reduceIte, Nat.reduceEqDiff, Nat.reduceAdd, g0, g1, g2, g8, g9, g59]; with_reducible rfl)))
    | ((first | apply X.stepGtQ rfl | apply X.stepGfQ rfl); (focus (simp only [sub, subO, subL, subM, sub3, sub2, fk_some, fk_none, fk_arg0, fk_argS, fk_argN, fk_map0, fk_mapS, fk_mapN, reduceIte, Nat.reduceEqDiff, Nat.reduceAdd, g0, g1, g2, g8, g9, g59]; with_reducible rfl)); all_goals (intro hbr; first | exact absurd hbr (by decide) | ((try rw [hbr]); (try simp at hbr))))
    | (apply X.draw0; (focus rfl))
    | (apply X.drawH0; (focus rfl))
    | apply XD.nil
    | (apply XD.calmQ rfl rfl; (focus (simp only [sub, subO, subL, subM, sub3, sub2, fk_some, fk_none, fk_arg0, fk_argS, fk_argN, fk_map0, fk_mapS, fk_mapN, reduceIte, Nat.reduceEqDiff, Nat.reduceAdd, g0, g1, g2, g8, g9, g59]; with_reducible rfl)); (focus (simp [-getElem?_pos]; with_reducible (first | rfl | exact ⟨rfl, rfl⟩))))
    | (apply XD.callQ rfl; (focus (simp only [sub, subO, subL, subM, sub3, sub2, fk_some, fk_none, fk_arg0, fk_argS, fk_argN, fk_map0, fk_mapS, fk_mapN, reduceIte, Nat.reduceEqDiff, Nat.reduceAdd, g0, g1, g2, g8, g9, g59]; simp; with_reducible rfl)); (focus (simp; with_reducible rfl)); (focus (simp [-getElem?_pos]; done)); (focus (simp [-getElem?_pos]; with_reducible rfl)))
    | (apply XD.stepNQ rfl; (focus (simp only [sub, subO, subL, subM, sub3, sub2, fk_some, fk_none, fk_arg0, fk_argS, fk_argN, fk_map0, fk_mapS, fk_mapN, reduceIte, Nat.reduceEqDiff, Nat.reduceAdd, g0, g1, g2, g8, g9, g59]; with_reducible rfl)))
    | ((first | apply XD.stepGtQ rfl | apply XD.stepGfQ rfl); (focus (simp only [sub, subO, subL, subM, sub3, sub2, fk_some, fk_none, fk_arg0, fk_argS, fk_argN, fk_map0, fk_mapS, fk_mapN, reduceIte, Nat.reduceEqDiff, Nat.reduceAdd, g0, g1, g2, g8, g9, g59]; with_reducible rfl)); all_goals (intro hbr; first | exact absurd hbr (by decide) | ((try rw [hbr]); (try simp at hbr))))
    | (apply XD.loudQ rfl; (focus (simp only [sub, subO, subL, subM, sub3, sub2, fk_some, fk_none, fk_arg0, fk_argS, fk_argN, fk_map0, fk_mapS, fk_mapN, reduceIte, Nat.reduceEqDiff, Nat.reduceAdd, g0, g1, g2, g8, g9, g59]; with_reducible rfl)); (focus (simp; with_reducible rfl)); (focus (simp [-getElem?_pos]; with_reducible (first | rfl | exact ⟨rfl, rfl⟩))); (focus (simp; done)); (focus (simp [-getElem?_pos]; with_reducible rfl))))
  refine X.callRQ (P := _) rfl (by simp only [sub, subO, subL, subM, sub3, sub2, fk_some, fk_none, fk_arg0, fk_argS, fk_argN, fk_map0, fk_mapS, fk_mapN, reduceIte, Nat.reduceEqDiff, Nat.reduceAdd, g0, g2, g8, g9]; all_goals (first | with_reducible rfl | (simp <;> with_reducible rfl))) HH.p.or.raw (by simp [pures]) (O3.or HH.p S3 hne3) ?_
  rintro v h4 ⟨rfl, O4, _⟩
  (repeat' first
    | apply X.retS
    | apply X.skipS
    | apply X.skipB
    | apply X.skipL
    | (apply X.exitS; first | apply X.here | (refine X.out (by decide) ?_; apply X.here))
    | apply X.blockS
    | (apply X.condQ rfl; (focus (simp only [sub, subO, subL, subM, sub3, sub2, fk_some, fk_none, fk_arg0, fk_argS, fk_argN, fk_map0, fk_mapS, fk_mapN, reduceIte, Nat.reduceEqDiff, Nat.reduceAdd, g0, g1, g2, g8, g9, g59]; with_reducible rfl)); all_goals (intro hbr; first | exact absurd hbr (by decide) | ((try rw [hbr]); (try simp at hbr))))
    | apply X.stepZ
    | (apply X.stepQ rfl; (focus (simp only [sub, subO, subL, subM, sub3, sub2, fk_some, fk_none, fk_arg0, fk_argS, fk_argN, fk_map0, fk_mapS, fk_mapN, reduceIte, Nat.reduceEqDiff, Nat.reduceAdd, g0, g1, g2, g8, g9, g59]; with_reducible rfl)); (focus (simp [-getElem?_pos]; with_reducible (first | rfl | exact ⟨rfl, rfl⟩))))
    | (apply X.stepNQ rfl; (focus (simp only [sub, subO, subL, subM, sub3, sub2, fk_some, fk_none, fk_arg0, fk_argS, fk_argN, fk_map0, fk_mapS, fk_mapN, reduceIte, Nat.reduceEqDiff, Nat.reduceAdd, g0, g1, g2, g8, g9, g59]; with_reducible rfl)))
    | ((first | apply X.stepGtQ rfl | apply X.stepGfQ rfl); (focus (simp only [sub, subO, subL, subM, sub3, sub2, fk_some, fk_none, fk_arg0, fk_argS, fk_argN, fk_map0, fk_mapS, fk_mapN, reduceIte, Nat.reduceEqDiff, Nat.reduceAdd, g0, g1, g2, g8, g9, g59]; with_reducible rfl)); all_goals (intro hbr; first | exact absurd hbr (by decide) | ((try rw [hbr]); (try simp at hbr))))
    | (apply X.draw0; (focus rfl))
    | (apply X.drawH0; (focus rfl))
    | apply XD.nil
    | (apply XD.calmQ rfl rfl; (focus (simp only [sub, subO, subL, subM, sub3, sub2, fk_some, fk_none, fk_arg0, fk_argS, fk_argN, fk_map0, fk_mapS, fk_mapN, reduceIte, Nat.reduceEqDiff, Nat.reduceAdd, g0, g1, g2, g8, g9, g59]; with_reducible rfl)); (focus (simp [-getElem?_pos]; with_reducible (first | rfl | exact ⟨rfl, rfl⟩))))
    | (apply XD.callQ rfl; (focus (simp only [sub, subO, subL, subM, sub3, sub2, fk_some, fk_none, fk_arg0, fk_argS, fk_argN, fk_map0, fk_mapS, fk_mapN, reduceIte, Nat.reduceEqDiff, Nat.reduceAdd, g0, g1, g2, g8, g9, g59]; simp; with_reducible rfl)); (focus (simp; with_reducible rfl)); (focus (simp [-getElem?_pos]; done)); (focus (simp [-getElem?_pos]; with_reducible rfl)))
    | (apply XD.stepNQ rfl; (focus (simp only [sub, subO, subL, subM, sub3, sub2, fk_some, fk_none, fk_arg0, fk_argS, fk_argN, fk_map0, fk_mapS, fk_mapN, reduceIte, Nat.reduceEqDiff, Nat.reduceAdd, g0, g1, g2, g8, g9, g59]; with_reducible rfl)))
    | ((first | apply XD.stepGtQ rfl | apply XD.stepGfQ rfl); (focus (simp only [sub, subO, subL, subM, sub3, sub2, fk_some, fk_none, fk_arg0, fk_argS, fk_argN, fk_map0, fk_mapS, fk_mapN, reduceIte, Nat.reduceEqDiff, Nat.reduceAdd, g0, g1, g2, g8, g9, g59]; with_reducible rfl)); all_goals (intro hbr; first | exact absurd hbr (by decide) | ((try rw [hbr]); (try simp at hbr))))
    | (apply XD.loudQ rfl; (focus (simp only [sub, subO, subL, subM, sub3, sub2, fk_some, fk_none, fk_arg0, fk_argS, fk_argN, fk_map0, fk_mapS, fk_mapN, reduceIte, Nat.reduceEqDiff, Nat.reduceAdd, g0, g1, g2, g8, g9, g59]; with_reducible rfl)); (focus (simp; with_reducible rfl)); (focus (simp [-getElem?_pos]; with_reducible (first | rfl | exact ⟨rfl, rfl⟩))); (focus (simp; done)); (focus (simp [-getElem?_pos]; with_reducible rfl))))
  all_goals exact ⟨h4, es3, _, by rw [hrow]; exact O4, by simp [g0, g1, g2, g8], rfl⟩
set_option maxHeartbeats 4000000 in
set_option maxRecDepth 100000 in
theorem row_k7 (HH : HasW E) (hs : s.length ≤ 256) (hb : ∀ x ∈ s, 0 ≤ x ∧ x < 256) (hi : i ≤ s.length) (haP : a < P.length) (hcl : (cellsT P kvs).length = P.length * 8) (hcell : (cellsT P kvs).drop (a * 8) = coreV c ++ kv :: r9)
    (O : Own B tid pid eid P kvs s h1 es1 q h2 es2 none') (g0 : fk (Fk.mk (f := f)) 0 = .ptr tid 0) (g1 : fk (Fk.mk (f := f)) 1 = .pv (.int .i64 (a : Int))) (g2 : fk (Fk.mk (f := f)) 2 = .pv (.int .i64 (i : Int))) (g8 : fk (Fk.mk (f := f)) 8 = .ptr q 0) (g9 : fk (Fk.mk (f := f)) 9 = .ptr pid (a * 8))
    (g59 : fk (Fk.mk (f := f)) 59 = .pv (.int .i64 7)) (hk : c.k = 7) (hl : c.l = [x0]) (hkv : kv = .slt [.int .i64 (k0 : Int)] tok) (R0 : RowOk E s x0) (t0 : Tree P x0 k0) : X E (app rowB .skip) ⟨TL 206 f, h2⟩ (inB 0 (thenQ (RowM B tid pid eid P kvs s h1 es1 q a i c) Q)) := by
  unfold rowB
  have hd7 : (cellsT P kvs).drop (a * 8 + 7) = kv :: r9 := by rw [← List.drop_drop, hcell]; simp [coreV]
  have hd1 : (cellsT P kvs).drop (a * 8 + 1) = .pv (.int .u64 c.s0) :: .pv (.int .u64 c.s1) :: .pv (.int .u64 c.s2) :: .pv (.int .u64 c.s3) :: .pv (.int .i64 c.n) :: .pv (.sl (c.l.map encC)) :: kv :: r9 := by rw [← List.drop_drop, hcell]; simp [coreV]
  have hbA : a * 8 + 7 + 1 ≤ P.length * 8 := by omega
  have hbB : a * 8 + 7 < P.length * 8 := by omega
  have hbC : a * 8 + 8 ≤ P.length * 8 := by omega
  have hbD : a * 8 + 1 + 4 ≤ P.length * 8 := by omega
  have hbE : a * 8 + 5 ≤ P.length * 8 := by omega
  have hbF : a * 8 + 4 < P.length * 8 := by omega
  have hls := encB_len s
  obtain ⟨tt, ht⟩ := O.T.t
  obtain ⟨tp, hp⟩ := O.T.p
  subst hkv
  have hrow : rowS s c i = orP none' (rowS s x0 i) := by rw [rowS_eq, hk, hl]; simp [rowS.rowAt]
  (repeat' first
    | apply X.retS
    | apply X.skipS
    | apply X.skipB
    | apply X.skipL
    | (apply X.exitS; first | apply X.here | (refine X.out (by decide) ?_; apply X.here))
    | apply X.blockS
    | (apply X.condQ rfl; (focus (simp only [sub, subO, subL, subM, sub3, sub2, fk_some, fk_none, fk_arg0, fk_argS, fk_argN, fk_map0, fk_mapS, fk_mapN, reduceIte, Nat.reduceEqDiff, Nat.reduceAdd, g0, g1, g2, g8, g9, g59]; with_reducible rfl)); all_goals (intro hbr; first | exact absurd hbr (by decide) | ((try rw [hbr]); (try simp at hbr))))
    | apply X.stepZ
    | (apply X.stepQ rfl; (focus (simp only [sub, subO, subL, subM, sub3, sub2, fk_some, fk_none, fk_arg0, fk_argS, fk_argN, fk_map0, fk_mapS, fk_mapN, reduceIte, Nat.reduceEqDiff, Nat.reduceAdd, g0, g1, g2, g8, g9, g59]; with_reducible rfl)); (focus (simp [-getElem?_pos, ht, hp, hcl, hd7, hd1, hbA, hbB, hbC, hbD, hbE, hbF, hls]; with_reducible (first | rfl | exact ⟨rfl, rfl⟩))))
    | (apply X.stepNQ rfl; (focus (simp only [sub, subO, subL, subM, sub3, sub2, fk_some, fk_none, fk_arg0, fk_argS, fk_argN, fk_map0, fk_mapS, fk_mapN, reduceIte, Nat.reduceEqDiff, Nat.reduceAdd, g0, g1, g2, g8, g9, g59]; with_reducible rfl)))
    | ((first | apply X.stepGtQ rfl | apply X.stepGfQ rfl); (focus (simp only [sub, subO, subL, subM, sub3, sub2, fk_some, fk_none, fk_arg0, fk_argS, fk_argN, fk_map0, fk_mapS, fk_mapN, reduceIte, Nat.reduceEqDiff, Nat.reduceAdd, g0, g1, g2, g8, g9, g59]; with_reducible rfl)); all_goals (intro hbr; first | exact absurd hbr (by decide) | ((try rw [hbr]); (try simp at hbr))))
    | (apply X.draw0; (focus rfl))
    | (apply X.drawH0; (focus rfl))
    | apply XD.nil
    | (apply XD.calmQ rfl rfl; (focus (simp only [sub, subO, subL, subM, sub3, sub2, fk_some, fk_none, fk_arg0, fk_argS, fk_argN, fk_map0, fk_mapS, fk_mapN, reduceIte, Nat.reduceEqDiff, Nat.reduceAdd, g0, g1, g2, g8, g9, g59]; with_reducible rfl)); (focus (simp [-getElem?_pos, ht, hp, hcl, hd7, hd1, hbA, hbB, hbC, hbD, hbE, hbF, hls]; with_reducible (first | rfl | exact ⟨rfl, rfl⟩))))
    | (apply XD.callQ rfl; (focus (simp only [sub, subO, subL, subM, sub3, sub2, fk_some, fk_none, fk_arg0, fk_argS, fk_argN, fk_map0, fk_mapS, fk_mapN, reduceIte, Nat.reduceEqDiff, Nat.reduceAdd, g0, g1, g2, g8, g9, g59]; simp; with_reducible rfl)); (focus (simp; with_reducible rfl)); (focus (simp [-getElem?_pos, ht, hp, hcl, hd7, hd1, hbA, hbB, hbC, hbD, hbE, hbF, hls]; done)); (focus (simp [-getElem?_pos, ht, hp, hcl, hd7, hd1, hbA, hbB, hbC, hbD, hbE, hbF, hls]; with_reducible rfl)))
    | (apply XD.stepNQ rfl; (focus (simp only [sub, subO, subL, subM, sub3, sub2, fk_some, fk_none, fk_arg0, fk_argS, fk_argN, fk_map0, fk_mapS, fk_mapN, reduceIte, Nat.reduceEqDiff, Nat.reduceAdd, g0, g1, g2, g8, g9, g59]; with_reducible rfl)))
    | ((first | apply XD.stepGtQ rfl | apply XD.stepGfQ rfl); (focus (simp only [sub, subO, subL, subM, sub3, sub2, fk_some, fk_none, fk_arg0, fk_argS, fk_argN, fk_map0, fk_mapS, fk_mapN, reduceIte, Nat.reduceEqDiff, Nat.reduceAdd, g0, g1, g2, g8, g9, g59]; with_reducible rfl)); all_goals (intro hbr; first | exact absurd hbr (by decide) | ((try rw [hbr]); (try simp at hbr))))
    | (apply XD.loudQ rfl; (focus (simp only [sub, subO, subL, subM, sub3, sub2, fk_some, fk_none, fk_arg0, fk_argS, fk_argN, fk_map0, fk_mapS, fk_mapN, reduceIte, Nat.reduceEqDiff, Nat.reduceAdd, g0, g1, g2, g8, g9, g59]; with_reducible rfl)); (focus (simp; with_reducible rfl)); (focus (simp [-getElem?_pos, ht, hp, hcl, hd7, hd1, hbA, hbB, hbC, hbD, hbE, hbF, hls]; with_reducible (first | rfl | exact ⟨rfl, rfl⟩))); (focus (simp; done)); (focus (simp [-getElem?_pos, ht, hp, hcl, hd7, hd1, hbA, hbB, hbC, hbD, hbE, hbF, hls]; with_reducible rfl))))
  refine X.callRQ (P := _) rfl (by simp only [sub, subO, subL, subM, sub3, sub2, fk_some, fk_none, fk_arg0, fk_argS, fk_argN, fk_map0, fk_mapS, fk_mapN, reduceIte, Nat.reduceEqDiff, Nat.reduceAdd, g0, g2, g9]; all_goals (first | with_reducible rfl | (simp <;> with_reducible rfl))) HH.row.raw (by simp [pures]) (O.row R0 t0 hi) ?_
  rintro v h3 ⟨q3, es3, rfl, O3, S3, hne3, _⟩
  (repeat' first
    | apply X.retS
    | apply X.skipS
    | apply X.skipB
    | apply X.skipL
    | (apply X.exitS; first | apply X.here | (refine X.out (by decide) ?_; apply X.here))
    | apply X.blockS
    | (apply X.condQ rfl; (focus (simp only [sub, subO, subL, subM, sub3, sub2, fk_some, fk_none, fk_arg0, fk_argS, fk_argN, fk_map0, fk_mapS, fk_mapN, reduceIte, Nat.reduceEqDiff, Nat.reduceAdd, g0, g1, g2, g8, g9, g59]; with_reducible rfl)); all_goals (intro hbr; first | exact absurd hbr (by decide) | ((try rw [hbr]); (try simp at hbr))))
    | apply X.stepZ
    | (apply X.stepQ rfl; (focus (simp only [sub, subO, subL, subM, sub3, sub2, fk_some, fk_none, fk_arg0, fk_argS, fk_argN, fk_map0, fk_mapS, fk_mapN, reduceIte, Nat.reduceEqDiff, Nat.reduceAdd, g0, g1, g2, g8, g9, g59]; with_reducible rfl)); (focus (simp [-getElem?_pos]; with_reducible (first | rfl | exact ⟨rfl, rfl⟩))))
    | (apply X.stepNQ rfl; (focus (simp only [sub, subO, subL, subM, sub3, sub2, fk_some, fk_none, fk_arg0, fk_argS, fk_argN, fk_map0, fk_mapS, fk_mapN, reduceIte, Nat.reduceEqDiff, Nat.reduceAdd, g0, g1, g2, g8, g9, g59]; with_reducible rfl)))
    | ((first | apply X.stepGtQ rfl | apply X.stepGfQ rfl); (focus (simp only [sub, subO, subL, subM, sub3, sub2, fk_some, fk_none, fk_arg0, fk_argS, fk_argN, fk_map0, fk_mapS, fk_mapN, reduceIte, Nat.reduceEqDiff, Nat.reduceAdd, g0, g1, g2, g8, g9, g59]; with_reducible rfl)); all_goals (intro hbr; first | exact absurd hbr (by decide) | ((try rw [hbr]); (try simp at hbr))))
    | (apply X.draw0; (focus rfl))
    | (apply X.drawH0; (focus rfl))
    | apply XD.nil
    | (apply XD.calmQ rfl rfl; (focus (simp only [sub, subO, subL, subM, sub3, sub2, fk_some, fk_none, fk_arg0, fk_argS, fk_argN, fk_map0, fk_mapS, fk_mapN, reduceIte, Nat.reduceEqDiff, Nat.reduceAdd, g0, g1, g2, g8, g9, g59]; with_reducible rfl)); (focus (simp [-getElem?_pos]; with_reducible (first | rfl | exact ⟨rfl, rfl⟩))))
    | (apply XD.callQ rfl; (focus (simp only [sub, subO, subL, subM, sub3, sub2, fk_some, fk_none, fk_arg0, fk_argS, fk_argN, fk_map0, fk_mapS, fk_mapN, reduceIte, Nat.reduceEqDiff, Nat.reduceAdd, g0, g1, g2, g8, g9, g59]; simp; with_reducible rfl)); (focus (simp; with_reducible rfl)); (focus (simp [-getElem?_pos]; done)); (focus (simp [-getElem?_pos]; with_reducible rfl)))
    | (apply XD.stepNQ rfl; (focus (simp only [sub, subO, subL, subM, sub3, sub2, fk_some, fk_none, fk_arg0, fk_argS, fk_argN, fk_map0, fk_mapS, fk_mapN, reduceIte, Nat.reduceEqDiff, Nat.reduceAdd, g0, g1, g2, g8, g9, g59]; with_reducible rfl)))
    | ((first | apply XD.stepGtQ rfl | apply XD.stepGfQ rfl); (focus (simp only [sub, subO, subL, subM, sub3, sub2, fk_some, fk_none, fk_arg0, fk_argS, fk_argN, fk_map0, fk_mapS, fk_mapN, reduceIte, Nat.reduceEqDiff, Nat.reduceAdd, g0, g1, g2, g8, g9, g59]; with_reducible rfl)); all_goals (intro hbr; first | exact absurd hbr (by decide) | ((try rw [hbr]); (try simp at hbr))))
    | (apply XD.loudQ rfl; (focus (simp only [sub, subO, subL, subM, sub3, sub2, fk_some, fk_none, fk_arg0, fk_argS, fk_argN, fk_map0, fk_mapS, fk_mapN, reduceIte, Nat.reduceEqDiff, Nat.reduceAdd, g0, g1, g2, g8, g9, g59]; with_reducible rfl)); (focus (simp; with_reducible rfl)); (focus (simp [-getElem?_pos]; with_reducible (first | rfl | exact ⟨rfl, rfl⟩))); (focus (simp; done)); (focus (simp [-getElem?_pos]; with_reducible rfl))))
  refine X.callRQ (P := _) rfl (by simp only [sub, subO, subL, subM, sub3, sub2, fk_some, fk_none, fk_arg0, fk_argS, fk_argN, fk_map0, fk_mapS, fk_mapN, reduceIte, Nat.reduceEqDiff, Nat.reduceAdd, g0, g2, g8, g9]; all_goals (first | with_reducible rfl | (simp <;> with_reducible rfl))) HH.p.or.raw (by simp [pures]) (O3.or HH.p S3 hne3) ?_
  rintro v h4 ⟨rfl, O4, _⟩
  (repeat' first
    | apply X.retS
    | apply X.skipS
    | apply X.skipB
    | apply X.skipL
    | (apply X.exitS; first | apply X.here | (refine X.out (by decide) ?_; apply X.here))
    | apply X.blockS
    | (apply X.condQ rfl; (focus (simp only [sub, subO, subL, subM, sub3, sub2, fk_some, fk_none, fk_arg0, fk_argS, fk_argN, fk_map0, fk_mapS, fk_mapN, reduceIte, Nat.reduceEqDiff, Nat.reduceAdd, g0, g1, g2, g8, g9, g59]; with_reducible rfl)); all_goals (intro hbr; first | exact absurd hbr (by decide) | ((try rw [hbr]); (try simp at hbr))))
    | apply X.stepZ
    | (apply X.stepQ rfl; (focus (simp only [sub, subO, subL, subM, sub3, sub2, fk_some, fk_none, fk_arg0, fk_argS, fk_argN, fk_map0, fk_mapS, fk_mapN, reduceIte, Nat.reduceEqDiff, Nat.reduceAdd, g0, g1, g2, g8, g9, g59]; with_reducible rfl)); (focus (simp [-getElem?_pos]; with_reducible (first | rfl | exact ⟨rfl, rfl⟩))))
    | (apply X.stepNQ rfl; (focus (simp only [sub, subO, subL, subM, sub3, sub2, fk_some, fk_none, fk_arg0, fk_argS, fk_argN, fk_map0, fk_mapS, fk_mapN, reduceIte, Nat.reduceEqDiff, Nat.reduceAdd, g0, g1, g2, g8, g9, g59]; with_reducible rfl)))
    | ((first | apply X.stepGtQ rfl | apply X.stepGfQ rfl); (focus (simp only [sub, subO, subL, subM, sub3, sub2, fk_some, fk_none, fk_arg0, fk_argS, fk_argN, fk_map0, fk_mapS, fk_mapN, reduceIte, Nat.reduceEqDiff, Nat.reduceAdd, g0, g1, g2, g8, g9, g59]; with_reducible rfl)); all_goals (intro hbr; first | exact absurd hbr (by decide) | ((try rw [hbr]); (try simp at hbr))))
    | (apply X.draw0; (focus rfl))
    | (apply X.drawH0; (focus rfl))
    | apply XD.nil
    | (apply XD.calmQ rfl rfl; (focus (simp only [sub, subO, subL, subM, sub3, sub2, fk_some, fk_none, fk_arg0, fk_argS, fk_argN, fk_map0, fk_mapS, fk_mapN, reduceIte, Nat.reduceEqDiff, Nat.reduceAdd, g0, g1, g2, g8, g9, g59]; with_reducible rfl)); (focus (simp [-getElem?_pos]; with_reducible (first | rfl | exact ⟨rfl, rfl⟩))))
    | (apply XD.callQ rfl; (focus (simp only [sub, subO, subL, subM, sub3, sub2, fk_some, fk_none, fk_arg0, fk_argS, fk_argN, fk_map0, fk_mapS, fk_mapN, reduceIte, Nat.reduceEqDiff, Nat.reduceAdd, g0, g1, g2, g8, g9, g59]; simp; with_reducible rfl)); (focus (simp; with_reducible rfl)); (focus (simp [-getElem?_pos]; done)); (focus (simp [-getElem?_pos]; with_reducible rfl)))
    | (apply XD.stepNQ rfl; (focus (simp only [sub, subO, subL, subM, sub3, sub2, fk_some, fk_none, fk_arg0, fk_argS, fk_argN, fk_map0, fk_mapS, fk_mapN, reduceIte, Nat.reduceEqDiff, Nat.reduceAdd, g0, g1, g2, g8, g9, g59]; with_reducible rfl)))
    | ((first | apply XD.stepGtQ rfl | apply XD.stepGfQ rfl); (focus (simp only [sub, subO, subL, subM, sub3, sub2, fk_some, fk_none, fk_arg0, fk_argS, fk_argN, fk_map0, fk_mapS, fk_mapN, reduceIte, Nat.reduceEqDiff, Nat.reduceAdd, g0, g1, g2, g8, g9, g59]; with_reducible rfl)); all_goals (intro hbr; first | exact absurd hbr (by decide) | ((try rw [hbr]); (try simp at hbr))))
    | (apply XD.loudQ rfl; (focus (simp only [sub, subO, subL, subM, sub3, sub2, fk_some, fk_none, fk_arg0, fk_argS, fk_argN, fk_map0, fk_mapS, fk_mapN, reduceIte, Nat.reduceEqDiff, Nat.reduceAdd, g0, g1, g2, g8, g9, g59]; with_reducible rfl)); (focus (simp; with_reducible rfl)); (focus (simp [-getElem?_pos]; with_reducible (first | rfl | exact ⟨rfl, rfl⟩))); (focus (simp; done)); (focus (simp [-getElem?_pos]; with_reducible rfl))))
  all_goals exact ⟨h4, es3, _, by rw [hrow]; exact O4, by simp [g0, g1, g2, g8], rfl⟩
end Lng

-- row, of as often as one likes.
namespace Lng
open Go Ab Cps Go.Proofs.Ytdacifedlemlmaa.Mach
variable {E : Env}
variable {B tid pid eid q a i : Nat} {P : List Pt} {kvs : List V} {s : List Int} {h1 h2 : Heap} {es1 es2 : List V} {c x0 x1 : Co} {k0 k1 tok : Nat} {kv : V} {r9 : List V} {f : Nat → V} {Q : AExit → Ab.St → Prop}
set_option maxHeartbeats 4000000 in
set_option maxRecDepth 100000 in
theorem row_k5 (HH : HasW E) (hs : s.length ≤ 256) (hb : ∀ x ∈ s, 0 ≤ x ∧ x < 256) (hi : i ≤ s.length) (haP : a < P.length) (hcl : (cellsT P kvs).length = P.length * 8) (hcell : (cellsT P kvs).drop (a * 8) = coreV c ++ kv :: r9)
    (O : Own B tid pid eid P kvs s h1 es1 q h2 es2 none') (g0 : fk (Fk.mk (f := f)) 0 = .ptr tid 0) (g1 : fk (Fk.mk (f := f)) 1 = .pv (.int .i64 (a : Int))) (g2 : fk (Fk.mk (f := f)) 2 = .pv (.int .i64 (i : Int))) (g8 : fk (Fk.mk (f := f)) 8 = .ptr q 0) (g9 : fk (Fk.mk (f := f)) 9 = .ptr pid (a * 8))
    (g59 : fk (Fk.mk (f := f)) 59 = .pv (.int .i64 5)) (hk : c.k = 5) (hl : c.l = [x0]) (hkv : kv = .slt [.int .i64 (k0 : Int)] tok) (R0 : RowOk E s x0) (t0 : Tree P x0 k0) : X E (app rowB .skip) ⟨TL 206 f, h2⟩ (inB 0 (thenQ (RowM B tid pid eid P kvs s h1 es1 q a i c) Q)) := by
  unfold rowB
  have hd7 : (cellsT P kvs).drop (a * 8 + 7) = kv :: r9 := by rw [← List.drop_drop, hcell]; simp [coreV]
  have hd1 : (cellsT P kvs).drop (a * 8 + 1) = .pv (.int .u64 c.s0) :: .pv (.int .u64 c.s1) :: .pv (.int .u64 c.s2) :: .pv (.int .u64 c.s3) :: .pv (.int .i64 c.n) :: .pv (.sl (c.l.map encC)) :: kv :: r9 := by rw [← List.drop_drop, hcell]; simp [coreV]
  have hbA : a * 8 + 7 + 1 ≤ P.length * 8 := by omega
  have hbB : a * 8 + 7 < P.length * 8 := by omega
  have hbC : a * 8 + 8 ≤ P.length * 8 := by omega
  have hbD : a * 8 + 1 + 4 ≤ P.length * 8 := by omega
  have hbE : a * 8 + 5 ≤ P.length * 8 := by omega
  have hbF : a * 8 + 4 < P.length * 8 := by omega
  have hls := encB_len s
  obtain ⟨tt, ht⟩ := O.T.t
  obtain ⟨tp, hp⟩ := O.T.p
  subst hkv
  have hrow : rowS s c i = goS (rowS s x0) (s.length + 1 - i) i (one i) := by rw [rowS_eq, hk, hl]; simp [rowS.rowAt]
  (repeat' first
    | apply X.retS
    | apply X.skipS
    | apply X.skipB
    | apply X.skipL
    | (apply X.exitS; first | apply X.here | (refine X.out (by decide) ?_; apply X.here))
    | apply X.blockS
    | (apply X.condQ rfl; (focus (simp only [sub, subO, subL, subM, sub3, sub2, fk_some, fk_none, fk_arg0, fk_argS, fk_argN, fk_map0, fk_mapS, fk_mapN, reduceIte, Nat.reduceEqDiff, Nat.reduceAdd, g0, g1, g2, g8, g9, g59]; with_reducible rfl)); all_goals (intro hbr; first | exact absurd hbr (by decide) | ((try rw [hbr]); (try simp at hbr))))
    | apply X.stepZ
    | (apply X.stepQ rfl; (focus (simp only [sub, subO, subL, subM, sub3, sub2, fk_some, fk_none, fk_arg0, fk_argS, fk_argN, fk_map0, fk_mapS, fk_mapN, reduceIte, Nat.reduceEqDiff, Nat.reduceAdd, g0, g1, g2, g8, g9, g59]; with_reducible rfl)); (focus (simp [-getElem?_pos, ht, hp, hcl, hd7, hd1, hbA, hbB, hbC, hbD, hbE, hbF, hls]; with_reducible (first | rfl | exact ⟨rfl, rfl⟩))))
    | (apply X.stepNQ rfl; (focus (simp only [sub, subO, subL, subM, sub3, sub2, fk_some, fk_none, fk_arg0, fk_argS, fk_argN, fk_map0, fk_mapS, fk_mapN, reduceIte, Nat.reduceEqDiff, Nat.reduceAdd, g0, g1, g2, g8, g9, g59]; with_reducible rfl)))
    | ((first | apply X.stepGtQ rfl | apply X.stepGfQ rfl); (focus (simp only [sub, subO, subL, subM, sub3, sub2, fk_some, fk_none, fk_arg0, fk_argS, fk_argN, fk_map0, fk_mapS, fk_mapN, reduceIte, Nat.reduceEqDiff, Nat.reduceAdd, g0, g1, g2, g8, g9, g59]; with_reducible rfl)); all_goals (intro hbr; first | exact absurd hbr (by decide) | ((try rw [hbr]); (try simp at hbr))))
    | (apply X.draw0; (focus rfl))
    | (apply X.drawH0; (focus rfl))
    | apply XD.nil
    | (apply XD.calmQ rfl rfl; (focus (simp only [sub, subO, subL, subM, sub3, sub2, fk_some, fk_none, fk_arg0, fk_argS, fk_argN, fk_map0, fk_mapS, fk_mapN, reduceIte, Nat.reduceEqDiff, Nat.reduceAdd, g0, g1, g2, g8, g9, g59]; with_reducible rfl)); (focus (simp [-getElem?_pos, ht, hp, hcl, hd7, hd1, hbA, hbB, hbC, hbD, hbE, hbF, hls]; with_reducible (first | rfl | exact ⟨rfl, rfl⟩))))
    | (apply XD.callQ rfl; (focus (simp only [sub, subO, subL, subM, sub3, sub2, fk_some, fk_none, fk_arg0, fk_argS, fk_argN, fk_map0, fk_mapS, fk_mapN, reduceIte, Nat.reduceEqDiff, Nat.reduceAdd, g0, g1, g2, g8, g9, g59]; simp; with_reducible rfl)); (focus (simp; with_reducible rfl)); (focus (simp [-getElem?_pos, ht, hp, hcl, hd7, hd1, hbA, hbB, hbC, hbD, hbE, hbF, hls]; done)); (focus (simp [-getElem?_pos, ht, hp, hcl, hd7, hd1, hbA, hbB, hbC, hbD, hbE, hbF, hls]; with_reducible rfl)))
    | (apply XD.stepNQ rfl; (focus (simp only [sub, subO, subL, subM, sub3, sub2, fk_some, fk_none, fk_arg0, fk_argS, fk_argN, fk_map0, fk_mapS, fk_mapN, reduceIte, Nat.reduceEqDiff, Nat.reduceAdd, g0, g1, g2, g8, g9, g59]; with_reducible rfl)))
    | ((first | apply XD.stepGtQ rfl | apply XD.stepGfQ rfl); (focus (simp only [sub, subO, subL, subM, sub3, sub2, fk_some, fk_none, fk_arg0, fk_argS, fk_argN, fk_map0, fk_mapS, fk_mapN, reduceIte, Nat.reduceEqDiff, Nat.reduceAdd, g0, g1, g2, g8, g9, g59]; with_reducible rfl)); all_goals (intro hbr; first | exact absurd hbr (by decide) | ((try rw [hbr]); (try simp at hbr))))
    | (apply XD.loudQ rfl; (focus (simp only [sub, subO, subL, subM, sub3, sub2, fk_some, fk_none, fk_arg0, fk_argS, fk_argN, fk_map0, fk_mapS, fk_mapN, reduceIte, Nat.reduceEqDiff, Nat.reduceAdd, g0, g1, g2, g8, g9, g59]; with_reducible rfl)); (focus (simp; with_reducible rfl)); (focus (simp [-getElem?_pos, ht, hp, hcl, hd7, hd1, hbA, hbB, hbC, hbD, hbE, hbF, hls]; with_reducible (first | rfl | exact ⟨rfl, rfl⟩))); (focus (simp; done)); (focus (simp [-getElem?_pos, ht, hp, hcl, hd7, hd1, hbA, hbB, hbC, hbD, hbE, hbF, hls]; with_reducible rfl))))
  refine X.callRQ (P := _) rfl (by simp only [sub, subO, subL, subM, sub3, sub2, fk_some, fk_none, fk_arg0, fk_argS, fk_argN, fk_map0, fk_mapS, fk_mapN, reduceIte, Nat.reduceEqDiff, Nat.reduceAdd, g0, g2, g8, g9]; all_goals (first | with_reducible rfl | (simp <;> with_reducible rfl))) HH.p.put.raw (by simp [pures]) (O.put HH.p (by omega)) ?_
  rintro v h3 ⟨rfl, O3, _⟩
  (repeat' first
    | apply X.retS
    | apply X.skipS
    | apply X.skipB
    | apply X.skipL
    | (apply X.exitS; first | apply X.here | (refine X.out (by decide) ?_; apply X.here))
    | apply X.blockS
    | (apply X.condQ rfl; (focus (simp only [sub, subO, subL, subM, sub3, sub2, fk_some, fk_none, fk_arg0, fk_argS, fk_argN, fk_map0, fk_mapS, fk_mapN, reduceIte, Nat.reduceEqDiff, Nat.reduceAdd, g0, g1, g2, g8, g9, g59]; with_reducible rfl)); all_goals (intro hbr; first | exact absurd hbr (by decide) | ((try rw [hbr]); (try simp at hbr))))
    | apply X.stepZ
    | (apply X.stepQ rfl; (focus (simp only [sub, subO, subL, subM, sub3, sub2, fk_some, fk_none, fk_arg0, fk_argS, fk_argN, fk_map0, fk_mapS, fk_mapN, reduceIte, Nat.reduceEqDiff, Nat.reduceAdd, g0, g1, g2, g8, g9, g59]; with_reducible rfl)); (focus (simp [-getElem?_pos]; with_reducible (first | rfl | exact ⟨rfl, rfl⟩))))
    | (apply X.stepNQ rfl; (focus (simp only [sub, subO, subL, subM, sub3, sub2, fk_some, fk_none, fk_arg0, fk_argS, fk_argN, fk_map0, fk_mapS, fk_mapN, reduceIte, Nat.reduceEqDiff, Nat.reduceAdd, g0, g1, g2, g8, g9, g59]; with_reducible rfl)))
    | ((first | apply X.stepGtQ rfl | apply X.stepGfQ rfl); (focus (simp only [sub, subO, subL, subM, sub3, sub2, fk_some, fk_none, fk_arg0, fk_argS, fk_argN, fk_map0, fk_mapS, fk_mapN, reduceIte, Nat.reduceEqDiff, Nat.reduceAdd, g0, g1, g2, g8, g9, g59]; with_reducible rfl)); all_goals (intro hbr; first | exact absurd hbr (by decide) | ((try rw [hbr]); (try simp at hbr))))
    | (apply X.draw0; (focus rfl))
    | (apply X.drawH0; (focus rfl))
    | apply XD.nil
    | (apply XD.calmQ rfl rfl; (focus (simp only [sub, subO, subL, subM, sub3, sub2, fk_some, fk_none, fk_arg0, fk_argS, fk_argN, fk_map0, fk_mapS, fk_mapN, reduceIte, Nat.reduceEqDiff, Nat.reduceAdd, g0, g1, g2, g8, g9, g59]; with_reducible rfl)); (focus (simp [-getElem?_pos]; with_reducible (first | rfl | exact ⟨rfl, rfl⟩))))
    | (apply XD.callQ rfl; (focus (simp only [sub, subO, subL, subM, sub3, sub2, fk_some, fk_none, fk_arg0, fk_argS, fk_argN, fk_map0, fk_mapS, fk_mapN, reduceIte, Nat.reduceEqDiff, Nat.reduceAdd, g0, g1, g2, g8, g9, g59]; simp; with_reducible rfl)); (focus (simp; with_reducible rfl)); (focus (simp [-getElem?_pos]; done)); (focus (simp [-getElem?_pos]; with_reducible rfl)))
    | (apply XD.stepNQ rfl; (focus (simp only [sub, subO, subL, subM, sub3, sub2, fk_some, fk_none, fk_arg0, fk_argS, fk_argN, fk_map0, fk_mapS, fk_mapN, reduceIte, Nat.reduceEqDiff, Nat.reduceAdd, g0, g1, g2, g8, g9, g59]; with_reducible rfl)))
    | ((first | apply XD.stepGtQ rfl | apply XD.stepGfQ rfl); (focus (simp only [sub, subO, subL, subM, sub3, sub2, fk_some, fk_none, fk_arg0, fk_argS, fk_argN, fk_map0, fk_mapS, fk_mapN, reduceIte, Nat.reduceEqDiff, Nat.reduceAdd, g0, g1, g2, g8, g9, g59]; with_reducible rfl)); all_goals (intro hbr; first | exact absurd hbr (by decide) | ((try rw [hbr]); (try simp at hbr))))
    | (apply XD.loudQ rfl; (focus (simp only [sub, subO, subL, subM, sub3, sub2, fk_some, fk_none, fk_arg0, fk_argS, fk_argN, fk_map0, fk_mapS, fk_mapN, reduceIte, Nat.reduceEqDiff, Nat.reduceAdd, g0, g1, g2, g8, g9, g59]; with_reducible rfl)); (focus (simp; with_reducible rfl)); (focus (simp [-getElem?_pos]; with_reducible (first | rfl | exact ⟨rfl, rfl⟩))); (focus (simp; done)); (focus (simp [-getElem?_pos]; with_reducible rfl))))
  have e1 : orP none' (one i) = one i := by funext j; simp [orP, none']
  rw [e1] at O3
  refine X.forS (s.length + 1 - i) (fun j st => ∃ (hh : Heap) (es4 : List V) (p : Pl) (k : Nat) (f : Nat → V), (k = i + j ∧ Own B tid pid eid P kvs s h1 es1 q hh es4 p ∧ goS (rowS s x0) (s.length + 1 - i - j) k p = rowS s c i) ∧
    (fk (Fk.mk (f := f)) 0 = .ptr tid 0 ∧ fk (Fk.mk (f := f)) 1 = .pv (.int .i64 (a : Int)) ∧ fk (Fk.mk (f := f)) 2 = .pv (.int .i64 (i : Int)) ∧ fk (Fk.mk (f := f)) 8 = .ptr q 0 ∧ fk (Fk.mk (f := f)) 9 = .ptr pid (a * 8) ∧ fk (Fk.mk (f := f)) 12 = .pv (.int .i64 (k : Int))) ∧ st = ⟨TL 206 f, hh⟩) ?_ ?_
  · exact ⟨h3, es2, one i, i, _, ⟨rfl, O3, hrow.symm⟩, by simp [g0, g1, g2, g8, g9], rfl⟩
  clear ht hp g0 g1 g2 g8 g9 g59
  rintro j st hj ⟨hh, es4, p, k, f, ⟨hkj, O4, hgo⟩, ⟨g0, g1, g2, g8, g9, g12⟩, rfl⟩
  obtain ⟨tt4, ht4⟩ := O4.T.t
  obtain ⟨tp4, hp4⟩ := O4.T.p
  have hww : IntKind.i64.wrap ((k : Int) + 1) = (k : Int) + 1 := wrap_i64 (by omega)
  rcases Nat.lt_or_ge j (s.length + 1 - i) with hj1 | hj1
  · have hle : (k : Int) ≤ (s.length : Int) := by omega
    have hle' : k ≤ s.length := by omega
    have hn : s.length + 1 - i - j = (s.length + 1 - i - (j + 1)) + 1 := by omega
    rw [hn, goS] at hgo
    have hhas := O4.pl.has HH.p (i := k) (by omega)
    cases hlk : p k with
    | false =>
      rw [hlk] at hhas hgo
      (repeat' first
    | apply X.retS
    | apply X.skipS
    | apply X.skipB
    | apply X.skipL
    | (apply X.exitS; first | apply X.here | (refine X.out (by decide) ?_; apply X.here))
    | apply X.blockS
    | (apply X.condQ rfl; (focus (simp only [sub, subO, subL, subM, sub3, sub2, fk_some, fk_none, fk_arg0, fk_argS, fk_argN, fk_map0, fk_mapS, fk_mapN, reduceIte, Nat.reduceEqDiff, Nat.reduceAdd, g0, g1, g2, g8, g9, g12]; with_reducible rfl)); all_goals (intro hbr; first | exact absurd hbr (by decide) | ((try rw [hbr]); (try simp at hbr))))
    | apply X.stepZ
    | (apply X.stepQ rfl; (focus (simp only [sub, subO, subL, subM, sub3, sub2, fk_some, fk_none, fk_arg0, fk_argS, fk_argN, fk_map0, fk_mapS, fk_mapN, reduceIte, Nat.reduceEqDiff, Nat.reduceAdd, g0, g1, g2, g8, g9, g12]; with_reducible rfl)); (focus (simp [-getElem?_pos, ht4, hp4, hcl, hd7, hd1, hbA, hbB, hbC, hbD, hbE, hbF, hls, hle, hle']; with_reducible (first | rfl | exact ⟨rfl, rfl⟩))))
    | (apply X.stepNQ rfl; (focus (simp only [sub, subO, subL, subM, sub3, sub2, fk_some, fk_none, fk_arg0, fk_argS, fk_argN, fk_map0, fk_mapS, fk_mapN, reduceIte, Nat.reduceEqDiff, Nat.reduceAdd, g0, g1, g2, g8, g9, g12]; with_reducible rfl)))
    | ((first | apply X.stepGtQ rfl | apply X.stepGfQ rfl); (focus (simp only [sub, subO, subL, subM, sub3, sub2, fk_some, fk_none, fk_arg0, fk_argS, fk_argN, fk_map0, fk_mapS, fk_mapN, reduceIte, Nat.reduceEqDiff, Nat.reduceAdd, g0, g1, g2, g8, g9, g12]; with_reducible rfl)); all_goals (intro hbr; first | exact absurd hbr (by decide) | ((try rw [hbr]); (try simp at hbr))))
    | (apply X.draw0; (focus rfl))
    | (apply X.drawH0; (focus rfl))
    | apply XD.nil
    | (apply XD.calmQ rfl rfl; (focus (simp only [sub, subO, subL, subM, sub3, sub2, fk_some, fk_none, fk_arg0, fk_argS, fk_argN, fk_map0, fk_mapS, fk_mapN, reduceIte, Nat.reduceEqDiff, Nat.reduceAdd, g0, g1, g2, g8, g9, g12]; with_reducible rfl)); (focus (simp [-getElem?_pos, ht4, hp4, hcl, hd7, hd1, hbA, hbB, hbC, hbD, hbE, hbF, hls, hle, hle']; with_reducible (first | rfl | exact ⟨rfl, rfl⟩))))
    | (apply XD.callQ rfl; (focus (simp only [sub, subO, subL, subM, sub3, sub2, fk_some, fk_none, fk_arg0, fk_argS, fk_argN, fk_map0, fk_mapS, fk_mapN, reduceIte, Nat.reduceEqDiff, Nat.reduceAdd, g0, g1, g2, g8, g9, g12]; simp; with_reducible rfl)); (focus (simp; with_reducible rfl)); (focus (simp [-getElem?_pos, ht4, hp4, hcl, hd7, hd1, hbA, hbB, hbC, hbD, hbE, hbF, hls, hle, hle']; done)); (focus (simp [-getElem?_pos, ht4, hp4, hcl, hd7, hd1, hbA, hbB, hbC, hbD, hbE, hbF, hls, hle, hle']; with_reducible rfl)))
    | (apply XD.stepNQ rfl; (focus (simp only [sub, subO, subL, subM, sub3, sub2, fk_some, fk_none, fk_arg0, fk_argS, fk_argN, fk_map0, fk_mapS, fk_mapN, reduceIte, Nat.reduceEqDiff, Nat.reduceAdd, g0, g1, g2, g8, g9, g12]; with_reducible rfl)))
    | ((first | apply XD.stepGtQ rfl | apply XD.stepGfQ rfl); (focus (simp only [sub, subO, subL, subM, sub3, sub2, fk_some, fk_none, fk_arg0, fk_argS, fk_argN, fk_map0, fk_mapS, fk_mapN, reduceIte, Nat.reduceEqDiff, Nat.reduceAdd, g0, g1, g2, g8, g9, g12]; with_reducible rfl)); all_goals (intro hbr; first | exact absurd hbr (by decide) | ((try rw [hbr]); (try simp at hbr))))
    | (apply XD.loudQ rfl; (focus (simp only [sub, subO, subL, subM, sub3, sub2, fk_some, fk_none, fk_arg0, fk_argS, fk_argN, fk_map0, fk_mapS, fk_mapN, reduceIte, Nat.reduceEqDiff, Nat.reduceAdd, g0, g1, g2, g8, g9, g12]; with_reducible rfl)); (focus (simp; with_reducible rfl)); (focus (simp [-getElem?_pos, ht4, hp4, hcl, hd7, hd1, hbA, hbB, hbC, hbD, hbE, hbF, hls, hle, hle']; with_reducible (first | rfl | exact ⟨rfl, rfl⟩))); (focus (simp; done)); (focus (simp [-getElem?_pos, ht4, hp4, hcl, hd7, hd1, hbA, hbB, hbC, hbD, hbE, hbF, hls, hle, hle']; with_reducible rfl))))
      refine X.callRQ (P := _) rfl (by simp only [sub, subO, subL, subM, sub3, sub2, fk_some, fk_none, fk_arg0, fk_argS, fk_argN, fk_map0, fk_mapS, fk_mapN, reduceIte, Nat.reduceEqDiff, Nat.reduceAdd, g0, g2, g8, g9, g12]; all_goals (first | with_reducible rfl | (simp <;> with_reducible rfl))) HH.p.has.raw (by simp [pures]) (hhas) ?_
      rintro v h5 ⟨rfl, rfl⟩
      (repeat' first
    | apply X.retS
    | apply X.skipS
    | apply X.skipB
    | apply X.skipL
    | (apply X.exitS; first | apply X.here | (refine X.out (by decide) ?_; apply X.here))
    | apply X.blockS
    | (apply X.condQ rfl; (focus (simp only [sub, subO, subL, subM, sub3, sub2, fk_some, fk_none, fk_arg0, fk_argS, fk_argN, fk_map0, fk_mapS, fk_mapN, reduceIte, Nat.reduceEqDiff, Nat.reduceAdd, g0, g1, g2, g8, g9, g12]; with_reducible rfl)); all_goals (intro hbr; first | exact absurd hbr (by decide) | ((try rw [hbr]); (try simp at hbr))))
    | apply X.stepZ
    | (apply X.stepQ rfl; (focus (simp only [sub, subO, subL, subM, sub3, sub2, fk_some, fk_none, fk_arg0, fk_argS, fk_argN, fk_map0, fk_mapS, fk_mapN, reduceIte, Nat.reduceEqDiff, Nat.reduceAdd, g0, g1, g2, g8, g9, g12]; with_reducible rfl)); (focus (simp [-getElem?_pos, hww]; with_reducible (first | rfl | exact ⟨rfl, rfl⟩))))
    | (apply X.stepNQ rfl; (focus (simp only [sub, subO, subL, subM, sub3, sub2, fk_some, fk_none, fk_arg0, fk_argS, fk_argN, fk_map0, fk_mapS, fk_mapN, reduceIte, Nat.reduceEqDiff, Nat.reduceAdd, g0, g1, g2, g8, g9, g12]; with_reducible rfl)))
    | ((first | apply X.stepGtQ rfl | apply X.stepGfQ rfl); (focus (simp only [sub, subO, subL, subM, sub3, sub2, fk_some, fk_none, fk_arg0, fk_argS, fk_argN, fk_map0, fk_mapS, fk_mapN, reduceIte, Nat.reduceEqDiff, Nat.reduceAdd, g0, g1, g2, g8, g9, g12]; with_reducible rfl)); all_goals (intro hbr; first | exact absurd hbr (by decide) | ((try rw [hbr]); (try simp at hbr))))
    | (apply X.draw0; (focus rfl))
    | (apply X.drawH0; (focus rfl))
    | apply XD.nil
    | (apply XD.calmQ rfl rfl; (focus (simp only [sub, subO, subL, subM, sub3, sub2, fk_some, fk_none, fk_arg0, fk_argS, fk_argN, fk_map0, fk_mapS, fk_mapN, reduceIte, Nat.reduceEqDiff, Nat.reduceAdd, g0, g1, g2, g8, g9, g12]; with_reducible rfl)); (focus (simp [-getElem?_pos, hww]; with_reducible (first | rfl | exact ⟨rfl, rfl⟩))))
    | (apply XD.callQ rfl; (focus (simp only [sub, subO, subL, subM, sub3, sub2, fk_some, fk_none, fk_arg0, fk_argS, fk_argN, fk_map0, fk_mapS, fk_mapN, reduceIte, Nat.reduceEqDiff, Nat.reduceAdd, g0, g1, g2, g8, g9, g12]; simp; with_reducible rfl)); (focus (simp; with_reducible rfl)); (focus (simp [-getElem?_pos, hww]; done)); (focus (simp [-getElem?_pos, hww]; with_reducible rfl)))
    | (apply XD.stepNQ rfl; (focus (simp only [sub, subO, subL, subM, sub3, sub2, fk_some, fk_none, fk_arg0, fk_argS, fk_argN, fk_map0, fk_mapS, fk_mapN, reduceIte, Nat.reduceEqDiff, Nat.reduceAdd, g0, g1, g2, g8, g9, g12]; with_reducible rfl)))
    | ((first | apply XD.stepGtQ rfl | apply XD.stepGfQ rfl); (focus (simp only [sub, subO, subL, subM, sub3, sub2, fk_some, fk_none, fk_arg0, fk_argS, fk_argN, fk_map0, fk_mapS, fk_mapN, reduceIte, Nat.reduceEqDiff, Nat.reduceAdd, g0, g1, g2, g8, g9, g12]; with_reducible rfl)); all_goals (intro hbr; first | exact absurd hbr (by decide) | ((try rw [hbr]); (try simp at hbr))))
    | (apply XD.loudQ rfl; (focus (simp only [sub, subO, subL, subM, sub3, sub2, fk_some, fk_none, fk_arg0, fk_argS, fk_argN, fk_map0, fk_mapS, fk_mapN, reduceIte, Nat.reduceEqDiff, Nat.reduceAdd, g0, g1, g2, g8, g9, g12]; with_reducible rfl)); (focus (simp; with_reducible rfl)); (focus (simp [-getElem?_pos, hww]; with_reducible (first | rfl | exact ⟨rfl, rfl⟩))); (focus (simp; done)); (focus (simp [-getElem?_pos, hww]; with_reducible rfl))))
      all_goals exact ⟨hj1, _, es4, p, k + 1, _, ⟨by omega, O4, by simpa using hgo⟩, by simp [g0, g1, g2, g8, g9], rfl⟩
    | true =>
      rw [hlk] at hhas hgo
      (repeat' first
    | apply X.retS
    | apply X.skipS
    | apply X.skipB
    | apply X.skipL
    | (apply X.exitS; first | apply X.here | (refine X.out (by decide) ?_; apply X.here))
    | apply X.blockS
    | (apply X.condQ rfl; (focus (simp only [sub, subO, subL, subM, sub3, sub2, fk_some, fk_none, fk_arg0, fk_argS, fk_argN, fk_map0, fk_mapS, fk_mapN, reduceIte, Nat.reduceEqDiff, Nat.reduceAdd, g0, g1, g2, g8, g9, g12]; with_reducible rfl)); all_goals (intro hbr; first | exact absurd hbr (by decide) | ((try rw [hbr]); (try simp at hbr))))
    | apply X.stepZ
    | (apply X.stepQ rfl; (focus (simp only [sub, subO, subL, subM, sub3, sub2, fk_some, fk_none, fk_arg0, fk_argS, fk_argN, fk_map0, fk_mapS, fk_mapN, reduceIte, Nat.reduceEqDiff, Nat.reduceAdd, g0, g1, g2, g8, g9, g12]; with_reducible rfl)); (focus (simp [-getElem?_pos, ht4, hp4, hcl, hd7, hd1, hbA, hbB, hbC, hbD, hbE, hbF, hls, hle, hle']; with_reducible (first | rfl | exact ⟨rfl, rfl⟩))))
    | (apply X.stepNQ rfl; (focus (simp only [sub, subO, subL, subM, sub3, sub2, fk_some, fk_none, fk_arg0, fk_argS, fk_argN, fk_map0, fk_mapS, fk_mapN, reduceIte, Nat.reduceEqDiff, Nat.reduceAdd, g0, g1, g2, g8, g9, g12]; with_reducible rfl)))
    | ((first | apply X.stepGtQ rfl | apply X.stepGfQ rfl); (focus (simp only [sub, subO, subL, subM, sub3, sub2, fk_some, fk_none, fk_arg0, fk_argS, fk_argN, fk_map0, fk_mapS, fk_mapN, reduceIte, Nat.reduceEqDiff, Nat.reduceAdd, g0, g1, g2, g8, g9, g12]; with_reducible rfl)); all_goals (intro hbr; first | exact absurd hbr (by decide) | ((try rw [hbr]); (try simp at hbr))))
    | (apply X.draw0; (focus rfl))
    | (apply X.drawH0; (focus rfl))
    | apply XD.nil
    | (apply XD.calmQ rfl rfl; (focus (simp only [sub, subO, subL, subM, sub3, sub2, fk_some, fk_none, fk_arg0, fk_argS, fk_argN, fk_map0, fk_mapS, fk_mapN, reduceIte, Nat.reduceEqDiff, Nat.reduceAdd, g0, g1, g2, g8, g9, g12]; with_reducible rfl)); (focus (simp [-getElem?_pos, ht4, hp4, hcl, hd7, hd1, hbA, hbB, hbC, hbD, hbE, hbF, hls, hle, hle']; with_reducible (first | rfl | exact ⟨rfl, rfl⟩))))
    | (apply XD.callQ rfl; (focus (simp only [sub, subO, subL, subM, sub3, sub2, fk_some, fk_none, fk_arg0, fk_argS, fk_argN, fk_map0, fk_mapS, fk_mapN, reduceIte, Nat.reduceEqDiff, Nat.reduceAdd, g0, g1, g2, g8, g9, g12]; simp; with_reducible rfl)); (focus (simp; with_reducible rfl)); (focus (simp [-getElem?_pos, ht4, hp4, hcl, hd7, hd1, hbA, hbB, hbC, hbD, hbE, hbF, hls, hle, hle']; done)); (focus (simp [-getElem?_pos, ht4, hp4, hcl, hd7, hd1, hbA, hbB, hbC, hbD, hbE, hbF, hls, hle, hle']; with_reducible rfl)))
    | (apply XD.stepNQ rfl; (focus (simp only [sub, subO, subL, subM, sub3, sub2, fk_some, fk_none, fk_arg0, fk_argS, fk_argN, fk_map0, fk_mapS, fk_mapN, reduceIte, Nat.reduceEqDiff, Nat.reduceAdd, g0, g1, g2, g8, g9, g12]; with_reducible rfl)))
    | ((first | apply XD.stepGtQ rfl | apply XD.stepGfQ rfl); (focus (simp only [sub, subO, subL, subM, sub3, sub2, fk_some, fk_none, fk_arg0, fk_argS, fk_argN, fk_map0, fk_mapS, fk_mapN, reduceIte, Nat.reduceEqDiff, Nat.reduceAdd, g0, g1, g2, g8, g9, g12]; with_reducible rfl)); all_goals (intro hbr; first | exact absurd hbr (by decide) | ((try rw [hbr]); (try simp at hbr))))
    | (apply XD.loudQ rfl; (focus (simp only [sub, subO, subL, subM, sub3, sub2, fk_some, fk_none, fk_arg0, fk_argS, fk_argN, fk_map0, fk_mapS, fk_mapN, reduceIte, Nat.reduceEqDiff, Nat.reduceAdd, g0, g1, g2, g8, g9, g12]; with_reducible rfl)); (focus (simp; with_reducible rfl)); (focus (simp [-getElem?_pos, ht4, hp4, hcl, hd7, hd1, hbA, hbB, hbC, hbD, hbE, hbF, hls, hle, hle']; with_reducible (first | rfl | exact ⟨rfl, rfl⟩))); (focus (simp; done)); (focus (simp [-getElem?_pos, ht4, hp4, hcl, hd7, hd1, hbA, hbB, hbC, hbD, hbE, hbF, hls, hle, hle']; with_reducible rfl))))
      refine X.callRQ (P := _) rfl (by simp only [sub, subO, subL, subM, sub3, sub2, fk_some, fk_none, fk_arg0, fk_argS, fk_argN, fk_map0, fk_mapS, fk_mapN, reduceIte, Nat.reduceEqDiff, Nat.reduceAdd, g0, g2, g8, g9, g12]; all_goals (first | with_reducible rfl | (simp <;> with_reducible rfl))) HH.p.has.raw (by simp [pures]) (hhas) ?_
      rintro v h5 ⟨rfl, rfl⟩
      (repeat' first
    | apply X.retS
    | apply X.skipS
    | apply X.skipB
    | apply X.skipL
    | (apply X.exitS; first | apply X.here | (refine X.out (by decide) ?_; apply X.here))
    | apply X.blockS
    | (apply X.condQ rfl; (focus (simp only [sub, subO, subL, subM, sub3, sub2, fk_some, fk_none, fk_arg0, fk_argS, fk_argN, fk_map0, fk_mapS, fk_mapN, reduceIte, Nat.reduceEqDiff, Nat.reduceAdd, g0, g1, g2, g8, g9, g12]; with_reducible rfl)); all_goals (intro hbr; first | exact absurd hbr (by decide) | ((try rw [hbr]); (try simp at hbr))))
    | apply X.stepZ
    | (apply X.stepQ rfl; (focus (simp only [sub, subO, subL, subM, sub3, sub2, fk_some, fk_none, fk_arg0, fk_argS, fk_argN, fk_map0, fk_mapS, fk_mapN, reduceIte, Nat.reduceEqDiff, Nat.reduceAdd, g0, g1, g2, g8, g9, g12]; with_reducible rfl)); (focus (simp [-getElem?_pos, ht4, hp4, hcl, hd7, hd1, hbA, hbB, hbC, hbD, hbE, hbF, hls]; with_reducible (first | rfl | exact ⟨rfl, rfl⟩))))
    | (apply X.stepNQ rfl; (focus (simp only [sub, subO, subL, subM, sub3, sub2, fk_some, fk_none, fk_arg0, fk_argS, fk_argN, fk_map0, fk_mapS, fk_mapN, reduceIte, Nat.reduceEqDiff, Nat.reduceAdd, g0, g1, g2, g8, g9, g12]; with_reducible rfl)))
    | ((first | apply X.stepGtQ rfl | apply X.stepGfQ rfl); (focus (simp only [sub, subO, subL, subM, sub3, sub2, fk_some, fk_none, fk_arg0, fk_argS, fk_argN, fk_map0, fk_mapS, fk_mapN, reduceIte, Nat.reduceEqDiff, Nat.reduceAdd, g0, g1, g2, g8, g9, g12]; with_reducible rfl)); all_goals (intro hbr; first | exact absurd hbr (by decide) | ((try rw [hbr]); (try simp at hbr))))
    | (apply X.draw0; (focus rfl))
    | (apply X.drawH0; (focus rfl))
    | apply XD.nil
    | (apply XD.calmQ rfl rfl; (focus (simp only [sub, subO, subL, subM, sub3, sub2, fk_some, fk_none, fk_arg0, fk_argS, fk_argN, fk_map0, fk_mapS, fk_mapN, reduceIte, Nat.reduceEqDiff, Nat.reduceAdd, g0, g1, g2, g8, g9, g12]; with_reducible rfl)); (focus (simp [-getElem?_pos, ht4, hp4, hcl, hd7, hd1, hbA, hbB, hbC, hbD, hbE, hbF, hls]; with_reducible (first | rfl | exact ⟨rfl, rfl⟩))))
    | (apply XD.callQ rfl; (focus (simp only [sub, subO, subL, subM, sub3, sub2, fk_some, fk_none, fk_arg0, fk_argS, fk_argN, fk_map0, fk_mapS, fk_mapN, reduceIte, Nat.reduceEqDiff, Nat.reduceAdd, g0, g1, g2, g8, g9, g12]; simp; with_reducible rfl)); (focus (simp; with_reducible rfl)); (focus (simp [-getElem?_pos, ht4, hp4, hcl, hd7, hd1, hbA, hbB, hbC, hbD, hbE, hbF, hls]; done)); (focus (simp [-getElem?_pos, ht4, hp4, hcl, hd7, hd1, hbA, hbB, hbC, hbD, hbE, hbF, hls]; with_reducible rfl)))
    | (apply XD.stepNQ rfl; (focus (simp only [sub, subO, subL, subM, sub3, sub2, fk_some, fk_none, fk_arg0, fk_argS, fk_argN, fk_map0, fk_mapS, fk_mapN, reduceIte, Nat.reduceEqDiff, Nat.reduceAdd, g0, g1, g2, g8, g9, g12]; with_reducible rfl)))
    | ((first | apply XD.stepGtQ rfl | apply XD.stepGfQ rfl); (focus (simp only [sub, subO, subL, subM, sub3, sub2, fk_some, fk_none, fk_arg0, fk_argS, fk_argN, fk_map0, fk_mapS, fk_mapN, reduceIte, Nat.reduceEqDiff, Nat.reduceAdd, g0, g1, g2, g8, g9, g12]; with_reducible rfl)); all_goals (intro hbr; first | exact absurd hbr (by decide) | ((try rw [hbr]); (try simp at hbr))))
    | (apply XD.loudQ rfl; (focus (simp only [sub, subO, subL, subM, sub3, sub2, fk_some, fk_none, fk_arg0, fk_argS, fk_argN, fk_map0, fk_mapS, fk_mapN, reduceIte, Nat.reduceEqDiff, Nat.reduceAdd, g0, g1, g2, g8, g9, g12]; with_reducible rfl)); (focus (simp; with_reducible rfl)); (focus (simp [-getElem?_pos, ht4, hp4, hcl, hd7, hd1, hbA, hbB, hbC, hbD, hbE, hbF, hls]; with_reducible (first | rfl | exact ⟨rfl, rfl⟩))); (focus (simp; done)); (focus (simp [-getElem?_pos, ht4, hp4, hcl, hd7, hd1, hbA, hbB, hbC, hbD, hbE, hbF, hls]; with_reducible rfl))))
      refine X.callRQ (P := _) rfl (by simp only [sub, subO, subL, subM, sub3, sub2, fk_some, fk_none, fk_arg0, fk_argS, fk_argN, fk_map0, fk_mapS, fk_mapN, reduceIte, Nat.reduceEqDiff, Nat.reduceAdd, g0, g2, g9, g12]; all_goals (first | with_reducible rfl | (simp <;> with_reducible rfl))) HH.row.raw (by simp [pures]) (O4.row R0 t0 hle') ?_
      rintro v h6 ⟨q3, es6, rfl, O6, S6, hne6, keep6⟩
      (repeat' first
    | apply X.retS
    | apply X.skipS
    | apply X.skipB
    | apply X.skipL
    | (apply X.exitS; first | apply X.here | (refine X.out (by decide) ?_; apply X.here))
    | apply X.blockS
    | (apply X.condQ rfl; (focus (simp only [sub, subO, subL, subM, sub3, sub2, fk_some, fk_none, fk_arg0, fk_argS, fk_argN, fk_map0, fk_mapS, fk_mapN, reduceIte, Nat.reduceEqDiff, Nat.reduceAdd, g0, g1, g2, g8, g9, g12]; with_reducible rfl)); all_goals (intro hbr; first | exact absurd hbr (by decide) | ((try rw [hbr]); (try simp at hbr))))
    | apply X.stepZ
    | (apply X.stepQ rfl; (focus (simp only [sub, subO, subL, subM, sub3, sub2, fk_some, fk_none, fk_arg0, fk_argS, fk_argN, fk_map0, fk_mapS, fk_mapN, reduceIte, Nat.reduceEqDiff, Nat.reduceAdd, g0, g1, g2, g8, g9, g12]; with_reducible rfl)); (focus (simp [-getElem?_pos]; with_reducible (first | rfl | exact ⟨rfl, rfl⟩))))
    | (apply X.stepNQ rfl; (focus (simp only [sub, subO, subL, subM, sub3, sub2, fk_some, fk_none, fk_arg0, fk_argS, fk_argN, fk_map0, fk_mapS, fk_mapN, reduceIte, Nat.reduceEqDiff, Nat.reduceAdd, g0, g1, g2, g8, g9, g12]; with_reducible rfl)))
    | ((first | apply X.stepGtQ rfl | apply X.stepGfQ rfl); (focus (simp only [sub, subO, subL, subM, sub3, sub2, fk_some, fk_none, fk_arg0, fk_argS, fk_argN, fk_map0, fk_mapS, fk_mapN, reduceIte, Nat.reduceEqDiff, Nat.reduceAdd, g0, g1, g2, g8, g9, g12]; with_reducible rfl)); all_goals (intro hbr; first | exact absurd hbr (by decide) | ((try rw [hbr]); (try simp at hbr))))
    | (apply X.draw0; (focus rfl))
    | (apply X.drawH0; (focus rfl))
    | apply XD.nil
    | (apply XD.calmQ rfl rfl; (focus (simp only [sub, subO, subL, subM, sub3, sub2, fk_some, fk_none, fk_arg0, fk_argS, fk_argN, fk_map0, fk_mapS, fk_mapN, reduceIte, Nat.reduceEqDiff, Nat.reduceAdd, g0, g1, g2, g8, g9, g12]; with_reducible rfl)); (focus (simp [-getElem?_pos]; with_reducible (first | rfl | exact ⟨rfl, rfl⟩))))
    | (apply XD.callQ rfl; (focus (simp only [sub, subO, subL, subM, sub3, sub2, fk_some, fk_none, fk_arg0, fk_argS, fk_argN, fk_map0, fk_mapS, fk_mapN, reduceIte, Nat.reduceEqDiff, Nat.reduceAdd, g0, g1, g2, g8, g9, g12]; simp; with_reducible rfl)); (focus (simp; with_reducible rfl)); (focus (simp [-getElem?_pos]; done)); (focus (simp [-getElem?_pos]; with_reducible rfl)))
    | (apply XD.stepNQ rfl; (focus (simp only [sub, subO, subL, subM, sub3, sub2, fk_some, fk_none, fk_arg0, fk_argS, fk_argN, fk_map0, fk_mapS, fk_mapN, reduceIte, Nat.reduceEqDiff, Nat.reduceAdd, g0, g1, g2, g8, g9, g12]; with_reducible rfl)))
    | ((first | apply XD.stepGtQ rfl | apply XD.stepGfQ rfl); (focus (simp only [sub, subO, subL, subM, sub3, sub2, fk_some, fk_none, fk_arg0, fk_argS, fk_argN, fk_map0, fk_mapS, fk_mapN, reduceIte, Nat.reduceEqDiff, Nat.reduceAdd, g0, g1, g2, g8, g9, g12]; with_reducible rfl)); all_goals (intro hbr; first | exact absurd hbr (by decide) | ((try rw [hbr]); (try simp at hbr))))
    | (apply XD.loudQ rfl; (focus (simp only [sub, subO, subL, subM, sub3, sub2, fk_some, fk_none, fk_arg0, fk_argS, fk_argN, fk_map0, fk_mapS, fk_mapN, reduceIte, Nat.reduceEqDiff, Nat.reduceAdd, g0, g1, g2, g8, g9, g12]; with_reducible rfl)); (focus (simp; with_reducible rfl)); (focus (simp [-getElem?_pos]; with_reducible (first | rfl | exact ⟨rfl, rfl⟩))); (focus (simp; done)); (focus (simp [-getElem?_pos]; with_reducible rfl))))
      refine X.callRQ (P := _) rfl (by simp only [sub, subO, subL, subM, sub3, sub2, fk_some, fk_none, fk_arg0, fk_argS, fk_argN, fk_map0, fk_mapS, fk_mapN, reduceIte, Nat.reduceEqDiff, Nat.reduceAdd, g0, g2, g8, g9, g12]; all_goals (first | with_reducible rfl | (simp <;> with_reducible rfl))) HH.p.or.raw (by simp [pures]) (O6.or HH.p S6 hne6) ?_
      rintro v h7 ⟨rfl, O7, keep7⟩
      (repeat' first
    | apply X.retS
    | apply X.skipS
    | apply X.skipB
    | apply X.skipL
    | (apply X.exitS; first | apply X.here | (refine X.out (by decide) ?_; apply X.here))
    | apply X.blockS
    | (apply X.condQ rfl; (focus (simp only [sub, subO, subL, subM, sub3, sub2, fk_some, fk_none, fk_arg0, fk_argS, fk_argN, fk_map0, fk_mapS, fk_mapN, reduceIte, Nat.reduceEqDiff, Nat.reduceAdd, g0, g1, g2, g8, g9, g12]; with_reducible rfl)); all_goals (intro hbr; first | exact absurd hbr (by decide) | ((try rw [hbr]); (try simp at hbr))))
    | apply X.stepZ
    | (apply X.stepQ rfl; (focus (simp only [sub, subO, subL, subM, sub3, sub2, fk_some, fk_none, fk_arg0, fk_argS, fk_argN, fk_map0, fk_mapS, fk_mapN, reduceIte, Nat.reduceEqDiff, Nat.reduceAdd, g0, g1, g2, g8, g9, g12]; with_reducible rfl)); (focus (simp [-getElem?_pos, hww]; with_reducible (first | rfl | exact ⟨rfl, rfl⟩))))
    | (apply X.stepNQ rfl; (focus (simp only [sub, subO, subL, subM, sub3, sub2, fk_some, fk_none, fk_arg0, fk_argS, fk_argN, fk_map0, fk_mapS, fk_mapN, reduceIte, Nat.reduceEqDiff, Nat.reduceAdd, g0, g1, g2, g8, g9, g12]; with_reducible rfl)))
    | ((first | apply X.stepGtQ rfl | apply X.stepGfQ rfl); (focus (simp only [sub, subO, subL, subM, sub3, sub2, fk_some, fk_none, fk_arg0, fk_argS, fk_argN, fk_map0, fk_mapS, fk_mapN, reduceIte, Nat.reduceEqDiff, Nat.reduceAdd, g0, g1, g2, g8, g9, g12]; with_reducible rfl)); all_goals (intro hbr; first | exact absurd hbr (by decide) | ((try rw [hbr]); (try simp at hbr))))
    | (apply X.draw0; (focus rfl))
    | (apply X.drawH0; (focus rfl))
    | apply XD.nil
    | (apply XD.calmQ rfl rfl; (focus (simp only [sub, subO, subL, subM, sub3, sub2, fk_some, fk_none, fk_arg0, fk_argS, fk_argN, fk_map0, fk_mapS, fk_mapN, reduceIte, Nat.reduceEqDiff, Nat.reduceAdd, g0, g1, g2, g8, g9, g12]; with_reducible rfl)); (focus (simp [-getElem?_pos, hww]; with_reducible (first | rfl | exact ⟨rfl, rfl⟩))))
    | (apply XD.callQ rfl; (focus (simp only [sub, subO, subL, subM, sub3, sub2, fk_some, fk_none, fk_arg0, fk_argS, fk_argN, fk_map0, fk_mapS, fk_mapN, reduceIte, Nat.reduceEqDiff, Nat.reduceAdd, g0, g1, g2, g8, g9, g12]; simp; with_reducible rfl)); (focus (simp; with_reducible rfl)); (focus (simp [-getElem?_pos, hww]; done)); (focus (simp [-getElem?_pos, hww]; with_reducible rfl)))
    | (apply XD.stepNQ rfl; (focus (simp only [sub, subO, subL, subM, sub3, sub2, fk_some, fk_none, fk_arg0, fk_argS, fk_argN, fk_map0, fk_mapS, fk_mapN, reduceIte, Nat.reduceEqDiff, Nat.reduceAdd, g0, g1, g2, g8, g9, g12]; with_reducible rfl)))
    | ((first | apply XD.stepGtQ rfl | apply XD.stepGfQ rfl); (focus (simp only [sub, subO, subL, subM, sub3, sub2, fk_some, fk_none, fk_arg0, fk_argS, fk_argN, fk_map0, fk_mapS, fk_mapN, reduceIte, Nat.reduceEqDiff, Nat.reduceAdd, g0, g1, g2, g8, g9, g12]; with_reducible rfl)); all_goals (intro hbr; first | exact absurd hbr (by decide) | ((try rw [hbr]); (try simp at hbr))))
    | (apply XD.loudQ rfl; (focus (simp only [sub, subO, subL, subM, sub3, sub2, fk_some, fk_none, fk_arg0, fk_argS, fk_argN, fk_map0, fk_mapS, fk_mapN, reduceIte, Nat.reduceEqDiff, Nat.reduceAdd, g0, g1, g2, g8, g9, g12]; with_reducible rfl)); (focus (simp; with_reducible rfl)); (focus (simp [-getElem?_pos, hww]; with_reducible (first | rfl | exact ⟨rfl, rfl⟩))); (focus (simp; done)); (focus (simp [-getElem?_pos, hww]; with_reducible rfl))))
      all_goals exact ⟨hj1, _, es6, _, k + 1, _, ⟨by omega, O7, by simpa using hgo⟩, by simp [g0, g1, g2, g8, g9], rfl⟩
  · have hle : ¬ (k : Int) ≤ (s.length : Int) := by omega
    have hle' : ¬ k ≤ s.length := by omega
    have hn : s.length + 1 - i - j = 0 := by omega
    rw [hn, goS] at hgo
    subst hgo
    (repeat' first
    | apply X.retS
    | apply X.skipS
    | apply X.skipB
    | apply X.skipL
    | (apply X.exitS; first | apply X.here | (refine X.out (by decide) ?_; apply X.here))
    | apply X.blockS
    | (apply X.condQ rfl; (focus (simp only [sub, subO, subL, subM, sub3, sub2, fk_some, fk_none, fk_arg0, fk_argS, fk_argN, fk_map0, fk_mapS, fk_mapN, reduceIte, Nat.reduceEqDiff, Nat.reduceAdd, g0, g1, g2, g8, g9, g12]; with_reducible rfl)); all_goals (intro hbr; first | exact absurd hbr (by decide) | ((try rw [hbr]); (try simp at hbr))))
    | apply X.stepZ
    | (apply X.stepQ rfl; (focus (simp only [sub, subO, subL, subM, sub3, sub2, fk_some, fk_none, fk_arg0, fk_argS, fk_argN, fk_map0, fk_mapS, fk_mapN, reduceIte, Nat.reduceEqDiff, Nat.reduceAdd, g0, g1, g2, g8, g9, g12]; with_reducible rfl)); (focus (simp [-getElem?_pos, ht4, hp4, hcl, hd7, hd1, hbA, hbB, hbC, hbD, hbE, hbF, hls, hle, hle']; with_reducible (first | rfl | exact ⟨rfl, rfl⟩))))
    | (apply X.stepNQ rfl; (focus (simp only [sub, subO, subL, subM, sub3, sub2, fk_some, fk_none, fk_arg0, fk_argS, fk_argN, fk_map0, fk_mapS, fk_mapN, reduceIte, Nat.reduceEqDiff, Nat.reduceAdd, g0, g1, g2, g8, g9, g12]; with_reducible rfl)))
    | ((first | apply X.stepGtQ rfl | apply X.stepGfQ rfl); (focus (simp only [sub, subO, subL, subM, sub3, sub2, fk_some, fk_none, fk_arg0, fk_argS, fk_argN, fk_map0, fk_mapS, fk_mapN, reduceIte, Nat.reduceEqDiff, Nat.reduceAdd, g0, g1, g2, g8, g9, g12]; with_reducible rfl)); all_goals (intro hbr; first | exact absurd hbr (by decide) | ((try rw [hbr]); (try simp at hbr))))
    | (apply X.draw0; (focus rfl))
    | (apply X.drawH0; (focus rfl))
    | apply XD.nil
    | (apply XD.calmQ rfl rfl; (focus (simp only [sub, subO, subL, subM, sub3, sub2, fk_some, fk_none, fk_arg0, fk_argS, fk_argN, fk_map0, fk_mapS, fk_mapN, reduceIte, Nat.reduceEqDiff, Nat.reduceAdd, g0, g1, g2, g8, g9, g12]; with_reducible rfl)); (focus (simp [-getElem?_pos, ht4, hp4, hcl, hd7, hd1, hbA, hbB, hbC, hbD, hbE, hbF, hls, hle, hle']; with_reducible (first | rfl | exact ⟨rfl, rfl⟩))))
    | (apply XD.callQ rfl; (focus (simp only [sub, subO, subL, subM, sub3, sub2, fk_some, fk_none, fk_arg0, fk_argS, fk_argN, fk_map0, fk_mapS, fk_mapN, reduceIte, Nat.reduceEqDiff, Nat.reduceAdd, g0, g1, g2, g8, g9, g12]; simp; with_reducible rfl)); (focus (simp; with_reducible rfl)); (focus (simp [-getElem?_pos, ht4, hp4, hcl, hd7, hd1, hbA, hbB, hbC, hbD, hbE, hbF, hls, hle, hle']; done)); (focus (simp [-getElem?_pos, ht4, hp4, hcl, hd7, hd1, hbA, hbB, hbC, hbD, hbE, hbF, hls, hle, hle']; with_reducible rfl)))
    | (apply XD.stepNQ rfl; (focus (simp only [sub, subO, subL, subM, sub3, sub2, fk_some, fk_none, fk_arg0, fk_argS, fk_argN, fk_map0, fk_mapS, fk_mapN, reduceIte, Nat.reduceEqDiff, Nat.reduceAdd, g0, g1, g2, g8, g9, g12]; with_reducible rfl)))
    | ((first | apply XD.stepGtQ rfl | apply XD.stepGfQ rfl); (focus (simp only [sub, subO, subL, subM, sub3, sub2, fk_some, fk_none, fk_arg0, fk_argS, fk_argN, fk_map0, fk_mapS, fk_mapN, reduceIte, Nat.reduceEqDiff, Nat.reduceAdd, g0, g1, g2, g8, g9, g12]; with_reducible rfl)); all_goals (intro hbr; first | exact absurd hbr (by decide) | ((try rw [hbr]); (try simp at hbr))))
    | (apply XD.loudQ rfl; (focus (simp only [sub, subO, subL, subM, sub3, sub2, fk_some, fk_none, fk_arg0, fk_argS, fk_argN, fk_map0, fk_mapS, fk_mapN, reduceIte, Nat.reduceEqDiff, Nat.reduceAdd, g0, g1, g2, g8, g9, g12]; with_reducible rfl)); (focus (simp; with_reducible rfl)); (focus (simp [-getElem?_pos, ht4, hp4, hcl, hd7, hd1, hbA, hbB, hbC, hbD, hbE, hbF, hls, hle, hle']; with_reducible (first | rfl | exact ⟨rfl, rfl⟩))); (focus (simp; done)); (focus (simp [-getElem?_pos, ht4, hp4, hcl, hd7, hd1, hbA, hbB, hbC, hbD, hbE, hbF, hls, hle, hle']; with_reducible rfl))))
    all_goals exact ⟨_, es4, _, O4, by simp [g0, g1, g2, g8], rfl⟩
end Lng

-- lang.Table.row, walked.
namespace Lng
open Go Ab Cps Go.Proofs.Ytdacifedlemlmaa.Mach
variable {E : Env}

theorem len_two {α : Type} {l : List α} (h : l.length = 2) : ∃ x y, l = [x, y] := by
  match l, h with
  | [x, y], _ => exact ⟨x, y, rfl⟩
/-- None? -/
def isN : V → Bool
  | .nils => true
  | _ => false
set_option maxHeartbeats 16000000 in
set_option maxRecDepth 100000 in
theorem row_ok (HH : HasW E) (s : List Int) (hs : s.length ≤ 256) (hb : ∀ x ∈ s, 0 ≤ x ∧ x < 256) : ∀ c, Sh c → RowOk E s c := by
  refine Co.ind fun c ih hsh B h tid pid eid P kvs es a i T hB htr hi => ?_
  obtain ⟨ks, hPa, htl⟩ := tree_eq.1 htr
  have hP : P ≠ [] := by rintro rfl; simp at hPa
  have haP := lt_of_at hPa
  obtain ⟨kv, hkv⟩ := at_of_lt (l := kvs) (j := a) (by rw [T.klen]; exact haP)
  obtain ⟨v0, hv0⟩ := at_of_lt (l := es) (j := a) (by rw [T.elen]; exact haP)
  obtain ⟨tt, ht⟩ := T.t
  obtain ⟨te, he⟩ := T.e
  have hel := T.elen
  have hda := drop_at hv0
  have hap1 : a + 1 ≤ P.length := haP
  refine HH.row.limQE (Nat.le_of_ble_eq_true rfl) ?_; unfold c82
  have hnil : binA .eql (.nil .sl) v0 .nils = some (.pv (.bool (isN v0))) := by
    rcases T.rows a v0 hv0 with g | ⟨rid, g, _⟩ <;> subst g <;> simp [isN]
  (repeat' first
    | apply X.retS
    | apply X.skipS
    | apply X.skipB
    | apply X.skipL
    | (apply X.exitS; first | apply X.here | (refine X.out (by decide) ?_; apply X.here))
    | apply X.stepZ
    | (apply X.stepQ rfl; (focus (simp only [sub, subO, subL, subM, sub3, sub2, fk_some, fk_none, fk_arg0, fk_argS, fk_argN, fk_map0, fk_mapS, fk_mapN, reduceIte, Nat.reduceEqDiff, Nat.reduceAdd]; with_reducible rfl)); (focus (simp [-getElem?_pos, ht, he, hel, hda, haP, hap1, -binA, hnil]; with_reducible (first | rfl | exact ⟨rfl, rfl⟩))))
    | (apply X.stepNQ rfl; (focus (simp only [sub, subO, subL, subM, sub3, sub2, fk_some, fk_none, fk_arg0, fk_argS, fk_argN, fk_map0, fk_mapS, fk_mapN, reduceIte, Nat.reduceEqDiff, Nat.reduceAdd]; with_reducible rfl)))
    | ((first | apply X.stepGtQ rfl | apply X.stepGfQ rfl); (focus (simp only [sub, subO, subL, subM, sub3, sub2, fk_some, fk_none, fk_arg0, fk_argS, fk_argN, fk_map0, fk_mapS, fk_mapN, reduceIte, Nat.reduceEqDiff, Nat.reduceAdd]; with_reducible rfl)); all_goals (intro hbr; first | exact absurd hbr (by decide) | ((try rw [hbr]); (try simp at hbr))))
    | (apply X.draw0; (focus rfl))
    | (apply X.drawH0; (focus rfl))
    | apply XD.nil
    | (apply XD.calmQ rfl rfl; (focus (simp only [sub, subO, subL, subM, sub3, sub2, fk_some, fk_none, fk_arg0, fk_argS, fk_argN, fk_map0, fk_mapS, fk_mapN, reduceIte, Nat.reduceEqDiff, Nat.reduceAdd]; with_reducible rfl)); (focus (simp [-getElem?_pos, ht, he, hel, hda, haP, hap1, -binA, hnil]; with_reducible (first | rfl | exact ⟨rfl, rfl⟩))))
    | (apply XD.callQ rfl; (focus (simp only [sub, subO, subL, subM, sub3, sub2, fk_some, fk_none, fk_arg0, fk_argS, fk_argN, fk_map0, fk_mapS, fk_mapN, reduceIte, Nat.reduceEqDiff, Nat.reduceAdd]; simp; with_reducible rfl)); (focus (simp; with_reducible rfl)); (focus (simp [-getElem?_pos, ht, he, hel, hda, haP, hap1, -binA, hnil]; done)); (focus (simp [-getElem?_pos, ht, he, hel, hda, haP, hap1, -binA, hnil]; with_reducible rfl)))
    | (apply XD.stepNQ rfl; (focus (simp only [sub, subO, subL, subM, sub3, sub2, fk_some, fk_none, fk_arg0, fk_argS, fk_argN, fk_map0, fk_mapS, fk_mapN, reduceIte, Nat.reduceEqDiff, Nat.reduceAdd]; with_reducible rfl)))
    | ((first | apply XD.stepGtQ rfl | apply XD.stepGfQ rfl); (focus (simp only [sub, subO, subL, subM, sub3, sub2, fk_some, fk_none, fk_arg0, fk_argS, fk_argN, fk_map0, fk_mapS, fk_mapN, reduceIte, Nat.reduceEqDiff, Nat.reduceAdd]; with_reducible rfl)); all_goals (intro hbr; first | exact absurd hbr (by decide) | ((try rw [hbr]); (try simp at hbr))))
    | (apply XD.loudQ rfl; (focus (simp only [sub, subO, subL, subM, sub3, sub2, fk_some, fk_none, fk_arg0, fk_argS, fk_argN, fk_map0, fk_mapS, fk_mapN, reduceIte, Nat.reduceEqDiff, Nat.reduceAdd]; with_reducible rfl)); (focus (simp; with_reducible rfl)); (focus (simp [-getElem?_pos, ht, he, hel, hda, haP, hap1, -binA, hnil]; with_reducible (first | rfl | exact ⟨rfl, rfl⟩))); (focus (simp; done)); (focus (simp [-getElem?_pos, ht, he, hel, hda, haP, hap1, -binA, hnil]; with_reducible rfl))))
  refine X.condCutQ (fun st => ∃ (h1 : Heap) (es1 : List V) (rid : Nat) (f : Nat → V), (Tbl B h1 tid pid eid P kvs s es1 ∧ B ≤ h1.length ∧ FrW s.length eid h es h1 es1 ∧ es1[a]? = some (rowV rid s.length)) ∧
    (fk (Fk.mk (f := f)) 0 = .ptr tid 0 ∧ fk (Fk.mk (f := f)) 1 = .pv (.int .i64 (a : Int)) ∧ fk (Fk.mk (f := f)) 2 = .pv (.int .i64 (i : Int))) ∧ st = ⟨TL 206 f, h1⟩) rfl (by simp only [sub, subO, subL, subM, sub3, sub2, fk_some, fk_none, fk_arg0, fk_argS, fk_argN, fk_map0, fk_mapS, fk_mapN, reduceIte, Nat.reduceEqDiff, Nat.reduceAdd]; with_reducible rfl) ?_ ?_ ?_
  · intro hbr
    have hv : v0 = .nils := by cases v0 <;> first | rfl | cases hbr
    subst hv
    obtain ⟨T1, F1, hr1⟩ := T.mkrow hB hv0 he
    have htl := T.tid_lt
    have hel2 := T.eid_lt
    have hne := T.ne_te hP
    have hne' := Ne.symm hne
    have hls := encB_len s
    have hw1 : IntKind.i64.wrap ((s.length : Int) + 1) = (s.length : Int) + 1 := wrap_i64 (by omega)
    have hn0 : (0 : Int) ≤ (s.length : Int) + 1 := by omega
    have hnt : ((s.length : Int) + 1).toNat = s.length + 1 := by omega
    have hm1 : (s.length + 1) * 8 ≤ 35184372088832 := by omega
    have hm2 : s.length + 1 ≤ 35184372088832 := by omega
    have hrep : (List.replicate (s.length + 1) [V.pv .nilp]).flatten = List.replicate (s.length + 1) (V.pv .nilp) := by
      generalize s.length + 1 = n
      induction n with
      | zero => rfl
      | succ n ih => simp [List.replicate_succ, ih]
    have hsp : splice es a [rowV h.length s.length] = es.set a (rowV h.length s.length) := splice_one (by rw [hel]; exact haP)
    simp [splice] at hsp
    have het : ∀ l, ent (h ++ l) tid = _ := fun l => ent_app ht (by simp)
    have hee : ∀ l, ent (h ++ l) eid = _ := fun l => ent_app he (by simp)
    have hse : ∀ (l : Heap) (X : Ent), (h ++ l).set eid X = h.set eid X ++ l := fun l X => List.set_append_left _ _ hel2
    (repeat' first
    | apply X.retS
    | apply X.skipS
    | apply X.skipB
    | apply X.skipL
    | (apply X.exitS; first | apply X.here | (refine X.out (by decide) ?_; apply X.here))
    | apply X.stepZ
    | (apply X.stepQ rfl; (focus (simp only [sub, subO, subL, subM, sub3, sub2, fk_some, fk_none, fk_arg0, fk_argS, fk_argN, fk_map0, fk_mapS, fk_mapN, reduceIte, Nat.reduceEqDiff, Nat.reduceAdd]; with_reducible rfl)); (focus (simp [-getElem?_pos, ht, he, hel, hda, haP, hap1, hls, hw1, hn0, hnt, hm1, hm2, hrep, hsp, het, hee, hse, hne, hne']; with_reducible (first | rfl | exact ⟨rfl, rfl⟩))))
    | (apply X.stepNQ rfl; (focus (simp only [sub, subO, subL, subM, sub3, sub2, fk_some, fk_none, fk_arg0, fk_argS, fk_argN, fk_map0, fk_mapS, fk_mapN, reduceIte, Nat.reduceEqDiff, Nat.reduceAdd]; with_reducible rfl)))
    | ((first | apply X.stepGtQ rfl | apply X.stepGfQ rfl); (focus (simp only [sub, subO, subL, subM, sub3, sub2, fk_some, fk_none, fk_arg0, fk_argS, fk_argN, fk_map0, fk_mapS, fk_mapN, reduceIte, Nat.reduceEqDiff, Nat.reduceAdd]; with_reducible rfl)); all_goals (intro hbr; first | exact absurd hbr (by decide) | ((try rw [hbr]); (try simp at hbr))))
    | (apply X.draw0; (focus rfl))
    | (apply X.drawH0; (focus rfl))
    | apply XD.nil
    | (apply XD.calmQ rfl rfl; (focus (simp only [sub, subO, subL, subM, sub3, sub2, fk_some, fk_none, fk_arg0, fk_argS, fk_argN, fk_map0, fk_mapS, fk_mapN, reduceIte, Nat.reduceEqDiff, Nat.reduceAdd]; with_reducible rfl)); (focus (simp [-getElem?_pos, ht, he, hel, hda, haP, hap1, hls, hw1, hn0, hnt, hm1, hm2, hrep, hsp, het, hee, hse, hne, hne']; with_reducible (first | rfl | exact ⟨rfl, rfl⟩))))
    | (apply XD.callQ rfl; (focus (simp only [sub, subO, subL, subM, sub3, sub2, fk_some, fk_none, fk_arg0, fk_argS, fk_argN, fk_map0, fk_mapS, fk_mapN, reduceIte, Nat.reduceEqDiff, Nat.reduceAdd]; simp; with_reducible rfl)); (focus (simp; with_reducible rfl)); (focus (simp [-getElem?_pos, ht, he, hel, hda, haP, hap1, hls, hw1, hn0, hnt, hm1, hm2, hrep, hsp, het, hee, hse, hne, hne']; done)); (focus (simp [-getElem?_pos, ht, he, hel, hda, haP, hap1, hls, hw1, hn0, hnt, hm1, hm2, hrep, hsp, het, hee, hse, hne, hne']; with_reducible rfl)))
    | (apply XD.stepNQ rfl; (focus (simp only [sub, subO, subL, subM, sub3, sub2, fk_some, fk_none, fk_arg0, fk_argS, fk_argN, fk_map0, fk_mapS, fk_mapN, reduceIte, Nat.reduceEqDiff, Nat.reduceAdd]; with_reducible rfl)))
    | ((first | apply XD.stepGtQ rfl | apply XD.stepGfQ rfl); (focus (simp only [sub, subO, subL, subM, sub3, sub2, fk_some, fk_none, fk_arg0, fk_argS, fk_argN, fk_map0, fk_mapS, fk_mapN, reduceIte, Nat.reduceEqDiff, Nat.reduceAdd]; with_reducible rfl)); all_goals (intro hbr; first | exact absurd hbr (by decide) | ((try rw [hbr]); (try simp at hbr))))
    | (apply XD.loudQ rfl; (focus (simp only [sub, subO, subL, subM, sub3, sub2, fk_some, fk_none, fk_arg0, fk_argS, fk_argN, fk_map0, fk_mapS, fk_mapN, reduceIte, Nat.reduceEqDiff, Nat.reduceAdd]; with_reducible rfl)); (focus (simp; with_reducible rfl)); (focus (simp [-getElem?_pos, ht, he, hel, hda, haP, hap1, hls, hw1, hn0, hnt, hm1, hm2, hrep, hsp, het, hee, hse, hne, hne']; with_reducible (first | rfl | exact ⟨rfl, rfl⟩))); (focus (simp; done)); (focus (simp [-getElem?_pos, ht, he, hel, hda, haP, hap1, hls, hw1, hn0, hnt, hm1, hm2, hrep, hsp, het, hee, hse, hne, hne']; with_reducible rfl))))
    exact ⟨_, _, h.length, _, ⟨T1, by simp; omega, F1, hr1⟩, by simp, rfl⟩
  · intro hbr
    have hv : ∃ rid, v0 = rowV rid s.length := by
      rcases T.rows a v0 hv0 with g | ⟨rid, g, _⟩
      · subst g; cases hbr
      · exact ⟨rid, g⟩
    obtain ⟨rid, rfl⟩ := hv
    apply X.skipS
    apply X.skipL
    exact ⟨h, es, rid, _, ⟨T, hB, FrW.refl, hv0⟩, by simp, rfl⟩
  · rintro st ⟨h1, es1, rid, f, ⟨T1, hB1, F1, hr1⟩, ⟨f0, f1, f2⟩, rfl⟩
    clear hnil hda hv0 he ht
    obtain ⟨tt1, ht⟩ := T1.t
    obtain ⟨te1, he⟩ := T1.e
    obtain ⟨tp1, hp⟩ := T1.p
    have hel1 := T1.elen
    have hda := drop_at hr1
    obtain ⟨hrB, rs, tr, hr, hrl, hrw⟩ := T1.rid hr1
    obtain ⟨n1, n2, n3, n4⟩ := T1.rid_ne hP hr1
    obtain ⟨w, hw⟩ := at_of_lt (l := rs) (j := i) (by omega)
    have hdw := drop_at hw
    have hi1 : i + 1 ≤ s.length + 1 := by omega
    have hi2 : i < s.length + 1 := by omega
    rcases hrw i w hw with hw0 | ⟨q, hw0, ws, tq, hq, hqw⟩
    · subst hw0
      obtain ⟨r9, hcell⟩ := cellsT_at P kvs a _ kv hPa hkv
      have hcl := cellsT_len P kvs T1.klen
      have hd0 : (cellsT P kvs).drop (a * 8) = .pv (.int .i64 c.k) :: .pv (.int .u64 c.s0) :: .pv (.int .u64 c.s1) :: .pv (.int .u64 c.s2) :: .pv (.int .u64 c.s3) :: .pv (.int .i64 c.n) :: .pv (.sl (c.l.map encC)) :: kv :: r9 := by rw [hcell]; simp [coreV]
      have hbA : a * 8 + 1 ≤ P.length * 8 := by omega
      have hbB : a * 8 < P.length * 8 := by omega
      have het : ∀ l, ent (h1 ++ l) tid = _ := fun l => ent_app ht (by simp)
      have hpt : ∀ l, ent (h1 ++ l) pid = _ := fun l => ent_app hp (by simp)
      have O := own_new T1 hB1
      obtain ⟨hlen, _, hshx⟩ := sh_mk.1 hsh
      (repeat' first
    | apply X.retS
    | apply X.skipS
    | apply X.skipB
    | apply X.skipL
    | (apply X.exitS; first | apply X.here | (refine X.out (by decide) ?_; apply X.here))
    | (apply X.condQ rfl; (focus (simp only [sub, subO, subL, subM, sub3, sub2, fk_some, fk_none, fk_arg0, fk_argS, fk_argN, fk_map0, fk_mapS, fk_mapN, reduceIte, Nat.reduceEqDiff, Nat.reduceAdd, f0, f1, f2]; with_reducible rfl)); all_goals (intro hbr; first | exact absurd hbr (by decide) | ((try rw [hbr]); (try simp at hbr))))
    | apply X.stepZ
    | (apply X.stepQ rfl; (focus (simp only [sub, subO, subL, subM, sub3, sub2, fk_some, fk_none, fk_arg0, fk_argS, fk_argN, fk_map0, fk_mapS, fk_mapN, reduceIte, Nat.reduceEqDiff, Nat.reduceAdd, f0, f1, f2]; with_reducible rfl)); (focus (simp [-getElem?_pos, ht, he, hel1, hda, haP, hap1, hr, hrl, hdw, hi, hi1, hi2, het, hpt, hcl, hd0, hbA, hbB]; with_reducible (first | rfl | exact ⟨rfl, rfl⟩))))
    | (apply X.stepNQ rfl; (focus (simp only [sub, subO, subL, subM, sub3, sub2, fk_some, fk_none, fk_arg0, fk_argS, fk_argN, fk_map0, fk_mapS, fk_mapN, reduceIte, Nat.reduceEqDiff, Nat.reduceAdd, f0, f1, f2]; with_reducible rfl)))
    | ((first | apply X.stepGtQ rfl | apply X.stepGfQ rfl); (focus (simp only [sub, subO, subL, subM, sub3, sub2, fk_some, fk_none, fk_arg0, fk_argS, fk_argN, fk_map0, fk_mapS, fk_mapN, reduceIte, Nat.reduceEqDiff, Nat.reduceAdd, f0, f1, f2]; with_reducible rfl)); all_goals (intro hbr; first | exact absurd hbr (by decide) | ((try rw [hbr]); (try simp at hbr))))
    | (apply X.draw0; (focus rfl))
    | (apply X.drawH0; (focus rfl))
    | apply XD.nil
    | (apply XD.calmQ rfl rfl; (focus (simp only [sub, subO, subL, subM, sub3, sub2, fk_some, fk_none, fk_arg0, fk_argS, fk_argN, fk_map0, fk_mapS, fk_mapN, reduceIte, Nat.reduceEqDiff, Nat.reduceAdd, f0, f1, f2]; with_reducible rfl)); (focus (simp [-getElem?_pos, ht, he, hel1, hda, haP, hap1, hr, hrl, hdw, hi, hi1, hi2, het, hpt, hcl, hd0, hbA, hbB]; with_reducible (first | rfl | exact ⟨rfl, rfl⟩))))
    | (apply XD.callQ rfl; (focus (simp only [sub, subO, subL, subM, sub3, sub2, fk_some, fk_none, fk_arg0, fk_argS, fk_argN, fk_map0, fk_mapS, fk_mapN, reduceIte, Nat.reduceEqDiff, Nat.reduceAdd, f0, f1, f2]; simp; with_reducible rfl)); (focus (simp; with_reducible rfl)); (focus (simp [-getElem?_pos, ht, he, hel1, hda, haP, hap1, hr, hrl, hdw, hi, hi1, hi2, het, hpt, hcl, hd0, hbA, hbB]; done)); (focus (simp [-getElem?_pos, ht, he, hel1, hda, haP, hap1, hr, hrl, hdw, hi, hi1, hi2, het, hpt, hcl, hd0, hbA, hbB]; with_reducible rfl)))
    | (apply XD.stepNQ rfl; (focus (simp only [sub, subO, subL, subM, sub3, sub2, fk_some, fk_none, fk_arg0, fk_argS, fk_argN, fk_map0, fk_mapS, fk_mapN, reduceIte, Nat.reduceEqDiff, Nat.reduceAdd, f0, f1, f2]; with_reducible rfl)))
    | ((first | apply XD.stepGtQ rfl | apply XD.stepGfQ rfl); (focus (simp only [sub, subO, subL, subM, sub3, sub2, fk_some, fk_none, fk_arg0, fk_argS, fk_argN, fk_map0, fk_mapS, fk_mapN, reduceIte, Nat.reduceEqDiff, Nat.reduceAdd, f0, f1, f2]; with_reducible rfl)); all_goals (intro hbr; first | exact absurd hbr (by decide) | ((try rw [hbr]); (try simp at hbr))))
    | (apply XD.loudQ rfl; (focus (simp only [sub, subO, subL, subM, sub3, sub2, fk_some, fk_none, fk_arg0, fk_argS, fk_argN, fk_map0, fk_mapS, fk_mapN, reduceIte, Nat.reduceEqDiff, Nat.reduceAdd, f0, f1, f2]; with_reducible rfl)); (focus (simp; with_reducible rfl)); (focus (simp [-getElem?_pos, ht, he, hel1, hda, haP, hap1, hr, hrl, hdw, hi, hi1, hi2, het, hpt, hcl, hd0, hbA, hbB]; with_reducible (first | rfl | exact ⟨rfl, rfl⟩))); (focus (simp; done)); (focus (simp [-getElem?_pos, ht, he, hel1, hda, haP, hap1, hr, hrl, hdw, hi, hi1, hi2, het, hpt, hcl, hd0, hbA, hbB]; with_reducible rfl))))
      refine X.blockMid (RowM B tid pid eid P kvs s h1 es1 h1.length a i c) ?_ ?_
      · refine X.abs (fun st => ∃ f : Nat → V, (fk (Fk.mk (f := f)) 0 = .ptr tid 0 ∧ fk (Fk.mk (f := f)) 1 = .pv (.int .i64 (a : Int)) ∧ fk (Fk.mk (f := f)) 2 = .pv (.int .i64 (i : Int)) ∧ fk (Fk.mk (f := f)) 8 = .ptr h1.length 0 ∧ fk (Fk.mk (f := f)) 9 = .ptr pid (a * 8) ∧ fk (Fk.mk (f := f)) 59 = .pv (.int .i64 c.k)) ∧ st = ⟨TL 206 f, h1 ++ [.blk [.pv (.int .u64 0), .pv (.int .u64 0), .pv (.int .u64 0), .pv (.int .u64 0), .pv (.int .u64 0)] none]⟩) ⟨_, by simp [f0, f1, f2], rfl⟩ ?_
        rintro st ⟨f, ⟨g0, g1, g2, g8, g9, g59⟩, rfl⟩
        have hk8 : c.k = 0 ∨ c.k = 1 ∨ c.k = 2 ∨ c.k = 3 ∨ c.k = 4 ∨ c.k = 5 ∨ c.k = 6 ∨ c.k = 7 := by
          have g := hlen
          unfold kidsS at g
          split at g
          · omega
          · split at g
            · omega
            · split at g
              · omega
              · omega
        rcases hk8 with hk | hk | hk | hk | hk | hk | hk | hk
        · exact row_k0 HH hs hb hi haP hcl hcell O g0 g1 g2 g8 g9 (by rw [g59, hk]) hk
        · exact row_k1 HH hs hb hi haP hcl hcell O g0 g1 g2 g8 g9 (by rw [g59, hk]) hk
        · exact row_k2 HH hs hb hi haP hcl hcell O g0 g1 g2 g8 g9 (by rw [g59, hk]) hk
        · have h2l : c.l.length = 2 := by have g := hlen; rw [hk] at g; simp [kidsS] at g; omega
          obtain ⟨x0, x1, hl⟩ := len_two h2l
          rw [hl] at htl
          obtain ⟨k0, ks1, rfl, t0, k1, ks2, rfl, t1, hz⟩ := htl
          have hz : ks2 = [] := hz
          subst hz
          rcases T1.kids a _ kv hPa hkv with ⟨_, g⟩ | ⟨tok, gk⟩
          · cases g
          · exact row_k3 HH hs hb hi haP hcl hcell O g0 g1 g2 g8 g9 (by rw [g59, hk]) hk hl (gk.trans rfl) (ih x0 (by rw [hl]; simp) (hshx x0 (by rw [hl]; simp))) t0 (ih x1 (by rw [hl]; simp) (hshx x1 (by rw [hl]; simp))) t1
        · have h2l : c.l.length = 2 := by have g := hlen; rw [hk] at g; simp [kidsS] at g; omega
          obtain ⟨x0, x1, hl⟩ := len_two h2l
          rw [hl] at htl
          obtain ⟨k0, ks1, rfl, t0, k1, ks2, rfl, t1, hz⟩ := htl
          have hz : ks2 = [] := hz
          subst hz
          rcases T1.kids a _ kv hPa hkv with ⟨_, g⟩ | ⟨tok, gk⟩
          · cases g
          · exact row_k4 HH hs hb hi haP hcl hcell O g0 g1 g2 g8 g9 (by rw [g59, hk]) hk hl (gk.trans rfl) (ih x0 (by rw [hl]; simp) (hshx x0 (by rw [hl]; simp))) t0 (ih x1 (by rw [hl]; simp) (hshx x1 (by rw [hl]; simp))) t1
        · have h1l : c.l.length = 1 := by have g := hlen; rw [hk] at g; simp [kidsS] at g; omega
          obtain ⟨x0, hl⟩ := List.length_eq_one_iff.1 h1l
          rw [hl] at htl
          obtain ⟨k0, ks1, rfl, t0, hz⟩ := htl
          have hz : ks1 = [] := hz
          subst hz
          rcases T1.kids a _ kv hPa hkv with ⟨_, g⟩ | ⟨tok, gk⟩
          · cases g
          · exact row_k5 HH hs hb hi haP hcl hcell O g0 g1 g2 g8 g9 (by rw [g59, hk]) hk hl (gk.trans rfl) (ih x0 (by rw [hl]; simp) (hshx x0 (by rw [hl]; simp))) t0
        · have h1l : c.l.length = 1 := by have g := hlen; rw [hk] at g; simp [kidsS] at g; omega
          obtain ⟨x0, hl⟩ := List.length_eq_one_iff.1 h1l
          rw [hl] at htl
          obtain ⟨k0, ks1, rfl, t0, hz⟩ := htl
          have hz : ks1 = [] := hz
          subst hz
          rcases T1.kids a _ kv hPa hkv with ⟨_, g⟩ | ⟨tok, gk⟩
          · cases g
          · exact row_k6 HH hs hb hi haP hcl hcell O g0 g1 g2 g8 g9 (by rw [g59, hk]) hk hl (gk.trans rfl) (ih x0 (by rw [hl]; simp) (hshx x0 (by rw [hl]; simp))) t0
        · have h1l : c.l.length = 1 := by have g := hlen; rw [hk] at g; simp [kidsS] at g; omega
          obtain ⟨x0, hl⟩ := List.length_eq_one_iff.1 h1l
          rw [hl] at htl
          obtain ⟨k0, ks1, rfl, t0, hz⟩ := htl
          have hz : ks1 = [] := hz
          subst hz
          rcases T1.kids a _ kv hPa hkv with ⟨_, g⟩ | ⟨tok, gk⟩
          · cases g
          · exact row_k7 HH hs hb hi haP hcl hcell O g0 g1 g2 g8 g9 (by rw [g59, hk]) hk hl (gk.trans rfl) (ih x0 (by rw [hl]; simp) (hshx x0 (by rw [hl]; simp))) t0
      · rintro st ⟨h2, es2, f, O2, ⟨f0, f1, f2, f8⟩, rfl⟩
        obtain ⟨tt2, ht2⟩ := O2.T.t
        obtain ⟨te2, he2⟩ := O2.T.e
        have hel2 := O2.T.elen
        have hr2 := O2.F.keep a _ hr1 (by simp)
        obtain ⟨hrB2, rs2, tr2, hr2', hrl2, _⟩ := O2.T.rid hr2
        have hda2 := drop_at hr2
        have hi' : i < rs2.length := by omega
        obtain ⟨ws, tq, e1, e2, e3, e4, e5⟩ := Own.fin (x := (c, ks)) O2 hr1 hPa hr2' hi'
        have hsp : splice rs2 i [.ptr h1.length 0] = rs2.set i (.ptr h1.length 0) := splice_one hi'
        simp [splice] at hsp
        (repeat' first
    | apply X.retS
    | apply X.skipS
    | apply X.skipB
    | apply X.skipL
    | (apply X.exitS; first | apply X.here | (refine X.out (by decide) ?_; apply X.here))
    | apply X.blockS
    | (apply X.condQ rfl; (focus (simp only [sub, subO, subL, subM, sub3, sub2, fk_some, fk_none, fk_arg0, fk_argS, fk_argN, fk_map0, fk_mapS, fk_mapN, reduceIte, Nat.reduceEqDiff, Nat.reduceAdd, f0, f1, f2, f8]; with_reducible rfl)); all_goals (intro hbr; first | exact absurd hbr (by decide) | ((try rw [hbr]); (try simp at hbr))))
    | apply X.stepZ
    | (apply X.stepQ rfl; (focus (simp only [sub, subO, subL, subM, sub3, sub2, fk_some, fk_none, fk_arg0, fk_argS, fk_argN, fk_map0, fk_mapS, fk_mapN, reduceIte, Nat.reduceEqDiff, Nat.reduceAdd, f0, f1, f2, f8]; with_reducible rfl)); (focus (simp [-getElem?_pos, ht2, he2, hel2, hda2, haP, hap1, hr2', hrl2, hi1, hi2, hsp]; with_reducible (first | rfl | exact ⟨rfl, rfl⟩))))
    | (apply X.stepNQ rfl; (focus (simp only [sub, subO, subL, subM, sub3, sub2, fk_some, fk_none, fk_arg0, fk_argS, fk_argN, fk_map0, fk_mapS, fk_mapN, reduceIte, Nat.reduceEqDiff, Nat.reduceAdd, f0, f1, f2, f8]; with_reducible rfl)))
    | ((first | apply X.stepGtQ rfl | apply X.stepGfQ rfl); (focus (simp only [sub, subO, subL, subM, sub3, sub2, fk_some, fk_none, fk_arg0, fk_argS, fk_argN, fk_map0, fk_mapS, fk_mapN, reduceIte, Nat.reduceEqDiff, Nat.reduceAdd, f0, f1, f2, f8]; with_reducible rfl)); all_goals (intro hbr; first | exact absurd hbr (by decide) | ((try rw [hbr]); (try simp at hbr))))
    | (apply X.draw0; (focus rfl))
    | (apply X.drawH0; (focus rfl))
    | apply XD.nil
    | (apply XD.calmQ rfl rfl; (focus (simp only [sub, subO, subL, subM, sub3, sub2, fk_some, fk_none, fk_arg0, fk_argS, fk_argN, fk_map0, fk_mapS, fk_mapN, reduceIte, Nat.reduceEqDiff, Nat.reduceAdd, f0, f1, f2, f8]; with_reducible rfl)); (focus (simp [-getElem?_pos, ht2, he2, hel2, hda2, haP, hap1, hr2', hrl2, hi1, hi2, hsp]; with_reducible (first | rfl | exact ⟨rfl, rfl⟩))))
    | (apply XD.callQ rfl; (focus (simp only [sub, subO, subL, subM, sub3, sub2, fk_some, fk_none, fk_arg0, fk_argS, fk_argN, fk_map0, fk_mapS, fk_mapN, reduceIte, Nat.reduceEqDiff, Nat.reduceAdd, f0, f1, f2, f8]; simp; with_reducible rfl)); (focus (simp; with_reducible rfl)); (focus (simp [-getElem?_pos, ht2, he2, hel2, hda2, haP, hap1, hr2', hrl2, hi1, hi2, hsp]; done)); (focus (simp [-getElem?_pos, ht2, he2, hel2, hda2, haP, hap1, hr2', hrl2, hi1, hi2, hsp]; with_reducible rfl)))
    | (apply XD.stepNQ rfl; (focus (simp only [sub, subO, subL, subM, sub3, sub2, fk_some, fk_none, fk_arg0, fk_argS, fk_argN, fk_map0, fk_mapS, fk_mapN, reduceIte, Nat.reduceEqDiff, Nat.reduceAdd, f0, f1, f2, f8]; with_reducible rfl)))
    | ((first | apply XD.stepGtQ rfl | apply XD.stepGfQ rfl); (focus (simp only [sub, subO, subL, subM, sub3, sub2, fk_some, fk_none, fk_arg0, fk_argS, fk_argN, fk_map0, fk_mapS, fk_mapN, reduceIte, Nat.reduceEqDiff, Nat.reduceAdd, f0, f1, f2, f8]; with_reducible rfl)); all_goals (intro hbr; first | exact absurd hbr (by decide) | ((try rw [hbr]); (try simp at hbr))))
    | (apply XD.loudQ rfl; (focus (simp only [sub, subO, subL, subM, sub3, sub2, fk_some, fk_none, fk_arg0, fk_argS, fk_argN, fk_map0, fk_mapS, fk_mapN, reduceIte, Nat.reduceEqDiff, Nat.reduceAdd, f0, f1, f2, f8]; with_reducible rfl)); (focus (simp; with_reducible rfl)); (focus (simp [-getElem?_pos, ht2, he2, hel2, hda2, haP, hap1, hr2', hrl2, hi1, hi2, hsp]; with_reducible (first | rfl | exact ⟨rfl, rfl⟩))); (focus (simp; done)); (focus (simp [-getElem?_pos, ht2, he2, hel2, hda2, haP, hap1, hr2', hrl2, hi1, hi2, hsp]; with_reducible rfl))))
        all_goals exact FinE.retQ rfl (by simp only [resS, sub, subO, subL, subM, sub3, sub2, fk_some, fk_none, fk_arg0, fk_argS, fk_argN, fk_map0, fk_mapS, fk_mapN, reduceIte, Nat.reduceEqDiff, Nat.reduceAdd, f0, f1, f2, f8]; with_reducible rfl) ⟨h1.length, es2, ws, tq, rfl, e1, e2, e3, F1.trans e4, e5⟩
    · subst hw0
      (repeat' first
    | apply X.retS
    | apply X.skipS
    | apply X.skipB
    | apply X.skipL
    | (apply X.exitS; first | apply X.here | (refine X.out (by decide) ?_; apply X.here))
    | (apply X.condQ rfl; (focus (simp only [sub, subO, subL, subM, sub3, sub2, fk_some, fk_none, fk_arg0, fk_argS, fk_argN, fk_map0, fk_mapS, fk_mapN, reduceIte, Nat.reduceEqDiff, Nat.reduceAdd, f0, f1, f2]; with_reducible rfl)); all_goals (intro hbr; first | exact absurd hbr (by decide) | ((try rw [hbr]); (try simp at hbr))))
    | apply X.stepZ
    | (apply X.stepQ rfl; (focus (simp only [sub, subO, subL, subM, sub3, sub2, fk_some, fk_none, fk_arg0, fk_argS, fk_argN, fk_map0, fk_mapS, fk_mapN, reduceIte, Nat.reduceEqDiff, Nat.reduceAdd, f0, f1, f2]; with_reducible rfl)); (focus (simp [-getElem?_pos, ht, he, hel1, hda, haP, hap1, hr, hrl, hdw, hi, hi1, hi2]; with_reducible (first | rfl | exact ⟨rfl, rfl⟩))))
    | (apply X.stepNQ rfl; (focus (simp only [sub, subO, subL, subM, sub3, sub2, fk_some, fk_none, fk_arg0, fk_argS, fk_argN, fk_map0, fk_mapS, fk_mapN, reduceIte, Nat.reduceEqDiff, Nat.reduceAdd, f0, f1, f2]; with_reducible rfl)))
    | ((first | apply X.stepGtQ rfl | apply X.stepGfQ rfl); (focus (simp only [sub, subO, subL, subM, sub3, sub2, fk_some, fk_none, fk_arg0, fk_argS, fk_argN, fk_map0, fk_mapS, fk_mapN, reduceIte, Nat.reduceEqDiff, Nat.reduceAdd, f0, f1, f2]; with_reducible rfl)); all_goals (intro hbr; first | exact absurd hbr (by decide) | ((try rw [hbr]); (try simp at hbr))))
    | (apply X.draw0; (focus rfl))
    | (apply X.drawH0; (focus rfl))
    | apply XD.nil
    | (apply XD.calmQ rfl rfl; (focus (simp only [sub, subO, subL, subM, sub3, sub2, fk_some, fk_none, fk_arg0, fk_argS, fk_argN, fk_map0, fk_mapS, fk_mapN, reduceIte, Nat.reduceEqDiff, Nat.reduceAdd, f0, f1, f2]; with_reducible rfl)); (focus (simp [-getElem?_pos, ht, he, hel1, hda, haP, hap1, hr, hrl, hdw, hi, hi1, hi2]; with_reducible (first | rfl | exact ⟨rfl, rfl⟩))))
    | (apply XD.callQ rfl; (focus (simp only [sub, subO, subL, subM, sub3, sub2, fk_some, fk_none, fk_arg0, fk_argS, fk_argN, fk_map0, fk_mapS, fk_mapN, reduceIte, Nat.reduceEqDiff, Nat.reduceAdd, f0, f1, f2]; simp; with_reducible rfl)); (focus (simp; with_reducible rfl)); (focus (simp [-getElem?_pos, ht, he, hel1, hda, haP, hap1, hr, hrl, hdw, hi, hi1, hi2]; done)); (focus (simp [-getElem?_pos, ht, he, hel1, hda, haP, hap1, hr, hrl, hdw, hi, hi1, hi2]; with_reducible rfl)))
    | (apply XD.stepNQ rfl; (focus (simp only [sub, subO, subL, subM, sub3, sub2, fk_some, fk_none, fk_arg0, fk_argS, fk_argN, fk_map0, fk_mapS, fk_mapN, reduceIte, Nat.reduceEqDiff, Nat.reduceAdd, f0, f1, f2]; with_reducible rfl)))
    | ((first | apply XD.stepGtQ rfl | apply XD.stepGfQ rfl); (focus (simp only [sub, subO, subL, subM, sub3, sub2, fk_some, fk_none, fk_arg0, fk_argS, fk_argN, fk_map0, fk_mapS, fk_mapN, reduceIte, Nat.reduceEqDiff, Nat.reduceAdd, f0, f1, f2]; with_reducible rfl)); all_goals (intro hbr; first | exact absurd hbr (by decide) | ((try rw [hbr]); (try simp at hbr))))
    | (apply XD.loudQ rfl; (focus (simp only [sub, subO, subL, subM, sub3, sub2, fk_some, fk_none, fk_arg0, fk_argS, fk_argN, fk_map0, fk_mapS, fk_mapN, reduceIte, Nat.reduceEqDiff, Nat.reduceAdd, f0, f1, f2]; with_reducible rfl)); (focus (simp; with_reducible rfl)); (focus (simp [-getElem?_pos, ht, he, hel1, hda, haP, hap1, hr, hrl, hdw, hi, hi1, hi2]; with_reducible (first | rfl | exact ⟨rfl, rfl⟩))); (focus (simp; done)); (focus (simp [-getElem?_pos, ht, he, hel1, hda, haP, hap1, hr, hrl, hdw, hi, hi1, hi2]; with_reducible rfl))))
      all_goals exact FinE.retQ rfl (by simp only [resS, sub, subO, subL, subM, sub3, sub2, fk_some, fk_none, fk_arg0, fk_argS, fk_argN, fk_map0, fk_mapS, fk_mapN, reduceIte, Nat.reduceEqDiff, Nat.reduceAdd]; with_reducible rfl) ⟨q, es1, ws, tq, rfl, hq, hqw _ hPa, T1, F1, ⟨a, rid, rs, tr, i, hr1, hr, hw⟩⟩
end Lng
