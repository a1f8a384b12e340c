/- LsL: steps, walks, laws: see the remarks within. -/
import Derived.Test.YtdacifedlemlmaaLsY
import Derived.Test.YtdacifedlemlmaaAbArg
import Derived.Test.YtdacifedlemlmaaProg
import Derived.KernelRfl
set_option linter.unusedSimpArgs false
set_option linter.unusedVariables false
-- The law LangStars, walked.
namespace Lng
open Go Ab Cps Go.Proofs.Ytdacifedlemlmaa.Mach
variable {E : Env}

structure HasStars (E : Env) : Prop where
  law : Has E 5 c5
  rawake : E.raw 17 = false
  awake : limP E 17 [] = some [.bool true]
  big : Has E 18 c18
  y : HasY E

theorem eS (x : Co) : encC (starC x) = .agg [.int .i64 5, .int .u64 0, .int .u64 0, .int .u64 0, .int .u64 0, .int .i64 0, .sl [encC x]] := by rw [eC]; rfl
theorem eQ (a b : Co) : encC (seqC a b) = .agg [.int .i64 3, .int .u64 0, .int .u64 0, .int .u64 0, .int .u64 0, .int .i64 0, .sl [encC a, encC b]] := by rw [eC]; rfl

set_option maxHeartbeats 8000000 in
theorem stars_ok (HH : HasStars E) (c : Co) (hf : FineC c) (s : List Int) (hb : ∀ x ∈ s, 0 ≤ x ∧ x < 256) : limP E 5 [encC c, .sl (encB s)] = some [.bool true] := by
  have h1 := big_ok HH.big c 50 (by omega) (by omega)
  have h2 := csize_ok HH.y.c.size c hf
  have h3 := CGood_ok HH.y.c c hf
  have ha := HH.awake
  have hls := encB_len s
  have H := HH.law
  cases b1 : bigS c 50 with
  | true =>
    rw [b1] at h1
    simp only [eC c] at h1 ⊢
    refine H.limQ (Nat.le_of_ble_eq_true rfl) ?_; unfold c5
    (repeat' first
    | apply X.retS
    | apply X.skipS
    | apply X.skipB
    | apply X.skipL
    | (apply X.exitS; first | apply X.here | (refine X.out (by decide) ?_; apply X.here))
    | apply X.blockS
    | (apply X.condQ rfl; (focus (simp only [sub, subO, subL, subM, sub3, sub2, fk_some, fk_none, fk_arg0, fk_argS, fk_argN, fk_map0, fk_mapS, fk_mapN, reduceIte, Nat.reduceEqDiff, Nat.reduceAdd]; with_reducible rfl)); all_goals (intro hbr; first | exact absurd hbr (by decide) | ((try rw [hbr]); (try simp at hbr))))
    | apply X.stepZ
    | (apply X.stepQ rfl; (focus (simp only [sub, subO, subL, subM, sub3, sub2, fk_some, fk_none, fk_arg0, fk_argS, fk_argN, fk_map0, fk_mapS, fk_mapN, reduceIte, Nat.reduceEqDiff, Nat.reduceAdd]; with_reducible rfl)); (focus (simp [-getElem?_pos, HH.rawake, ha, HH.big.raw, h1]; with_reducible (first | rfl | exact ⟨rfl, rfl⟩))))
    | (apply X.stepNQ rfl; (focus (simp only [sub, subO, subL, subM, sub3, sub2, fk_some, fk_none, fk_arg0, fk_argS, fk_argN, fk_map0, fk_mapS, fk_mapN, reduceIte, Nat.reduceEqDiff, Nat.reduceAdd]; with_reducible rfl)))
    | ((first | apply X.stepGtQ rfl | apply X.stepGfQ rfl); (focus (simp only [sub, subO, subL, subM, sub3, sub2, fk_some, fk_none, fk_arg0, fk_argS, fk_argN, fk_map0, fk_mapS, fk_mapN, reduceIte, Nat.reduceEqDiff, Nat.reduceAdd]; with_reducible rfl)); all_goals (intro hbr; first | exact absurd hbr (by decide) | ((try rw [hbr]); (try simp at hbr))))
    | (apply X.draw0; (focus rfl))
    | (apply X.drawH0; (focus rfl))
    | apply XD.nil
    | (apply XD.calmQ rfl rfl; (focus (simp only [sub, subO, subL, subM, sub3, sub2, fk_some, fk_none, fk_arg0, fk_argS, fk_argN, fk_map0, fk_mapS, fk_mapN, reduceIte, Nat.reduceEqDiff, Nat.reduceAdd]; with_reducible rfl)); (focus (simp [-getElem?_pos, HH.rawake, ha, HH.big.raw, h1]; with_reducible (first | rfl | exact ⟨rfl, rfl⟩))))
    | (apply XD.callQ rfl; (focus (simp only [sub, subO, subL, subM, sub3, sub2, fk_some, fk_none, fk_arg0, fk_argS, fk_argN, fk_map0, fk_mapS, fk_mapN, reduceIte, Nat.reduceEqDiff, Nat.reduceAdd]; simp; with_reducible rfl)); (focus (simp; with_reducible rfl)); (focus (simp [-getElem?_pos, HH.rawake, ha, HH.big.raw, h1]; done)); (focus (simp [-getElem?_pos, HH.rawake, ha, HH.big.raw, h1]; with_reducible rfl)))
    | (apply XD.stepNQ rfl; (focus (simp only [sub, subO, subL, subM, sub3, sub2, fk_some, fk_none, fk_arg0, fk_argS, fk_argN, fk_map0, fk_mapS, fk_mapN, reduceIte, Nat.reduceEqDiff, Nat.reduceAdd]; with_reducible rfl)))
    | ((first | apply XD.stepGtQ rfl | apply XD.stepGfQ rfl); (focus (simp only [sub, subO, subL, subM, sub3, sub2, fk_some, fk_none, fk_arg0, fk_argS, fk_argN, fk_map0, fk_mapS, fk_mapN, reduceIte, Nat.reduceEqDiff, Nat.reduceAdd]; with_reducible rfl)); all_goals (intro hbr; first | exact absurd hbr (by decide) | ((try rw [hbr]); (try simp at hbr))))
    | (apply XD.loudQ rfl; (focus (simp only [sub, subO, subL, subM, sub3, sub2, fk_some, fk_none, fk_arg0, fk_argS, fk_argN, fk_map0, fk_mapS, fk_mapN, reduceIte, Nat.reduceEqDiff, Nat.reduceAdd]; with_reducible rfl)); (focus (simp; with_reducible rfl)); (focus (simp [-getElem?_pos, HH.rawake, ha, HH.big.raw, h1]; with_reducible (first | rfl | exact ⟨rfl, rfl⟩))); (focus (simp; done)); (focus (simp [-getElem?_pos, HH.rawake, ha, HH.big.raw, h1]; with_reducible rfl))))
    all_goals (refine Fin.mkQ rfl (by simp only [resS, sub, subO, subL, subM, sub3, sub2, fk_some, fk_none, fk_arg0, fk_argS, fk_argN, fk_map0, fk_mapS, fk_mapN, reduceIte, Nat.reduceEqDiff, Nat.reduceAdd]; with_reducible rfl) (by simp [oneOf, pureRes, snapFuel, snapL]; with_reducible rfl) ?_)
    all_goals rfl
  | false =>
    rw [b1] at h1
    by_cases b2 : 60 < szS c
    · simp only [eC c] at h1 h2 ⊢
      refine H.limQ (Nat.le_of_ble_eq_true rfl) ?_; unfold c5
      (repeat' first
    | apply X.retS
    | apply X.skipS
    | apply X.skipB
    | apply X.skipL
    | (apply X.exitS; first | apply X.here | (refine X.out (by decide) ?_; apply X.here))
    | apply X.blockS
    | (apply X.condQ rfl; (focus (simp only [sub, subO, subL, subM, sub3, sub2, fk_some, fk_none, fk_arg0, fk_argS, fk_argN, fk_map0, fk_mapS, fk_mapN, reduceIte, Nat.reduceEqDiff, Nat.reduceAdd]; with_reducible rfl)); all_goals (intro hbr; first | exact absurd hbr (by decide) | ((try rw [hbr]); (try simp at hbr))))
    | apply X.stepZ
    | (apply X.stepQ rfl; (focus (simp only [sub, subO, subL, subM, sub3, sub2, fk_some, fk_none, fk_arg0, fk_argS, fk_argN, fk_map0, fk_mapS, fk_mapN, reduceIte, Nat.reduceEqDiff, Nat.reduceAdd]; with_reducible rfl)); (focus (simp [-getElem?_pos, HH.rawake, ha, HH.big.raw, h1, HH.y.c.size.raw, h2, b2]; with_reducible (first | rfl | exact ⟨rfl, rfl⟩))))
    | (apply X.stepNQ rfl; (focus (simp only [sub, subO, subL, subM, sub3, sub2, fk_some, fk_none, fk_arg0, fk_argS, fk_argN, fk_map0, fk_mapS, fk_mapN, reduceIte, Nat.reduceEqDiff, Nat.reduceAdd]; with_reducible rfl)))
    | ((first | apply X.stepGtQ rfl | apply X.stepGfQ rfl); (focus (simp only [sub, subO, subL, subM, sub3, sub2, fk_some, fk_none, fk_arg0, fk_argS, fk_argN, fk_map0, fk_mapS, fk_mapN, reduceIte, Nat.reduceEqDiff, Nat.reduceAdd]; with_reducible rfl)); all_goals (intro hbr; first | exact absurd hbr (by decide) | ((try rw [hbr]); (try simp at hbr))))
    | (apply X.draw0; (focus rfl))
    | (apply X.drawH0; (focus rfl))
    | apply XD.nil
    | (apply XD.calmQ rfl rfl; (focus (simp only [sub, subO, subL, subM, sub3, sub2, fk_some, fk_none, fk_arg0, fk_argS, fk_argN, fk_map0, fk_mapS, fk_mapN, reduceIte, Nat.reduceEqDiff, Nat.reduceAdd]; with_reducible rfl)); (focus (simp [-getElem?_pos, HH.rawake, ha, HH.big.raw, h1, HH.y.c.size.raw, h2, b2]; with_reducible (first | rfl | exact ⟨rfl, rfl⟩))))
    | (apply XD.callQ rfl; (focus (simp only [sub, subO, subL, subM, sub3, sub2, fk_some, fk_none, fk_arg0, fk_argS, fk_argN, fk_map0, fk_mapS, fk_mapN, reduceIte, Nat.reduceEqDiff, Nat.reduceAdd]; simp; with_reducible rfl)); (focus (simp; with_reducible rfl)); (focus (simp [-getElem?_pos, HH.rawake, ha, HH.big.raw, h1, HH.y.c.size.raw, h2, b2]; done)); (focus (simp [-getElem?_pos, HH.rawake, ha, HH.big.raw, h1, HH.y.c.size.raw, h2, b2]; with_reducible rfl)))
    | (apply XD.stepNQ rfl; (focus (simp only [sub, subO, subL, subM, sub3, sub2, fk_some, fk_none, fk_arg0, fk_argS, fk_argN, fk_map0, fk_mapS, fk_mapN, reduceIte, Nat.reduceEqDiff, Nat.reduceAdd]; with_reducible rfl)))
    | ((first | apply XD.stepGtQ rfl | apply XD.stepGfQ rfl); (focus (simp only [sub, subO, subL, subM, sub3, sub2, fk_some, fk_none, fk_arg0, fk_argS, fk_argN, fk_map0, fk_mapS, fk_mapN, reduceIte, Nat.reduceEqDiff, Nat.reduceAdd]; with_reducible rfl)); all_goals (intro hbr; first | exact absurd hbr (by decide) | ((try rw [hbr]); (try simp at hbr))))
    | (apply XD.loudQ rfl; (focus (simp only [sub, subO, subL, subM, sub3, sub2, fk_some, fk_none, fk_arg0, fk_argS, fk_argN, fk_map0, fk_mapS, fk_mapN, reduceIte, Nat.reduceEqDiff, Nat.reduceAdd]; with_reducible rfl)); (focus (simp; with_reducible rfl)); (focus (simp [-getElem?_pos, HH.rawake, ha, HH.big.raw, h1, HH.y.c.size.raw, h2, b2]; with_reducible (first | rfl | exact ⟨rfl, rfl⟩))); (focus (simp; done)); (focus (simp [-getElem?_pos, HH.rawake, ha, HH.big.raw, h1, HH.y.c.size.raw, h2, b2]; with_reducible rfl))))
      all_goals (refine Fin.mkQ rfl (by simp only [resS, sub, subO, subL, subM, sub3, sub2, fk_some, fk_none, fk_arg0, fk_argS, fk_argN, fk_map0, fk_mapS, fk_mapN, reduceIte, Nat.reduceEqDiff, Nat.reduceAdd]; with_reducible rfl) (by simp [oneOf, pureRes, snapFuel, snapL]; with_reducible rfl) ?_)
      all_goals rfl
    · by_cases b3 : 8 < s.length
      · have b3' : (8 : Int) < (s.length : Int) := by omega
        simp only [eC c] at h1 h2 ⊢
        refine H.limQ (Nat.le_of_ble_eq_true rfl) ?_; unfold c5
        (repeat' first
    | apply X.retS
    | apply X.skipS
    | apply X.skipB
    | apply X.skipL
    | (apply X.exitS; first | apply X.here | (refine X.out (by decide) ?_; apply X.here))
    | apply X.blockS
    | (apply X.condQ rfl; (focus (simp only [sub, subO, subL, subM, sub3, sub2, fk_some, fk_none, fk_arg0, fk_argS, fk_argN, fk_map0, fk_mapS, fk_mapN, reduceIte, Nat.reduceEqDiff, Nat.reduceAdd]; with_reducible rfl)); all_goals (intro hbr; first | exact absurd hbr (by decide) | ((try rw [hbr]); (try simp at hbr))))
    | apply X.stepZ
    | (apply X.stepQ rfl; (focus (simp only [sub, subO, subL, subM, sub3, sub2, fk_some, fk_none, fk_arg0, fk_argS, fk_argN, fk_map0, fk_mapS, fk_mapN, reduceIte, Nat.reduceEqDiff, Nat.reduceAdd]; with_reducible rfl)); (focus (simp [-getElem?_pos, HH.rawake, ha, HH.big.raw, h1, HH.y.c.size.raw, h2, b2, hls, b3, b3']; with_reducible (first | rfl | exact ⟨rfl, rfl⟩))))
    | (apply X.stepNQ rfl; (focus (simp only [sub, subO, subL, subM, sub3, sub2, fk_some, fk_none, fk_arg0, fk_argS, fk_argN, fk_map0, fk_mapS, fk_mapN, reduceIte, Nat.reduceEqDiff, Nat.reduceAdd]; with_reducible rfl)))
    | ((first | apply X.stepGtQ rfl | apply X.stepGfQ rfl); (focus (simp only [sub, subO, subL, subM, sub3, sub2, fk_some, fk_none, fk_arg0, fk_argS, fk_argN, fk_map0, fk_mapS, fk_mapN, reduceIte, Nat.reduceEqDiff, Nat.reduceAdd]; with_reducible rfl)); all_goals (intro hbr; first | exact absurd hbr (by decide) | ((try rw [hbr]); (try simp at hbr))))
    | (apply X.draw0; (focus rfl))
    | (apply X.drawH0; (focus rfl))
    | apply XD.nil
    | (apply XD.calmQ rfl rfl; (focus (simp only [sub, subO, subL, subM, sub3, sub2, fk_some, fk_none, fk_arg0, fk_argS, fk_argN, fk_map0, fk_mapS, fk_mapN, reduceIte, Nat.reduceEqDiff, Nat.reduceAdd]; with_reducible rfl)); (focus (simp [-getElem?_pos, HH.rawake, ha, HH.big.raw, h1, HH.y.c.size.raw, h2, b2, hls, b3, b3']; with_reducible (first | rfl | exact ⟨rfl, rfl⟩))))
    | (apply XD.callQ rfl; (focus (simp only [sub, subO, subL, subM, sub3, sub2, fk_some, fk_none, fk_arg0, fk_argS, fk_argN, fk_map0, fk_mapS, fk_mapN, reduceIte, Nat.reduceEqDiff, Nat.reduceAdd]; simp; with_reducible rfl)); (focus (simp; with_reducible rfl)); (focus (simp [-getElem?_pos, HH.rawake, ha, HH.big.raw, h1, HH.y.c.size.raw, h2, b2, hls, b3, b3']; done)); (focus (simp [-getElem?_pos, HH.rawake, ha, HH.big.raw, h1, HH.y.c.size.raw, h2, b2, hls, b3, b3']; with_reducible rfl)))
    | (apply XD.stepNQ rfl; (focus (simp only [sub, subO, subL, subM, sub3, sub2, fk_some, fk_none, fk_arg0, fk_argS, fk_argN, fk_map0, fk_mapS, fk_mapN, reduceIte, Nat.reduceEqDiff, Nat.reduceAdd]; with_reducible rfl)))
    | ((first | apply XD.stepGtQ rfl | apply XD.stepGfQ rfl); (focus (simp only [sub, subO, subL, subM, sub3, sub2, fk_some, fk_none, fk_arg0, fk_argS, fk_argN, fk_map0, fk_mapS, fk_mapN, reduceIte, Nat.reduceEqDiff, Nat.reduceAdd]; with_reducible rfl)); all_goals (intro hbr; first | exact absurd hbr (by decide) | ((try rw [hbr]); (try simp at hbr))))
    | (apply XD.loudQ rfl; (focus (simp only [sub, subO, subL, subM, sub3, sub2, fk_some, fk_none, fk_arg0, fk_argS, fk_argN, fk_map0, fk_mapS, fk_mapN, reduceIte, Nat.reduceEqDiff, Nat.reduceAdd]; with_reducible rfl)); (focus (simp; with_reducible rfl)); (focus (simp [-getElem?_pos, HH.rawake, ha, HH.big.raw, h1, HH.y.c.size.raw, h2, b2, hls, b3, b3']; with_reducible (first | rfl | exact ⟨rfl, rfl⟩))); (focus (simp; done)); (focus (simp [-getElem?_pos, HH.rawake, ha, HH.big.raw, h1, HH.y.c.size.raw, h2, b2, hls, b3, b3']; with_reducible rfl))))
        all_goals (refine Fin.mkQ rfl (by simp only [resS, sub, subO, subL, subM, sub3, sub2, fk_some, fk_none, fk_arg0, fk_argS, fk_argN, fk_map0, fk_mapS, fk_mapN, reduceIte, Nat.reduceEqDiff, Nat.reduceAdd]; with_reducible rfl) (by simp [oneOf, pureRes, snapFuel, snapL]; with_reducible rfl) ?_)
        all_goals rfl
      · have b3' : ¬ (8 : Int) < (s.length : Int) := by omega
        cases b4 : GoodC c with
        | false =>
          rw [b4] at h3
          simp only [eC c] at h1 h2 h3 ⊢
          refine H.limQ (Nat.le_of_ble_eq_true rfl) ?_; unfold c5
          (repeat' first
    | apply X.retS
    | apply X.skipS
    | apply X.skipB
    | apply X.skipL
    | (apply X.exitS; first | apply X.here | (refine X.out (by decide) ?_; apply X.here))
    | apply X.blockS
    | (apply X.condQ rfl; (focus (simp only [sub, subO, subL, subM, sub3, sub2, fk_some, fk_none, fk_arg0, fk_argS, fk_argN, fk_map0, fk_mapS, fk_mapN, reduceIte, Nat.reduceEqDiff, Nat.reduceAdd]; with_reducible rfl)); all_goals (intro hbr; first | exact absurd hbr (by decide) | ((try rw [hbr]); (try simp at hbr))))
    | apply X.stepZ
    | (apply X.stepQ rfl; (focus (simp only [sub, subO, subL, subM, sub3, sub2, fk_some, fk_none, fk_arg0, fk_argS, fk_argN, fk_map0, fk_mapS, fk_mapN, reduceIte, Nat.reduceEqDiff, Nat.reduceAdd]; with_reducible rfl)); (focus (simp [-getElem?_pos, HH.rawake, ha, HH.big.raw, h1, HH.y.c.size.raw, h2, b2, hls, b3, b3', HH.y.c.Good.raw, h3]; with_reducible (first | rfl | exact ⟨rfl, rfl⟩))))
    | (apply X.stepNQ rfl; (focus (simp only [sub, subO, subL, subM, sub3, sub2, fk_some, fk_none, fk_arg0, fk_argS, fk_argN, fk_map0, fk_mapS, fk_mapN, reduceIte, Nat.reduceEqDiff, Nat.reduceAdd]; with_reducible rfl)))
    | ((first | apply X.stepGtQ rfl | apply X.stepGfQ rfl); (focus (simp only [sub, subO, subL, subM, sub3, sub2, fk_some, fk_none, fk_arg0, fk_argS, fk_argN, fk_map0, fk_mapS, fk_mapN, reduceIte, Nat.reduceEqDiff, Nat.reduceAdd]; with_reducible rfl)); all_goals (intro hbr; first | exact absurd hbr (by decide) | ((try rw [hbr]); (try simp at hbr))))
    | (apply X.draw0; (focus rfl))
    | (apply X.drawH0; (focus rfl))
    | apply XD.nil
    | (apply XD.calmQ rfl rfl; (focus (simp only [sub, subO, subL, subM, sub3, sub2, fk_some, fk_none, fk_arg0, fk_argS, fk_argN, fk_map0, fk_mapS, fk_mapN, reduceIte, Nat.reduceEqDiff, Nat.reduceAdd]; with_reducible rfl)); (focus (simp [-getElem?_pos, HH.rawake, ha, HH.big.raw, h1, HH.y.c.size.raw, h2, b2, hls, b3, b3', HH.y.c.Good.raw, h3]; with_reducible (first | rfl | exact ⟨rfl, rfl⟩))))
    | (apply XD.callQ rfl; (focus (simp only [sub, subO, subL, subM, sub3, sub2, fk_some, fk_none, fk_arg0, fk_argS, fk_argN, fk_map0, fk_mapS, fk_mapN, reduceIte, Nat.reduceEqDiff, Nat.reduceAdd]; simp; with_reducible rfl)); (focus (simp; with_reducible rfl)); (focus (simp [-getElem?_pos, HH.rawake, ha, HH.big.raw, h1, HH.y.c.size.raw, h2, b2, hls, b3, b3', HH.y.c.Good.raw, h3]; done)); (focus (simp [-getElem?_pos, HH.rawake, ha, HH.big.raw, h1, HH.y.c.size.raw, h2, b2, hls, b3, b3', HH.y.c.Good.raw, h3]; with_reducible rfl)))
    | (apply XD.stepNQ rfl; (focus (simp only [sub, subO, subL, subM, sub3, sub2, fk_some, fk_none, fk_arg0, fk_argS, fk_argN, fk_map0, fk_mapS, fk_mapN, reduceIte, Nat.reduceEqDiff, Nat.reduceAdd]; with_reducible rfl)))
    | ((first | apply XD.stepGtQ rfl | apply XD.stepGfQ rfl); (focus (simp only [sub, subO, subL, subM, sub3, sub2, fk_some, fk_none, fk_arg0, fk_argS, fk_argN, fk_map0, fk_mapS, fk_mapN, reduceIte, Nat.reduceEqDiff, Nat.reduceAdd]; with_reducible rfl)); all_goals (intro hbr; first | exact absurd hbr (by decide) | ((try rw [hbr]); (try simp at hbr))))
    | (apply XD.loudQ rfl; (focus (simp only [sub, subO, subL, subM, sub3, sub2, fk_some, fk_none, fk_arg0, fk_argS, fk_argN, fk_map0, fk_mapS, fk_mapN, reduceIte, Nat.reduceEqDiff, Nat.reduceAdd]; with_reducible rfl)); (focus (simp; with_reducible rfl)); (focus (simp [-getElem?_pos, HH.rawake, ha, HH.big.raw, h1, HH.y.c.size.raw, h2, b2, hls, b3, b3', HH.y.c.Good.raw, h3]; with_reducible (first | rfl | exact ⟨rfl, rfl⟩))); (focus (simp; done)); (focus (simp [-getElem?_pos, HH.rawake, ha, HH.big.raw, h1, HH.y.c.size.raw, h2, b2, hls, b3, b3', HH.y.c.Good.raw, h3]; with_reducible rfl))))
          all_goals (refine Fin.mkQ rfl (by simp only [resS, sub, subO, subL, subM, sub3, sub2, fk_some, fk_none, fk_arg0, fk_argS, fk_argN, fk_map0, fk_mapS, fk_mapN, reduceIte, Nat.reduceEqDiff, Nat.reduceAdd]; with_reducible rfl) (by simp [oneOf, pureRes, snapFuel, snapL]; with_reducible rfl) ?_)
          all_goals rfl
        | true =>
          rw [b4] at h3
          obtain ⟨_, hg⟩ := goodC_iff.1 b4
          have hgd : ∀ d : Int, 50 ≤ d → gcS c d = true := fun d hd => gcS_big c 8000 d 50 hg b1 hd
          have z1 : szS (starC c) = 1 + szS c := sz_star (by omega)
          have z2 : szS (starC (starC c)) = 1 + szS (starC c) := sz_star (by omega)
          have z3 : szS (seqC (starC c) (starC c)) = 1 + szS (starC c) + szS (starC c) := sz_seq (by omega) (by omega)
          have g1 : ∀ d : Int, 51 ≤ d → gcS (starC c) d = true := fun d hd => gc_star (hgd _ (by omega)) (by omega)
          have G1 : GoodC (starC c) = true := goodC_iff.2 ⟨by omega, g1 _ (by omega)⟩
          have G2 : GoodC (starC (starC c)) = true := goodC_iff.2 ⟨by omega, gc_star (g1 _ (by omega)) (by omega)⟩
          have G3 : GoodC (seqC (starC c) (starC c)) = true := goodC_iff.2 ⟨by omega, gc_seq (g1 _ (by omega)) (g1 _ (by omega)) (by omega)⟩
          have hl8 : s.length ≤ 256 := by omega
          have f1 := fine_star hf
          have s1 := says_ok HH.y f1 G1 hl8 hb
          have s2 := says_ok HH.y (fine_star f1) G2 hl8 hb
          have e1 := ends_ok HH.y f1 G1 hl8 hb
          have e2 := ends_ok HH.y (fine_seq f1 f1) G3 hl8 hb
          have n1 := Null_star HH.y c f1 G1
          have h4 := star_ok HH.y c
          have h5 := star_ok HH.y (starC c)
          have h6 := seq_ok HH.y (starC c) (starC c)
          rw [← row_same star_star] at s2
          rw [← endsL_eq (row_same star_seq)] at e2
          have hi := ints_ok HH.y (endsL (rowS s (starC c) 0) (s.length + 1) 0) (Nat.le_trans (endsL_len _ _) (by omega))
          clear z1 z2 z3 g1 G1 G2 G3 f1 hgd hg
          generalize rowS s (starC c) 0 s.length = p at s1 s2
          generalize endsL (rowS s (starC c) 0) (s.length + 1) 0 = L at e1 e2 hi
          simp only [eS, eQ, eC c] at h1 h2 h3 h4 h5 h6 s1 s2 e1 e2 n1 ⊢
          refine H.limQ (Nat.le_of_ble_eq_true rfl) ?_; unfold c5
          cases p <;>
          (repeat' first
    | apply X.retS
    | apply X.skipS
    | apply X.skipB
    | apply X.skipL
    | (apply X.exitS; first | apply X.here | (refine X.out (by decide) ?_; apply X.here))
    | apply X.blockS
    | (apply X.condQ rfl; (focus (simp only [sub, subO, subL, subM, sub3, sub2, fk_some, fk_none, fk_arg0, fk_argS, fk_argN, fk_map0, fk_mapS, fk_mapN, reduceIte, Nat.reduceEqDiff, Nat.reduceAdd]; with_reducible rfl)); all_goals (intro hbr; first | exact absurd hbr (by decide) | ((try rw [hbr]); (try simp at hbr))))
    | apply X.stepZ
    | (apply X.stepQ rfl; (focus (simp only [sub, subO, subL, subM, sub3, sub2, fk_some, fk_none, fk_arg0, fk_argS, fk_argN, fk_map0, fk_mapS, fk_mapN, reduceIte, Nat.reduceEqDiff, Nat.reduceAdd]; with_reducible rfl)); (focus (simp [-getElem?_pos, HH.rawake, ha, HH.big.raw, h1, HH.y.c.size.raw, h2, b2, hls, b3, b3', HH.y.c.Good.raw, h3, HH.y.star.raw, h4, h5, HH.y.seq.raw, h6, HH.y.says.raw, s1, s2, HH.y.ends.raw, e1, e2, HH.y.ints.raw, hi, HH.y.Null.raw, n1]; with_reducible (first | rfl | exact ⟨rfl, rfl⟩))))
    | (apply X.stepNQ rfl; (focus (simp only [sub, subO, subL, subM, sub3, sub2, fk_some, fk_none, fk_arg0, fk_argS, fk_argN, fk_map0, fk_mapS, fk_mapN, reduceIte, Nat.reduceEqDiff, Nat.reduceAdd]; with_reducible rfl)))
    | ((first | apply X.stepGtQ rfl | apply X.stepGfQ rfl); (focus (simp only [sub, subO, subL, subM, sub3, sub2, fk_some, fk_none, fk_arg0, fk_argS, fk_argN, fk_map0, fk_mapS, fk_mapN, reduceIte, Nat.reduceEqDiff, Nat.reduceAdd]; with_reducible rfl)); all_goals (intro hbr; first | exact absurd hbr (by decide) | ((try rw [hbr]); (try simp at hbr))))
    | (apply X.draw0; (focus rfl))
    | (apply X.drawH0; (focus rfl))
    | apply XD.nil
    | (apply XD.calmQ rfl rfl; (focus (simp only [sub, subO, subL, subM, sub3, sub2, fk_some, fk_none, fk_arg0, fk_argS, fk_argN, fk_map0, fk_mapS, fk_mapN, reduceIte, Nat.reduceEqDiff, Nat.reduceAdd]; with_reducible rfl)); (focus (simp [-getElem?_pos, HH.rawake, ha, HH.big.raw, h1, HH.y.c.size.raw, h2, b2, hls, b3, b3', HH.y.c.Good.raw, h3, HH.y.star.raw, h4, h5, HH.y.seq.raw, h6, HH.y.says.raw, s1, s2, HH.y.ends.raw, e1, e2, HH.y.ints.raw, hi, HH.y.Null.raw, n1]; with_reducible (first | rfl | exact ⟨rfl, rfl⟩))))
    | (apply XD.callQ rfl; (focus (simp only [sub, subO, subL, subM, sub3, sub2, fk_some, fk_none, fk_arg0, fk_argS, fk_argN, fk_map0, fk_mapS, fk_mapN, reduceIte, Nat.reduceEqDiff, Nat.reduceAdd]; simp; with_reducible rfl)); (focus (simp; with_reducible rfl)); (focus (simp [-getElem?_pos, HH.rawake, ha, HH.big.raw, h1, HH.y.c.size.raw, h2, b2, hls, b3, b3', HH.y.c.Good.raw, h3, HH.y.star.raw, h4, h5, HH.y.seq.raw, h6, HH.y.says.raw, s1, s2, HH.y.ends.raw, e1, e2, HH.y.ints.raw, hi, HH.y.Null.raw, n1]; done)); (focus (simp [-getElem?_pos, HH.rawake, ha, HH.big.raw, h1, HH.y.c.size.raw, h2, b2, hls, b3, b3', HH.y.c.Good.raw, h3, HH.y.star.raw, h4, h5, HH.y.seq.raw, h6, HH.y.says.raw, s1, s2, HH.y.ends.raw, e1, e2, HH.y.ints.raw, hi, HH.y.Null.raw, n1]; with_reducible rfl)))
    | (apply XD.stepNQ rfl; (focus (simp only [sub, subO, subL, subM, sub3, sub2, fk_some, fk_none, fk_arg0, fk_argS, fk_argN, fk_map0, fk_mapS, fk_mapN, reduceIte, Nat.reduceEqDiff, Nat.reduceAdd]; with_reducible rfl)))
    | ((first | apply XD.stepGtQ rfl | apply XD.stepGfQ rfl); (focus (simp only [sub, subO, subL, subM, sub3, sub2, fk_some, fk_none, fk_arg0, fk_argS, fk_argN, fk_map0, fk_mapS, fk_mapN, reduceIte, Nat.reduceEqDiff, Nat.reduceAdd]; with_reducible rfl)); all_goals (intro hbr; first | exact absurd hbr (by decide) | ((try rw [hbr]); (try simp at hbr))))
    | (apply XD.loudQ rfl; (focus (simp only [sub, subO, subL, subM, sub3, sub2, fk_some, fk_none, fk_arg0, fk_argS, fk_argN, fk_map0, fk_mapS, fk_mapN, reduceIte, Nat.reduceEqDiff, Nat.reduceAdd]; with_reducible rfl)); (focus (simp; with_reducible rfl)); (focus (simp [-getElem?_pos, HH.rawake, ha, HH.big.raw, h1, HH.y.c.size.raw, h2, b2, hls, b3, b3', HH.y.c.Good.raw, h3, HH.y.star.raw, h4, h5, HH.y.seq.raw, h6, HH.y.says.raw, s1, s2, HH.y.ends.raw, e1, e2, HH.y.ints.raw, hi, HH.y.Null.raw, n1]; with_reducible (first | rfl | exact ⟨rfl, rfl⟩))); (focus (simp; done)); (focus (simp [-getElem?_pos, HH.rawake, ha, HH.big.raw, h1, HH.y.c.size.raw, h2, b2, hls, b3, b3', HH.y.c.Good.raw, h3, HH.y.star.raw, h4, h5, HH.y.seq.raw, h6, HH.y.says.raw, s1, s2, HH.y.ends.raw, e1, e2, HH.y.ints.raw, hi, HH.y.Null.raw, n1]; with_reducible rfl))))
          all_goals (refine Fin.mkQ rfl (by simp only [resS, sub, subO, subL, subM, sub3, sub2, fk_some, fk_none, fk_arg0, fk_argS, fk_argN, fk_map0, fk_mapS, fk_mapN, reduceIte, Nat.reduceEqDiff, Nat.reduceAdd]; with_reducible rfl) (by simp [oneOf, pureRes, snapFuel, snapL]; with_reducible rfl) ?_)
          all_goals rfl
end Lng

-- What the laws are handed, as plain data: cores, bytes.
namespace Cps
open Go Ab Go.Proofs

theorem cellsI : Try.prog.cellsOf 3 = 1 := by kernel_rfl
theorem cellsB : Try.prog.cellsOf 5 = 1 := by kernel_rfl
theorem cellsS : Try.prog.cellsOf 40 = 4 := by kernel_rfl
theorem cellsU : Try.prog.cellsOf 38 = 1 := by kernel_rfl
theorem cellsCL : Try.prog.cellsOf 41 = 1 := by kernel_rfl

theorem fit_int {n : Nat} {ps : List PV} (h : fits Try.prog n 3 ps) : ∃ i, ps = [.int .i64 i] := by
  cases n with
  | zero => exact h.elim
  | succ n => simp only [fits, Try.underlying3] at h; obtain ⟨i, rfl, _⟩ := h; exact ⟨i, rfl⟩
theorem fit_u64 {n : Nat} {ps : List PV} (h : fits Try.prog n 38 ps) : ∃ i, ps = [.int .u64 i] := by
  cases n with
  | zero => exact h.elim
  | succ n => simp only [fits, Try.underlying38] at h; obtain ⟨i, rfl, _⟩ := h; exact ⟨i, rfl⟩
theorem fit_u8 {n : Nat} {ps : List PV} (h : fits Try.prog n 5 ps) : ∃ i, ps = [.int .u8 i] ∧ 0 ≤ i ∧ i < 256 := by
  cases n with
  | zero => exact h.elim
  | succ n =>
    simp only [fits, Try.underlying5] at h
    obtain ⟨i, rfl, hw⟩ := h
    refine ⟨i, rfl, ?_⟩
    simp [Lit.wf, IntKind.min, IntKind.max, IntKind.signed, IntKind.bits] at hw
    omega
theorem fit_set {n : Nat} {ps : List PV} (h : fits Try.prog n 40 ps) : ∃ a b c d, ps = [.int .u64 a, .int .u64 b, .int .u64 c, .int .u64 d] := by
  cases n with
  | zero => exact h.elim
  | succ n =>
    simp only [fits, Try.underlying40, List.replicate, tiles, cellsU] at h
    obtain ⟨h1, h2, h3, h4, h5⟩ := h
    obtain ⟨a, ha⟩ := fit_u64 h1
    obtain ⟨b, hb⟩ := fit_u64 h2
    obtain ⟨c, hc⟩ := fit_u64 h3
    obtain ⟨d, hd⟩ := fit_u64 h4
    have e1 := List.take_append_drop 1 ps
    have e2 := List.take_append_drop 1 (ps.drop 1)
    have e3 := List.take_append_drop 1 ((ps.drop 1).drop 1)
    have e4 := List.take_append_drop 1 (((ps.drop 1).drop 1).drop 1)
    rw [h5] at e4
    rw [hd] at e4
    rw [hc, ← e4] at e3
    rw [hb, ← e3] at e2
    rw [ha, ← e2] at e1
    exact ⟨a, b, c, d, by rw [← e1]; rfl⟩

set_option maxRecDepth 100000 in
theorem fit_core : ∀ n, (∀ ps, fits Try.prog n 43 ps → ∃ x, encC x = .agg ps ∧ FineC x) ∧
    (∀ ps, fits Try.prog n 41 ps → ∃ l : List Co, ps = [.sl (l.map encC)] ∧ l.length ≤ 9223372036854775807 ∧ ∀ x ∈ l, FineC x)
  | 0 => ⟨fun _ h => h.elim, fun _ h => h.elim⟩
  | n + 1 => by
    obtain ⟨hA, hB⟩ := fit_core n
    refine ⟨fun ps h => ?_, fun ps h => ?_⟩
    · simp only [fits, Try.underlying43, List.map_cons, List.map_nil, tiles, cellsI, cellsS, cellsCL] at h
      obtain ⟨h1, h2, h3, h4, h5⟩ := h
      obtain ⟨k, hk⟩ := fit_int h1
      obtain ⟨s0, s1, s2, s3, hs⟩ := fit_set h2
      obtain ⟨m, hm⟩ := fit_int h3
      obtain ⟨l, hl, hll, hlf⟩ := hB _ h4
      have e1 := List.take_append_drop 1 ps
      have e2 := List.take_append_drop 4 (ps.drop 1)
      have e3 := List.take_append_drop 1 ((ps.drop 1).drop 4)
      have e4 := List.take_append_drop 1 (((ps.drop 1).drop 4).drop 1)
      rw [h5, hl] at e4
      rw [hm, ← e4] at e3
      rw [hs, ← e3] at e2
      rw [hk, ← e2] at e1
      refine ⟨.mk k s0 s1 s2 s3 m l, ?_, hll, fineCL.2 hlf⟩
      rw [← e1, eCm]; rfl
    · simp only [fits, Try.underlying41] at h
      obtain ⟨es, rfl, hl, he⟩ := h
      have key : ∀ es : List PV, (∀ x ∈ es, fits Try.prog n 43 x.cells ∧ aggT Try.prog 43 = some x.isAgg) → ∃ l : List Co, es = l.map encC ∧ ∀ x ∈ l, FineC x := by
        intro es
        induction es with
        | nil => intro _; exact ⟨[], rfl, by simp⟩
        | cons e es ih =>
          intro he
          obtain ⟨l, h1, h2⟩ := ih fun x hx => he x (by simp [hx])
          obtain ⟨hf, ha⟩ := he e (by simp)
          obtain ⟨x, hx1, hx2⟩ := hA _ hf
          have ha : e.isAgg = true := by
            have : aggT Try.prog 43 = some true := by kernel_rfl
            rw [this] at ha; exact (Option.some.inj ha).symm
          refine ⟨x :: l, ?_, fun y hy => ?_⟩
          · rw [List.map_cons, h1, hx1]
            cases e <;> first | rfl | cases ha
          · rcases List.mem_cons.1 hy with h | h
            · rw [h]; exact hx2
            · exact h2 y h
      obtain ⟨l, h1, h2⟩ := key es he
      refine ⟨l, by rw [h1], ?_, h2⟩
      rw [h1, List.length_map] at hl
      simp [maxLen] at hl; omega

theorem fit_bytes {n : Nat} {ps : List PV} (h : fits Try.prog n 44 ps) : ∃ l : List Int, ps = [.sl (Lng.encB l)] ∧ ∀ x ∈ l, 0 ≤ x ∧ x < 256 := by
  cases n with
  | zero => exact h.elim
  | succ n =>
    simp only [fits, Try.underlying44] at h
    obtain ⟨es, rfl, hl, he⟩ := h
    have key : ∀ es : List PV, (∀ x ∈ es, fits Try.prog n 5 x.cells ∧ aggT Try.prog 5 = some x.isAgg) → ∃ l : List Int, es = Lng.encB l ∧ ∀ x ∈ l, 0 ≤ x ∧ x < 256 := by
      intro es
      induction es with
      | nil => intro _; exact ⟨[], rfl, by simp⟩
      | cons e es ih =>
        intro he
        obtain ⟨l, h1, h2⟩ := ih fun x hx => he x (by simp [hx])
        obtain ⟨hf, ha⟩ := he e (by simp)
        obtain ⟨i, hi, hb⟩ := fit_u8 hf
        have ha : e.isAgg = false := by
          have : aggT Try.prog 5 = some false := by kernel_rfl
          rw [this] at ha; exact (Option.some.inj ha).symm
        have hp : e = .int .u8 i := by
          cases e <;> simp_all [PV.cells, PV.isAgg]
        refine ⟨i :: l, by rw [h1, hp]; rfl, fun y hy => ?_⟩
        rcases List.mem_cons.1 hy with h | h
        · rw [h]; exact hb
        · exact h2 y h
    obtain ⟨l, h1, h2⟩ := key es he
    exact ⟨l, by rw [h1], h2⟩

section
variable {H : Type} {enc' : TypeId × Value → H} {w : World} {held : Bool} {sp : Nat → Bool} {v : Value} {d : DataW H} {ps : List MemPlace}

set_option maxRecDepth 100000 in
theorem arg_core (h : DataW.Trod enc' Try.prog w 0 sp held 43 v d ps) (hok : Value.okWide Try.prog w .any 0 43 v) : ∃ c : Co, RP (immOf w) (encC c) v ∧ FineC c := by
  obtain ⟨p, n, h1, h2, h3⟩ := arg_fits (P := Try.prog) (S := [41, 43, 3, 40, 38]) (by kernel_rfl) (by kernel_rfl) (by simp) h hok
  obtain ⟨c, hc, hf⟩ := (fit_core n).1 _ h2
  have ha : p.isAgg = true := by
    have : aggT Try.prog 43 = some true := by kernel_rfl
    rw [this] at h3; exact (Option.some.inj h3).symm
  refine ⟨c, ?_, hf⟩
  rw [hc]
  cases p <;> first | exact h1 | cases ha

set_option maxRecDepth 100000 in
theorem arg_bytes (h : DataW.Trod enc' Try.prog w 0 sp held 44 v d ps) (hok : Value.okWide Try.prog w .any 0 44 v) : ∃ l : List Int, RP (immOf w) (.sl (Lng.encB l)) v ∧ ∀ x ∈ l, 0 ≤ x ∧ x < 256 := by
  obtain ⟨p, n, h1, h2, h3⟩ := arg_fits (P := Try.prog) (S := [44, 5]) (by kernel_rfl) (by kernel_rfl) (by simp) h hok
  obtain ⟨l, hl, hb⟩ := fit_bytes h2
  have ha : p.isAgg = false := by
    have : aggT Try.prog 44 = some false := by kernel_rfl
    rw [this] at h3; exact (Option.some.inj h3).symm
  refine ⟨l, ?_, hb⟩
  have hp : p = .sl (Lng.encB l) := by
    cases p <;> simp_all [PV.cells, PV.isAgg]
  rw [← hp]; exact h1
end
end Cps
