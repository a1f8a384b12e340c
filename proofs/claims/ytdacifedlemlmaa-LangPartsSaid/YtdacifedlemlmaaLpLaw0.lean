/- The law LangParts, walked. -/
import Derived.Test.YtdacifedlemlmaaLpNull
set_option linter.unusedSimpArgs false
set_option linter.unusedVariables false
namespace Lng
open Go Ab Cps Go.Proofs.Ytdacifedlemlmaa.Mach
variable {E : Env}

structure HasParts (E : Env) : Prop where
  law : Has E 4 c4
  rawake : E.raw 17 = false
  awake : limP E 17 [] = some [.bool true]
  big : Has E 18 c18
  alt : Has E 24 c24
  y : HasY E

theorem eA (a b : Co) : encC (altC a b) = .agg [.int .i64 4, .int .u64 0, .int .u64 0, .int .u64 0, .int .u64 0, .int .i64 0, .sl [encC a, encC b]] := by rw [eC]; rfl
set_option maxHeartbeats 1000000 in
theorem alt_ok (HH : HasParts E) (a b : Co) : limP E 24 [encC a, encC b] = some [encC (altC a b)] := by
  have H := HH.alt
  rw [eA, eC a, eC b]
  refine H.limQ (Nat.le_of_ble_eq_true rfl) ?_; unfold c24
  (repeat' first
    | apply X.retS
    | apply X.skipS
    | apply X.skipB
    | apply X.skipL
    | (apply X.exitS; first | apply X.here | (refine X.out (by decide) ?_; apply X.here))
    | apply X.blockS
    | (apply X.condQ rfl; (focus (simp only [sub, subO, subL, subM, sub3, sub2, fk_some, fk_none, fk_arg0, fk_argS, fk_argN, fk_map0, fk_mapS, fk_mapN, reduceIte, Nat.reduceEqDiff, Nat.reduceAdd]; with_reducible rfl)); all_goals (intro hbr; first | exact absurd hbr (by decide) | ((try rw [hbr]); (try simp at hbr))))
    | apply X.stepZ
    | (apply X.stepQ rfl; (focus (simp only [sub, subO, subL, subM, sub3, sub2, fk_some, fk_none, fk_arg0, fk_argS, fk_argN, fk_map0, fk_mapS, fk_mapN, reduceIte, Nat.reduceEqDiff, Nat.reduceAdd]; with_reducible rfl)); (focus (simp [-getElem?_pos]; with_reducible (first | rfl | exact ⟨rfl, rfl⟩))))
    | (apply X.stepNQ rfl; (focus (simp only [sub, subO, subL, subM, sub3, sub2, fk_some, fk_none, fk_arg0, fk_argS, fk_argN, fk_map0, fk_mapS, fk_mapN, reduceIte, Nat.reduceEqDiff, Nat.reduceAdd]; with_reducible rfl)))
    | ((first | apply X.stepGtQ rfl | apply X.stepGfQ rfl); (focus (simp only [sub, subO, subL, subM, sub3, sub2, fk_some, fk_none, fk_arg0, fk_argS, fk_argN, fk_map0, fk_mapS, fk_mapN, reduceIte, Nat.reduceEqDiff, Nat.reduceAdd]; with_reducible rfl)); all_goals (intro hbr; first | exact absurd hbr (by decide) | ((try rw [hbr]); (try simp at hbr))))
    | (apply X.draw0; (focus rfl))
    | (apply X.drawH0; (focus rfl))
    | apply XD.nil
    | (apply XD.calmQ rfl rfl; (focus (simp only [sub, subO, subL, subM, sub3, sub2, fk_some, fk_none, fk_arg0, fk_argS, fk_argN, fk_map0, fk_mapS, fk_mapN, reduceIte, Nat.reduceEqDiff, Nat.reduceAdd]; with_reducible rfl)); (focus (simp [-getElem?_pos]; with_reducible (first | rfl | exact ⟨rfl, rfl⟩))))
    | (apply XD.callQ rfl; (focus (simp only [sub, subO, subL, subM, sub3, sub2, fk_some, fk_none, fk_arg0, fk_argS, fk_argN, fk_map0, fk_mapS, fk_mapN, reduceIte, Nat.reduceEqDiff, Nat.reduceAdd]; simp; with_reducible rfl)); (focus (simp; with_reducible rfl)); (focus (simp [-getElem?_pos]; done)); (focus (simp [-getElem?_pos]; with_reducible rfl)))
    | (apply XD.callSQ rfl; (focus (simp only [sub, subO, subL, subM, sub3, sub2, fk_some, fk_none, fk_arg0, fk_argS, fk_argN, fk_map0, fk_mapS, fk_mapN, reduceIte, Nat.reduceEqDiff, Nat.reduceAdd]; simp; with_reducible rfl)); (focus (simp [V.ids, V.ids.idsL]; done)); (focus (intro hh0; simp [snapL_eq, snapLF, snap_pv, snap_nils, snap_slx]; with_reducible rfl)); (focus (simp [-getElem?_pos]; done)); (focus (simp [-getElem?_pos]; with_reducible rfl)))
    | (apply XD.stepNQ rfl; (focus (simp only [sub, subO, subL, subM, sub3, sub2, fk_some, fk_none, fk_arg0, fk_argS, fk_argN, fk_map0, fk_mapS, fk_mapN, reduceIte, Nat.reduceEqDiff, Nat.reduceAdd]; with_reducible rfl)))
    | ((first | apply XD.stepGtQ rfl | apply XD.stepGfQ rfl); (focus (simp only [sub, subO, subL, subM, sub3, sub2, fk_some, fk_none, fk_arg0, fk_argS, fk_argN, fk_map0, fk_mapS, fk_mapN, reduceIte, Nat.reduceEqDiff, Nat.reduceAdd]; with_reducible rfl)); all_goals (intro hbr; first | exact absurd hbr (by decide) | ((try rw [hbr]); (try simp at hbr))))
    | (apply XD.loudQ rfl; (focus (simp only [sub, subO, subL, subM, sub3, sub2, fk_some, fk_none, fk_arg0, fk_argS, fk_argN, fk_map0, fk_mapS, fk_mapN, reduceIte, Nat.reduceEqDiff, Nat.reduceAdd]; with_reducible rfl)); (focus (simp; with_reducible rfl)); (focus (simp [-getElem?_pos]; with_reducible (first | rfl | exact ⟨rfl, rfl⟩))); (focus (simp; done)); (focus (simp [-getElem?_pos]; with_reducible rfl))))
  all_goals (refine Fin.mkQ rfl (by simp [resS]; with_reducible rfl) (by simp [oneOf, pureRes, snapFuel, snapL]; with_reducible rfl) ?_)
  all_goals rfl

/-- So far. -/
def anyS (f : Nat → Bool) (n : Nat) : Bool := (List.range n).any f
theorem anyS_zero (f : Nat → Bool) : anyS f 0 = false := rfl
theorem anyS_succ (f : Nat → Bool) (n : Nat) : anyS f (n + 1) = (anyS f n || f n) := by simp [anyS, List.range_succ]

theorem encB_take (s : List Int) (j : Nat) : (encB s).take j = encB (s.take j) := by simp [encB]
theorem encB_drop (s : List Int) (j : Nat) : (encB s).drop j = encB (s.drop j) := by simp [encB]
theorem strideB (s : List Int) : strideOk 1 (encB s) = true := strideOk_of fun e he => by
  simp [encB] at he
  obtain ⟨x, _, rfl⟩ := he
  rfl
/-- A slice of a text. -/
theorem slice_lo {s : List Int} {j : Nat} (h : j ≤ s.length) : sliceSlA 1 (.pv (.sl (encB s))) none (some (.pv (.int .i64 (j : Int)))) = some (.pv (.sl (encB (s.take j)))) := by
  have hl := encB_len s
  have h1 : (j : Int) ≤ (s.length : Int) := by omega
  simp [sliceSlA, bounds, natOf?, hl, h, -strideOk, strideB, ← encB_take]
theorem slice_hi {s : List Int} {j : Nat} (h : j ≤ s.length) : sliceSlA 1 (.pv (.sl (encB s))) (some (.pv (.int .i64 (j : Int)))) none = some (.pv (.sl (encB (s.drop j)))) := by
  have hl := encB_len s
  have h1 : (j : Int) ≤ (s.length : Int) := by omega
  have h2 : ((encB s).drop j).take (s.length - j) = encB (s.drop j) := by
    rw [encB_drop, List.take_of_length_le]
    rw [encB_len]; simp
  simp [sliceSlA, bounds, natOf?, hl, h, -strideOk, strideB, h2]
theorem bytes_take {s : List Int} (hb : ∀ x ∈ s, 0 ≤ x ∧ x < 256) (j : Nat) : ∀ x ∈ s.take j, 0 ≤ x ∧ x < 256 := fun x hx => hb x (List.mem_of_mem_take hx)
theorem bytes_drop {s : List Int} (hb : ∀ x ∈ s, 0 ≤ x ∧ x < 256) (j : Nat) : ∀ x ∈ s.drop j, 0 ≤ x ∧ x < 256 := fun x hx => hb x (List.mem_of_mem_drop hx)

/-- The early ways out. -/
structure PIn (E : Env) (a b : Co) (s : List Int) : Prop where
  fa : FineC a
  fb : FineC b
  hb : ∀ x ∈ s, 0 ≤ x ∧ x < 256

set_option maxHeartbeats 16000000 in
set_option maxRecDepth 100000 in
theorem parts_ok (HH : HasParts E) (a b : Co) (fa : FineC a) (fb : FineC b) (s : List Int) (hb : ∀ x ∈ s, 0 ≤ x ∧ x < 256) : limP E 4 [encC a, encC b, .sl (encB s)] = some [.bool true] := by
  have h1 := big_ok HH.big a 60 (by omega) (by omega)
  have h1b := big_ok HH.big b 60 (by omega) (by omega)
  have h2 := csize_ok HH.y.c.size a fa
  have h2b := csize_ok HH.y.c.size b fb
  have h3 := CGood_ok HH.y.c (seqC a b) (fine_seq fa fb)
  have h6 := seq_ok HH.y a b
  have ha := HH.awake
  have hls := encB_len s
  have H := HH.law
  obtain ⟨za1, za2⟩ := szS_pos a
  obtain ⟨zb1, zb2⟩ := szS_pos b
  have hw0 : IntKind.i64.wrap (szS a + szS b) = szS a + szS b := wrap_i64 (by omega)
  cases b1 : bigS a 60 with
  | true =>
    rw [b1] at h1
    simp only [eQ, eC a, eC b] at h1 ⊢
    refine H.limQ (Nat.le_of_ble_eq_true rfl) ?_; unfold c4
    (repeat' first
    | apply X.retS
    | apply X.skipS
    | apply X.skipB
    | apply X.skipL
    | (apply X.exitS; first | apply X.here | (refine X.out (by decide) ?_; apply X.here))
    | apply X.blockS
    | (apply X.condQ rfl; (focus (simp only [sub, subO, subL, subM, sub3, sub2, fk_some, fk_none, fk_arg0, fk_argS, fk_argN, fk_map0, fk_mapS, fk_mapN, reduceIte, Nat.reduceEqDiff, Nat.reduceAdd]; with_reducible rfl)); all_goals (intro hbr; first | exact absurd hbr (by decide) | ((try rw [hbr]); (try simp at hbr))))
    | apply X.stepZ
    | (apply X.stepQ rfl; (focus (simp only [sub, subO, subL, subM, sub3, sub2, fk_some, fk_none, fk_arg0, fk_argS, fk_argN, fk_map0, fk_mapS, fk_mapN, reduceIte, Nat.reduceEqDiff, Nat.reduceAdd]; with_reducible rfl)); (focus (simp [-getElem?_pos, HH.rawake, ha, HH.big.raw, h1]; with_reducible (first | rfl | exact ⟨rfl, rfl⟩))))
    | (apply X.stepNQ rfl; (focus (simp only [sub, subO, subL, subM, sub3, sub2, fk_some, fk_none, fk_arg0, fk_argS, fk_argN, fk_map0, fk_mapS, fk_mapN, reduceIte, Nat.reduceEqDiff, Nat.reduceAdd]; with_reducible rfl)))
    | ((first | apply X.stepGtQ rfl | apply X.stepGfQ rfl); (focus (simp only [sub, subO, subL, subM, sub3, sub2, fk_some, fk_none, fk_arg0, fk_argS, fk_argN, fk_map0, fk_mapS, fk_mapN, reduceIte, Nat.reduceEqDiff, Nat.reduceAdd]; with_reducible rfl)); all_goals (intro hbr; first | exact absurd hbr (by decide) | ((try rw [hbr]); (try simp at hbr))))
    | (apply X.draw0; (focus rfl))
    | (apply X.drawH0; (focus rfl))
    | apply XD.nil
    | (apply XD.calmQ rfl rfl; (focus (simp only [sub, subO, subL, subM, sub3, sub2, fk_some, fk_none, fk_arg0, fk_argS, fk_argN, fk_map0, fk_mapS, fk_mapN, reduceIte, Nat.reduceEqDiff, Nat.reduceAdd]; with_reducible rfl)); (focus (simp [-getElem?_pos, HH.rawake, ha, HH.big.raw, h1]; with_reducible (first | rfl | exact ⟨rfl, rfl⟩))))
    | (apply XD.callQ rfl; (focus (simp only [sub, subO, subL, subM, sub3, sub2, fk_some, fk_none, fk_arg0, fk_argS, fk_argN, fk_map0, fk_mapS, fk_mapN, reduceIte, Nat.reduceEqDiff, Nat.reduceAdd]; simp; with_reducible rfl)); (focus (simp; with_reducible rfl)); (focus (simp [-getElem?_pos, HH.rawake, ha, HH.big.raw, h1]; done)); (focus (simp [-getElem?_pos, HH.rawake, ha, HH.big.raw, h1]; with_reducible rfl)))
    | (apply XD.callSQ rfl; (focus (simp only [sub, subO, subL, subM, sub3, sub2, fk_some, fk_none, fk_arg0, fk_argS, fk_argN, fk_map0, fk_mapS, fk_mapN, reduceIte, Nat.reduceEqDiff, Nat.reduceAdd]; simp; with_reducible rfl)); (focus (simp [V.ids, V.ids.idsL]; done)); (focus (intro hh0; simp [snapL_eq, snapLF, snap_pv, snap_nils, snap_slx]; with_reducible rfl)); (focus (simp [-getElem?_pos, HH.rawake, ha, HH.big.raw, h1]; done)); (focus (simp [-getElem?_pos, HH.rawake, ha, HH.big.raw, h1]; with_reducible rfl)))
    | (apply XD.stepNQ rfl; (focus (simp only [sub, subO, subL, subM, sub3, sub2, fk_some, fk_none, fk_arg0, fk_argS, fk_argN, fk_map0, fk_mapS, fk_mapN, reduceIte, Nat.reduceEqDiff, Nat.reduceAdd]; with_reducible rfl)))
    | ((first | apply XD.stepGtQ rfl | apply XD.stepGfQ rfl); (focus (simp only [sub, subO, subL, subM, sub3, sub2, fk_some, fk_none, fk_arg0, fk_argS, fk_argN, fk_map0, fk_mapS, fk_mapN, reduceIte, Nat.reduceEqDiff, Nat.reduceAdd]; with_reducible rfl)); all_goals (intro hbr; first | exact absurd hbr (by decide) | ((try rw [hbr]); (try simp at hbr))))
    | (apply XD.loudQ rfl; (focus (simp only [sub, subO, subL, subM, sub3, sub2, fk_some, fk_none, fk_arg0, fk_argS, fk_argN, fk_map0, fk_mapS, fk_mapN, reduceIte, Nat.reduceEqDiff, Nat.reduceAdd]; with_reducible rfl)); (focus (simp; with_reducible rfl)); (focus (simp [-getElem?_pos, HH.rawake, ha, HH.big.raw, h1]; with_reducible (first | rfl | exact ⟨rfl, rfl⟩))); (focus (simp; done)); (focus (simp [-getElem?_pos, HH.rawake, ha, HH.big.raw, h1]; with_reducible rfl))))
    all_goals (refine Fin.mkQ rfl (by simp only [resS, sub, subO, subL, subM, sub3, sub2, fk_some, fk_none, fk_arg0, fk_argS, fk_argN, fk_map0, fk_mapS, fk_mapN, reduceIte, Nat.reduceEqDiff, Nat.reduceAdd]; with_reducible rfl) (by simp [oneOf, pureRes, snapFuel, snapL]; with_reducible rfl) ?_)
    all_goals rfl
  | false =>
  cases b1b : bigS b 60 with
  | true =>
    rw [b1] at h1
    rw [b1b] at h1b
    simp only [eQ, eC a, eC b] at h1 h1b ⊢
    refine H.limQ (Nat.le_of_ble_eq_true rfl) ?_; unfold c4
    (repeat' first
    | apply X.retS
    | apply X.skipS
    | apply X.skipB
    | apply X.skipL
    | (apply X.exitS; first | apply X.here | (refine X.out (by decide) ?_; apply X.here))
    | apply X.blockS
    | (apply X.condQ rfl; (focus (simp only [sub, subO, subL, subM, sub3, sub2, fk_some, fk_none, fk_arg0, fk_argS, fk_argN, fk_map0, fk_mapS, fk_mapN, reduceIte, Nat.reduceEqDiff, Nat.reduceAdd]; with_reducible rfl)); all_goals (intro hbr; first | exact absurd hbr (by decide) | ((try rw [hbr]); (try simp at hbr))))
    | apply X.stepZ
    | (apply X.stepQ rfl; (focus (simp only [sub, subO, subL, subM, sub3, sub2, fk_some, fk_none, fk_arg0, fk_argS, fk_argN, fk_map0, fk_mapS, fk_mapN, reduceIte, Nat.reduceEqDiff, Nat.reduceAdd]; with_reducible rfl)); (focus (simp [-getElem?_pos, HH.rawake, ha, HH.big.raw, h1, h1b]; with_reducible (first | rfl | exact ⟨rfl, rfl⟩))))
    | (apply X.stepNQ rfl; (focus (simp only [sub, subO, subL, subM, sub3, sub2, fk_some, fk_none, fk_arg0, fk_argS, fk_argN, fk_map0, fk_mapS, fk_mapN, reduceIte, Nat.reduceEqDiff, Nat.reduceAdd]; with_reducible rfl)))
    | ((first | apply X.stepGtQ rfl | apply X.stepGfQ rfl); (focus (simp only [sub, subO, subL, subM, sub3, sub2, fk_some, fk_none, fk_arg0, fk_argS, fk_argN, fk_map0, fk_mapS, fk_mapN, reduceIte, Nat.reduceEqDiff, Nat.reduceAdd]; with_reducible rfl)); all_goals (intro hbr; first | exact absurd hbr (by decide) | ((try rw [hbr]); (try simp at hbr))))
    | (apply X.draw0; (focus rfl))
    | (apply X.drawH0; (focus rfl))
    | apply XD.nil
    | (apply XD.calmQ rfl rfl; (focus (simp only [sub, subO, subL, subM, sub3, sub2, fk_some, fk_none, fk_arg0, fk_argS, fk_argN, fk_map0, fk_mapS, fk_mapN, reduceIte, Nat.reduceEqDiff, Nat.reduceAdd]; with_reducible rfl)); (focus (simp [-getElem?_pos, HH.rawake, ha, HH.big.raw, h1, h1b]; with_reducible (first | rfl | exact ⟨rfl, rfl⟩))))
    | (apply XD.callQ rfl; (focus (simp only [sub, subO, subL, subM, sub3, sub2, fk_some, fk_none, fk_arg0, fk_argS, fk_argN, fk_map0, fk_mapS, fk_mapN, reduceIte, Nat.reduceEqDiff, Nat.reduceAdd]; simp; with_reducible rfl)); (focus (simp; with_reducible rfl)); (focus (simp [-getElem?_pos, HH.rawake, ha, HH.big.raw, h1, h1b]; done)); (focus (simp [-getElem?_pos, HH.rawake, ha, HH.big.raw, h1, h1b]; with_reducible rfl)))
    | (apply XD.callSQ rfl; (focus (simp only [sub, subO, subL, subM, sub3, sub2, fk_some, fk_none, fk_arg0, fk_argS, fk_argN, fk_map0, fk_mapS, fk_mapN, reduceIte, Nat.reduceEqDiff, Nat.reduceAdd]; simp; with_reducible rfl)); (focus (simp [V.ids, V.ids.idsL]; done)); (focus (intro hh0; simp [snapL_eq, snapLF, snap_pv, snap_nils, snap_slx]; with_reducible rfl)); (focus (simp [-getElem?_pos, HH.rawake, ha, HH.big.raw, h1, h1b]; done)); (focus (simp [-getElem?_pos, HH.rawake, ha, HH.big.raw, h1, h1b]; with_reducible rfl)))
    | (apply XD.stepNQ rfl; (focus (simp only [sub, subO, subL, subM, sub3, sub2, fk_some, fk_none, fk_arg0, fk_argS, fk_argN, fk_map0, fk_mapS, fk_mapN, reduceIte, Nat.reduceEqDiff, Nat.reduceAdd]; with_reducible rfl)))
    | ((first | apply XD.stepGtQ rfl | apply XD.stepGfQ rfl); (focus (simp only [sub, subO, subL, subM, sub3, sub2, fk_some, fk_none, fk_arg0, fk_argS, fk_argN, fk_map0, fk_mapS, fk_mapN, reduceIte, Nat.reduceEqDiff, Nat.reduceAdd]; with_reducible rfl)); all_goals (intro hbr; first | exact absurd hbr (by decide) | ((try rw [hbr]); (try simp at hbr))))
    | (apply XD.loudQ rfl; (focus (simp only [sub, subO, subL, subM, sub3, sub2, fk_some, fk_none, fk_arg0, fk_argS, fk_argN, fk_map0, fk_mapS, fk_mapN, reduceIte, Nat.reduceEqDiff, Nat.reduceAdd]; with_reducible rfl)); (focus (simp; with_reducible rfl)); (focus (simp [-getElem?_pos, HH.rawake, ha, HH.big.raw, h1, h1b]; with_reducible (first | rfl | exact ⟨rfl, rfl⟩))); (focus (simp; done)); (focus (simp [-getElem?_pos, HH.rawake, ha, HH.big.raw, h1, h1b]; with_reducible rfl))))
    all_goals (refine Fin.mkQ rfl (by simp only [resS, sub, subO, subL, subM, sub3, sub2, fk_some, fk_none, fk_arg0, fk_argS, fk_argN, fk_map0, fk_mapS, fk_mapN, reduceIte, Nat.reduceEqDiff, Nat.reduceAdd]; with_reducible rfl) (by simp [oneOf, pureRes, snapFuel, snapL]; with_reducible rfl) ?_)
    all_goals rfl
  | false =>
  rw [b1] at h1
  rw [b1b] at h1b
  by_cases b3 : 10 < s.length
  · have b3' : (10 : Int) < (s.length : Int) := by omega
    simp only [eQ, eC a, eC b] at h1 h1b ⊢
    refine H.limQ (Nat.le_of_ble_eq_true rfl) ?_; unfold c4
    (repeat' first
    | apply X.retS
    | apply X.skipS
    | apply X.skipB
    | apply X.skipL
    | (apply X.exitS; first | apply X.here | (refine X.out (by decide) ?_; apply X.here))
    | apply X.blockS
    | (apply X.condQ rfl; (focus (simp only [sub, subO, subL, subM, sub3, sub2, fk_some, fk_none, fk_arg0, fk_argS, fk_argN, fk_map0, fk_mapS, fk_mapN, reduceIte, Nat.reduceEqDiff, Nat.reduceAdd]; with_reducible rfl)); all_goals (intro hbr; first | exact absurd hbr (by decide) | ((try rw [hbr]); (try simp at hbr))))
    | apply X.stepZ
    | (apply X.stepQ rfl; (focus (simp only [sub, subO, subL, subM, sub3, sub2, fk_some, fk_none, fk_arg0, fk_argS, fk_argN, fk_map0, fk_mapS, fk_mapN, reduceIte, Nat.reduceEqDiff, Nat.reduceAdd]; with_reducible rfl)); (focus (simp [-getElem?_pos, HH.rawake, ha, HH.big.raw, h1, h1b, hls, b3, b3']; with_reducible (first | rfl | exact ⟨rfl, rfl⟩))))
    | (apply X.stepNQ rfl; (focus (simp only [sub, subO, subL, subM, sub3, sub2, fk_some, fk_none, fk_arg0, fk_argS, fk_argN, fk_map0, fk_mapS, fk_mapN, reduceIte, Nat.reduceEqDiff, Nat.reduceAdd]; with_reducible rfl)))
    | ((first | apply X.stepGtQ rfl | apply X.stepGfQ rfl); (focus (simp only [sub, subO, subL, subM, sub3, sub2, fk_some, fk_none, fk_arg0, fk_argS, fk_argN, fk_map0, fk_mapS, fk_mapN, reduceIte, Nat.reduceEqDiff, Nat.reduceAdd]; with_reducible rfl)); all_goals (intro hbr; first | exact absurd hbr (by decide) | ((try rw [hbr]); (try simp at hbr))))
    | (apply X.draw0; (focus rfl))
    | (apply X.drawH0; (focus rfl))
    | apply XD.nil
    | (apply XD.calmQ rfl rfl; (focus (simp only [sub, subO, subL, subM, sub3, sub2, fk_some, fk_none, fk_arg0, fk_argS, fk_argN, fk_map0, fk_mapS, fk_mapN, reduceIte, Nat.reduceEqDiff, Nat.reduceAdd]; with_reducible rfl)); (focus (simp [-getElem?_pos, HH.rawake, ha, HH.big.raw, h1, h1b, hls, b3, b3']; with_reducible (first | rfl | exact ⟨rfl, rfl⟩))))
    | (apply XD.callQ rfl; (focus (simp only [sub, subO, subL, subM, sub3, sub2, fk_some, fk_none, fk_arg0, fk_argS, fk_argN, fk_map0, fk_mapS, fk_mapN, reduceIte, Nat.reduceEqDiff, Nat.reduceAdd]; simp; with_reducible rfl)); (focus (simp; with_reducible rfl)); (focus (simp [-getElem?_pos, HH.rawake, ha, HH.big.raw, h1, h1b, hls, b3, b3']; done)); (focus (simp [-getElem?_pos, HH.rawake, ha, HH.big.raw, h1, h1b, hls, b3, b3']; with_reducible rfl)))
    | (apply XD.callSQ rfl; (focus (simp only [sub, subO, subL, subM, sub3, sub2, fk_some, fk_none, fk_arg0, fk_argS, fk_argN, fk_map0, fk_mapS, fk_mapN, reduceIte, Nat.reduceEqDiff, Nat.reduceAdd]; simp; with_reducible rfl)); (focus (simp [V.ids, V.ids.idsL]; done)); (focus (intro hh0; simp [snapL_eq, snapLF, snap_pv, snap_nils, snap_slx]; with_reducible rfl)); (focus (simp [-getElem?_pos, HH.rawake, ha, HH.big.raw, h1, h1b, hls, b3, b3']; done)); (focus (simp [-getElem?_pos, HH.rawake, ha, HH.big.raw, h1, h1b, hls, b3, b3']; with_reducible rfl)))
    | (apply XD.stepNQ rfl; (focus (simp only [sub, subO, subL, subM, sub3, sub2, fk_some, fk_none, fk_arg0, fk_argS, fk_argN, fk_map0, fk_mapS, fk_mapN, reduceIte, Nat.reduceEqDiff, Nat.reduceAdd]; with_reducible rfl)))
    | ((first | apply XD.stepGtQ rfl | apply XD.stepGfQ rfl); (focus (simp only [sub, subO, subL, subM, sub3, sub2, fk_some, fk_none, fk_arg0, fk_argS, fk_argN, fk_map0, fk_mapS, fk_mapN, reduceIte, Nat.reduceEqDiff, Nat.reduceAdd]; with_reducible rfl)); all_goals (intro hbr; first | exact absurd hbr (by decide) | ((try rw [hbr]); (try simp at hbr))))
    | (apply XD.loudQ rfl; (focus (simp only [sub, subO, subL, subM, sub3, sub2, fk_some, fk_none, fk_arg0, fk_argS, fk_argN, fk_map0, fk_mapS, fk_mapN, reduceIte, Nat.reduceEqDiff, Nat.reduceAdd]; with_reducible rfl)); (focus (simp; with_reducible rfl)); (focus (simp [-getElem?_pos, HH.rawake, ha, HH.big.raw, h1, h1b, hls, b3, b3']; with_reducible (first | rfl | exact ⟨rfl, rfl⟩))); (focus (simp; done)); (focus (simp [-getElem?_pos, HH.rawake, ha, HH.big.raw, h1, h1b, hls, b3, b3']; with_reducible rfl))))
    all_goals (refine Fin.mkQ rfl (by simp only [resS, sub, subO, subL, subM, sub3, sub2, fk_some, fk_none, fk_arg0, fk_argS, fk_argN, fk_map0, fk_mapS, fk_mapN, reduceIte, Nat.reduceEqDiff, Nat.reduceAdd]; with_reducible rfl) (by simp [oneOf, pureRes, snapFuel, snapL]; with_reducible rfl) ?_)
    all_goals rfl
  have b3' : ¬ (10 : Int) < (s.length : Int) := by omega
  cases b4 : GoodC (seqC a b) with
  | false =>
    rw [b4] at h3
    simp only [eQ, eC a, eC b] at h1 h1b h3 h6 ⊢
    refine H.limQ (Nat.le_of_ble_eq_true rfl) ?_; unfold c4
    (repeat' first
    | apply X.retS
    | apply X.skipS
    | apply X.skipB
    | apply X.skipL
    | (apply X.exitS; first | apply X.here | (refine X.out (by decide) ?_; apply X.here))
    | apply X.blockS
    | (apply X.condQ rfl; (focus (simp only [sub, subO, subL, subM, sub3, sub2, fk_some, fk_none, fk_arg0, fk_argS, fk_argN, fk_map0, fk_mapS, fk_mapN, reduceIte, Nat.reduceEqDiff, Nat.reduceAdd]; with_reducible rfl)); all_goals (intro hbr; first | exact absurd hbr (by decide) | ((try rw [hbr]); (try simp at hbr))))
    | apply X.stepZ
    | (apply X.stepQ rfl; (focus (simp only [sub, subO, subL, subM, sub3, sub2, fk_some, fk_none, fk_arg0, fk_argS, fk_argN, fk_map0, fk_mapS, fk_mapN, reduceIte, Nat.reduceEqDiff, Nat.reduceAdd]; with_reducible rfl)); (focus (simp [-getElem?_pos, HH.rawake, ha, HH.big.raw, h1, h1b, hls, b3, b3', HH.y.seq.raw, h6, HH.y.c.Good.raw, h3]; with_reducible (first | rfl | exact ⟨rfl, rfl⟩))))
    | (apply X.stepNQ rfl; (focus (simp only [sub, subO, subL, subM, sub3, sub2, fk_some, fk_none, fk_arg0, fk_argS, fk_argN, fk_map0, fk_mapS, fk_mapN, reduceIte, Nat.reduceEqDiff, Nat.reduceAdd]; with_reducible rfl)))
    | ((first | apply X.stepGtQ rfl | apply X.stepGfQ rfl); (focus (simp only [sub, subO, subL, subM, sub3, sub2, fk_some, fk_none, fk_arg0, fk_argS, fk_argN, fk_map0, fk_mapS, fk_mapN, reduceIte, Nat.reduceEqDiff, Nat.reduceAdd]; with_reducible rfl)); all_goals (intro hbr; first | exact absurd hbr (by decide) | ((try rw [hbr]); (try simp at hbr))))
    | (apply X.draw0; (focus rfl))
    | (apply X.drawH0; (focus rfl))
    | apply XD.nil
    | (apply XD.calmQ rfl rfl; (focus (simp only [sub, subO, subL, subM, sub3, sub2, fk_some, fk_none, fk_arg0, fk_argS, fk_argN, fk_map0, fk_mapS, fk_mapN, reduceIte, Nat.reduceEqDiff, Nat.reduceAdd]; with_reducible rfl)); (focus (simp [-getElem?_pos, HH.rawake, ha, HH.big.raw, h1, h1b, hls, b3, b3', HH.y.seq.raw, h6, HH.y.c.Good.raw, h3]; with_reducible (first | rfl | exact ⟨rfl, rfl⟩))))
    | (apply XD.callQ rfl; (focus (simp only [sub, subO, subL, subM, sub3, sub2, fk_some, fk_none, fk_arg0, fk_argS, fk_argN, fk_map0, fk_mapS, fk_mapN, reduceIte, Nat.reduceEqDiff, Nat.reduceAdd]; simp; with_reducible rfl)); (focus (simp; with_reducible rfl)); (focus (simp [-getElem?_pos, HH.rawake, ha, HH.big.raw, h1, h1b, hls, b3, b3', HH.y.seq.raw, h6, HH.y.c.Good.raw, h3]; done)); (focus (simp [-getElem?_pos, HH.rawake, ha, HH.big.raw, h1, h1b, hls, b3, b3', HH.y.seq.raw, h6, HH.y.c.Good.raw, h3]; with_reducible rfl)))
    | (apply XD.callSQ rfl; (focus (simp only [sub, subO, subL, subM, sub3, sub2, fk_some, fk_none, fk_arg0, fk_argS, fk_argN, fk_map0, fk_mapS, fk_mapN, reduceIte, Nat.reduceEqDiff, Nat.reduceAdd]; simp; with_reducible rfl)); (focus (simp [V.ids, V.ids.idsL]; done)); (focus (intro hh0; simp [snapL_eq, snapLF, snap_pv, snap_nils, snap_slx]; with_reducible rfl)); (focus (simp [-getElem?_pos, HH.rawake, ha, HH.big.raw, h1, h1b, hls, b3, b3', HH.y.seq.raw, h6, HH.y.c.Good.raw, h3]; done)); (focus (simp [-getElem?_pos, HH.rawake, ha, HH.big.raw, h1, h1b, hls, b3, b3', HH.y.seq.raw, h6, HH.y.c.Good.raw, h3]; with_reducible rfl)))
    | (apply XD.stepNQ rfl; (focus (simp only [sub, subO, subL, subM, sub3, sub2, fk_some, fk_none, fk_arg0, fk_argS, fk_argN, fk_map0, fk_mapS, fk_mapN, reduceIte, Nat.reduceEqDiff, Nat.reduceAdd]; with_reducible rfl)))
    | ((first | apply XD.stepGtQ rfl | apply XD.stepGfQ rfl); (focus (simp only [sub, subO, subL, subM, sub3, sub2, fk_some, fk_none, fk_arg0, fk_argS, fk_argN, fk_map0, fk_mapS, fk_mapN, reduceIte, Nat.reduceEqDiff, Nat.reduceAdd]; with_reducible rfl)); all_goals (intro hbr; first | exact absurd hbr (by decide) | ((try rw [hbr]); (try simp at hbr))))
    | (apply XD.loudQ rfl; (focus (simp only [sub, subO, subL, subM, sub3, sub2, fk_some, fk_none, fk_arg0, fk_argS, fk_argN, fk_map0, fk_mapS, fk_mapN, reduceIte, Nat.reduceEqDiff, Nat.reduceAdd]; with_reducible rfl)); (focus (simp; with_reducible rfl)); (focus (simp [-getElem?_pos, HH.rawake, ha, HH.big.raw, h1, h1b, hls, b3, b3', HH.y.seq.raw, h6, HH.y.c.Good.raw, h3]; with_reducible (first | rfl | exact ⟨rfl, rfl⟩))); (focus (simp; done)); (focus (simp [-getElem?_pos, HH.rawake, ha, HH.big.raw, h1, h1b, hls, b3, b3', HH.y.seq.raw, h6, HH.y.c.Good.raw, h3]; with_reducible rfl))))
    all_goals (refine Fin.mkQ rfl (by simp only [resS, sub, subO, subL, subM, sub3, sub2, fk_some, fk_none, fk_arg0, fk_argS, fk_argN, fk_map0, fk_mapS, fk_mapN, reduceIte, Nat.reduceEqDiff, Nat.reduceAdd]; with_reducible rfl) (by simp [oneOf, pureRes, snapFuel, snapL]; with_reducible rfl) ?_)
    all_goals rfl
  | true =>
  rw [b4] at h3
  by_cases b2 : 120 < szS a + szS b
  · simp only [eQ, eC a, eC b] at h1 h1b h2 h2b h3 h6 ⊢
    refine H.limQ (Nat.le_of_ble_eq_true rfl) ?_; unfold c4
    (repeat' first
    | apply X.retS
    | apply X.skipS
    | apply X.skipB
    | apply X.skipL
    | (apply X.exitS; first | apply X.here | (refine X.out (by decide) ?_; apply X.here))
    | apply X.blockS
    | (apply X.condQ rfl; (focus (simp only [sub, subO, subL, subM, sub3, sub2, fk_some, fk_none, fk_arg0, fk_argS, fk_argN, fk_map0, fk_mapS, fk_mapN, reduceIte, Nat.reduceEqDiff, Nat.reduceAdd]; with_reducible rfl)); all_goals (intro hbr; first | exact absurd hbr (by decide) | ((try rw [hbr]); (try simp at hbr))))
    | apply X.stepZ
    | (apply X.stepQ rfl; (focus (simp only [sub, subO, subL, subM, sub3, sub2, fk_some, fk_none, fk_arg0, fk_argS, fk_argN, fk_map0, fk_mapS, fk_mapN, reduceIte, Nat.reduceEqDiff, Nat.reduceAdd]; with_reducible rfl)); (focus (simp [-getElem?_pos, HH.rawake, ha, HH.big.raw, h1, h1b, hls, b3, b3', HH.y.seq.raw, h6, HH.y.c.Good.raw, h3, HH.y.c.size.raw, h2, h2b, hw0, b2]; with_reducible (first | rfl | exact ⟨rfl, rfl⟩))))
    | (apply X.stepNQ rfl; (focus (simp only [sub, subO, subL, subM, sub3, sub2, fk_some, fk_none, fk_arg0, fk_argS, fk_argN, fk_map0, fk_mapS, fk_mapN, reduceIte, Nat.reduceEqDiff, Nat.reduceAdd]; with_reducible rfl)))
    | ((first | apply X.stepGtQ rfl | apply X.stepGfQ rfl); (focus (simp only [sub, subO, subL, subM, sub3, sub2, fk_some, fk_none, fk_arg0, fk_argS, fk_argN, fk_map0, fk_mapS, fk_mapN, reduceIte, Nat.reduceEqDiff, Nat.reduceAdd]; with_reducible rfl)); all_goals (intro hbr; first | exact absurd hbr (by decide) | ((try rw [hbr]); (try simp at hbr))))
    | (apply X.draw0; (focus rfl))
    | (apply X.drawH0; (focus rfl))
    | apply XD.nil
    | (apply XD.calmQ rfl rfl; (focus (simp only [sub, subO, subL, subM, sub3, sub2, fk_some, fk_none, fk_arg0, fk_argS, fk_argN, fk_map0, fk_mapS, fk_mapN, reduceIte, Nat.reduceEqDiff, Nat.reduceAdd]; with_reducible rfl)); (focus (simp [-getElem?_pos, HH.rawake, ha, HH.big.raw, h1, h1b, hls, b3, b3', HH.y.seq.raw, h6, HH.y.c.Good.raw, h3, HH.y.c.size.raw, h2, h2b, hw0, b2]; with_reducible (first | rfl | exact ⟨rfl, rfl⟩))))
    | (apply XD.callQ rfl; (focus (simp only [sub, subO, subL, subM, sub3, sub2, fk_some, fk_none, fk_arg0, fk_argS, fk_argN, fk_map0, fk_mapS, fk_mapN, reduceIte, Nat.reduceEqDiff, Nat.reduceAdd]; simp; with_reducible rfl)); (focus (simp; with_reducible rfl)); (focus (simp [-getElem?_pos, HH.rawake, ha, HH.big.raw, h1, h1b, hls, b3, b3', HH.y.seq.raw, h6, HH.y.c.Good.raw, h3, HH.y.c.size.raw, h2, h2b, hw0, b2]; done)); (focus (simp [-getElem?_pos, HH.rawake, ha, HH.big.raw, h1, h1b, hls, b3, b3', HH.y.seq.raw, h6, HH.y.c.Good.raw, h3, HH.y.c.size.raw, h2, h2b, hw0, b2]; with_reducible rfl)))
    | (apply XD.callSQ rfl; (focus (simp only [sub, subO, subL, subM, sub3, sub2, fk_some, fk_none, fk_arg0, fk_argS, fk_argN, fk_map0, fk_mapS, fk_mapN, reduceIte, Nat.reduceEqDiff, Nat.reduceAdd]; simp; with_reducible rfl)); (focus (simp [V.ids, V.ids.idsL]; done)); (focus (intro hh0; simp [snapL_eq, snapLF, snap_pv, snap_nils, snap_slx]; with_reducible rfl)); (focus (simp [-getElem?_pos, HH.rawake, ha, HH.big.raw, h1, h1b, hls, b3, b3', HH.y.seq.raw, h6, HH.y.c.Good.raw, h3, HH.y.c.size.raw, h2, h2b, hw0, b2]; done)); (focus (simp [-getElem?_pos, HH.rawake, ha, HH.big.raw, h1, h1b, hls, b3, b3', HH.y.seq.raw, h6, HH.y.c.Good.raw, h3, HH.y.c.size.raw, h2, h2b, hw0, b2]; with_reducible rfl)))
    | (apply XD.stepNQ rfl; (focus (simp only [sub, subO, subL, subM, sub3, sub2, fk_some, fk_none, fk_arg0, fk_argS, fk_argN, fk_map0, fk_mapS, fk_mapN, reduceIte, Nat.reduceEqDiff, Nat.reduceAdd]; with_reducible rfl)))
    | ((first | apply XD.stepGtQ rfl | apply XD.stepGfQ rfl); (focus (simp only [sub, subO, subL, subM, sub3, sub2, fk_some, fk_none, fk_arg0, fk_argS, fk_argN, fk_map0, fk_mapS, fk_mapN, reduceIte, Nat.reduceEqDiff, Nat.reduceAdd]; with_reducible rfl)); all_goals (intro hbr; first | exact absurd hbr (by decide) | ((try rw [hbr]); (try simp at hbr))))
    | (apply XD.loudQ rfl; (focus (simp only [sub, subO, subL, subM, sub3, sub2, fk_some, fk_none, fk_arg0, fk_argS, fk_argN, fk_map0, fk_mapS, fk_mapN, reduceIte, Nat.reduceEqDiff, Nat.reduceAdd]; with_reducible rfl)); (focus (simp; with_reducible rfl)); (focus (simp [-getElem?_pos, HH.rawake, ha, HH.big.raw, h1, h1b, hls, b3, b3', HH.y.seq.raw, h6, HH.y.c.Good.raw, h3, HH.y.c.size.raw, h2, h2b, hw0, b2]; with_reducible (first | rfl | exact ⟨rfl, rfl⟩))); (focus (simp; done)); (focus (simp [-getElem?_pos, HH.rawake, ha, HH.big.raw, h1, h1b, hls, b3, b3', HH.y.seq.raw, h6, HH.y.c.Good.raw, h3, HH.y.c.size.raw, h2, h2b, hw0, b2]; with_reducible rfl))))
    all_goals (refine Fin.mkQ rfl (by simp only [resS, sub, subO, subL, subM, sub3, sub2, fk_some, fk_none, fk_arg0, fk_argS, fk_argN, fk_map0, fk_mapS, fk_mapN, reduceIte, Nat.reduceEqDiff, Nat.reduceAdd]; with_reducible rfl) (by simp [oneOf, pureRes, snapFuel, snapL]; with_reducible rfl) ?_)
    all_goals rfl
  obtain ⟨_, hg⟩ := goodC_iff.1 b4
  obtain ⟨_, _, _, _, _, hgk⟩ := gcS_iff.1 hg
  have hga0 : gcS a 7999 = true := hgk a (by simp [seqC, Co.l])
  have hgb0 : gcS b 7999 = true := hgk b (by simp [seqC, Co.l])
  have hga : ∀ d : Int, 60 ≤ d → gcS a d = true := fun d hd => gcS_big a 7999 d 60 hga0 b1 hd
  have hgb : ∀ d : Int, 60 ≤ d → gcS b d = true := fun d hd => gcS_big b 7999 d 60 hgb0 b1b hd
  have z1 : szS (starC a) = 1 + szS a := sz_star (by omega)
  have z2 : szS (altC a b) = 1 + szS a + szS b := sz_alt (by omega) (by omega)
  have Ga : GoodC a = true := goodC_iff.2 ⟨by omega, hga _ (by omega)⟩
  have Gb : GoodC b = true := goodC_iff.2 ⟨by omega, hgb _ (by omega)⟩
  have Gs : GoodC (starC a) = true := goodC_iff.2 ⟨by omega, gc_star (hga _ (by omega)) (by omega)⟩
  have Gt : GoodC (altC a b) = true := goodC_iff.2 ⟨by omega, gc_alt (hga _ (by omega)) (hgb _ (by omega)) (by omega)⟩
  have hl8 : s.length ≤ 256 := by omega
  have fs := fine_star fa
  have ft := fine_alt fa fb
  have fq := fine_seq fa fb
  have says : ∀ (c : Co), FineC c → GoodC c = true → ∀ t : List Int, t.length ≤ 256 → (∀ x ∈ t, 0 ≤ x ∧ x < 256) → limP E 22 [encC c, .sl (encB t)] = some [.bool (sayS c t)] := fun c hf hg t ht hb => says_ok HH.y hf hg ht hb
  have tk : ∀ j, (s.take j).length ≤ 256 := fun j => by rw [List.length_take]; omega
  have dk : ∀ j, (s.drop j).length ≤ 256 := fun j => by rw [List.length_drop]; omega
  have sa := fun j => says a fa Ga (s.take j) (tk j) (bytes_take hb j)
  have sb := fun j => says b fb Gb (s.drop j) (dk j) (bytes_drop hb j)
  have ss := fun j => says (starC a) fs Gs (s.drop j) (dk j) (bytes_drop hb j)
  have fa0 := says a fa Ga s hl8 hb
  have fb0 := says b fb Gb s hl8 hb
  have fs0 := says (starC a) fs Gs s hl8 hb
  have ft0 := says (altC a b) ft Gt s hl8 hb
  have fq0 := says (seqC a b) fq b4 s hl8 hb
  have fn0 := says a fa Ga [] (by simp) (by simp)
  have nq := Null_ok HH.y (seqC a b) fq b4
  have na := Null_ok HH.y a fa Ga
  have nb := Null_ok HH.y b fb Gb
  have h4 := star_ok HH.y a
  have h7 := alt_ok HH a b
  rw [← null_say] at fn0
  rw [null_seq] at nq
  rw [say_alt] at ft0
  have eb : encB [] = [] := rfl
  rw [eb] at fn0
  have ho : ∀ j : Nat, j ≤ s.length + 1 → anyS (fun i => sayS a (s.take i) && sayS b (s.drop i)) j = anyS (fun i => sayS a (s.take i) && sayS b (s.drop i)) j := fun _ _ => rfl
  have eq1 := say_seq a b s
  have eq2 := say_star a s
  have es1 : anyS (fun i => sayS a (s.take i) && sayS b (s.drop i)) (s.length + 1) = sayS (seqC a b) s := eq1.symm
  have es2 : (decide (s.length = 0) || anyS (fun i => sayS a (s.take (i + 1)) && sayS (starC a) (s.drop (i + 1))) s.length) = sayS (starC a) s := eq2.symm
  clear eq1 eq2 ho z1 z2 Ga Gb Gs Gt fs ft fq hga hgb hga0 hgb0 hgk hg says tk dk
  generalize sayS (seqC a b) s = p1 at es1 fq0
  generalize sayS (starC a) s = p2 at es2 fs0
  generalize sayS a s = p3 at fa0 ft0
  generalize sayS b s = p4 at fb0 ft0
  generalize nullS a = p5 at nq na fn0
  generalize nullS b = p6 at nq nb
  have hF := anyS_succ (fun i => sayS a (s.take i) && sayS b (s.drop i))
  have hF0 := anyS_zero (fun i => sayS a (s.take i) && sayS b (s.drop i))
  generalize hFe : anyS (fun i => sayS a (s.take i) && sayS b (s.drop i)) = F at hF hF0 es1
  have hG := anyS_succ (fun i => sayS a (s.take (i + 1)) && sayS (starC a) (s.drop (i + 1)))
  have hG0 := anyS_zero (fun i => sayS a (s.take (i + 1)) && sayS (starC a) (s.drop (i + 1)))
  generalize hGe : anyS (fun i => sayS a (s.take (i + 1)) && sayS (starC a) (s.drop (i + 1))) = G at hG hG0 es2
  clear hFe hGe
  generalize hqa : (fun i => sayS a (s.take i)) = qa
  generalize hqb : (fun i => sayS b (s.drop i)) = qb
  generalize hqs : (fun i => sayS (starC a) (s.drop i)) = qs
  have ea : ∀ i, sayS a (s.take i) = qa i := fun i => by rw [← hqa]
  have eb' : ∀ i, sayS b (s.drop i) = qb i := fun i => by rw [← hqb]
  have es' : ∀ i, sayS (starC a) (s.drop i) = qs i := fun i => by rw [← hqs]
  simp only [ea, eb', es'] at hF hG sa sb ss
  clear ea eb' es' hqa hqb hqs
  have slo := fun (j : Nat) (h : j ≤ s.length) => slice_lo (s := s) h
  have shi := fun (j : Nat) (h : j ≤ s.length) => slice_hi (s := s) h
  simp only [eS, eQ, eA, eC a, eC b] at h1 h1b h2 h2b h3 h4 h6 h7 sa sb ss fa0 fb0 fs0 ft0 fq0 fn0 nq na nb ⊢
  refine H.limQ (Nat.le_of_ble_eq_true rfl) ?_; unfold c4
  (repeat' first
    | apply X.retS
    | apply X.skipS
    | apply X.skipB
    | apply X.skipL
    | (apply X.exitS; first | apply X.here | (refine X.out (by decide) ?_; apply X.here))
    | apply X.blockS
    | (apply X.condQ rfl; (focus (simp only [sub, subO, subL, subM, sub3, sub2, fk_some, fk_none, fk_arg0, fk_argS, fk_argN, fk_map0, fk_mapS, fk_mapN, reduceIte, Nat.reduceEqDiff, Nat.reduceAdd]; with_reducible rfl)); all_goals (intro hbr; first | exact absurd hbr (by decide) | ((try rw [hbr]); (try simp at hbr))))
    | apply X.stepZ
    | (apply X.stepQ rfl; (focus (simp only [sub, subO, subL, subM, sub3, sub2, fk_some, fk_none, fk_arg0, fk_argS, fk_argN, fk_map0, fk_mapS, fk_mapN, reduceIte, Nat.reduceEqDiff, Nat.reduceAdd]; with_reducible rfl)); (focus (simp [-getElem?_pos, HH.rawake, ha, HH.big.raw, h1, h1b, hls, b3, b3', HH.y.seq.raw, h6, HH.y.c.Good.raw, h3, HH.y.c.size.raw, h2, h2b, hw0, b2]; with_reducible (first | rfl | exact ⟨rfl, rfl⟩))))
    | (apply X.stepNQ rfl; (focus (simp only [sub, subO, subL, subM, sub3, sub2, fk_some, fk_none, fk_arg0, fk_argS, fk_argN, fk_map0, fk_mapS, fk_mapN, reduceIte, Nat.reduceEqDiff, Nat.reduceAdd]; with_reducible rfl)))
    | ((first | apply X.stepGtQ rfl | apply X.stepGfQ rfl); (focus (simp only [sub, subO, subL, subM, sub3, sub2, fk_some, fk_none, fk_arg0, fk_argS, fk_argN, fk_map0, fk_mapS, fk_mapN, reduceIte, Nat.reduceEqDiff, Nat.reduceAdd]; with_reducible rfl)); all_goals (intro hbr; first | exact absurd hbr (by decide) | ((try rw [hbr]); (try simp at hbr))))
    | (apply X.draw0; (focus rfl))
    | (apply X.drawH0; (focus rfl))
    | apply XD.nil
    | (apply XD.calmQ rfl rfl; (focus (simp only [sub, subO, subL, subM, sub3, sub2, fk_some, fk_none, fk_arg0, fk_argS, fk_argN, fk_map0, fk_mapS, fk_mapN, reduceIte, Nat.reduceEqDiff, Nat.reduceAdd]; with_reducible rfl)); (focus (simp [-getElem?_pos, HH.rawake, ha, HH.big.raw, h1, h1b, hls, b3, b3', HH.y.seq.raw, h6, HH.y.c.Good.raw, h3, HH.y.c.size.raw, h2, h2b, hw0, b2]; with_reducible (first | rfl | exact ⟨rfl, rfl⟩))))
    | (apply XD.callQ rfl; (focus (simp only [sub, subO, subL, subM, sub3, sub2, fk_some, fk_none, fk_arg0, fk_argS, fk_argN, fk_map0, fk_mapS, fk_mapN, reduceIte, Nat.reduceEqDiff, Nat.reduceAdd]; simp; with_reducible rfl)); (focus (simp; with_reducible rfl)); (focus (simp [-getElem?_pos, HH.rawake, ha, HH.big.raw, h1, h1b, hls, b3, b3', HH.y.seq.raw, h6, HH.y.c.Good.raw, h3, HH.y.c.size.raw, h2, h2b, hw0, b2]; done)); (focus (simp [-getElem?_pos, HH.rawake, ha, HH.big.raw, h1, h1b, hls, b3, b3', HH.y.seq.raw, h6, HH.y.c.Good.raw, h3, HH.y.c.size.raw, h2, h2b, hw0, b2]; with_reducible rfl)))
    | (apply XD.callSQ rfl; (focus (simp only [sub, subO, subL, subM, sub3, sub2, fk_some, fk_none, fk_arg0, fk_argS, fk_argN, fk_map0, fk_mapS, fk_mapN, reduceIte, Nat.reduceEqDiff, Nat.reduceAdd]; simp; with_reducible rfl)); (focus (simp [V.ids, V.ids.idsL]; done)); (focus (intro hh0; simp [snapL_eq, snapLF, snap_pv, snap_nils, snap_slx]; with_reducible rfl)); (focus (simp [-getElem?_pos, HH.rawake, ha, HH.big.raw, h1, h1b, hls, b3, b3', HH.y.seq.raw, h6, HH.y.c.Good.raw, h3, HH.y.c.size.raw, h2, h2b, hw0, b2]; done)); (focus (simp [-getElem?_pos, HH.rawake, ha, HH.big.raw, h1, h1b, hls, b3, b3', HH.y.seq.raw, h6, HH.y.c.Good.raw, h3, HH.y.c.size.raw, h2, h2b, hw0, b2]; with_reducible rfl)))
    | (apply XD.stepNQ rfl; (focus (simp only [sub, subO, subL, subM, sub3, sub2, fk_some, fk_none, fk_arg0, fk_argS, fk_argN, fk_map0, fk_mapS, fk_mapN, reduceIte, Nat.reduceEqDiff, Nat.reduceAdd]; with_reducible rfl)))
    | ((first | apply XD.stepGtQ rfl | apply XD.stepGfQ rfl); (focus (simp only [sub, subO, subL, subM, sub3, sub2, fk_some, fk_none, fk_arg0, fk_argS, fk_argN, fk_map0, fk_mapS, fk_mapN, reduceIte, Nat.reduceEqDiff, Nat.reduceAdd]; with_reducible rfl)); all_goals (intro hbr; first | exact absurd hbr (by decide) | ((try rw [hbr]); (try simp at hbr))))
    | (apply XD.loudQ rfl; (focus (simp only [sub, subO, subL, subM, sub3, sub2, fk_some, fk_none, fk_arg0, fk_argS, fk_argN, fk_map0, fk_mapS, fk_mapN, reduceIte, Nat.reduceEqDiff, Nat.reduceAdd]; with_reducible rfl)); (focus (simp; with_reducible rfl)); (focus (simp [-getElem?_pos, HH.rawake, ha, HH.big.raw, h1, h1b, hls, b3, b3', HH.y.seq.raw, h6, HH.y.c.Good.raw, h3, HH.y.c.size.raw, h2, h2b, hw0, b2]; with_reducible (first | rfl | exact ⟨rfl, rfl⟩))); (focus (simp; done)); (focus (simp [-getElem?_pos, HH.rawake, ha, HH.big.raw, h1, h1b, hls, b3, b3', HH.y.seq.raw, h6, HH.y.c.Good.raw, h3, HH.y.c.size.raw, h2, h2b, hw0, b2]; with_reducible rfl))))
  clear ha h1 h1b h3 h2 h2b
  refine X.forS (s.length + 1) (fun j st => ∃ (f : Nat → V), (fk (Fk.mk (f := f)) 2 = .pv (.sl (encB s)) ∧ fk (Fk.mk (f := f)) 3 = .ptr 0 0 ∧ fk (Fk.mk (f := f)) 4 = .ptr 1 0 ∧ fk (Fk.mk (f := f)) 7 = .pv (.bool (F j)) ∧ fk (Fk.mk (f := f)) 8 = .pv (.int .i64 (j : Int))) ∧ st = ⟨TL 136 f, [.blk [.pv (.int .i64 a.k), .pv (.int .u64 a.s0), .pv (.int .u64 a.s1), .pv (.int .u64 a.s2), .pv (.int .u64 a.s3), .pv (.int .i64 a.n), .pv (.sl (a.l.map encC))] none, .blk [.pv (.int .i64 b.k), .pv (.int .u64 b.s0), .pv (.int .u64 b.s1), .pv (.int .u64 b.s2), .pv (.int .u64 b.s3), .pv (.int .i64 b.n), .pv (.sl (b.l.map encC))] none]⟩) ?_ ?_
  · exact ⟨_, by simp [hF0], rfl⟩
  rintro j st hj ⟨f, ⟨f2, f3, f4, f7, f8⟩, rfl⟩
  have hww : IntKind.i64.wrap ((j : Int) + 1) = (j : Int) + 1 := wrap_i64 (by omega)
  rcases Nat.lt_or_ge j (s.length + 1) with hj1 | hj1
  · have hjle : (j : Int) ≤ (s.length : Int) := by omega
    have hjle' : j ≤ s.length := by omega
    have hs := hF j
    have sl1 := slo j hjle'
    have sh1 := shi j hjle'
    have sa1 := sa j
    have sb1 := sb j
    clear hF hF0 hG hG0 slo shi sa sb ss fa0 fb0 fs0 ft0 fq0 fn0 nq na nb es1 es2 h4 h6 h7
    generalize F (j + 1) = Fj' at hs
    generalize F j = Fj at hs f7
    generalize qa j = pa at hs sa1
    generalize qb j = pb at hs sb1
    cases Fj with
    | true =>
      (repeat' first
    | apply X.retS
    | apply X.skipS
    | apply X.skipB
    | apply X.skipL
    | (apply X.exitS; first | apply X.here | (refine X.out (by decide) ?_; apply X.here))
    | apply X.blockS
    | (apply X.condQ rfl; (focus (simp only [sub, subO, subL, subM, sub3, sub2, fk_some, fk_none, fk_arg0, fk_argS, fk_argN, fk_map0, fk_mapS, fk_mapN, reduceIte, Nat.reduceEqDiff, Nat.reduceAdd, f2, f3, f4, f7, f8]; with_reducible rfl)); all_goals (intro hbr; first | exact absurd hbr (by decide) | ((try rw [hbr]); (try simp at hbr))))
    | apply X.stepZ
    | (apply X.stepQ rfl; (focus (simp only [sub, subO, subL, subM, sub3, sub2, fk_some, fk_none, fk_arg0, fk_argS, fk_argN, fk_map0, fk_mapS, fk_mapN, reduceIte, Nat.reduceEqDiff, Nat.reduceAdd, f2, f3, f4, f7, f8]; with_reducible rfl)); (focus (simp [-getElem?_pos, hls, hjle, hjle', hww]; with_reducible (first | rfl | exact ⟨rfl, rfl⟩))))
    | (apply X.stepNQ rfl; (focus (simp only [sub, subO, subL, subM, sub3, sub2, fk_some, fk_none, fk_arg0, fk_argS, fk_argN, fk_map0, fk_mapS, fk_mapN, reduceIte, Nat.reduceEqDiff, Nat.reduceAdd, f2, f3, f4, f7, f8]; with_reducible rfl)))
    | ((first | apply X.stepGtQ rfl | apply X.stepGfQ rfl); (focus (simp only [sub, subO, subL, subM, sub3, sub2, fk_some, fk_none, fk_arg0, fk_argS, fk_argN, fk_map0, fk_mapS, fk_mapN, reduceIte, Nat.reduceEqDiff, Nat.reduceAdd, f2, f3, f4, f7, f8]; with_reducible rfl)); all_goals (intro hbr; first | exact absurd hbr (by decide) | ((try rw [hbr]); (try simp at hbr))))
    | (apply X.draw0; (focus rfl))
    | (apply X.drawH0; (focus rfl))
    | apply XD.nil
    | (apply XD.calmQ rfl rfl; (focus (simp only [sub, subO, subL, subM, sub3, sub2, fk_some, fk_none, fk_arg0, fk_argS, fk_argN, fk_map0, fk_mapS, fk_mapN, reduceIte, Nat.reduceEqDiff, Nat.reduceAdd, f2, f3, f4, f7, f8]; with_reducible rfl)); (focus (simp [-getElem?_pos, hls, hjle, hjle', hww]; with_reducible (first | rfl | exact ⟨rfl, rfl⟩))))
    | (apply XD.callQ rfl; (focus (simp only [sub, subO, subL, subM, sub3, sub2, fk_some, fk_none, fk_arg0, fk_argS, fk_argN, fk_map0, fk_mapS, fk_mapN, reduceIte, Nat.reduceEqDiff, Nat.reduceAdd, f2, f3, f4, f7, f8]; simp; with_reducible rfl)); (focus (simp; with_reducible rfl)); (focus (simp [-getElem?_pos, hls, hjle, hjle', hww]; done)); (focus (simp [-getElem?_pos, hls, hjle, hjle', hww]; with_reducible rfl)))
    | (apply XD.callSQ rfl; (focus (simp only [sub, subO, subL, subM, sub3, sub2, fk_some, fk_none, fk_arg0, fk_argS, fk_argN, fk_map0, fk_mapS, fk_mapN, reduceIte, Nat.reduceEqDiff, Nat.reduceAdd, f2, f3, f4, f7, f8]; simp; with_reducible rfl)); (focus (simp [V.ids, V.ids.idsL]; done)); (focus (intro hh0; simp [snapL_eq, snapLF, snap_pv, snap_nils, snap_slx]; with_reducible rfl)); (focus (simp [-getElem?_pos, hls, hjle, hjle', hww]; done)); (focus (simp [-getElem?_pos, hls, hjle, hjle', hww]; with_reducible rfl)))
    | (apply XD.stepNQ rfl; (focus (simp only [sub, subO, subL, subM, sub3, sub2, fk_some, fk_none, fk_arg0, fk_argS, fk_argN, fk_map0, fk_mapS, fk_mapN, reduceIte, Nat.reduceEqDiff, Nat.reduceAdd, f2, f3, f4, f7, f8]; with_reducible rfl)))
    | ((first | apply XD.stepGtQ rfl | apply XD.stepGfQ rfl); (focus (simp only [sub, subO, subL, subM, sub3, sub2, fk_some, fk_none, fk_arg0, fk_argS, fk_argN, fk_map0, fk_mapS, fk_mapN, reduceIte, Nat.reduceEqDiff, Nat.reduceAdd, f2, f3, f4, f7, f8]; with_reducible rfl)); all_goals (intro hbr; first | exact absurd hbr (by decide) | ((try rw [hbr]); (try simp at hbr))))
    | (apply XD.loudQ rfl; (focus (simp only [sub, subO, subL, subM, sub3, sub2, fk_some, fk_none, fk_arg0, fk_argS, fk_argN, fk_map0, fk_mapS, fk_mapN, reduceIte, Nat.reduceEqDiff, Nat.reduceAdd, f2, f3, f4, f7, f8]; with_reducible rfl)); (focus (simp; with_reducible rfl)); (focus (simp [-getElem?_pos, hls, hjle, hjle', hww]; with_reducible (first | rfl | exact ⟨rfl, rfl⟩))); (focus (simp; done)); (focus (simp [-getElem?_pos, hls, hjle, hjle', hww]; with_reducible rfl))))
      all_goals exact ⟨hj1, _, by simp [f2, f3, f4, hs], rfl⟩
    | false =>
      cases pa with
      | false =>
        (repeat' first
    | apply X.retS
    | apply X.skipS
    | apply X.skipB
    | apply X.skipL
    | (apply X.exitS; first | apply X.here | (refine X.out (by decide) ?_; apply X.here))
    | apply X.blockS
    | (apply X.condQ rfl; (focus (simp only [sub, subO, subL, subM, sub3, sub2, fk_some, fk_none, fk_arg0, fk_argS, fk_argN, fk_map0, fk_mapS, fk_mapN, reduceIte, Nat.reduceEqDiff, Nat.reduceAdd, f2, f3, f4, f7, f8]; with_reducible rfl)); all_goals (intro hbr; first | exact absurd hbr (by decide) | ((try rw [hbr]); (try simp at hbr))))
    | apply X.stepZ
    | (apply X.stepQ rfl; (focus (simp only [sub, subO, subL, subM, sub3, sub2, fk_some, fk_none, fk_arg0, fk_argS, fk_argN, fk_map0, fk_mapS, fk_mapN, reduceIte, Nat.reduceEqDiff, Nat.reduceAdd, f2, f3, f4, f7, f8]; with_reducible rfl)); (focus (simp [-getElem?_pos, -sliceSlA, sl1, sh1, HH.y.says.raw, sa1, sb1, hls, hjle, hjle', hww]; with_reducible (first | rfl | exact ⟨rfl, rfl⟩))))
    | (apply X.stepNQ rfl; (focus (simp only [sub, subO, subL, subM, sub3, sub2, fk_some, fk_none, fk_arg0, fk_argS, fk_argN, fk_map0, fk_mapS, fk_mapN, reduceIte, Nat.reduceEqDiff, Nat.reduceAdd, f2, f3, f4, f7, f8]; with_reducible rfl)))
    | ((first | apply X.stepGtQ rfl | apply X.stepGfQ rfl); (focus (simp only [sub, subO, subL, subM, sub3, sub2, fk_some, fk_none, fk_arg0, fk_argS, fk_argN, fk_map0, fk_mapS, fk_mapN, reduceIte, Nat.reduceEqDiff, Nat.reduceAdd, f2, f3, f4, f7, f8]; with_reducible rfl)); all_goals (intro hbr; first | exact absurd hbr (by decide) | ((try rw [hbr]); (try simp at hbr))))
    | (apply X.draw0; (focus rfl))
    | (apply X.drawH0; (focus rfl))
    | apply XD.nil
    | (apply XD.calmQ rfl rfl; (focus (simp only [sub, subO, subL, subM, sub3, sub2, fk_some, fk_none, fk_arg0, fk_argS, fk_argN, fk_map0, fk_mapS, fk_mapN, reduceIte, Nat.reduceEqDiff, Nat.reduceAdd, f2, f3, f4, f7, f8]; with_reducible rfl)); (focus (simp [-getElem?_pos, -sliceSlA, sl1, sh1, HH.y.says.raw, sa1, sb1, hls, hjle, hjle', hww]; with_reducible (first | rfl | exact ⟨rfl, rfl⟩))))
    | (apply XD.callQ rfl; (focus (simp only [sub, subO, subL, subM, sub3, sub2, fk_some, fk_none, fk_arg0, fk_argS, fk_argN, fk_map0, fk_mapS, fk_mapN, reduceIte, Nat.reduceEqDiff, Nat.reduceAdd, f2, f3, f4, f7, f8]; simp; with_reducible rfl)); (focus (simp; with_reducible rfl)); (focus (simp [-getElem?_pos, -sliceSlA, sl1, sh1, HH.y.says.raw, sa1, sb1, hls, hjle, hjle', hww]; done)); (focus (simp [-getElem?_pos, -sliceSlA, sl1, sh1, HH.y.says.raw, sa1, sb1, hls, hjle, hjle', hww]; with_reducible rfl)))
    | (apply XD.callSQ rfl; (focus (simp only [sub, subO, subL, subM, sub3, sub2, fk_some, fk_none, fk_arg0, fk_argS, fk_argN, fk_map0, fk_mapS, fk_mapN, reduceIte, Nat.reduceEqDiff, Nat.reduceAdd, f2, f3, f4, f7, f8]; simp; with_reducible rfl)); (focus (simp [V.ids, V.ids.idsL]; done)); (focus (intro hh0; simp [snapL_eq, snapLF, snap_pv, snap_nils, snap_slx]; with_reducible rfl)); (focus (simp [-getElem?_pos, -sliceSlA, sl1, sh1, HH.y.says.raw, sa1, sb1, hls, hjle, hjle', hww]; done)); (focus (simp [-getElem?_pos, -sliceSlA, sl1, sh1, HH.y.says.raw, sa1, sb1, hls, hjle, hjle', hww]; with_reducible rfl)))
    | (apply XD.stepNQ rfl; (focus (simp only [sub, subO, subL, subM, sub3, sub2, fk_some, fk_none, fk_arg0, fk_argS, fk_argN, fk_map0, fk_mapS, fk_mapN, reduceIte, Nat.reduceEqDiff, Nat.reduceAdd, f2, f3, f4, f7, f8]; with_reducible rfl)))
    | ((first | apply XD.stepGtQ rfl | apply XD.stepGfQ rfl); (focus (simp only [sub, subO, subL, subM, sub3, sub2, fk_some, fk_none, fk_arg0, fk_argS, fk_argN, fk_map0, fk_mapS, fk_mapN, reduceIte, Nat.reduceEqDiff, Nat.reduceAdd, f2, f3, f4, f7, f8]; with_reducible rfl)); all_goals (intro hbr; first | exact absurd hbr (by decide) | ((try rw [hbr]); (try simp at hbr))))
    | (apply XD.loudQ rfl; (focus (simp only [sub, subO, subL, subM, sub3, sub2, fk_some, fk_none, fk_arg0, fk_argS, fk_argN, fk_map0, fk_mapS, fk_mapN, reduceIte, Nat.reduceEqDiff, Nat.reduceAdd, f2, f3, f4, f7, f8]; with_reducible rfl)); (focus (simp; with_reducible rfl)); (focus (simp [-getElem?_pos, -sliceSlA, sl1, sh1, HH.y.says.raw, sa1, sb1, hls, hjle, hjle', hww]; with_reducible (first | rfl | exact ⟨rfl, rfl⟩))); (focus (simp; done)); (focus (simp [-getElem?_pos, -sliceSlA, sl1, sh1, HH.y.says.raw, sa1, sb1, hls, hjle, hjle', hww]; with_reducible rfl))))
        all_goals exact ⟨hj1, _, by simp [f2, f3, f4, hs], rfl⟩
      | true =>
        (repeat' first
    | apply X.retS
    | apply X.skipS
    | apply X.skipB
    | apply X.skipL
    | (apply X.exitS; first | apply X.here | (refine X.out (by decide) ?_; apply X.here))
    | apply X.blockS
    | (apply X.condQ rfl; (focus (simp only [sub, subO, subL, subM, sub3, sub2, fk_some, fk_none, fk_arg0, fk_argS, fk_argN, fk_map0, fk_mapS, fk_mapN, reduceIte, Nat.reduceEqDiff, Nat.reduceAdd, f2, f3, f4, f7, f8]; with_reducible rfl)); all_goals (intro hbr; first | exact absurd hbr (by decide) | ((try rw [hbr]); (try simp at hbr))))
    | apply X.stepZ
    | (apply X.stepQ rfl; (focus (simp only [sub, subO, subL, subM, sub3, sub2, fk_some, fk_none, fk_arg0, fk_argS, fk_argN, fk_map0, fk_mapS, fk_mapN, reduceIte, Nat.reduceEqDiff, Nat.reduceAdd, f2, f3, f4, f7, f8]; with_reducible rfl)); (focus (simp [-getElem?_pos, -sliceSlA, sl1, sh1, HH.y.says.raw, sa1, sb1, hls, hjle, hjle', hww]; with_reducible (first | rfl | exact ⟨rfl, rfl⟩))))
    | (apply X.stepNQ rfl; (focus (simp only [sub, subO, subL, subM, sub3, sub2, fk_some, fk_none, fk_arg0, fk_argS, fk_argN, fk_map0, fk_mapS, fk_mapN, reduceIte, Nat.reduceEqDiff, Nat.reduceAdd, f2, f3, f4, f7, f8]; with_reducible rfl)))
    | ((first | apply X.stepGtQ rfl | apply X.stepGfQ rfl); (focus (simp only [sub, subO, subL, subM, sub3, sub2, fk_some, fk_none, fk_arg0, fk_argS, fk_argN, fk_map0, fk_mapS, fk_mapN, reduceIte, Nat.reduceEqDiff, Nat.reduceAdd, f2, f3, f4, f7, f8]; with_reducible rfl)); all_goals (intro hbr; first | exact absurd hbr (by decide) | ((try rw [hbr]); (try simp at hbr))))
    | (apply X.draw0; (focus rfl))
    | (apply X.drawH0; (focus rfl))
    | apply XD.nil
    | (apply XD.calmQ rfl rfl; (focus (simp only [sub, subO, subL, subM, sub3, sub2, fk_some, fk_none, fk_arg0, fk_argS, fk_argN, fk_map0, fk_mapS, fk_mapN, reduceIte, Nat.reduceEqDiff, Nat.reduceAdd, f2, f3, f4, f7, f8]; with_reducible rfl)); (focus (simp [-getElem?_pos, -sliceSlA, sl1, sh1, HH.y.says.raw, sa1, sb1, hls, hjle, hjle', hww]; with_reducible (first | rfl | exact ⟨rfl, rfl⟩))))
    | (apply XD.callQ rfl; (focus (simp only [sub, subO, subL, subM, sub3, sub2, fk_some, fk_none, fk_arg0, fk_argS, fk_argN, fk_map0, fk_mapS, fk_mapN, reduceIte, Nat.reduceEqDiff, Nat.reduceAdd, f2, f3, f4, f7, f8]; simp; with_reducible rfl)); (focus (simp; with_reducible rfl)); (focus (simp [-getElem?_pos, -sliceSlA, sl1, sh1, HH.y.says.raw, sa1, sb1, hls, hjle, hjle', hww]; done)); (focus (simp [-getElem?_pos, -sliceSlA, sl1, sh1, HH.y.says.raw, sa1, sb1, hls, hjle, hjle', hww]; with_reducible rfl)))
    | (apply XD.callSQ rfl; (focus (simp only [sub, subO, subL, subM, sub3, sub2, fk_some, fk_none, fk_arg0, fk_argS, fk_argN, fk_map0, fk_mapS, fk_mapN, reduceIte, Nat.reduceEqDiff, Nat.reduceAdd, f2, f3, f4, f7, f8]; simp; with_reducible rfl)); (focus (simp [V.ids, V.ids.idsL]; done)); (focus (intro hh0; simp [snapL_eq, snapLF, snap_pv, snap_nils, snap_slx]; with_reducible rfl)); (focus (simp [-getElem?_pos, -sliceSlA, sl1, sh1, HH.y.says.raw, sa1, sb1, hls, hjle, hjle', hww]; done)); (focus (simp [-getElem?_pos, -sliceSlA, sl1, sh1, HH.y.says.raw, sa1, sb1, hls, hjle, hjle', hww]; with_reducible rfl)))
    | (apply XD.stepNQ rfl; (focus (simp only [sub, subO, subL, subM, sub3, sub2, fk_some, fk_none, fk_arg0, fk_argS, fk_argN, fk_map0, fk_mapS, fk_mapN, reduceIte, Nat.reduceEqDiff, Nat.reduceAdd, f2, f3, f4, f7, f8]; with_reducible rfl)))
    | ((first | apply XD.stepGtQ rfl | apply XD.stepGfQ rfl); (focus (simp only [sub, subO, subL, subM, sub3, sub2, fk_some, fk_none, fk_arg0, fk_argS, fk_argN, fk_map0, fk_mapS, fk_mapN, reduceIte, Nat.reduceEqDiff, Nat.reduceAdd, f2, f3, f4, f7, f8]; with_reducible rfl)); all_goals (intro hbr; first | exact absurd hbr (by decide) | ((try rw [hbr]); (try simp at hbr))))
    | (apply XD.loudQ rfl; (focus (simp only [sub, subO, subL, subM, sub3, sub2, fk_some, fk_none, fk_arg0, fk_argS, fk_argN, fk_map0, fk_mapS, fk_mapN, reduceIte, Nat.reduceEqDiff, Nat.reduceAdd, f2, f3, f4, f7, f8]; with_reducible rfl)); (focus (simp; with_reducible rfl)); (focus (simp [-getElem?_pos, -sliceSlA, sl1, sh1, HH.y.says.raw, sa1, sb1, hls, hjle, hjle', hww]; with_reducible (first | rfl | exact ⟨rfl, rfl⟩))); (focus (simp; done)); (focus (simp [-getElem?_pos, -sliceSlA, sl1, sh1, HH.y.says.raw, sa1, sb1, hls, hjle, hjle', hww]; with_reducible rfl))))
        all_goals exact ⟨hj1, _, by simp [f2, f3, f4, hs], rfl⟩
  · have hjn : j = s.length + 1 := by omega
    subst hjn
    have hjle : ¬ ((s.length + 1 : Nat) : Int) ≤ (s.length : Int) := by omega
    have hjle' : ¬ s.length + 1 ≤ s.length := by omega
    have hjle2 : ¬ (s.length : Int) + 1 ≤ (s.length : Int) := by omega
    rw [es1] at f7
    have hw1 : IntKind.i64.wrap (0 + 1) = 1 := by decide
    (repeat' first
    | apply X.retS
    | apply X.skipS
    | apply X.skipB
    | apply X.skipL
    | (apply X.exitS; first | apply X.here | (refine X.out (by decide) ?_; apply X.here))
    | apply X.blockS
    | (apply X.condQ rfl; (focus (simp only [sub, subO, subL, subM, sub3, sub2, fk_some, fk_none, fk_arg0, fk_argS, fk_argN, fk_map0, fk_mapS, fk_mapN, reduceIte, Nat.reduceEqDiff, Nat.reduceAdd, f2, f3, f4, f7, f8]; with_reducible rfl)); all_goals (intro hbr; first | exact absurd hbr (by decide) | ((try rw [hbr]); (try simp at hbr))))
    | apply X.stepZ
    | (apply X.stepQ rfl; (focus (simp only [sub, subO, subL, subM, sub3, sub2, fk_some, fk_none, fk_arg0, fk_argS, fk_argN, fk_map0, fk_mapS, fk_mapN, reduceIte, Nat.reduceEqDiff, Nat.reduceAdd, f2, f3, f4, f7, f8]; with_reducible rfl)); (focus (simp [-getElem?_pos, hls, hjle, hjle', hjle2]; with_reducible (first | rfl | exact ⟨rfl, rfl⟩))))
    | (apply X.stepNQ rfl; (focus (simp only [sub, subO, subL, subM, sub3, sub2, fk_some, fk_none, fk_arg0, fk_argS, fk_argN, fk_map0, fk_mapS, fk_mapN, reduceIte, Nat.reduceEqDiff, Nat.reduceAdd, f2, f3, f4, f7, f8]; with_reducible rfl)))
    | ((first | apply X.stepGtQ rfl | apply X.stepGfQ rfl); (focus (simp only [sub, subO, subL, subM, sub3, sub2, fk_some, fk_none, fk_arg0, fk_argS, fk_argN, fk_map0, fk_mapS, fk_mapN, reduceIte, Nat.reduceEqDiff, Nat.reduceAdd, f2, f3, f4, f7, f8]; with_reducible rfl)); all_goals (intro hbr; first | exact absurd hbr (by decide) | ((try rw [hbr]); (try simp at hbr))))
    | (apply X.draw0; (focus rfl))
    | (apply X.drawH0; (focus rfl))
    | apply XD.nil
    | (apply XD.calmQ rfl rfl; (focus (simp only [sub, subO, subL, subM, sub3, sub2, fk_some, fk_none, fk_arg0, fk_argS, fk_argN, fk_map0, fk_mapS, fk_mapN, reduceIte, Nat.reduceEqDiff, Nat.reduceAdd, f2, f3, f4, f7, f8]; with_reducible rfl)); (focus (simp [-getElem?_pos, hls, hjle, hjle', hjle2]; with_reducible (first | rfl | exact ⟨rfl, rfl⟩))))
    | (apply XD.callQ rfl; (focus (simp only [sub, subO, subL, subM, sub3, sub2, fk_some, fk_none, fk_arg0, fk_argS, fk_argN, fk_map0, fk_mapS, fk_mapN, reduceIte, Nat.reduceEqDiff, Nat.reduceAdd, f2, f3, f4, f7, f8]; simp; with_reducible rfl)); (focus (simp; with_reducible rfl)); (focus (simp [-getElem?_pos, hls, hjle, hjle', hjle2]; done)); (focus (simp [-getElem?_pos, hls, hjle, hjle', hjle2]; with_reducible rfl)))
    | (apply XD.callSQ rfl; (focus (simp only [sub, subO, subL, subM, sub3, sub2, fk_some, fk_none, fk_arg0, fk_argS, fk_argN, fk_map0, fk_mapS, fk_mapN, reduceIte, Nat.reduceEqDiff, Nat.reduceAdd, f2, f3, f4, f7, f8]; simp; with_reducible rfl)); (focus (simp [V.ids, V.ids.idsL]; done)); (focus (intro hh0; simp [snapL_eq, snapLF, snap_pv, snap_nils, snap_slx]; with_reducible rfl)); (focus (simp [-getElem?_pos, hls, hjle, hjle', hjle2]; done)); (focus (simp [-getElem?_pos, hls, hjle, hjle', hjle2]; with_reducible rfl)))
    | (apply XD.stepNQ rfl; (focus (simp only [sub, subO, subL, subM, sub3, sub2, fk_some, fk_none, fk_arg0, fk_argS, fk_argN, fk_map0, fk_mapS, fk_mapN, reduceIte, Nat.reduceEqDiff, Nat.reduceAdd, f2, f3, f4, f7, f8]; with_reducible rfl)))
    | ((first | apply XD.stepGtQ rfl | apply XD.stepGfQ rfl); (focus (simp only [sub, subO, subL, subM, sub3, sub2, fk_some, fk_none, fk_arg0, fk_argS, fk_argN, fk_map0, fk_mapS, fk_mapN, reduceIte, Nat.reduceEqDiff, Nat.reduceAdd, f2, f3, f4, f7, f8]; with_reducible rfl)); all_goals (intro hbr; first | exact absurd hbr (by decide) | ((try rw [hbr]); (try simp at hbr))))
    | (apply XD.loudQ rfl; (focus (simp only [sub, subO, subL, subM, sub3, sub2, fk_some, fk_none, fk_arg0, fk_argS, fk_argN, fk_map0, fk_mapS, fk_mapN, reduceIte, Nat.reduceEqDiff, Nat.reduceAdd, f2, f3, f4, f7, f8]; with_reducible rfl)); (focus (simp; with_reducible rfl)); (focus (simp [-getElem?_pos, hls, hjle, hjle', hjle2]; with_reducible (first | rfl | exact ⟨rfl, rfl⟩))); (focus (simp; done)); (focus (simp [-getElem?_pos, hls, hjle, hjle', hjle2]; with_reducible rfl))))
    clear hF hF0 es1 sb slo
    have slo := fun (j : Nat) (h : j ≤ s.length) => slice_lo (s := s) h
    refine X.forS s.length (fun j st => ∃ (f : Nat → V), (fk (Fk.mk (f := f)) 2 = .pv (.sl (encB s)) ∧ fk (Fk.mk (f := f)) 3 = .ptr 0 0 ∧ fk (Fk.mk (f := f)) 4 = .ptr 1 0 ∧ fk (Fk.mk (f := f)) 7 = .pv (.bool p1) ∧ fk (Fk.mk (f := f)) 9 = .pv (.bool (decide (s.length = 0) || G j)) ∧ fk (Fk.mk (f := f)) 10 = .pv (.int .i64 ((j : Int) + 1))) ∧ st = ⟨TL 136 f, [.blk [.pv (.int .i64 a.k), .pv (.int .u64 a.s0), .pv (.int .u64 a.s1), .pv (.int .u64 a.s2), .pv (.int .u64 a.s3), .pv (.int .i64 a.n), .pv (.sl (a.l.map encC))] none, .blk [.pv (.int .i64 b.k), .pv (.int .u64 b.s0), .pv (.int .u64 b.s1), .pv (.int .u64 b.s2), .pv (.int .u64 b.s3), .pv (.int .i64 b.n), .pv (.sl (b.l.map encC))] none]⟩) ?_ ?_
    · have hz : ((s.length : Int) == 0) = decide (s = []) := by cases s <;> simp <;> omega
      exact ⟨_, by simp [f2, f3, f4, f7, hG0, hz], rfl⟩
    clear f2 f3 f4 f7 f8 hjle hjle' hjle2
    rintro j st hj ⟨f, ⟨f2, f3, f4, f7, f9, f10⟩, rfl⟩
    have hww : IntKind.i64.wrap ((j : Int) + 1 + 1) = (j : Int) + 1 + 1 := wrap_i64 (by omega)
    rcases Nat.lt_or_ge j s.length with hj1 | hj1
    · have hjle : (j : Int) + 1 ≤ (s.length : Int) := by omega
      have hjle2 : (j : Int) < (s.length : Int) := by omega
      have hjle' : j + 1 ≤ s.length := by omega
      have hs := hG j
      have sl1 := slo (j + 1) hjle'
      have sh1 := shi (j + 1) hjle'
      have sa1 := sa (j + 1)
      have ss1 := ss (j + 1)
      have hcast : (((j + 1 : Nat)) : Int) = (j : Int) + 1 := by omega
      rw [hcast] at sl1 sh1
      clear hG hG0 slo shi sa ss fa0 fb0 fs0 ft0 fq0 fn0 nq na nb es2 h6 h7
      generalize decide (s.length = 0) = e0 at f9 ⊢
      generalize G (j + 1) = Fj' at hs ⊢
      generalize G j = Fj at hs f9
      generalize qa (j + 1) = pa at hs sa1
      generalize qs (j + 1) = pb at hs ss1
      cases e0 with
      | true =>
        simp only [Bool.true_or] at f9
        (repeat' first
    | apply X.retS
    | apply X.skipS
    | apply X.skipB
    | apply X.skipL
    | (apply X.exitS; first | apply X.here | (refine X.out (by decide) ?_; apply X.here))
    | apply X.blockS
    | (apply X.condQ rfl; (focus (simp only [sub, subO, subL, subM, sub3, sub2, fk_some, fk_none, fk_arg0, fk_argS, fk_argN, fk_map0, fk_mapS, fk_mapN, reduceIte, Nat.reduceEqDiff, Nat.reduceAdd, f2, f3, f4, f7, f9, f10]; with_reducible rfl)); all_goals (intro hbr; first | exact absurd hbr (by decide) | ((try rw [hbr]); (try simp at hbr))))
    | apply X.stepZ
    | (apply X.stepQ rfl; (focus (simp only [sub, subO, subL, subM, sub3, sub2, fk_some, fk_none, fk_arg0, fk_argS, fk_argN, fk_map0, fk_mapS, fk_mapN, reduceIte, Nat.reduceEqDiff, Nat.reduceAdd, f2, f3, f4, f7, f9, f10]; with_reducible rfl)); (focus (simp [-getElem?_pos, hls, hjle, hjle', hjle2, hww]; with_reducible (first | rfl | exact ⟨rfl, rfl⟩))))
    | (apply X.stepNQ rfl; (focus (simp only [sub, subO, subL, subM, sub3, sub2, fk_some, fk_none, fk_arg0, fk_argS, fk_argN, fk_map0, fk_mapS, fk_mapN, reduceIte, Nat.reduceEqDiff, Nat.reduceAdd, f2, f3, f4, f7, f9, f10]; with_reducible rfl)))
    | ((first | apply X.stepGtQ rfl | apply X.stepGfQ rfl); (focus (simp only [sub, subO, subL, subM, sub3, sub2, fk_some, fk_none, fk_arg0, fk_argS, fk_argN, fk_map0, fk_mapS, fk_mapN, reduceIte, Nat.reduceEqDiff, Nat.reduceAdd, f2, f3, f4, f7, f9, f10]; with_reducible rfl)); all_goals (intro hbr; first | exact absurd hbr (by decide) | ((try rw [hbr]); (try simp at hbr))))
    | (apply X.draw0; (focus rfl))
    | (apply X.drawH0; (focus rfl))
    | apply XD.nil
    | (apply XD.calmQ rfl rfl; (focus (simp only [sub, subO, subL, subM, sub3, sub2, fk_some, fk_none, fk_arg0, fk_argS, fk_argN, fk_map0, fk_mapS, fk_mapN, reduceIte, Nat.reduceEqDiff, Nat.reduceAdd, f2, f3, f4, f7, f9, f10]; with_reducible rfl)); (focus (simp [-getElem?_pos, hls, hjle, hjle', hjle2, hww]; with_reducible (first | rfl | exact ⟨rfl, rfl⟩))))
    | (apply XD.callQ rfl; (focus (simp only [sub, subO, subL, subM, sub3, sub2, fk_some, fk_none, fk_arg0, fk_argS, fk_argN, fk_map0, fk_mapS, fk_mapN, reduceIte, Nat.reduceEqDiff, Nat.reduceAdd, f2, f3, f4, f7, f9, f10]; simp; with_reducible rfl)); (focus (simp; with_reducible rfl)); (focus (simp [-getElem?_pos, hls, hjle, hjle', hjle2, hww]; done)); (focus (simp [-getElem?_pos, hls, hjle, hjle', hjle2, hww]; with_reducible rfl)))
    | (apply XD.callSQ rfl; (focus (simp only [sub, subO, subL, subM, sub3, sub2, fk_some, fk_none, fk_arg0, fk_argS, fk_argN, fk_map0, fk_mapS, fk_mapN, reduceIte, Nat.reduceEqDiff, Nat.reduceAdd, f2, f3, f4, f7, f9, f10]; simp; with_reducible rfl)); (focus (simp [V.ids, V.ids.idsL]; done)); (focus (intro hh0; simp [snapL_eq, snapLF, snap_pv, snap_nils, snap_slx]; with_reducible rfl)); (focus (simp [-getElem?_pos, hls, hjle, hjle', hjle2, hww]; done)); (focus (simp [-getElem?_pos, hls, hjle, hjle', hjle2, hww]; with_reducible rfl)))
    | (apply XD.stepNQ rfl; (focus (simp only [sub, subO, subL, subM, sub3, sub2, fk_some, fk_none, fk_arg0, fk_argS, fk_argN, fk_map0, fk_mapS, fk_mapN, reduceIte, Nat.reduceEqDiff, Nat.reduceAdd, f2, f3, f4, f7, f9, f10]; with_reducible rfl)))
    | ((first | apply XD.stepGtQ rfl | apply XD.stepGfQ rfl); (focus (simp only [sub, subO, subL, subM, sub3, sub2, fk_some, fk_none, fk_arg0, fk_argS, fk_argN, fk_map0, fk_mapS, fk_mapN, reduceIte, Nat.reduceEqDiff, Nat.reduceAdd, f2, f3, f4, f7, f9, f10]; with_reducible rfl)); all_goals (intro hbr; first | exact absurd hbr (by decide) | ((try rw [hbr]); (try simp at hbr))))
    | (apply XD.loudQ rfl; (focus (simp only [sub, subO, subL, subM, sub3, sub2, fk_some, fk_none, fk_arg0, fk_argS, fk_argN, fk_map0, fk_mapS, fk_mapN, reduceIte, Nat.reduceEqDiff, Nat.reduceAdd, f2, f3, f4, f7, f9, f10]; with_reducible rfl)); (focus (simp; with_reducible rfl)); (focus (simp [-getElem?_pos, hls, hjle, hjle', hjle2, hww]; with_reducible (first | rfl | exact ⟨rfl, rfl⟩))); (focus (simp; done)); (focus (simp [-getElem?_pos, hls, hjle, hjle', hjle2, hww]; with_reducible rfl))))
        all_goals exact ⟨hj1, _, by simp [f2, f3, f4, f7], rfl⟩
      | false =>
        simp only [Bool.false_or] at f9
        cases Fj with
        | true =>
          (repeat' first
    | apply X.retS
    | apply X.skipS
    | apply X.skipB
    | apply X.skipL
    | (apply X.exitS; first | apply X.here | (refine X.out (by decide) ?_; apply X.here))
    | apply X.blockS
    | (apply X.condQ rfl; (focus (simp only [sub, subO, subL, subM, sub3, sub2, fk_some, fk_none, fk_arg0, fk_argS, fk_argN, fk_map0, fk_mapS, fk_mapN, reduceIte, Nat.reduceEqDiff, Nat.reduceAdd, f2, f3, f4, f7, f9, f10]; with_reducible rfl)); all_goals (intro hbr; first | exact absurd hbr (by decide) | ((try rw [hbr]); (try simp at hbr))))
    | apply X.stepZ
    | (apply X.stepQ rfl; (focus (simp only [sub, subO, subL, subM, sub3, sub2, fk_some, fk_none, fk_arg0, fk_argS, fk_argN, fk_map0, fk_mapS, fk_mapN, reduceIte, Nat.reduceEqDiff, Nat.reduceAdd, f2, f3, f4, f7, f9, f10]; with_reducible rfl)); (focus (simp [-getElem?_pos, hls, hjle, hjle', hjle2, hww]; with_reducible (first | rfl | exact ⟨rfl, rfl⟩))))
    | (apply X.stepNQ rfl; (focus (simp only [sub, subO, subL, subM, sub3, sub2, fk_some, fk_none, fk_arg0, fk_argS, fk_argN, fk_map0, fk_mapS, fk_mapN, reduceIte, Nat.reduceEqDiff, Nat.reduceAdd, f2, f3, f4, f7, f9, f10]; with_reducible rfl)))
    | ((first | apply X.stepGtQ rfl | apply X.stepGfQ rfl); (focus (simp only [sub, subO, subL, subM, sub3, sub2, fk_some, fk_none, fk_arg0, fk_argS, fk_argN, fk_map0, fk_mapS, fk_mapN, reduceIte, Nat.reduceEqDiff, Nat.reduceAdd, f2, f3, f4, f7, f9, f10]; with_reducible rfl)); all_goals (intro hbr; first | exact absurd hbr (by decide) | ((try rw [hbr]); (try simp at hbr))))
    | (apply X.draw0; (focus rfl))
    | (apply X.drawH0; (focus rfl))
    | apply XD.nil
    | (apply XD.calmQ rfl rfl; (focus (simp only [sub, subO, subL, subM, sub3, sub2, fk_some, fk_none, fk_arg0, fk_argS, fk_argN, fk_map0, fk_mapS, fk_mapN, reduceIte, Nat.reduceEqDiff, Nat.reduceAdd, f2, f3, f4, f7, f9, f10]; with_reducible rfl)); (focus (simp [-getElem?_pos, hls, hjle, hjle', hjle2, hww]; with_reducible (first | rfl | exact ⟨rfl, rfl⟩))))
    | (apply XD.callQ rfl; (focus (simp only [sub, subO, subL, subM, sub3, sub2, fk_some, fk_none, fk_arg0, fk_argS, fk_argN, fk_map0, fk_mapS, fk_mapN, reduceIte, Nat.reduceEqDiff, Nat.reduceAdd, f2, f3, f4, f7, f9, f10]; simp; with_reducible rfl)); (focus (simp; with_reducible rfl)); (focus (simp [-getElem?_pos, hls, hjle, hjle', hjle2, hww]; done)); (focus (simp [-getElem?_pos, hls, hjle, hjle', hjle2, hww]; with_reducible rfl)))
    | (apply XD.callSQ rfl; (focus (simp only [sub, subO, subL, subM, sub3, sub2, fk_some, fk_none, fk_arg0, fk_argS, fk_argN, fk_map0, fk_mapS, fk_mapN, reduceIte, Nat.reduceEqDiff, Nat.reduceAdd, f2, f3, f4, f7, f9, f10]; simp; with_reducible rfl)); (focus (simp [V.ids, V.ids.idsL]; done)); (focus (intro hh0; simp [snapL_eq, snapLF, snap_pv, snap_nils, snap_slx]; with_reducible rfl)); (focus (simp [-getElem?_pos, hls, hjle, hjle', hjle2, hww]; done)); (focus (simp [-getElem?_pos, hls, hjle, hjle', hjle2, hww]; with_reducible rfl)))
    | (apply XD.stepNQ rfl; (focus (simp only [sub, subO, subL, subM, sub3, sub2, fk_some, fk_none, fk_arg0, fk_argS, fk_argN, fk_map0, fk_mapS, fk_mapN, reduceIte, Nat.reduceEqDiff, Nat.reduceAdd, f2, f3, f4, f7, f9, f10]; with_reducible rfl)))
    | ((first | apply XD.stepGtQ rfl | apply XD.stepGfQ rfl); (focus (simp only [sub, subO, subL, subM, sub3, sub2, fk_some, fk_none, fk_arg0, fk_argS, fk_argN, fk_map0, fk_mapS, fk_mapN, reduceIte, Nat.reduceEqDiff, Nat.reduceAdd, f2, f3, f4, f7, f9, f10]; with_reducible rfl)); all_goals (intro hbr; first | exact absurd hbr (by decide) | ((try rw [hbr]); (try simp at hbr))))
    | (apply XD.loudQ rfl; (focus (simp only [sub, subO, subL, subM, sub3, sub2, fk_some, fk_none, fk_arg0, fk_argS, fk_argN, fk_map0, fk_mapS, fk_mapN, reduceIte, Nat.reduceEqDiff, Nat.reduceAdd, f2, f3, f4, f7, f9, f10]; with_reducible rfl)); (focus (simp; with_reducible rfl)); (focus (simp [-getElem?_pos, hls, hjle, hjle', hjle2, hww]; with_reducible (first | rfl | exact ⟨rfl, rfl⟩))); (focus (simp; done)); (focus (simp [-getElem?_pos, hls, hjle, hjle', hjle2, hww]; with_reducible rfl))))
          all_goals exact ⟨hj1, _, by simp [f2, f3, f4, f7, hs], rfl⟩
        | false =>
          cases pa with
          | false =>
            (repeat' first
    | apply X.retS
    | apply X.skipS
    | apply X.skipB
    | apply X.skipL
    | (apply X.exitS; first | apply X.here | (refine X.out (by decide) ?_; apply X.here))
    | apply X.blockS
    | (apply X.condQ rfl; (focus (simp only [sub, subO, subL, subM, sub3, sub2, fk_some, fk_none, fk_arg0, fk_argS, fk_argN, fk_map0, fk_mapS, fk_mapN, reduceIte, Nat.reduceEqDiff, Nat.reduceAdd, f2, f3, f4, f7, f9, f10]; with_reducible rfl)); all_goals (intro hbr; first | exact absurd hbr (by decide) | ((try rw [hbr]); (try simp at hbr))))
    | apply X.stepZ
    | (apply X.stepQ rfl; (focus (simp only [sub, subO, subL, subM, sub3, sub2, fk_some, fk_none, fk_arg0, fk_argS, fk_argN, fk_map0, fk_mapS, fk_mapN, reduceIte, Nat.reduceEqDiff, Nat.reduceAdd, f2, f3, f4, f7, f9, f10]; with_reducible rfl)); (focus (simp [-getElem?_pos, -sliceSlA, sl1, sh1, HH.y.says.raw, HH.y.star.raw, h4, sa1, ss1, hls, hjle, hjle', hjle2, hww]; with_reducible (first | rfl | exact ⟨rfl, rfl⟩))))
    | (apply X.stepNQ rfl; (focus (simp only [sub, subO, subL, subM, sub3, sub2, fk_some, fk_none, fk_arg0, fk_argS, fk_argN, fk_map0, fk_mapS, fk_mapN, reduceIte, Nat.reduceEqDiff, Nat.reduceAdd, f2, f3, f4, f7, f9, f10]; with_reducible rfl)))
    | ((first | apply X.stepGtQ rfl | apply X.stepGfQ rfl); (focus (simp only [sub, subO, subL, subM, sub3, sub2, fk_some, fk_none, fk_arg0, fk_argS, fk_argN, fk_map0, fk_mapS, fk_mapN, reduceIte, Nat.reduceEqDiff, Nat.reduceAdd, f2, f3, f4, f7, f9, f10]; with_reducible rfl)); all_goals (intro hbr; first | exact absurd hbr (by decide) | ((try rw [hbr]); (try simp at hbr))))
    | (apply X.draw0; (focus rfl))
    | (apply X.drawH0; (focus rfl))
    | apply XD.nil
    | (apply XD.calmQ rfl rfl; (focus (simp only [sub, subO, subL, subM, sub3, sub2, fk_some, fk_none, fk_arg0, fk_argS, fk_argN, fk_map0, fk_mapS, fk_mapN, reduceIte, Nat.reduceEqDiff, Nat.reduceAdd, f2, f3, f4, f7, f9, f10]; with_reducible rfl)); (focus (simp [-getElem?_pos, -sliceSlA, sl1, sh1, HH.y.says.raw, HH.y.star.raw, h4, sa1, ss1, hls, hjle, hjle', hjle2, hww]; with_reducible (first | rfl | exact ⟨rfl, rfl⟩))))
    | (apply XD.callQ rfl; (focus (simp only [sub, subO, subL, subM, sub3, sub2, fk_some, fk_none, fk_arg0, fk_argS, fk_argN, fk_map0, fk_mapS, fk_mapN, reduceIte, Nat.reduceEqDiff, Nat.reduceAdd, f2, f3, f4, f7, f9, f10]; simp; with_reducible rfl)); (focus (simp; with_reducible rfl)); (focus (simp [-getElem?_pos, -sliceSlA, sl1, sh1, HH.y.says.raw, HH.y.star.raw, h4, sa1, ss1, hls, hjle, hjle', hjle2, hww]; done)); (focus (simp [-getElem?_pos, -sliceSlA, sl1, sh1, HH.y.says.raw, HH.y.star.raw, h4, sa1, ss1, hls, hjle, hjle', hjle2, hww]; with_reducible rfl)))
    | (apply XD.callSQ rfl; (focus (simp only [sub, subO, subL, subM, sub3, sub2, fk_some, fk_none, fk_arg0, fk_argS, fk_argN, fk_map0, fk_mapS, fk_mapN, reduceIte, Nat.reduceEqDiff, Nat.reduceAdd, f2, f3, f4, f7, f9, f10]; simp; with_reducible rfl)); (focus (simp [V.ids, V.ids.idsL]; done)); (focus (intro hh0; simp [snapL_eq, snapLF, snap_pv, snap_nils, snap_slx]; with_reducible rfl)); (focus (simp [-getElem?_pos, -sliceSlA, sl1, sh1, HH.y.says.raw, HH.y.star.raw, h4, sa1, ss1, hls, hjle, hjle', hjle2, hww]; done)); (focus (simp [-getElem?_pos, -sliceSlA, sl1, sh1, HH.y.says.raw, HH.y.star.raw, h4, sa1, ss1, hls, hjle, hjle', hjle2, hww]; with_reducible rfl)))
    | (apply XD.stepNQ rfl; (focus (simp only [sub, subO, subL, subM, sub3, sub2, fk_some, fk_none, fk_arg0, fk_argS, fk_argN, fk_map0, fk_mapS, fk_mapN, reduceIte, Nat.reduceEqDiff, Nat.reduceAdd, f2, f3, f4, f7, f9, f10]; with_reducible rfl)))
    | ((first | apply XD.stepGtQ rfl | apply XD.stepGfQ rfl); (focus (simp only [sub, subO, subL, subM, sub3, sub2, fk_some, fk_none, fk_arg0, fk_argS, fk_argN, fk_map0, fk_mapS, fk_mapN, reduceIte, Nat.reduceEqDiff, Nat.reduceAdd, f2, f3, f4, f7, f9, f10]; with_reducible rfl)); all_goals (intro hbr; first | exact absurd hbr (by decide) | ((try rw [hbr]); (try simp at hbr))))
    | (apply XD.loudQ rfl; (focus (simp only [sub, subO, subL, subM, sub3, sub2, fk_some, fk_none, fk_arg0, fk_argS, fk_argN, fk_map0, fk_mapS, fk_mapN, reduceIte, Nat.reduceEqDiff, Nat.reduceAdd, f2, f3, f4, f7, f9, f10]; with_reducible rfl)); (focus (simp; with_reducible rfl)); (focus (simp [-getElem?_pos, -sliceSlA, sl1, sh1, HH.y.says.raw, HH.y.star.raw, h4, sa1, ss1, hls, hjle, hjle', hjle2, hww]; with_reducible (first | rfl | exact ⟨rfl, rfl⟩))); (focus (simp; done)); (focus (simp [-getElem?_pos, -sliceSlA, sl1, sh1, HH.y.says.raw, HH.y.star.raw, h4, sa1, ss1, hls, hjle, hjle', hjle2, hww]; with_reducible rfl))))
            all_goals exact ⟨hj1, _, by simp [f2, f3, f4, f7, hs], rfl⟩
          | true =>
            (repeat' first
    | apply X.retS
    | apply X.skipS
    | apply X.skipB
    | apply X.skipL
    | (apply X.exitS; first | apply X.here | (refine X.out (by decide) ?_; apply X.here))
    | apply X.blockS
    | (apply X.condQ rfl; (focus (simp only [sub, subO, subL, subM, sub3, sub2, fk_some, fk_none, fk_arg0, fk_argS, fk_argN, fk_map0, fk_mapS, fk_mapN, reduceIte, Nat.reduceEqDiff, Nat.reduceAdd, f2, f3, f4, f7, f9, f10]; with_reducible rfl)); all_goals (intro hbr; first | exact absurd hbr (by decide) | ((try rw [hbr]); (try simp at hbr))))
    | apply X.stepZ
    | (apply X.stepQ rfl; (focus (simp only [sub, subO, subL, subM, sub3, sub2, fk_some, fk_none, fk_arg0, fk_argS, fk_argN, fk_map0, fk_mapS, fk_mapN, reduceIte, Nat.reduceEqDiff, Nat.reduceAdd, f2, f3, f4, f7, f9, f10]; with_reducible rfl)); (focus (simp [-getElem?_pos, -sliceSlA, sl1, sh1, HH.y.says.raw, HH.y.star.raw, h4, sa1, ss1, hls, hjle, hjle', hjle2, hww]; with_reducible (first | rfl | exact ⟨rfl, rfl⟩))))
    | (apply X.stepNQ rfl; (focus (simp only [sub, subO, subL, subM, sub3, sub2, fk_some, fk_none, fk_arg0, fk_argS, fk_argN, fk_map0, fk_mapS, fk_mapN, reduceIte, Nat.reduceEqDiff, Nat.reduceAdd, f2, f3, f4, f7, f9, f10]; with_reducible rfl)))
    | ((first | apply X.stepGtQ rfl | apply X.stepGfQ rfl); (focus (simp only [sub, subO, subL, subM, sub3, sub2, fk_some, fk_none, fk_arg0, fk_argS, fk_argN, fk_map0, fk_mapS, fk_mapN, reduceIte, Nat.reduceEqDiff, Nat.reduceAdd, f2, f3, f4, f7, f9, f10]; with_reducible rfl)); all_goals (intro hbr; first | exact absurd hbr (by decide) | ((try rw [hbr]); (try simp at hbr))))
    | (apply X.draw0; (focus rfl))
    | (apply X.drawH0; (focus rfl))
    | apply XD.nil
    | (apply XD.calmQ rfl rfl; (focus (simp only [sub, subO, subL, subM, sub3, sub2, fk_some, fk_none, fk_arg0, fk_argS, fk_argN, fk_map0, fk_mapS, fk_mapN, reduceIte, Nat.reduceEqDiff, Nat.reduceAdd, f2, f3, f4, f7, f9, f10]; with_reducible rfl)); (focus (simp [-getElem?_pos, -sliceSlA, sl1, sh1, HH.y.says.raw, HH.y.star.raw, h4, sa1, ss1, hls, hjle, hjle', hjle2, hww]; with_reducible (first | rfl | exact ⟨rfl, rfl⟩))))
    | (apply XD.callQ rfl; (focus (simp only [sub, subO, subL, subM, sub3, sub2, fk_some, fk_none, fk_arg0, fk_argS, fk_argN, fk_map0, fk_mapS, fk_mapN, reduceIte, Nat.reduceEqDiff, Nat.reduceAdd, f2, f3, f4, f7, f9, f10]; simp; with_reducible rfl)); (focus (simp; with_reducible rfl)); (focus (simp [-getElem?_pos, -sliceSlA, sl1, sh1, HH.y.says.raw, HH.y.star.raw, h4, sa1, ss1, hls, hjle, hjle', hjle2, hww]; done)); (focus (simp [-getElem?_pos, -sliceSlA, sl1, sh1, HH.y.says.raw, HH.y.star.raw, h4, sa1, ss1, hls, hjle, hjle', hjle2, hww]; with_reducible rfl)))
    | (apply XD.callSQ rfl; (focus (simp only [sub, subO, subL, subM, sub3, sub2, fk_some, fk_none, fk_arg0, fk_argS, fk_argN, fk_map0, fk_mapS, fk_mapN, reduceIte, Nat.reduceEqDiff, Nat.reduceAdd, f2, f3, f4, f7, f9, f10]; simp; with_reducible rfl)); (focus (simp [V.ids, V.ids.idsL]; done)); (focus (intro hh0; simp [snapL_eq, snapLF, snap_pv, snap_nils, snap_slx]; with_reducible rfl)); (focus (simp [-getElem?_pos, -sliceSlA, sl1, sh1, HH.y.says.raw, HH.y.star.raw, h4, sa1, ss1, hls, hjle, hjle', hjle2, hww]; done)); (focus (simp [-getElem?_pos, -sliceSlA, sl1, sh1, HH.y.says.raw, HH.y.star.raw, h4, sa1, ss1, hls, hjle, hjle', hjle2, hww]; with_reducible rfl)))
    | (apply XD.stepNQ rfl; (focus (simp only [sub, subO, subL, subM, sub3, sub2, fk_some, fk_none, fk_arg0, fk_argS, fk_argN, fk_map0, fk_mapS, fk_mapN, reduceIte, Nat.reduceEqDiff, Nat.reduceAdd, f2, f3, f4, f7, f9, f10]; with_reducible rfl)))
    | ((first | apply XD.stepGtQ rfl | apply XD.stepGfQ rfl); (focus (simp only [sub, subO, subL, subM, sub3, sub2, fk_some, fk_none, fk_arg0, fk_argS, fk_argN, fk_map0, fk_mapS, fk_mapN, reduceIte, Nat.reduceEqDiff, Nat.reduceAdd, f2, f3, f4, f7, f9, f10]; with_reducible rfl)); all_goals (intro hbr; first | exact absurd hbr (by decide) | ((try rw [hbr]); (try simp at hbr))))
    | (apply XD.loudQ rfl; (focus (simp only [sub, subO, subL, subM, sub3, sub2, fk_some, fk_none, fk_arg0, fk_argS, fk_argN, fk_map0, fk_mapS, fk_mapN, reduceIte, Nat.reduceEqDiff, Nat.reduceAdd, f2, f3, f4, f7, f9, f10]; with_reducible rfl)); (focus (simp; with_reducible rfl)); (focus (simp [-getElem?_pos, -sliceSlA, sl1, sh1, HH.y.says.raw, HH.y.star.raw, h4, sa1, ss1, hls, hjle, hjle', hjle2, hww]; with_reducible (first | rfl | exact ⟨rfl, rfl⟩))); (focus (simp; done)); (focus (simp [-getElem?_pos, -sliceSlA, sl1, sh1, HH.y.says.raw, HH.y.star.raw, h4, sa1, ss1, hls, hjle, hjle', hjle2, hww]; with_reducible rfl))))
            all_goals exact ⟨hj1, _, by simp [f2, f3, f4, f7, hs], rfl⟩
    · have hjn : j = s.length := by omega
      subst hjn
      have hjle : ¬ (s.length : Int) + 1 ≤ (s.length : Int) := by omega
      have hjle' : ¬ s.length + 1 ≤ s.length := by omega
      rw [es2] at f9
      clear hG hG0 es2 slo shi sa ss
      cases p3 <;> cases p5 <;>
      (repeat' first
    | apply X.retS
    | apply X.skipS
    | apply X.skipB
    | apply X.skipL
    | (apply X.exitS; first | apply X.here | (refine X.out (by decide) ?_; apply X.here))
    | apply X.blockS
    | (apply X.condQ rfl; (focus (simp only [sub, subO, subL, subM, sub3, sub2, fk_some, fk_none, fk_arg0, fk_argS, fk_argN, fk_map0, fk_mapS, fk_mapN, reduceIte, Nat.reduceEqDiff, Nat.reduceAdd, f2, f3, f4, f7, f9, f10]; with_reducible rfl)); all_goals (intro hbr; first | exact absurd hbr (by decide) | ((try rw [hbr]); (try simp at hbr))))
    | apply X.stepZ
    | (apply X.stepQ rfl; (focus (simp only [sub, subO, subL, subM, sub3, sub2, fk_some, fk_none, fk_arg0, fk_argS, fk_argN, fk_map0, fk_mapS, fk_mapN, reduceIte, Nat.reduceEqDiff, Nat.reduceAdd, f2, f3, f4, f7, f9, f10]; with_reducible rfl)); (focus (simp [-getElem?_pos, hls, hjle, hjle', HH.y.says.raw, HH.y.star.raw, HH.y.seq.raw, HH.alt.raw, HH.y.Null.raw, h4, h6, h7, fa0, fb0, fs0, ft0, fq0, fn0, nq, na, nb]; with_reducible (first | rfl | exact ⟨rfl, rfl⟩))))
    | (apply X.stepNQ rfl; (focus (simp only [sub, subO, subL, subM, sub3, sub2, fk_some, fk_none, fk_arg0, fk_argS, fk_argN, fk_map0, fk_mapS, fk_mapN, reduceIte, Nat.reduceEqDiff, Nat.reduceAdd, f2, f3, f4, f7, f9, f10]; with_reducible rfl)))
    | ((first | apply X.stepGtQ rfl | apply X.stepGfQ rfl); (focus (simp only [sub, subO, subL, subM, sub3, sub2, fk_some, fk_none, fk_arg0, fk_argS, fk_argN, fk_map0, fk_mapS, fk_mapN, reduceIte, Nat.reduceEqDiff, Nat.reduceAdd, f2, f3, f4, f7, f9, f10]; with_reducible rfl)); all_goals (intro hbr; first | exact absurd hbr (by decide) | ((try rw [hbr]); (try simp at hbr))))
    | (apply X.draw0; (focus rfl))
    | (apply X.drawH0; (focus rfl))
    | apply XD.nil
    | (apply XD.calmQ rfl rfl; (focus (simp only [sub, subO, subL, subM, sub3, sub2, fk_some, fk_none, fk_arg0, fk_argS, fk_argN, fk_map0, fk_mapS, fk_mapN, reduceIte, Nat.reduceEqDiff, Nat.reduceAdd, f2, f3, f4, f7, f9, f10]; with_reducible rfl)); (focus (simp [-getElem?_pos, hls, hjle, hjle', HH.y.says.raw, HH.y.star.raw, HH.y.seq.raw, HH.alt.raw, HH.y.Null.raw, h4, h6, h7, fa0, fb0, fs0, ft0, fq0, fn0, nq, na, nb]; with_reducible (first | rfl | exact ⟨rfl, rfl⟩))))
    | (apply XD.callQ rfl; (focus (simp only [sub, subO, subL, subM, sub3, sub2, fk_some, fk_none, fk_arg0, fk_argS, fk_argN, fk_map0, fk_mapS, fk_mapN, reduceIte, Nat.reduceEqDiff, Nat.reduceAdd, f2, f3, f4, f7, f9, f10]; simp; with_reducible rfl)); (focus (simp; with_reducible rfl)); (focus (simp [-getElem?_pos, hls, hjle, hjle', HH.y.says.raw, HH.y.star.raw, HH.y.seq.raw, HH.alt.raw, HH.y.Null.raw, h4, h6, h7, fa0, fb0, fs0, ft0, fq0, fn0, nq, na, nb]; done)); (focus (simp [-getElem?_pos, hls, hjle, hjle', HH.y.says.raw, HH.y.star.raw, HH.y.seq.raw, HH.alt.raw, HH.y.Null.raw, h4, h6, h7, fa0, fb0, fs0, ft0, fq0, fn0, nq, na, nb]; with_reducible rfl)))
    | (apply XD.callSQ rfl; (focus (simp only [sub, subO, subL, subM, sub3, sub2, fk_some, fk_none, fk_arg0, fk_argS, fk_argN, fk_map0, fk_mapS, fk_mapN, reduceIte, Nat.reduceEqDiff, Nat.reduceAdd, f2, f3, f4, f7, f9, f10]; simp; with_reducible rfl)); (focus (simp [V.ids, V.ids.idsL]; done)); (focus (intro hh0; simp [snapL_eq, snapLF, snap_pv, snap_nils, snap_slx]; with_reducible rfl)); (focus (simp [-getElem?_pos, hls, hjle, hjle', HH.y.says.raw, HH.y.star.raw, HH.y.seq.raw, HH.alt.raw, HH.y.Null.raw, h4, h6, h7, fa0, fb0, fs0, ft0, fq0, fn0, nq, na, nb]; done)); (focus (simp [-getElem?_pos, hls, hjle, hjle', HH.y.says.raw, HH.y.star.raw, HH.y.seq.raw, HH.alt.raw, HH.y.Null.raw, h4, h6, h7, fa0, fb0, fs0, ft0, fq0, fn0, nq, na, nb]; with_reducible rfl)))
    | (apply XD.stepNQ rfl; (focus (simp only [sub, subO, subL, subM, sub3, sub2, fk_some, fk_none, fk_arg0, fk_argS, fk_argN, fk_map0, fk_mapS, fk_mapN, reduceIte, Nat.reduceEqDiff, Nat.reduceAdd, f2, f3, f4, f7, f9, f10]; with_reducible rfl)))
    | ((first | apply XD.stepGtQ rfl | apply XD.stepGfQ rfl); (focus (simp only [sub, subO, subL, subM, sub3, sub2, fk_some, fk_none, fk_arg0, fk_argS, fk_argN, fk_map0, fk_mapS, fk_mapN, reduceIte, Nat.reduceEqDiff, Nat.reduceAdd, f2, f3, f4, f7, f9, f10]; with_reducible rfl)); all_goals (intro hbr; first | exact absurd hbr (by decide) | ((try rw [hbr]); (try simp at hbr))))
    | (apply XD.loudQ rfl; (focus (simp only [sub, subO, subL, subM, sub3, sub2, fk_some, fk_none, fk_arg0, fk_argS, fk_argN, fk_map0, fk_mapS, fk_mapN, reduceIte, Nat.reduceEqDiff, Nat.reduceAdd, f2, f3, f4, f7, f9, f10]; with_reducible rfl)); (focus (simp; with_reducible rfl)); (focus (simp [-getElem?_pos, hls, hjle, hjle', HH.y.says.raw, HH.y.star.raw, HH.y.seq.raw, HH.alt.raw, HH.y.Null.raw, h4, h6, h7, fa0, fb0, fs0, ft0, fq0, fn0, nq, na, nb]; with_reducible (first | rfl | exact ⟨rfl, rfl⟩))); (focus (simp; done)); (focus (simp [-getElem?_pos, hls, hjle, hjle', HH.y.says.raw, HH.y.star.raw, HH.y.seq.raw, HH.alt.raw, HH.y.Null.raw, h4, h6, h7, fa0, fb0, fs0, ft0, fq0, fn0, nq, na, nb]; with_reducible rfl))))
      all_goals (refine Fin.mkQ rfl (by simp only [resS, sub, subO, subL, subM, sub3, sub2, fk_some, fk_none, fk_arg0, fk_argS, fk_argN, fk_map0, fk_mapS, fk_mapN, reduceIte, Nat.reduceEqDiff, Nat.reduceAdd]; with_reducible rfl) (by simp [oneOf, pureRes, snapFuel, snapL]; with_reducible rfl) ?_)
      all_goals rfl
end Lng
