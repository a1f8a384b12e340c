/- SyK: steps, walks, laws: see the remarks within. -/
import Derived.Test.YtdacifedlemlmaaSyJ
set_option linter.unusedSimpArgs false
set_option linter.unusedVariables false
-- The document's own test whether a report of an error may be: walked.
namespace Rp
open Go Ab Go.Proofs.Ytdacifedlemlmaa.Mach
variable {E : Env}

structure HasGr (E : Env) : Prop where
  o : HasRo E
  size : Has E 70 c70
  dep : Has E 71 c71
  form : Has E 72 c72
  good : Has E 36 c36
def valOkR (v : Va) : Bool := decide (sizeR v 2000 ≤ 2000) && (decide (depR v 500 ≤ 500) && formR v)
def goodRS (e a b : Int) (sp : List Sp) (v : Va) (q : Nat) : Bool :=
  if e < 0 ∨ 7 < e then false else
  if e ≠ 0 then decide (a = 0) && (decide (b = 0) && (decide (sp.length = 0) && (isZ v && nanB .f64 q))) else
  betweenS a b && (spansS a b sp && valOkR v)

set_option maxHeartbeats 16000000 in
theorem goodr_err (HH : HasGr E) (e a b : Int) (sp : List Sp) (v : Va) (q : Nat) (h0 : 0 < e) (h7 : ¬ 7 < e) :
    limP E 36 [encR e a b sp v q] = some [.bool (decide (a = 0) && (decide (b = 0) && (decide (sp.length = 0) && (isZ v && nanB .f64 q))))] := by
  have H := HH.good
  have hn := rnan_ok HH.o.nan q
  have hll : (sp.map encS).length = sp.length := by simp
  have hlv : (v.l.map encV).length = v.l.length := by simp
  have w1 := lssI e 0
  have w2 := gtrI e 7
  have w3 := gtrI e 0
  rw [decide_eq_false (by omega)] at w1
  rw [decide_eq_false h7] at w2
  rw [decide_eq_true h0] at w3
  have w4 := eqlI a 0
  have w5 := eqlI b 0
  have w6 := eqlI (sp.length : Int) 0
  have w7 := eqlI v.k 0
  have w8 : binA .eql .no (.pv (.int .u8 v.b)) (.pv (.int .u8 0)) = some (.pv (.bool (decide (v.b = 0)))) := by
    by_cases h : v.b = 0 <;> simp [binA, intBin, h]
  have w9 := eqlI (v.l.length : Int) 0
  have d6 : decide ((sp.length : Int) = 0) = decide (sp.length = 0) := by simp
  have d9 : decide ((v.l.length : Int) = 0) = decide (v.l.length = 0) := by simp
  rw [d6] at w6
  rw [d9] at w9
  unfold isZ
  simp only [encR]
  generalize decide (a = 0) = p4 at w4 ⊢
  generalize decide (b = 0) = p5 at w5 ⊢
  generalize decide (sp.length = 0) = p6 at w6 ⊢
  generalize decide (v.k = 0) = p7 at w7 ⊢
  generalize decide (v.b = 0) = p8 at w8 ⊢
  generalize decide (v.l.length = 0) = p9 at w9 ⊢
  generalize nanB .f64 q = p10 at hn ⊢
  cases p4; rotate_left; cases p5; rotate_left; cases p6; rotate_left; cases p7; rotate_left; cases p8; rotate_left; cases p9; rotate_left; cases p10
  all_goals (refine H.limQ (Nat.le_of_ble_eq_true rfl) ?_; unfold c36)
  all_goals (repeat' first
    | apply X.retS
    | apply X.skipS
    | (apply X.condQ rfl; (focus (simp only [SB, reduceIte, Nat.reduceEqDiff]; with_reducible rfl)); all_goals (intro hbr; first | exact absurd hbr (by decide) | ((try rw [hbr]); (try simp at hbr))))
    | apply X.stepZ
    | (apply X.stepQ rfl; (focus (simp only [SB, reduceIte, Nat.reduceEqDiff]; with_reducible rfl)); (focus (simp [-getElem?_pos, -binA, w1, w2, w3, w4, w5, w6, w7, w8, w9, hll, hlv, HH.o.nan.raw, hn]; with_reducible (first | rfl | exact ⟨rfl, rfl⟩))))
    | ((first | apply X.stepGtQ rfl | apply X.stepGfQ rfl); (focus (simp only [SB, reduceIte, Nat.reduceEqDiff]; with_reducible rfl)); all_goals (intro hbr; first | exact absurd hbr (by decide) | ((try rw [hbr]); (try simp at hbr))))
    | fail)
  all_goals (refine Fin.mkQ rfl (by simp only [resS, SB, reduceIte, Nat.reduceEqDiff]; with_reducible rfl) (by simp [oneOf, pureRes, snapFuel, snapL]; with_reducible rfl) ?_)
  all_goals rfl

theorem okS_c (x y : Int) : spanOk (x, y) = !((!(decide (x = -1) && decide (y = -1))) && ((decide (x < 0) || decide (y < x)) || decide (1073741824 < y))) := by
  unfold spanOk betweenS
  rw [Bool.eq_iff_iff]
  simp only [Bool.or_eq_true, Bool.and_eq_true, Bool.not_eq_true', decide_eq_true_eq, Bool.and_eq_false_iff, Bool.not_eq_false', Bool.or_eq_false_iff, decide_eq_false_iff_not]
  omega

end Rp

-- The document's own test whether a report may be: walked.
namespace Rp
open Go Ab Go.Proofs.Ytdacifedlemlmaa.Mach
variable {E : Env}

theorem between_c (a b : Int) : betweenS a b = !((decide (a < 0) || decide (b < a)) || decide (1073741824 < b)) := by
  unfold betweenS
  rw [Bool.eq_iff_iff]
  simp only [Bool.and_eq_true, Bool.not_eq_true', decide_eq_true_eq, Bool.or_eq_false_iff, decide_eq_false_iff_not]
  omega

set_option maxHeartbeats 16000000 in
theorem goodr_ok0 (HH : HasGr E) (a b : Int) (sp : List Sp) (v : Va) (q : Nat) (hl : sp.length ≤ 9223372036854775807) (hf : FineV v) :
    limP E 36 [encR 0 a b sp v q] = some [.bool (betweenS a b && (spansS a b sp && valOkR v))] := by
  have H := HH.good
  have hll : (sp.map encS).length = sp.length := by simp
  have w1 : binA .lss .no (.pv (.int .i64 0)) (.pv (.int .i64 0)) = some (.pv (.bool false)) := rfl
  have w2 : binA .gtr .no (.pv (.int .i64 0)) (.pv (.int .i64 7)) = some (.pv (.bool false)) := rfl
  have w3 : binA .gtr .no (.pv (.int .i64 0)) (.pv (.int .i64 0)) = some (.pv (.bool false)) := rfl
  have w4 := lssI a 0
  have w5 := lssI b a
  have w6 := gtrI b 1073741824
  simp only [encR]
  rw [between_c]
  generalize decide (a < 0) = c1 at w4 ⊢
  generalize decide (b < a) = c2 at w5 ⊢
  generalize decide (1073741824 < b) = c3 at w6 ⊢
  cases c1 with
  | true =>
    refine H.limQ (Nat.le_of_ble_eq_true rfl) ?_; unfold c36
    (repeat' first
    | apply X.skipS
    | (apply X.condQ rfl; (focus (simp only [SB, reduceIte, Nat.reduceEqDiff]; with_reducible rfl)); all_goals (intro hbr; first | exact absurd hbr (by decide) | ((try rw [hbr]); (try simp at hbr))))
    | apply X.stepZ
    | (apply X.stepQ rfl; (focus (simp only [SB, reduceIte, Nat.reduceEqDiff]; with_reducible rfl)); (focus (simp [-getElem?_pos, -binA, w1, w2, w3]; with_reducible (first | rfl | exact ⟨rfl, rfl⟩))))
    | ((first | apply X.stepGtQ rfl | apply X.stepGfQ rfl); (focus (simp only [SB, reduceIte, Nat.reduceEqDiff]; with_reducible rfl)); all_goals (intro hbr; first | exact absurd hbr (by decide) | ((try rw [hbr]); (try simp at hbr))))
    | fail)
    (repeat' first
    | apply X.retS
    | (apply X.condQ rfl; (focus (simp only [SB, reduceIte, Nat.reduceEqDiff]; with_reducible rfl)); all_goals (intro hbr; first | exact absurd hbr (by decide) | ((try rw [hbr]); (try simp at hbr))))
    | apply X.stepZ
    | (apply X.stepQ rfl; (focus (simp only [SB, reduceIte, Nat.reduceEqDiff]; with_reducible rfl)); (focus (simp [-getElem?_pos, -binA, w4, w5, w6]; with_reducible (first | rfl | exact ⟨rfl, rfl⟩))))
    | (apply X.draw0; (focus rfl))
    | apply XD.nil
    | (apply XD.calmQ rfl rfl; (focus (simp only [SB, reduceIte, Nat.reduceEqDiff]; with_reducible rfl)); (focus (simp [-getElem?_pos, -binA, w4, w5, w6]; with_reducible (first | rfl | exact ⟨rfl, rfl⟩))))
    | ((first | apply XD.stepGtQ rfl | apply XD.stepGfQ rfl); (focus (simp only [SB, reduceIte, Nat.reduceEqDiff]; with_reducible rfl)); all_goals (intro hbr; first | exact absurd hbr (by decide) | ((try rw [hbr]); (try simp at hbr))))
    | fail)
    all_goals (refine Fin.mkQ rfl (by simp only [resS, SB, reduceIte, Nat.reduceEqDiff]; with_reducible rfl) (by simp [oneOf, pureRes, snapFuel, snapL]; with_reducible rfl) ?_)
    all_goals rfl
  | false =>
  cases c2 with
  | true =>
    refine H.limQ (Nat.le_of_ble_eq_true rfl) ?_; unfold c36
    (repeat' first
    | apply X.skipS
    | (apply X.condQ rfl; (focus (simp only [SB, reduceIte, Nat.reduceEqDiff]; with_reducible rfl)); all_goals (intro hbr; first | exact absurd hbr (by decide) | ((try rw [hbr]); (try simp at hbr))))
    | apply X.stepZ
    | (apply X.stepQ rfl; (focus (simp only [SB, reduceIte, Nat.reduceEqDiff]; with_reducible rfl)); (focus (simp [-getElem?_pos, -binA, w1, w2, w3]; with_reducible (first | rfl | exact ⟨rfl, rfl⟩))))
    | ((first | apply X.stepGtQ rfl | apply X.stepGfQ rfl); (focus (simp only [SB, reduceIte, Nat.reduceEqDiff]; with_reducible rfl)); all_goals (intro hbr; first | exact absurd hbr (by decide) | ((try rw [hbr]); (try simp at hbr))))
    | fail)
    (repeat' first
    | apply X.retS
    | (apply X.condQ rfl; (focus (simp only [SB, reduceIte, Nat.reduceEqDiff]; with_reducible rfl)); all_goals (intro hbr; first | exact absurd hbr (by decide) | ((try rw [hbr]); (try simp at hbr))))
    | apply X.stepZ
    | (apply X.stepQ rfl; (focus (simp only [SB, reduceIte, Nat.reduceEqDiff]; with_reducible rfl)); (focus (simp [-getElem?_pos, -binA, w4, w5, w6]; with_reducible (first | rfl | exact ⟨rfl, rfl⟩))))
    | (apply X.draw0; (focus rfl))
    | apply XD.nil
    | (apply XD.calmQ rfl rfl; (focus (simp only [SB, reduceIte, Nat.reduceEqDiff]; with_reducible rfl)); (focus (simp [-getElem?_pos, -binA, w4, w5, w6]; with_reducible (first | rfl | exact ⟨rfl, rfl⟩))))
    | ((first | apply XD.stepGtQ rfl | apply XD.stepGfQ rfl); (focus (simp only [SB, reduceIte, Nat.reduceEqDiff]; with_reducible rfl)); all_goals (intro hbr; first | exact absurd hbr (by decide) | ((try rw [hbr]); (try simp at hbr))))
    | fail)
    all_goals (refine Fin.mkQ rfl (by simp only [resS, SB, reduceIte, Nat.reduceEqDiff]; with_reducible rfl) (by simp [oneOf, pureRes, snapFuel, snapL]; with_reducible rfl) ?_)
    all_goals rfl
  | false =>
  cases c3 with
  | true =>
    refine H.limQ (Nat.le_of_ble_eq_true rfl) ?_; unfold c36
    (repeat' first
    | apply X.skipS
    | (apply X.condQ rfl; (focus (simp only [SB, reduceIte, Nat.reduceEqDiff]; with_reducible rfl)); all_goals (intro hbr; first | exact absurd hbr (by decide) | ((try rw [hbr]); (try simp at hbr))))
    | apply X.stepZ
    | (apply X.stepQ rfl; (focus (simp only [SB, reduceIte, Nat.reduceEqDiff]; with_reducible rfl)); (focus (simp [-getElem?_pos, -binA, w1, w2, w3]; with_reducible (first | rfl | exact ⟨rfl, rfl⟩))))
    | ((first | apply X.stepGtQ rfl | apply X.stepGfQ rfl); (focus (simp only [SB, reduceIte, Nat.reduceEqDiff]; with_reducible rfl)); all_goals (intro hbr; first | exact absurd hbr (by decide) | ((try rw [hbr]); (try simp at hbr))))
    | fail)
    (repeat' first
    | apply X.retS
    | (apply X.condQ rfl; (focus (simp only [SB, reduceIte, Nat.reduceEqDiff]; with_reducible rfl)); all_goals (intro hbr; first | exact absurd hbr (by decide) | ((try rw [hbr]); (try simp at hbr))))
    | apply X.stepZ
    | (apply X.stepQ rfl; (focus (simp only [SB, reduceIte, Nat.reduceEqDiff]; with_reducible rfl)); (focus (simp [-getElem?_pos, -binA, w4, w5, w6]; with_reducible (first | rfl | exact ⟨rfl, rfl⟩))))
    | (apply X.draw0; (focus rfl))
    | apply XD.nil
    | (apply XD.calmQ rfl rfl; (focus (simp only [SB, reduceIte, Nat.reduceEqDiff]; with_reducible rfl)); (focus (simp [-getElem?_pos, -binA, w4, w5, w6]; with_reducible (first | rfl | exact ⟨rfl, rfl⟩))))
    | ((first | apply XD.stepGtQ rfl | apply XD.stepGfQ rfl); (focus (simp only [SB, reduceIte, Nat.reduceEqDiff]; with_reducible rfl)); all_goals (intro hbr; first | exact absurd hbr (by decide) | ((try rw [hbr]); (try simp at hbr))))
    | fail)
    all_goals (refine Fin.mkQ rfl (by simp only [resS, SB, reduceIte, Nat.reduceEqDiff]; with_reducible rfl) (by simp [oneOf, pureRes, snapFuel, snapL]; with_reducible rfl) ?_)
    all_goals rfl
  | false =>
  have w7 := lssI (sp.length : Int) 1
  have w8 := gtrI (sp.length : Int) 33
  cases sp with
  | nil =>
    have w7' : binA .lss .no (.pv (.int .i64 0)) (.pv (.int .i64 1)) = some (.pv (.bool true)) := rfl
    clear w7 w8 hll
    refine H.limQ (Nat.le_of_ble_eq_true rfl) ?_; unfold c36
    (repeat' first
    | apply X.skipS
    | (apply X.condQ rfl; (focus (simp only [SB, reduceIte, Nat.reduceEqDiff]; with_reducible rfl)); all_goals (intro hbr; first | exact absurd hbr (by decide) | ((try rw [hbr]); (try simp at hbr))))
    | apply X.stepZ
    | (apply X.stepQ rfl; (focus (simp only [SB, reduceIte, Nat.reduceEqDiff]; with_reducible rfl)); (focus (simp [-getElem?_pos, -binA, w1, w2, w3]; with_reducible (first | rfl | exact ⟨rfl, rfl⟩))))
    | ((first | apply X.stepGtQ rfl | apply X.stepGfQ rfl); (focus (simp only [SB, reduceIte, Nat.reduceEqDiff]; with_reducible rfl)); all_goals (intro hbr; first | exact absurd hbr (by decide) | ((try rw [hbr]); (try simp at hbr))))
    | fail)
    (repeat' first
    | apply X.retS
    | (apply X.condQ rfl; (focus (simp only [SB, reduceIte, Nat.reduceEqDiff]; with_reducible rfl)); all_goals (intro hbr; first | exact absurd hbr (by decide) | ((try rw [hbr]); (try simp at hbr))))
    | apply X.stepZ
    | (apply X.stepQ rfl; (focus (simp only [SB, reduceIte, Nat.reduceEqDiff]; with_reducible rfl)); (focus (simp [-getElem?_pos, -binA, w4, w5, w6, w7']; with_reducible (first | rfl | exact ⟨rfl, rfl⟩))))
    | (apply X.draw0; (focus rfl))
    | apply XD.nil
    | (apply XD.calmQ rfl rfl; (focus (simp only [SB, reduceIte, Nat.reduceEqDiff]; with_reducible rfl)); (focus (simp [-getElem?_pos, -binA, w4, w5, w6, w7']; with_reducible (first | rfl | exact ⟨rfl, rfl⟩))))
    | ((first | apply XD.stepGtQ rfl | apply XD.stepGfQ rfl); (focus (simp only [SB, reduceIte, Nat.reduceEqDiff]; with_reducible rfl)); all_goals (intro hbr; first | exact absurd hbr (by decide) | ((try rw [hbr]); (try simp at hbr))))
    | fail)
    all_goals (refine Fin.mkQ rfl (by simp only [resS, SB, reduceIte, Nat.reduceEqDiff]; with_reducible rfl) (by simp [oneOf, pureRes, snapFuel, snapL]; with_reducible rfl) ?_)
    all_goals rfl
  | cons s0 r =>
  rw [decide_eq_false (by simp; omega)] at w7
  have hd : decide ((s0 :: r).length ≤ 33) = !(decide (33 < (((s0 :: r).length : Nat) : Int))) := by
    rw [Bool.eq_iff_iff]
    simp only [Bool.not_eq_true', decide_eq_true_eq, decide_eq_false_iff_not]
    omega
  have e1 : spansS a b (s0 :: r) = (decide ((s0 :: r).length ≤ 33) && ((decide (s0.1 = a) && decide (s0.2 = b)) && r.all spanOk)) := by
    show (decide ((s0 :: r).length ≤ 33) && (decide (s0.1 = a) && decide (s0.2 = b)) && r.all spanOk) = _
    rw [Bool.and_assoc]
  rw [e1, hd]
  clear e1 hd
  generalize hN : (s0 :: r).length = N at hl w7 w8 hll ⊢
  have w9 := neS s0.1 s0.2 a b
  have hx0 : ((s0 :: r).map encS)[0]? = some (.agg [.int .i64 s0.1, .int .i64 s0.2]) := rfl
  generalize decide (33 < (N : Int)) = c4 at w8 ⊢
  generalize (decide (s0.1 = a) && decide (s0.2 = b)) = c5 at w9 ⊢
  generalize hL : (s0 :: r).map encS = L at hll hx0 ⊢
  cases c4 with
  | true =>
    refine H.limQ (Nat.le_of_ble_eq_true rfl) ?_; unfold c36
    (repeat' first
    | apply X.skipS
    | (apply X.condQ rfl; (focus (simp only [SB, reduceIte, Nat.reduceEqDiff]; with_reducible rfl)); all_goals (intro hbr; first | exact absurd hbr (by decide) | ((try rw [hbr]); (try simp at hbr))))
    | apply X.stepZ
    | (apply X.stepQ rfl; (focus (simp only [SB, reduceIte, Nat.reduceEqDiff]; with_reducible rfl)); (focus (simp [-getElem?_pos, -binA, w1, w2, w3]; with_reducible (first | rfl | exact ⟨rfl, rfl⟩))))
    | ((first | apply X.stepGtQ rfl | apply X.stepGfQ rfl); (focus (simp only [SB, reduceIte, Nat.reduceEqDiff]; with_reducible rfl)); all_goals (intro hbr; first | exact absurd hbr (by decide) | ((try rw [hbr]); (try simp at hbr))))
    | fail)
    (repeat' first
    | apply X.retS
    | (apply X.condQ rfl; (focus (simp only [SB, reduceIte, Nat.reduceEqDiff]; with_reducible rfl)); all_goals (intro hbr; first | exact absurd hbr (by decide) | ((try rw [hbr]); (try simp at hbr))))
    | apply X.stepZ
    | (apply X.stepQ rfl; (focus (simp only [SB, reduceIte, Nat.reduceEqDiff]; with_reducible rfl)); (focus (simp [-getElem?_pos, -binA, w4, w5, w6, w7, w8, hll]; with_reducible (first | rfl | exact ⟨rfl, rfl⟩))))
    | (apply X.draw0; (focus rfl))
    | apply XD.nil
    | (apply XD.calmQ rfl rfl; (focus (simp only [SB, reduceIte, Nat.reduceEqDiff]; with_reducible rfl)); (focus (simp [-getElem?_pos, -binA, w4, w5, w6, w7, w8, hll]; with_reducible (first | rfl | exact ⟨rfl, rfl⟩))))
    | ((first | apply XD.stepGtQ rfl | apply XD.stepGfQ rfl); (focus (simp only [SB, reduceIte, Nat.reduceEqDiff]; with_reducible rfl)); all_goals (intro hbr; first | exact absurd hbr (by decide) | ((try rw [hbr]); (try simp at hbr))))
    | fail)
    all_goals (refine Fin.mkQ rfl (by simp only [resS, SB, reduceIte, Nat.reduceEqDiff]; with_reducible rfl) (by simp [oneOf, pureRes, snapFuel, snapL]; with_reducible rfl) ?_)
    all_goals rfl
  | false =>
  cases c5 with
  | false =>
    refine H.limQ (Nat.le_of_ble_eq_true rfl) ?_; unfold c36
    (repeat' first
    | apply X.skipS
    | (apply X.condQ rfl; (focus (simp only [SB, reduceIte, Nat.reduceEqDiff]; with_reducible rfl)); all_goals (intro hbr; first | exact absurd hbr (by decide) | ((try rw [hbr]); (try simp at hbr))))
    | apply X.stepZ
    | (apply X.stepQ rfl; (focus (simp only [SB, reduceIte, Nat.reduceEqDiff]; with_reducible rfl)); (focus (simp [-getElem?_pos, -binA, w1, w2, w3]; with_reducible (first | rfl | exact ⟨rfl, rfl⟩))))
    | ((first | apply X.stepGtQ rfl | apply X.stepGfQ rfl); (focus (simp only [SB, reduceIte, Nat.reduceEqDiff]; with_reducible rfl)); all_goals (intro hbr; first | exact absurd hbr (by decide) | ((try rw [hbr]); (try simp at hbr))))
    | fail)
    (repeat' first
    | apply X.retS
    | (apply X.condQ rfl; (focus (simp only [SB, reduceIte, Nat.reduceEqDiff]; with_reducible rfl)); all_goals (intro hbr; first | exact absurd hbr (by decide) | ((try rw [hbr]); (try simp at hbr))))
    | apply X.stepZ
    | (apply X.stepQ rfl; (focus (simp only [SB, reduceIte, Nat.reduceEqDiff]; with_reducible rfl)); (focus (simp [-getElem?_pos, -binA, w4, w5, w6, w7, w8, w9, hll, hx0]; with_reducible (first | rfl | exact ⟨rfl, rfl⟩))))
    | (apply X.draw0; (focus rfl))
    | apply XD.nil
    | (apply XD.calmQ rfl rfl; (focus (simp only [SB, reduceIte, Nat.reduceEqDiff]; with_reducible rfl)); (focus (simp [-getElem?_pos, -binA, w4, w5, w6, w7, w8, w9, hll, hx0]; with_reducible (first | rfl | exact ⟨rfl, rfl⟩))))
    | ((first | apply XD.stepGtQ rfl | apply XD.stepGfQ rfl); (focus (simp only [SB, reduceIte, Nat.reduceEqDiff]; with_reducible rfl)); all_goals (intro hbr; first | exact absurd hbr (by decide) | ((try rw [hbr]); (try simp at hbr))))
    | fail)
    all_goals (refine Fin.mkQ rfl (by simp only [resS, SB, reduceIte, Nat.reduceEqDiff]; with_reducible rfl) (by simp [oneOf, pureRes, snapFuel, snapL]; with_reducible rfl) ?_)
    all_goals rfl
  | true =>
  refine H.limQ (Nat.le_of_ble_eq_true rfl) ?_; unfold c36
  (repeat' first
    | apply X.skipS
    | (apply X.condQ rfl; (focus (simp only [SB, reduceIte, Nat.reduceEqDiff]; with_reducible rfl)); all_goals (intro hbr; first | exact absurd hbr (by decide) | ((try rw [hbr]); (try simp at hbr))))
    | apply X.stepZ
    | (apply X.stepQ rfl; (focus (simp only [SB, reduceIte, Nat.reduceEqDiff]; with_reducible rfl)); (focus (simp [-getElem?_pos, -binA, w1, w2, w3]; with_reducible (first | rfl | exact ⟨rfl, rfl⟩))))
    | ((first | apply X.stepGtQ rfl | apply X.stepGfQ rfl); (focus (simp only [SB, reduceIte, Nat.reduceEqDiff]; with_reducible rfl)); all_goals (intro hbr; first | exact absurd hbr (by decide) | ((try rw [hbr]); (try simp at hbr))))
    | fail)
  (repeat' first
    | apply X.skipS
    | apply X.blockS
    | (apply X.condQ rfl; (focus (simp only [SB, reduceIte, Nat.reduceEqDiff]; with_reducible rfl)); all_goals (intro hbr; first | exact absurd hbr (by decide) | ((try rw [hbr]); (try simp at hbr))))
    | apply X.stepZ
    | (apply X.stepQ rfl; (focus (simp only [SB, reduceIte, Nat.reduceEqDiff]; with_reducible rfl)); (focus (simp [-getElem?_pos, -binA, w4, w5, w6, w7, w8, w9, hll, hx0]; with_reducible (first | rfl | exact ⟨rfl, rfl⟩))))
    | (apply X.draw0; (focus rfl))
    | apply XD.nil
    | (apply XD.calmQ rfl rfl; (focus (simp only [SB, reduceIte, Nat.reduceEqDiff]; with_reducible rfl)); (focus (simp [-getElem?_pos, -binA, w4, w5, w6, w7, w8, w9, hll, hx0]; with_reducible (first | rfl | exact ⟨rfl, rfl⟩))))
    | ((first | apply XD.stepGtQ rfl | apply XD.stepGfQ rfl); (focus (simp only [SB, reduceIte, Nat.reduceEqDiff]; with_reducible rfl)); all_goals (intro hbr; first | exact absurd hbr (by decide) | ((try rw [hbr]); (try simp at hbr))))
    | fail)
  clear w1 w2 w3 w4 w5 w6 w7 w8 w9 hx0
  refine X.forS r.length (fun j st => ∃ (hh : Heap) (f : Nat → V), ((r.drop j).all spanOk = r.all spanOk ∧ ent hh 0 = .blk [.pv (.int .i64 0), .pv (.int .i64 a), .pv (.int .i64 b), .pv (.sl L), .pv (.int .i64 v.k), .pv (.int .u8 v.b), .pv (.sl (v.l.map encV)), .pv (.flt .f64 q)] none) ∧ (fk (Fk.mk (f := f)) 1 = .ptr 0 0 ∧ fk (Fk.mk (f := f)) 3 = .pv (.int .i64 ((j : Int) + 1))) ∧ st = ⟨TL 140 f, hh⟩) ?_ ?_
  · exact ⟨_, _, ⟨rfl, rfl⟩, by simp, rfl⟩
  rintro j st hj ⟨hh, f, ⟨hi, x0⟩, ⟨f1, f3⟩, rfl⟩
  have hr1 : (N : Int) = (r.length : Int) + 1 := by rw [← hN]; simp
  rcases Nat.lt_or_ge j r.length with hj1 | hj1
  · obtain ⟨k, hk⟩ : ∃ k, k = j + 1 := ⟨_, rfl⟩
    have ek : (j : Int) + 1 = (k : Int) := by omega
    rw [ek] at f3
    have hww : IntKind.i64.wrap ((k : Int) + 1) = (k : Int) + 1 := wrap_i64 (by omega)
    have w3 : binA .add .no (.pv (.int .i64 (k : Int))) (.pv (.int .i64 1)) = some (.pv (.int .i64 ((k : Int) + 1))) := by simp [binA, intBin, hww]
    have w1 : binA .lss .no (.pv (.int .i64 (k : Int))) (.pv (.int .i64 (N : Int))) = some (.pv (.bool true)) := by simp [binA, intBin]; omega
    obtain ⟨x, hx⟩ := at_of_lt hj1
    have hx2 : L[k]? = some (.agg [.int .i64 x.1, .int .i64 x.2]) := by rw [← hL, hk]; simp [hx, encS]
    rw [drop_at hx] at hi
    simp only [List.all_cons] at hi
    have v1 := neS x.1 x.2 (-1) (-1)
    have v2 := lssI x.1 0
    have v3 := lssI x.2 x.1
    have v4 := gtrI x.2 1073741824
    have ex : spanOk x = spanOk (x.1, x.2) := rfl
    rw [ex, okS_c] at hi
    generalize (!(decide (x.1 = -1) && decide (x.2 = -1))) = d1 at v1 hi
    generalize decide (x.1 < 0) = d2 at v2 hi
    generalize decide (x.2 < x.1) = d3 at v3 hi
    generalize decide (1073741824 < x.2) = d4 at v4 hi
    clear hww ex hL
    have xa : ∀ l, ent (hh ++ l) 0 = _ := fun l => ent_app x0 (by simp)
    cases d1 with
 | false =>
      (repeat' first
    | apply X.skipS
    | apply X.skipB
    | apply X.skipL
    | apply X.blockS
    | (apply X.condQ rfl; (focus (simp only [SB, reduceIte, Nat.reduceEqDiff, f1, f3]; with_reducible rfl)); all_goals (intro hbr; first | exact absurd hbr (by decide) | ((try rw [hbr]); (try simp at hbr))))
    | apply X.stepZ
    | (apply X.stepQ rfl; (focus (simp only [SB, reduceIte, Nat.reduceEqDiff, f1, f3]; with_reducible rfl)); (focus (simp [-getElem?_pos, -binA, x0, xa, hll, w1, w3, hx2, v1]; with_reducible (first | rfl | exact ⟨rfl, rfl⟩))))
    | (apply X.stepNQ rfl; (focus (simp only [SB, reduceIte, Nat.reduceEqDiff, f1, f3]; with_reducible rfl)))
    | ((first | apply X.stepGtQ rfl | apply X.stepGfQ rfl); (focus (simp only [SB, reduceIte, Nat.reduceEqDiff, f1, f3]; with_reducible rfl)); all_goals (intro hbr; first | exact absurd hbr (by decide) | ((try rw [hbr]); (try simp at hbr))))
    | fail)
      exact ⟨hj1, _, _, ⟨by simpa using hi, xa _⟩, by simp [f1, hk], rfl⟩
 | true =>
    cases d2 with
 | true =>
      simp only [Bool.true_or, Bool.and_true, Bool.not_true, Bool.false_and] at hi
      rw [← hi]
      (repeat' first
    | apply X.retS
    | apply X.skipS
    | apply X.blockS
    | (apply X.condQ rfl; (focus (simp only [SB, reduceIte, Nat.reduceEqDiff, f1, f3]; with_reducible rfl)); all_goals (intro hbr; first | exact absurd hbr (by decide) | ((try rw [hbr]); (try simp at hbr))))
    | apply X.stepZ
    | (apply X.stepQ rfl; (focus (simp only [SB, reduceIte, Nat.reduceEqDiff, f1, f3]; with_reducible rfl)); (focus (simp [-getElem?_pos, -binA, x0, xa, hll, w1, w3, hx2, v1, v2]; with_reducible (first | rfl | exact ⟨rfl, rfl⟩))))
    | ((first | apply X.stepGtQ rfl | apply X.stepGfQ rfl); (focus (simp only [SB, reduceIte, Nat.reduceEqDiff, f1, f3]; with_reducible rfl)); all_goals (intro hbr; first | exact absurd hbr (by decide) | ((try rw [hbr]); (try simp at hbr))))
    | fail)
      all_goals (refine Fin.mkQ rfl (by simp only [resS, SB, reduceIte, Nat.reduceEqDiff]; with_reducible rfl) (by simp [oneOf, pureRes, snapFuel, snapL]; with_reducible rfl) ?_)
      all_goals rfl
 | false =>
    cases d3 with
 | true =>
      simp only [Bool.false_or, Bool.true_or, Bool.and_true, Bool.not_true, Bool.false_and] at hi
      rw [← hi]
      (repeat' first
    | apply X.retS
    | apply X.skipS
    | apply X.blockS
    | (apply X.condQ rfl; (focus (simp only [SB, reduceIte, Nat.reduceEqDiff, f1, f3]; with_reducible rfl)); all_goals (intro hbr; first | exact absurd hbr (by decide) | ((try rw [hbr]); (try simp at hbr))))
    | apply X.stepZ
    | (apply X.stepQ rfl; (focus (simp only [SB, reduceIte, Nat.reduceEqDiff, f1, f3]; with_reducible rfl)); (focus (simp [-getElem?_pos, -binA, x0, xa, hll, w1, w3, hx2, v1, v2, v3]; with_reducible (first | rfl | exact ⟨rfl, rfl⟩))))
    | ((first | apply X.stepGtQ rfl | apply X.stepGfQ rfl); (focus (simp only [SB, reduceIte, Nat.reduceEqDiff, f1, f3]; with_reducible rfl)); all_goals (intro hbr; first | exact absurd hbr (by decide) | ((try rw [hbr]); (try simp at hbr))))
    | fail)
      all_goals (refine Fin.mkQ rfl (by simp only [resS, SB, reduceIte, Nat.reduceEqDiff]; with_reducible rfl) (by simp [oneOf, pureRes, snapFuel, snapL]; with_reducible rfl) ?_)
      all_goals rfl
 | false =>
    cases d4 with
 | true =>
      simp only [Bool.false_or, Bool.true_or, Bool.and_true, Bool.not_true, Bool.false_and] at hi
      rw [← hi]
      (repeat' first
    | apply X.retS
    | apply X.skipS
    | apply X.blockS
    | (apply X.condQ rfl; (focus (simp only [SB, reduceIte, Nat.reduceEqDiff, f1, f3]; with_reducible rfl)); all_goals (intro hbr; first | exact absurd hbr (by decide) | ((try rw [hbr]); (try simp at hbr))))
    | apply X.stepZ
    | (apply X.stepQ rfl; (focus (simp only [SB, reduceIte, Nat.reduceEqDiff, f1, f3]; with_reducible rfl)); (focus (simp [-getElem?_pos, -binA, x0, xa, hll, w1, w3, hx2, v1, v2, v3, v4]; with_reducible (first | rfl | exact ⟨rfl, rfl⟩))))
    | ((first | apply X.stepGtQ rfl | apply X.stepGfQ rfl); (focus (simp only [SB, reduceIte, Nat.reduceEqDiff, f1, f3]; with_reducible rfl)); all_goals (intro hbr; first | exact absurd hbr (by decide) | ((try rw [hbr]); (try simp at hbr))))
    | fail)
      all_goals (refine Fin.mkQ rfl (by simp only [resS, SB, reduceIte, Nat.reduceEqDiff]; with_reducible rfl) (by simp [oneOf, pureRes, snapFuel, snapL]; with_reducible rfl) ?_)
      all_goals rfl
 | false =>
      (repeat' first
    | apply X.skipS
    | apply X.skipB
    | apply X.skipL
    | apply X.blockS
    | (apply X.condQ rfl; (focus (simp only [SB, reduceIte, Nat.reduceEqDiff, f1, f3]; with_reducible rfl)); all_goals (intro hbr; first | exact absurd hbr (by decide) | ((try rw [hbr]); (try simp at hbr))))
    | apply X.stepZ
    | (apply X.stepQ rfl; (focus (simp only [SB, reduceIte, Nat.reduceEqDiff, f1, f3]; with_reducible rfl)); (focus (simp [-getElem?_pos, -binA, x0, xa, hll, w1, w3, hx2, v1, v2, v3, v4]; with_reducible (first | rfl | exact ⟨rfl, rfl⟩))))
    | ((first | apply X.stepGtQ rfl | apply X.stepGfQ rfl); (focus (simp only [SB, reduceIte, Nat.reduceEqDiff, f1, f3]; with_reducible rfl)); all_goals (intro hbr; first | exact absurd hbr (by decide) | ((try rw [hbr]); (try simp at hbr))))
    | fail)
      exact ⟨hj1, _, _, ⟨by simpa using hi, xa _⟩, by simp [f1, hk], rfl⟩
  · have w1 : binA .lss .no (.pv (.int .i64 ((j : Int) + 1))) (.pv (.int .i64 (N : Int))) = some (.pv (.bool false)) := by simp [binA, intBin]; omega
    rw [List.drop_eq_nil_of_le hj1] at hi
    simp only [List.all_nil] at hi
    rw [← hi]
    have s1 := size_ok HH.size v hf 2000 (by omega) (by omega)
    have s2 := dep_ok HH.dep v hf 500 (by omega) (by omega)
    have s3 := form_ok HH.form v hf
    rw [eV] at s1 s2 s3
    have v1 := leqI (sizeR v 2000) 2000
    have v2 := leqI (depR v 500) 500
    unfold valOkR
    generalize sizeR v 2000 = y1 at s1 v1 ⊢
    generalize depR v 500 = y2 at s2 v2 ⊢
    generalize formR v = y3 at s3 ⊢
    generalize decide (y1 ≤ 2000) = d1 at v1 ⊢
    generalize decide (y2 ≤ 500) = d2 at v2 ⊢
    cases d1 with
 | false =>
      (repeat' first
    | apply X.retS
    | (apply X.exitS; first | apply X.here | (refine X.out (by decide) ?_; apply X.here))
    | (apply X.condQ rfl; (focus (simp only [SB, reduceIte, Nat.reduceEqDiff, f1, f3]; with_reducible rfl)); all_goals (intro hbr; first | exact absurd hbr (by decide) | ((try rw [hbr]); (try simp at hbr))))
    | apply X.stepZ
    | (apply X.stepQ rfl; (focus (simp only [SB, reduceIte, Nat.reduceEqDiff, f1, f3]; with_reducible rfl)); (focus (simp [-getElem?_pos, -binA, x0, hll, w1, v1, v2, HH.size.raw, HH.dep.raw, HH.form.raw, s1, s2, s3]; with_reducible (first | rfl | exact ⟨rfl, rfl⟩))))
    | ((first | apply X.stepGtQ rfl | apply X.stepGfQ rfl); (focus (simp only [SB, reduceIte, Nat.reduceEqDiff, f1, f3]; with_reducible rfl)); all_goals (intro hbr; first | exact absurd hbr (by decide) | ((try rw [hbr]); (try simp at hbr))))
    | fail)
      all_goals (refine Fin.mkQ rfl (by simp only [resS, SB, reduceIte, Nat.reduceEqDiff]; with_reducible rfl) (by simp [oneOf, pureRes, snapFuel, snapL]; with_reducible rfl) ?_)
      all_goals rfl
 | true =>
    cases d2 with
 | false =>
      (repeat' first
    | apply X.retS
    | (apply X.exitS; first | apply X.here | (refine X.out (by decide) ?_; apply X.here))
    | (apply X.condQ rfl; (focus (simp only [SB, reduceIte, Nat.reduceEqDiff, f1, f3]; with_reducible rfl)); all_goals (intro hbr; first | exact absurd hbr (by decide) | ((try rw [hbr]); (try simp at hbr))))
    | apply X.stepZ
    | (apply X.stepQ rfl; (focus (simp only [SB, reduceIte, Nat.reduceEqDiff, f1, f3]; with_reducible rfl)); (focus (simp [-getElem?_pos, -binA, x0, hll, w1, v1, v2, HH.size.raw, HH.dep.raw, HH.form.raw, s1, s2, s3]; with_reducible (first | rfl | exact ⟨rfl, rfl⟩))))
    | ((first | apply X.stepGtQ rfl | apply X.stepGfQ rfl); (focus (simp only [SB, reduceIte, Nat.reduceEqDiff, f1, f3]; with_reducible rfl)); all_goals (intro hbr; first | exact absurd hbr (by decide) | ((try rw [hbr]); (try simp at hbr))))
    | fail)
      all_goals (refine Fin.mkQ rfl (by simp only [resS, SB, reduceIte, Nat.reduceEqDiff]; with_reducible rfl) (by simp [oneOf, pureRes, snapFuel, snapL]; with_reducible rfl) ?_)
      all_goals rfl
 | true =>
      (repeat' first
    | apply X.retS
    | (apply X.exitS; first | apply X.here | (refine X.out (by decide) ?_; apply X.here))
    | (apply X.condQ rfl; (focus (simp only [SB, reduceIte, Nat.reduceEqDiff, f1, f3]; with_reducible rfl)); all_goals (intro hbr; first | exact absurd hbr (by decide) | ((try rw [hbr]); (try simp at hbr))))
    | apply X.stepZ
    | (apply X.stepQ rfl; (focus (simp only [SB, reduceIte, Nat.reduceEqDiff, f1, f3]; with_reducible rfl)); (focus (simp [-getElem?_pos, -binA, x0, hll, w1, v1, v2, HH.size.raw, HH.dep.raw, HH.form.raw, s1, s2, s3]; with_reducible (first | rfl | exact ⟨rfl, rfl⟩))))
    | ((first | apply X.stepGtQ rfl | apply X.stepGfQ rfl); (focus (simp only [SB, reduceIte, Nat.reduceEqDiff, f1, f3]; with_reducible rfl)); all_goals (intro hbr; first | exact absurd hbr (by decide) | ((try rw [hbr]); (try simp at hbr))))
    | fail)
      all_goals (refine Fin.mkQ rfl (by simp only [resS, SB, reduceIte, Nat.reduceEqDiff]; with_reducible rfl) (by simp [oneOf, pureRes, snapFuel, snapL]; with_reducible rfl) ?_)
      all_goals rfl

theorem goodr_ok (HH : HasGr E) (e a b : Int) (sp : List Sp) (v : Va) (q : Nat) (hl : sp.length ≤ 9223372036854775807) (hf : FineV v) :
    limP E 36 [encR e a b sp v q] = some [.bool (goodRS e a b sp v q)] := by
  unfold goodRS
  by_cases h0 : 0 < e
  · by_cases h7 : 7 < e
    · rw [if_pos (.inr h7)]
      have H := HH.good
      have w1 := lssI e 0
      have w2 := gtrI e 7
      rw [decide_eq_false (by omega)] at w1
      rw [decide_eq_true h7] at w2
      simp only [encR]
      refine H.limQ (Nat.le_of_ble_eq_true rfl) ?_; unfold c36
      (repeat' first
    | apply X.retS
    | (apply X.condQ rfl; (focus (simp only [SB, reduceIte, Nat.reduceEqDiff]; with_reducible rfl)); all_goals (intro hbr; first | exact absurd hbr (by decide) | ((try rw [hbr]); (try simp at hbr))))
    | apply X.stepZ
    | (apply X.stepQ rfl; (focus (simp only [SB, reduceIte, Nat.reduceEqDiff]; with_reducible rfl)); (focus (simp [-getElem?_pos, -binA, w1, w2]; with_reducible (first | rfl | exact ⟨rfl, rfl⟩))))
    | ((first | apply X.stepGtQ rfl | apply X.stepGfQ rfl); (focus (simp only [SB, reduceIte, Nat.reduceEqDiff]; with_reducible rfl)); all_goals (intro hbr; first | exact absurd hbr (by decide) | ((try rw [hbr]); (try simp at hbr))))
    | fail)
      all_goals (refine Fin.mkQ rfl (by simp only [resS, SB, reduceIte, Nat.reduceEqDiff]; with_reducible rfl) (by simp [oneOf, pureRes, snapFuel, snapL]; with_reducible rfl) ?_)
      all_goals rfl
    · rw [if_neg (by omega), if_pos (by omega)]
      exact goodr_err HH e a b sp v q h0 h7
  · by_cases h1 : e < 0
    · rw [if_pos (.inl h1)]
      have H := HH.good
      have w1 := lssI e 0
      rw [decide_eq_true h1] at w1
      simp only [encR]
      refine H.limQ (Nat.le_of_ble_eq_true rfl) ?_; unfold c36
      (repeat' first
    | apply X.retS
    | (apply X.condQ rfl; (focus (simp only [SB, reduceIte, Nat.reduceEqDiff]; with_reducible rfl)); all_goals (intro hbr; first | exact absurd hbr (by decide) | ((try rw [hbr]); (try simp at hbr))))
    | apply X.stepZ
    | (apply X.stepQ rfl; (focus (simp only [SB, reduceIte, Nat.reduceEqDiff]; with_reducible rfl)); (focus (simp [-getElem?_pos, -binA, w1]; with_reducible (first | rfl | exact ⟨rfl, rfl⟩))))
    | ((first | apply X.stepGtQ rfl | apply X.stepGfQ rfl); (focus (simp only [SB, reduceIte, Nat.reduceEqDiff]; with_reducible rfl)); all_goals (intro hbr; first | exact absurd hbr (by decide) | ((try rw [hbr]); (try simp at hbr))))
    | fail)
      all_goals (refine Fin.mkQ rfl (by simp only [resS, SB, reduceIte, Nat.reduceEqDiff]; with_reducible rfl) (by simp [oneOf, pureRes, snapFuel, snapL]; with_reducible rfl) ?_)
      all_goals rfl
    · have : e = 0 := by omega
      subst this
      rw [if_neg (by omega), if_neg (by simp)]
      exact goodr_ok0 HH a b sp v q hl hf
end Rp

-- The document's test whether a report may be is the program's: plain law.
namespace Rp
open Go Ab Go.Proofs.Ytdacifedlemlmaa.Mach

def sizeT : Va → Int
  | .mk _ _ l => 1 + sumT l
where
  sumT : List Va → Int
  | [] => 0
  | x :: l => sizeT x + sumT l
def inT : Va → Int → Prop
  | .mk _ _ l, d => 1 ≤ d ∧ allT l (d - 1)
where
  allT : List Va → Int → Prop
  | [], _ => True
  | x :: l, d => inT x d ∧ allT l d
theorem sizeT_eq (v : Va) : sizeT v = 1 + sizeT.sumT v.l := by cases v; rw [sizeT]; rfl
theorem inT_eq (v : Va) (d : Int) : inT v d ↔ 1 ≤ d ∧ inT.allT v.l (d - 1) := by cases v; rw [inT]; rfl
theorem sumT_pos : ∀ l : List Va, (∀ x ∈ l, 1 ≤ sizeT x) → 0 ≤ sizeT.sumT l
  | [], _ => by simp [sizeT.sumT]
  | x :: l, h => by
    have h1 := h x (by simp)
    have h2 := sumT_pos l fun y hy => h y (by simp [hy])
    simp only [sizeT.sumT]
    omega
theorem sizeT_pos : ∀ v, 1 ≤ sizeT v := by
  refine Va.ind fun v ih => ?_
  have := sumT_pos v.l ih
  rw [sizeT_eq]
  omega
theorem sizeL_iff {m : Int} : ∀ (l : List Va) (n : Int), (∀ x ∈ l, ∀ k : Int, 0 ≤ k → (sizeR x k ≤ k ↔ sizeT x ≤ k) ∧ (sizeT x ≤ k → sizeR x k = sizeT x)) → 1 ≤ n →
    (sizeR.sizeL l n m ≤ m ↔ n + sizeT.sumT l ≤ m) ∧ (n + sizeT.sumT l ≤ m → sizeR.sizeL l n m = n + sizeT.sumT l)
  | [], n, _, _ => by simp [sizeR.sizeL, sizeT.sumT]
  | x :: l, n, hx, hn => by
    have hp := sumT_pos l fun y _ => sizeT_pos y
    have hs := sizeT_pos x
    simp only [sizeR.sizeL, sizeT.sumT]
    by_cases h : n ≤ m
    · rw [if_pos h]
      obtain ⟨h1, h2⟩ := hx x (by simp) (m - n) (by omega)
      have h3 := (sizeR_rng x (m - n) (by omega)).1
      obtain ⟨h4, h5⟩ := sizeL_iff (m := m) l (n + sizeR x (m - n)) (fun y hy => hx y (by simp [hy])) (by omega)
      by_cases h6 : sizeT x ≤ m - n
      · rw [h2 h6] at h4 h5 ⊢
        exact ⟨by rw [h4]; omega, fun h7 => by rw [h5 (by omega)]; omega⟩
      · have h8 : ¬ sizeR x (m - n) ≤ m - n := fun hh => h6 (h1.1 hh)
        refine ⟨⟨fun h9 => ?_, fun h9 => ?_⟩, fun h9 => ?_⟩
        · have := h4.1 h9; omega
        · omega
        · omega
    · rw [if_neg h]
      omega
theorem sizeR_iff : ∀ v, ∀ m : Int, 0 ≤ m → (sizeR v m ≤ m ↔ sizeT v ≤ m) ∧ (sizeT v ≤ m → sizeR v m = sizeT v) := by
  refine Va.ind fun v ih m _ => ?_
  rw [sizeR_eq, sizeT_eq]
  exact sizeL_iff v.l 1 ih (by omega)
theorem depL_iff {m B : Int} : ∀ (l : List Va) (d : Int), (depR.depL l d m ≤ B ↔ d ≤ B ∧ ∀ x ∈ l, depR x m ≤ B)
  | [], d => by simp [depR.depL]
  | x :: l, d => by
    simp only [depR.depL]
    rw [depL_iff l]
    simp only [List.mem_cons, forall_eq_or_imp]
    by_cases h : d < depR x m
    · rw [if_pos h]
      constructor
      · rintro ⟨h1, h2⟩; exact ⟨by omega, h1, h2⟩
      · rintro ⟨_, h1, h2⟩; exact ⟨h1, h2⟩
    · rw [if_neg h]
      constructor
      · rintro ⟨h1, h2⟩; exact ⟨h1, by omega, h2⟩
      · rintro ⟨h1, _, h2⟩; exact ⟨h1, h2⟩
theorem allT_iff {d : Int} : ∀ l : List Va, inT.allT l d ↔ ∀ x ∈ l, inT x d
  | [] => by simp [inT.allT]
  | x :: l => by simp [inT.allT, allT_iff l]
theorem depR_iff : ∀ v, ∀ m : Int, 0 ≤ m → (depR v m ≤ m ↔ inT v m) := by
  refine Va.ind fun v ih m hm => ?_
  rw [depR_eq, inT_eq]
  by_cases h : m ≤ 0
  · rw [if_pos h]
    omega
  · rw [if_neg h, allT_iff]
    have h1 : depR.depL v.l 0 (m - 1) + 1 ≤ m ↔ depR.depL v.l 0 (m - 1) ≤ m - 1 := by omega
    rw [h1, depL_iff]
    constructor
    · rintro ⟨_, h2⟩
      exact ⟨by omega, fun x hx => (ih x hx (m - 1) (by omega)).1 (h2 x hx)⟩
    · rintro ⟨_, h2⟩
      exact ⟨by omega, fun x hx => (ih x hx (m - 1) (by omega)).2 (h2 x hx)⟩
theorem shL_iff (d : Int) : ∀ (l : List Va) (n : Int), (∀ x ∈ l, ∀ n : Int, ((shS x d n).1 = true ↔ (sizeT x ≤ n ∧ inT x d ∧ formR x = true)) ∧ ((shS x d n).1 = true → (shS x d n).2 = n - sizeT x)) → 0 ≤ n →
    ((shS.shL l d n).1 = true ↔ (sizeT.sumT l ≤ n ∧ inT.allT l d ∧ formR.formL l = true)) ∧ ((shS.shL l d n).1 = true → (shS.shL l d n).2 = n - sizeT.sumT l)
  | [], n, _, hn => by simp [shS.shL, sizeT.sumT, inT.allT, formR.formL, hn]
  | x :: l, n, hx, hn => by
    obtain ⟨h1, h2⟩ := hx x (by simp) n
    have hp := sumT_pos l fun y _ => sizeT_pos y
    simp only [shS.shL, sizeT.sumT, inT.allT, formR.formL, Bool.and_eq_true]
    by_cases hs : (shS x d n).1 = true
    · rw [if_pos hs]
      have h3 := h1.1 hs
      rw [h2 hs]
      obtain ⟨h4, h5⟩ := shL_iff d l (n - sizeT x) (fun y hy => hx y (by simp [hy])) (by omega)
      refine ⟨?_, fun h => by rw [h5 h]; omega⟩
      rw [h4]
      constructor
      · rintro ⟨a1, a2, a3⟩; exact ⟨by omega, ⟨h3.2.1, a2⟩, h3.2.2, a3⟩
      · rintro ⟨a1, ⟨_, a2⟩, _, a3⟩; exact ⟨by omega, a2, a3⟩
    · rw [if_neg hs]
      refine ⟨⟨fun h => absurd h (by simp), ?_⟩, fun h => absurd h (by simp)⟩
      rintro ⟨a1, ⟨a2, _⟩, a3, _⟩
      exact absurd (h1.2 ⟨by omega, a2, a3⟩) hs
theorem sh_iff : ∀ v, ∀ d n : Int, ((shS v d n).1 = true ↔ (sizeT v ≤ n ∧ inT v d ∧ formR v = true)) ∧ ((shS v d n).1 = true → (shS v d n).2 = n - sizeT v) := by
  refine Va.ind fun v ih d n => ?_
  have hp := sumT_pos v.l fun y _ => sizeT_pos y
  rw [shS_eq, sizeT_eq, inT_eq, formR_eq]
  split
  · rename_i hc
    refine ⟨⟨fun h => absurd h (by simp), ?_⟩, fun h => absurd h (by simp)⟩
    simp only [Bool.and_eq_true, decide_eq_true_eq]
    rintro ⟨a1, ⟨a2, _⟩, ⟨a3, a4⟩, _⟩
    rcases hc with c | c | c | c
    · omega
    · omega
    · exact absurd a3 c
    · omega
  · rename_i hc
    have c1 : ¬ d < 1 := fun h => hc (.inl h)
    have c2 : ¬ n - 1 < 0 := fun h => hc (.inr (.inl h))
    have c3 : (v.l.length : Int) = manyS v.k v.l.length := by
      by_cases h : (v.l.length : Int) = manyS v.k v.l.length
      · exact h
      · exact absurd (.inr (.inr (.inl h))) hc
    have c4 : v.k = 2 ∨ v.b = 0 := by
      by_cases h1 : v.k = 2
      · exact .inl h1
      · by_cases h2 : v.b = 0
        · exact .inr h2
        · exact absurd (.inr (.inr (.inr ⟨h1, h2⟩))) hc
    obtain ⟨h1, h2⟩ := shL_iff (d - 1) v.l (n - 1) (fun x hx n => ih x hx (d - 1) n) (by omega)
    rw [decide_eq_true c3, decide_eq_true c4]
    simp only [Bool.true_and, Bool.and_eq_true, true_and]
    refine ⟨?_, fun h => by rw [h2 h]; omega⟩
    rw [h1]
    constructor
    · rintro ⟨a1, a2, a3⟩; exact ⟨by omega, ⟨by omega, a2⟩, a3⟩
    · rintro ⟨a1, ⟨_, a2⟩, a3⟩; exact ⟨by omega, a2, a3⟩
theorem valOk_eq (v : Va) : valOkR v = (shS v 500 2000).1 := by
  rw [Bool.eq_iff_iff, (sh_iff v 500 2000).1]
  unfold valOkR
  simp only [Bool.and_eq_true, decide_eq_true_eq]
  rw [(sizeR_iff v 2000 (by omega)).1, depR_iff v 500 (by omega)]
theorem goodRS_eq (e a b : Int) (sp : List Sp) (v : Va) (q : Nat) : goodRS e a b sp v q = goodS e a b sp v q := by
  unfold goodRS goodS
  rw [valOk_eq]
end Rp
