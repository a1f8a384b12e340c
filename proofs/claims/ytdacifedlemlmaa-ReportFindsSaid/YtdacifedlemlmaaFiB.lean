/- FiB: steps, walks, laws: see the remarks within. -/
import Derived.Test.YtdacifedlemlmaaFiA
import Derived.Test.YtdacifedlemlmaaAbExtern
set_option linter.unusedSimpArgs false
set_option linter.unusedVariables false
-- Numbers with a point: ratios; report.Of; the law ReportFinds, walked.
namespace Rp
open Go Ab Go.Proofs.Ytdacifedlemlmaa.Mach
variable {E : Env}

theorem nan_infRung : FloatKind.f64.format.signWeight = 9223372036854775808 ∧ FloatKind.f64.format.binade = 4503599627370496 ∧ FloatKind.f64.format.infRung = 9218868437227405312 := by decide
/-- The word of a number is a number's. -/
theorem write_ok (s : Bool) (m : Nat) (p : Int) : nanB .f64 (FloatKind.f64.format.write (.number s m p)) = false := by
  obtain ⟨e1, e2, e3⟩ := nan_infRung
  have key : ∀ r, r ≤ 9218868437227405312 → nanB .f64 (FloatKind.f64.format.word s r) = false := by
    intro r hr
    have em : FloatKind.f64.format.word s r % 9223372036854775808 = r := by
      unfold Ieee.Format.word
      rw [e1]
      split <;> omega
    unfold nanB FloatKind.decode Ieee.Format.read
    simp only [e1, e2, e3, em]
    split
    · rfl
    · split
      · rfl
      · rw [if_pos (by omega)]; rfl
  unfold Ieee.Format.write Ieee.Format.nearest
  simp only
  split
  · exact key 0 (by omega)
  · refine key _ ?_
    rw [← e3]
    exact Nat.min_le_right _ _
theorem infW_ok (s : Bool) : nanB .f64 (FloatKind.f64.format.write (.infinity s)) = false := by cases s <;> decide +kernel

/-- What a small number is, as a number with a point. -/
def isNum (k : Nat) : Ieee.Datum → Bool
  | .number s m _ => !s && decide (k = 0 ↔ m = 0)
  | _ => false
theorem small_num : ∀ k : Fin 2001, isNum k.val (FloatKind.f64.format.read (FloatKind.f64.nearest (k.val : Int))) = true := by decide +kernel
theorem small (k : Nat) (h : k ≤ 2000) : ∃ m p, FloatKind.f64.format.read (FloatKind.f64.nearest (k : Int)) = .number false m p ∧ (k = 0 ↔ m = 0) := by
  have := small_num ⟨k, by omega⟩
  simp only at this
  unfold isNum at this
  split at this
  · rename_i s m p hd
    simp only [Bool.and_eq_true, Bool.not_eq_true', decide_eq_true_eq] at this
    rw [hd, this.1]
    exact ⟨m, p, rfl, this.2⟩
  · cases this
theorem small_nan (k : Nat) (h : k ≤ 2000) : nanB .f64 (FloatKind.f64.nearest (k : Int)) = false := by
  obtain ⟨m, p, h1, _⟩ := small k h
  unfold nanB FloatKind.decode
  rw [h1]; rfl

/-- The ratio of two small numbers. -/
theorem ratio_ok (k n : Nat) (hk : k ≤ 2000) (hn : n ≤ 2000) : ∃ q, fdivA .f64 (.pv (.flt .f64 (FloatKind.f64.nearest (k : Int)))) (.pv (.flt .f64 (FloatKind.f64.nearest (n : Int)))) = some (.pv (.flt .f64 q)) ∧
    (0 < n → nanB .f64 q = false) ∧ (n = 0 → 0 < k → q = 9218868437227405312) ∧ (n = 0 → k = 0 → nanB .f64 q = true) := by
  have n1 := small_nan k hk
  have n2 := small_nan n hn
  obtain ⟨m, p, h1, h2⟩ := small k hk
  obtain ⟨m', p', h3, h4⟩ := small n hn
  unfold fdivA
  simp only [and_self, if_true, n1, n2, Bool.or_self, Bool.false_eq_true, if_false]
  unfold Ieee.Format.div
  rw [h1, h3]
  unfold Ieee.Datum.quotient
  simp only
  by_cases hn0 : n = 0
  · have hm' : m' = 0 := h4.1 hn0
    by_cases hk0 : k = 0
    · have hm : m = 0 := h2.1 hk0
      simp only [hm', hm, if_true, Option.map_none]
      exact ⟨_, rfl, fun h => by omega, fun _ h => by omega, fun _ _ => by decide +kernel⟩
    · have hm : ¬ m = 0 := fun h => hk0 (h2.2 h)
      simp only [hm', if_true, hm, if_false, Option.map_some]
      exact ⟨_, rfl, fun h => by omega, fun _ _ => by decide +kernel, fun _ h => by omega⟩
  · have hm' : ¬ m' = 0 := fun h => hn0 (h4.2 h)
    simp only [hm', if_false, Option.map_some]
    exact ⟨_, rfl, fun _ => write_ok _ _ _, fun h => by omega, fun h => by omega⟩

structure HasFi (E : Env) : Prop where
  law : Has E 3 c3
  rawake : E.raw 12 = false
  awake : limP E 12 [] = some [.bool true]
  wide : Has E 13 c13
  of : Has E 14 c14
  ratio : Has E 42 c42
  same : Has E 15 c15
  eq : Has E 43 c43
  good : Has E 16 c16
  nan : Has E 31 c31
  isnan : Has E 44 c44
  rbits : E.raw 60 = false
  bits : ∀ n : Int, limP E 60 [.int .u64 n] = some [.flt .f64 n.toNat]

theorem nan_ok (HH : HasFi E) : limP E 31 [] = some [.flt .f64 nanC] := by
  have H := HH.nan
  have hb := HH.bits 9221120237041090561
  refine H.limQ (Nat.le_of_ble_eq_true rfl) ?_; unfold c31
  (repeat' first
    | apply X.retS
    | apply X.skipS
    | apply X.skipB
    | apply X.skipL
    | (apply X.exitS; first | apply X.here | (refine X.out (by decide) ?_; apply X.here))
    | apply X.blockS
    | (apply X.condQ rfl; (focus (simp only [sub, subO, subL, subM, sub3, sub2, fk_some, fk_none, fk_arg0, fk_argS, fk_argN, fk_map0, fk_mapS, fk_mapN, reduceIte, Nat.reduceEqDiff, Nat.reduceAdd]; with_reducible rfl)); all_goals (intro hbr; first | exact absurd hbr (by decide) | ((try rw [hbr]); (try simp at hbr))))
    | apply X.stepZ
    | (apply X.stepQ rfl; (focus (simp only [sub, subO, subL, subM, sub3, sub2, fk_some, fk_none, fk_arg0, fk_argS, fk_argN, fk_map0, fk_mapS, fk_mapN, reduceIte, Nat.reduceEqDiff, Nat.reduceAdd]; with_reducible rfl)); (focus (simp [-getElem?_pos, HH.rbits, hb]; with_reducible (first | rfl | exact ⟨rfl, rfl⟩))))
    | (apply X.stepNQ rfl; (focus (simp only [sub, subO, subL, subM, sub3, sub2, fk_some, fk_none, fk_arg0, fk_argS, fk_argN, fk_map0, fk_mapS, fk_mapN, reduceIte, Nat.reduceEqDiff, Nat.reduceAdd]; with_reducible rfl)))
    | ((first | apply X.stepGtQ rfl | apply X.stepGfQ rfl); (focus (simp only [sub, subO, subL, subM, sub3, sub2, fk_some, fk_none, fk_arg0, fk_argS, fk_argN, fk_map0, fk_mapS, fk_mapN, reduceIte, Nat.reduceEqDiff, Nat.reduceAdd]; with_reducible rfl)); all_goals (intro hbr; first | exact absurd hbr (by decide) | ((try rw [hbr]); (try simp at hbr)))))
  all_goals (refine Fin.mkQ rfl (by simp only [resS, sub, subO, subL, subM, sub3, sub2, fk_some, fk_none, fk_arg0, fk_argS, fk_argN, fk_map0, fk_mapS, fk_mapN, reduceIte, Nat.reduceEqDiff, Nat.reduceAdd]; with_reducible rfl) (by simp [oneOf, pureRes, snapFuel, snapL]; with_reducible rfl) ?_)
  all_goals rfl
theorem nanC_ord : fltOrd .f64 nanC nanC = none := by decide +kernel
theorem isnan_ok (HH : HasFi E) : limP E 44 [.flt .f64 nanC] = some [.bool true] := by
  have H := HH.isnan
  have h1 : binA .neq .no (.pv (.flt .f64 nanC)) (.pv (.flt .f64 nanC)) = some (.pv (.bool true)) := by simp [binA, fltBin, nanC_ord]
  generalize nanC = q at h1 ⊢
  refine H.limQ (Nat.le_of_ble_eq_true rfl) ?_; unfold c44
  (repeat' first
    | apply X.retS
    | apply X.skipS
    | apply X.skipB
    | apply X.skipL
    | (apply X.exitS; first | apply X.here | (refine X.out (by decide) ?_; apply X.here))
    | apply X.blockS
    | (apply X.condQ rfl; (focus (simp only [sub, subO, subL, subM, sub3, sub2, fk_some, fk_none, fk_arg0, fk_argS, fk_argN, fk_map0, fk_mapS, fk_mapN, reduceIte, Nat.reduceEqDiff, Nat.reduceAdd]; with_reducible rfl)); all_goals (intro hbr; first | exact absurd hbr (by decide) | ((try rw [hbr]); (try simp at hbr))))
    | apply X.stepZ
    | (apply X.stepQ rfl; (focus (simp only [sub, subO, subL, subM, sub3, sub2, fk_some, fk_none, fk_arg0, fk_argS, fk_argN, fk_map0, fk_mapS, fk_mapN, reduceIte, Nat.reduceEqDiff, Nat.reduceAdd]; with_reducible rfl)); (focus (simp [-getElem?_pos, -binA, h1]; with_reducible (first | rfl | exact ⟨rfl, rfl⟩))))
    | (apply X.stepNQ rfl; (focus (simp only [sub, subO, subL, subM, sub3, sub2, fk_some, fk_none, fk_arg0, fk_argS, fk_argN, fk_map0, fk_mapS, fk_mapN, reduceIte, Nat.reduceEqDiff, Nat.reduceAdd]; with_reducible rfl)))
    | ((first | apply X.stepGtQ rfl | apply X.stepGfQ rfl); (focus (simp only [sub, subO, subL, subM, sub3, sub2, fk_some, fk_none, fk_arg0, fk_argS, fk_argN, fk_map0, fk_mapS, fk_mapN, reduceIte, Nat.reduceEqDiff, Nat.reduceAdd]; with_reducible rfl)); all_goals (intro hbr; first | exact absurd hbr (by decide) | ((try rw [hbr]); (try simp at hbr)))))
  all_goals (refine Fin.mkQ rfl (by simp only [resS, sub, subO, subL, subM, sub3, sub2, fk_some, fk_none, fk_arg0, fk_argS, fk_argN, fk_map0, fk_mapS, fk_mapN, reduceIte, Nat.reduceEqDiff, Nat.reduceAdd]; with_reducible rfl) (by simp [oneOf, pureRes, snapFuel, snapL]; with_reducible rfl) ?_)
  all_goals rfl
theorem ratioW_ok (HH : HasFi E) {k n : Int} {q : Nat} (h : fdivA .f64 (.pv (.flt .f64 (FloatKind.f64.nearest k))) (.pv (.flt .f64 (FloatKind.f64.nearest n))) = some (.pv (.flt .f64 q))) : limP E 42 [.int .i64 k, .int .i64 n] = some [.flt .f64 q] := by
  have H := HH.ratio
  generalize hk : FloatKind.f64.nearest k = x at h
  generalize hn : FloatKind.f64.nearest n = y at h
  refine H.limQ (Nat.le_of_ble_eq_true rfl) ?_; unfold c42
  (repeat' first
    | apply X.retS
    | apply X.skipS
    | apply X.skipB
    | apply X.skipL
    | (apply X.exitS; first | apply X.here | (refine X.out (by decide) ?_; apply X.here))
    | apply X.blockS
    | (apply X.condQ rfl; (focus (simp only [sub, subO, subL, subM, sub3, sub2, fk_some, fk_none, fk_arg0, fk_argS, fk_argN, fk_map0, fk_mapS, fk_mapN, reduceIte, Nat.reduceEqDiff, Nat.reduceAdd]; with_reducible rfl)); all_goals (intro hbr; first | exact absurd hbr (by decide) | ((try rw [hbr]); (try simp at hbr))))
    | apply X.stepZ
    | (apply X.stepQ rfl; (focus (simp only [sub, subO, subL, subM, sub3, sub2, fk_some, fk_none, fk_arg0, fk_argS, fk_argN, fk_map0, fk_mapS, fk_mapN, reduceIte, Nat.reduceEqDiff, Nat.reduceAdd]; with_reducible rfl)); (focus (simp [-getElem?_pos, h, hk, hn, specA]; with_reducible (first | rfl | exact ⟨rfl, rfl⟩))))
    | (apply X.stepNQ rfl; (focus (simp only [sub, subO, subL, subM, sub3, sub2, fk_some, fk_none, fk_arg0, fk_argS, fk_argN, fk_map0, fk_mapS, fk_mapN, reduceIte, Nat.reduceEqDiff, Nat.reduceAdd]; with_reducible rfl)))
    | ((first | apply X.stepGtQ rfl | apply X.stepGfQ rfl); (focus (simp only [sub, subO, subL, subM, sub3, sub2, fk_some, fk_none, fk_arg0, fk_argS, fk_argN, fk_map0, fk_mapS, fk_mapN, reduceIte, Nat.reduceEqDiff, Nat.reduceAdd]; with_reducible rfl)); all_goals (intro hbr; first | exact absurd hbr (by decide) | ((try rw [hbr]); (try simp at hbr)))))
  all_goals (refine Fin.mkQ rfl (by simp only [resS, sub, subO, subL, subM, sub3, sub2, fk_some, fk_none, fk_arg0, fk_argS, fk_argN, fk_map0, fk_mapS, fk_mapN, reduceIte, Nat.reduceEqDiff, Nat.reduceAdd]; with_reducible rfl) (by simp [oneOf, pureRes, snapFuel, snapL]; with_reducible rfl) ?_)
  all_goals rfl
set_option maxHeartbeats 1000000 in
theorem ofE_ok (HH : HasFi E) (a b : Int) (v : Va) (sp : List Sp) (e n : Int) (he : 0 < e) : limP E 14 [encF a b v sp, .int .i64 e, .int .i64 n] = some [encR e 0 0 [] (.mk 0 0 []) nanC] := by
  have H := HH.of
  have hn := nan_ok HH
  have he2 : (e != 0) = true := by simp; omega
  simp only [encF, encR, vk, vb, vl, List.map_nil]
  generalize nanC = q at hn ⊢
  refine H.limQ (Nat.le_of_ble_eq_true rfl) ?_; unfold c14
  (repeat' first
    | apply X.retS
    | apply X.skipS
    | apply X.skipB
    | apply X.skipL
    | (apply X.exitS; first | apply X.here | (refine X.out (by decide) ?_; apply X.here))
    | apply X.blockS
    | (apply X.condQ rfl; (focus (simp only [sub, subO, subL, subM, sub3, sub2, fk_some, fk_none, fk_arg0, fk_argS, fk_argN, fk_map0, fk_mapS, fk_mapN, reduceIte, Nat.reduceEqDiff, Nat.reduceAdd]; with_reducible rfl)); all_goals (intro hbr; first | exact absurd hbr (by decide) | ((try rw [hbr]); (try simp at hbr))))
    | apply X.stepZ
    | (apply X.stepQ rfl; (focus (simp only [sub, subO, subL, subM, sub3, sub2, fk_some, fk_none, fk_arg0, fk_argS, fk_argN, fk_map0, fk_mapS, fk_mapN, reduceIte, Nat.reduceEqDiff, Nat.reduceAdd]; with_reducible rfl)); (focus (simp [-getElem?_pos, HH.nan.raw, hn, he2]; with_reducible (first | rfl | exact ⟨rfl, rfl⟩))))
    | (apply X.stepNQ rfl; (focus (simp only [sub, subO, subL, subM, sub3, sub2, fk_some, fk_none, fk_arg0, fk_argS, fk_argN, fk_map0, fk_mapS, fk_mapN, reduceIte, Nat.reduceEqDiff, Nat.reduceAdd]; with_reducible rfl)))
    | ((first | apply X.stepGtQ rfl | apply X.stepGfQ rfl); (focus (simp only [sub, subO, subL, subM, sub3, sub2, fk_some, fk_none, fk_arg0, fk_argS, fk_argN, fk_map0, fk_mapS, fk_mapN, reduceIte, Nat.reduceEqDiff, Nat.reduceAdd]; with_reducible rfl)); all_goals (intro hbr; first | exact absurd hbr (by decide) | ((try rw [hbr]); (try simp at hbr))))
    | (apply X.draw0; (focus rfl))
    | (apply X.drawH0; (focus rfl))
    | apply XD.nil
    | (apply XD.calmQ rfl rfl; (focus (simp only [sub, subO, subL, subM, sub3, sub2, fk_some, fk_none, fk_arg0, fk_argS, fk_argN, fk_map0, fk_mapS, fk_mapN, reduceIte, Nat.reduceEqDiff, Nat.reduceAdd]; with_reducible rfl)); (focus (simp [-getElem?_pos, HH.nan.raw, hn, he2]; with_reducible (first | rfl | exact ⟨rfl, rfl⟩))))
    | (apply XD.callQ rfl; (focus (simp only [sub, subO, subL, subM, sub3, sub2, fk_some, fk_none, fk_arg0, fk_argS, fk_argN, fk_map0, fk_mapS, fk_mapN, reduceIte, Nat.reduceEqDiff, Nat.reduceAdd]; simp; with_reducible rfl)); (focus (simp; with_reducible rfl)); (focus (simp [-getElem?_pos, HH.nan.raw, hn, he2]; done)); (focus (simp [-getElem?_pos, HH.nan.raw, hn, he2]; with_reducible rfl)))
    | (apply XD.callSQ rfl; (focus (simp only [sub, subO, subL, subM, sub3, sub2, fk_some, fk_none, fk_arg0, fk_argS, fk_argN, fk_map0, fk_mapS, fk_mapN, reduceIte, Nat.reduceEqDiff, Nat.reduceAdd]; simp; with_reducible rfl)); (focus (simp [V.ids, V.ids.idsL]; done)); (focus (intro hh0; simp [snapL_eq, snapLF, snap_pv, snap_nils, snap_slx]; with_reducible rfl)); (focus (simp [-getElem?_pos, HH.nan.raw, hn, he2]; done)); (focus (simp [-getElem?_pos, HH.nan.raw, hn, he2]; with_reducible rfl)))
    | (apply XD.stepNQ rfl; (focus (simp only [sub, subO, subL, subM, sub3, sub2, fk_some, fk_none, fk_arg0, fk_argS, fk_argN, fk_map0, fk_mapS, fk_mapN, reduceIte, Nat.reduceEqDiff, Nat.reduceAdd]; with_reducible rfl)))
    | ((first | apply XD.stepGtQ rfl | apply XD.stepGfQ rfl); (focus (simp only [sub, subO, subL, subM, sub3, sub2, fk_some, fk_none, fk_arg0, fk_argS, fk_argN, fk_map0, fk_mapS, fk_mapN, reduceIte, Nat.reduceEqDiff, Nat.reduceAdd]; with_reducible rfl)); all_goals (intro hbr; first | exact absurd hbr (by decide) | ((try rw [hbr]); (try simp at hbr))))
    | (apply XD.loudQ rfl; (focus (simp only [sub, subO, subL, subM, sub3, sub2, fk_some, fk_none, fk_arg0, fk_argS, fk_argN, fk_map0, fk_mapS, fk_mapN, reduceIte, Nat.reduceEqDiff, Nat.reduceAdd]; with_reducible rfl)); (focus (simp; with_reducible rfl)); (focus (simp [-getElem?_pos, HH.nan.raw, hn, he2]; with_reducible (first | rfl | exact ⟨rfl, rfl⟩))); (focus (simp; done)); (focus (simp [-getElem?_pos, HH.nan.raw, hn, he2]; with_reducible rfl))))
  all_goals (refine Fin.mkQ rfl (by simp [resS]; with_reducible rfl) (by simp [oneOf, pureRes, snapFuel, snapL]; with_reducible rfl) ?_)
  all_goals rfl
set_option maxHeartbeats 1000000 in
theorem of0_ok (HH : HasFi E) (a b : Int) (v : Va) (sp : List Sp) (n : Int) (hw : IntKind.i64.wrap (b - a) = b - a) {q : Nat} (h : fdivA .f64 (.pv (.flt .f64 (FloatKind.f64.nearest (b - a)))) (.pv (.flt .f64 (FloatKind.f64.nearest n))) = some (.pv (.flt .f64 q))) :
    limP E 14 [encF a b v sp, .int .i64 0, .int .i64 n] = some [encR 0 a b sp v q] := by
  have H := HH.of
  have hn := ratioW_ok HH h
  simp only [encF, encR]
  clear h
  refine H.limQ (Nat.le_of_ble_eq_true rfl) ?_; unfold c14
  (repeat' first
    | apply X.retS
    | apply X.skipS
    | apply X.skipB
    | apply X.skipL
    | (apply X.exitS; first | apply X.here | (refine X.out (by decide) ?_; apply X.here))
    | apply X.blockS
    | (apply X.condQ rfl; (focus (simp only [sub, subO, subL, subM, sub3, sub2, fk_some, fk_none, fk_arg0, fk_argS, fk_argN, fk_map0, fk_mapS, fk_mapN, reduceIte, Nat.reduceEqDiff, Nat.reduceAdd]; with_reducible rfl)); all_goals (intro hbr; first | exact absurd hbr (by decide) | ((try rw [hbr]); (try simp at hbr))))
    | apply X.stepZ
    | (apply X.stepQ rfl; (focus (simp only [sub, subO, subL, subM, sub3, sub2, fk_some, fk_none, fk_arg0, fk_argS, fk_argN, fk_map0, fk_mapS, fk_mapN, reduceIte, Nat.reduceEqDiff, Nat.reduceAdd]; with_reducible rfl)); (focus (simp [-getElem?_pos, HH.ratio.raw, hn, hw]; with_reducible (first | rfl | exact ⟨rfl, rfl⟩))))
    | (apply X.stepNQ rfl; (focus (simp only [sub, subO, subL, subM, sub3, sub2, fk_some, fk_none, fk_arg0, fk_argS, fk_argN, fk_map0, fk_mapS, fk_mapN, reduceIte, Nat.reduceEqDiff, Nat.reduceAdd]; with_reducible rfl)))
    | ((first | apply X.stepGtQ rfl | apply X.stepGfQ rfl); (focus (simp only [sub, subO, subL, subM, sub3, sub2, fk_some, fk_none, fk_arg0, fk_argS, fk_argN, fk_map0, fk_mapS, fk_mapN, reduceIte, Nat.reduceEqDiff, Nat.reduceAdd]; with_reducible rfl)); all_goals (intro hbr; first | exact absurd hbr (by decide) | ((try rw [hbr]); (try simp at hbr))))
    | (apply X.draw0; (focus rfl))
    | (apply X.drawH0; (focus rfl))
    | apply XD.nil
    | (apply XD.calmQ rfl rfl; (focus (simp only [sub, subO, subL, subM, sub3, sub2, fk_some, fk_none, fk_arg0, fk_argS, fk_argN, fk_map0, fk_mapS, fk_mapN, reduceIte, Nat.reduceEqDiff, Nat.reduceAdd]; with_reducible rfl)); (focus (simp [-getElem?_pos, HH.ratio.raw, hn, hw]; with_reducible (first | rfl | exact ⟨rfl, rfl⟩))))
    | (apply XD.callQ rfl; (focus (simp only [sub, subO, subL, subM, sub3, sub2, fk_some, fk_none, fk_arg0, fk_argS, fk_argN, fk_map0, fk_mapS, fk_mapN, reduceIte, Nat.reduceEqDiff, Nat.reduceAdd]; simp; with_reducible rfl)); (focus (simp; with_reducible rfl)); (focus (simp [-getElem?_pos, HH.ratio.raw, hn, hw]; done)); (focus (simp [-getElem?_pos, HH.ratio.raw, hn, hw]; with_reducible rfl)))
    | (apply XD.callSQ rfl; (focus (simp only [sub, subO, subL, subM, sub3, sub2, fk_some, fk_none, fk_arg0, fk_argS, fk_argN, fk_map0, fk_mapS, fk_mapN, reduceIte, Nat.reduceEqDiff, Nat.reduceAdd]; simp; with_reducible rfl)); (focus (simp [V.ids, V.ids.idsL]; done)); (focus (intro hh0; simp [snapL_eq, snapLF, snap_pv, snap_nils, snap_slx]; with_reducible rfl)); (focus (simp [-getElem?_pos, HH.ratio.raw, hn, hw]; done)); (focus (simp [-getElem?_pos, HH.ratio.raw, hn, hw]; with_reducible rfl)))
    | (apply XD.stepNQ rfl; (focus (simp only [sub, subO, subL, subM, sub3, sub2, fk_some, fk_none, fk_arg0, fk_argS, fk_argN, fk_map0, fk_mapS, fk_mapN, reduceIte, Nat.reduceEqDiff, Nat.reduceAdd]; with_reducible rfl)))
    | ((first | apply XD.stepGtQ rfl | apply XD.stepGfQ rfl); (focus (simp only [sub, subO, subL, subM, sub3, sub2, fk_some, fk_none, fk_arg0, fk_argS, fk_argN, fk_map0, fk_mapS, fk_mapN, reduceIte, Nat.reduceEqDiff, Nat.reduceAdd]; with_reducible rfl)); all_goals (intro hbr; first | exact absurd hbr (by decide) | ((try rw [hbr]); (try simp at hbr))))
    | (apply XD.loudQ rfl; (focus (simp only [sub, subO, subL, subM, sub3, sub2, fk_some, fk_none, fk_arg0, fk_argS, fk_argN, fk_map0, fk_mapS, fk_mapN, reduceIte, Nat.reduceEqDiff, Nat.reduceAdd]; with_reducible rfl)); (focus (simp; with_reducible rfl)); (focus (simp [-getElem?_pos, HH.ratio.raw, hn, hw]; with_reducible (first | rfl | exact ⟨rfl, rfl⟩))); (focus (simp; done)); (focus (simp [-getElem?_pos, HH.ratio.raw, hn, hw]; with_reducible rfl))))
  all_goals (refine Fin.mkQ rfl (by simp [resS]; with_reducible rfl) (by simp [oneOf, pureRes, snapFuel, snapL]; with_reducible rfl) ?_)
  all_goals rfl
set_option maxHeartbeats 1000000 in
theorem goodE_ok (HH : HasFi E) (e : Int) (he : 0 < e) (he7 : e ≤ 7) : limP E 16 [encR e 0 0 [] (.mk 0 0 []) nanC] = some [.bool true] := by
  have H := HH.good
  have hs := same_ok HH.same HH.eq (.mk 0 0 []) ⟨by omega, by simp, trivial⟩
  have hi := isnan_ok HH
  rw [eV] at hs
  simp only [vk, vb, vl, List.map_nil] at hs
  have h1 : ¬ e < 0 := by omega
  have h2 : ¬ 7 < e := by omega
  have h3 : (e != 0) = true := by simp; omega
  simp only [encR, vk, vb, vl, List.map_nil]
  generalize nanC = q at hi ⊢
  refine H.limQ (Nat.le_of_ble_eq_true rfl) ?_; unfold c16
  (repeat' first
    | apply X.retS
    | apply X.skipS
    | apply X.skipB
    | apply X.skipL
    | (apply X.exitS; first | apply X.here | (refine X.out (by decide) ?_; apply X.here))
    | apply X.blockS
    | (apply X.condQ rfl; (focus (simp only [sub, subO, subL, subM, sub3, sub2, fk_some, fk_none, fk_arg0, fk_argS, fk_argN, fk_map0, fk_mapS, fk_mapN, reduceIte, Nat.reduceEqDiff, Nat.reduceAdd]; with_reducible rfl)); all_goals (intro hbr; first | exact absurd hbr (by decide) | ((try rw [hbr]); (try simp at hbr))))
    | apply X.stepZ
    | (apply X.stepQ rfl; (focus (simp only [sub, subO, subL, subM, sub3, sub2, fk_some, fk_none, fk_arg0, fk_argS, fk_argN, fk_map0, fk_mapS, fk_mapN, reduceIte, Nat.reduceEqDiff, Nat.reduceAdd]; with_reducible rfl)); (focus (simp [-getElem?_pos, HH.same.raw, hs, HH.isnan.raw, hi, h1, h2, h3]; with_reducible (first | rfl | exact ⟨rfl, rfl⟩))))
    | (apply X.stepNQ rfl; (focus (simp only [sub, subO, subL, subM, sub3, sub2, fk_some, fk_none, fk_arg0, fk_argS, fk_argN, fk_map0, fk_mapS, fk_mapN, reduceIte, Nat.reduceEqDiff, Nat.reduceAdd]; with_reducible rfl)))
    | ((first | apply X.stepGtQ rfl | apply X.stepGfQ rfl); (focus (simp only [sub, subO, subL, subM, sub3, sub2, fk_some, fk_none, fk_arg0, fk_argS, fk_argN, fk_map0, fk_mapS, fk_mapN, reduceIte, Nat.reduceEqDiff, Nat.reduceAdd]; with_reducible rfl)); all_goals (intro hbr; first | exact absurd hbr (by decide) | ((try rw [hbr]); (try simp at hbr)))))
  all_goals (refine Fin.mkQ rfl (by simp only [resS, sub, subO, subL, subM, sub3, sub2, fk_some, fk_none, fk_arg0, fk_argS, fk_argN, fk_map0, fk_mapS, fk_mapN, reduceIte, Nat.reduceEqDiff, Nat.reduceAdd]; with_reducible rfl) (by simp [oneOf, pureRes, snapFuel, snapL]; with_reducible rfl) ?_)
  all_goals rfl

theorem inf_gt : binA .gtr .no (.pv (.flt .f64 9218868437227405312)) (.pv (.flt .f64 9218868437227405311)) = some (.pv (.bool true)) := by
  have : fltOrd .f64 9218868437227405312 9218868437227405311 = some .gt := by decide +kernel
  simp [binA, fltBin, this]

theorem bin_i (op : BinOp) (a b : Int) : binA op .no (.pv (.int .i64 a)) (.pv (.int .i64 b)) = (intBin op .i64 a .i64 b).map .pv := rfl

/-- What is more than is asked of here. -/
def outS (a b : Int) (v : Va) (sp : List Sp) (e n : Int) : Bool :=
  wideS v 40 || decide ((40 : Int) < (sp.length : Int)) || decide (n < 0) || decide (1000 < n) || decide (e < 0) || decide (7 < e) || decide (a < -1000) || decide (1000 < b) || decide (b < a)

/-- The first region of ReportFinds that looks. -/
def chainF : List AOper := [(.mk (some 11) (.faddr 2 (.tmp 3)) none []), (.mk (some 12) (.load true 3 (.tmp 11)) none []), (.mk (some 13) (.call 13 [(.tmp 12), (.val (.pv (.int .i64 40)))]) none []), (.mk (some 14) (.move (.tmp 13)) none []), (.mk (some 15) (.faddr 5 (.tmp 3)) (some (14, false)) []), (.mk (some 16) (.load false 1 (.tmp 15)) (some (14, false)) []), (.mk (some 17) (.lenOf false (.tmp 16)) (some (14, false)) []), (.mk (some 18) (.bin .gtr .no (.tmp 17) (.val (.pv (.int .i64 40)))) (some (14, false)) []), (.mk (some 19) (.pick (.tmp 14) (.val (.pv (.bool true))) (.tmp 18)) none []), (.mk (some 20) (.move (.tmp 19)) none []), (.mk (some 21) (.move (.tmp 2)) (some (20, false)) []), (.mk (some 22) (.bin .lss .no (.tmp 21) (.val (.pv (.int .i64 0)))) (some (20, false)) []), (.mk (some 23) (.pick (.tmp 20) (.val (.pv (.bool true))) (.tmp 22)) none []), (.mk (some 24) (.move (.tmp 23)) none []), (.mk (some 25) (.move (.tmp 2)) (some (24, false)) []), (.mk (some 26) (.bin .gtr .no (.tmp 25) (.val (.pv (.int .i64 1000)))) (some (24, false)) []), (.mk (some 27) (.pick (.tmp 24) (.val (.pv (.bool true))) (.tmp 26)) none []), (.mk (some 28) (.move (.tmp 27)) none []), (.mk (some 29) (.move (.tmp 1)) (some (28, false)) []), (.mk (some 30) (.bin .lss .no (.tmp 29) (.val (.pv (.int .i64 0)))) (some (28, false)) []), (.mk (some 31) (.pick (.tmp 28) (.val (.pv (.bool true))) (.tmp 30)) none []), (.mk (some 32) (.move (.tmp 31)) none []), (.mk (some 33) (.move (.tmp 1)) (some (32, false)) []), (.mk (some 34) (.bin .gtr .no (.tmp 33) (.val (.pv (.int .i64 7)))) (some (32, false)) []), (.mk (some 35) (.pick (.tmp 32) (.val (.pv (.bool true))) (.tmp 34)) none []), (.mk (some 36) (.move (.tmp 35)) none []), (.mk (some 37) (.faddr 0 (.tmp 3)) (some (36, false)) []), (.mk (some 38) (.load false 1 (.tmp 37)) (some (36, false)) []), (.mk (some 39) (.bin .lss .no (.tmp 38) (.val (.pv (.int .i64 (-1000))))) (some (36, false)) []), (.mk (some 40) (.pick (.tmp 36) (.val (.pv (.bool true))) (.tmp 39)) none []), (.mk (some 41) (.move (.tmp 40)) none []), (.mk (some 42) (.faddr 1 (.tmp 3)) (some (41, false)) []), (.mk (some 43) (.load false 1 (.tmp 42)) (some (41, false)) []), (.mk (some 44) (.bin .gtr .no (.tmp 43) (.val (.pv (.int .i64 1000)))) (some (41, false)) []), (.mk (some 45) (.pick (.tmp 41) (.val (.pv (.bool true))) (.tmp 44)) none []), (.mk (some 46) (.move (.tmp 45)) none []), (.mk (some 47) (.faddr 1 (.tmp 3)) (some (46, false)) []), (.mk (some 48) (.load false 1 (.tmp 47)) (some (46, false)) []), (.mk (some 49) (.faddr 0 (.tmp 3)) (some (46, false)) []), (.mk (some 50) (.load false 1 (.tmp 49)) (some (46, false)) []), (.mk (some 51) (.bin .lss .no (.tmp 48) (.tmp 50)) (some (46, false)) []), (.mk (some 52) (.pick (.tmp 46) (.val (.pv (.bool true))) (.tmp 51)) none [])]
set_option maxHeartbeats 16000000 in
set_option maxRecDepth 100000 in
theorem finds_out (HH : HasFi E) (a b : Int) (v : Va) (sp : List Sp) (e n : Int) {Q : AExit → Ab.St → Prop} {rest : ACode} {f : Nat → V} {ops : List AOper} (hops : ops = chainF)
    (f0 : fk (Fk.mk (f := f)) 0 = .pv (encF a b v sp)) (f1 : fk (Fk.mk (f := f)) 1 = .pv (.int .i64 e)) (f2 : fk (Fk.mk (f := f)) 2 = .pv (.int .i64 n)) (f3 : fk (Fk.mk (f := f)) 3 = .ptr 0 0)
    (k : ∀ f : Nat → V, (fk (Fk.mk (f := f)) 1 = .pv (.int .i64 e) ∧ fk (Fk.mk (f := f)) 2 = .pv (.int .i64 n) ∧ fk (Fk.mk (f := f)) 3 = .ptr 0 0 ∧ fk (Fk.mk (f := f)) 52 = .pv (.bool (outS a b v sp e n))) → X E rest ⟨TL 152 f, [.blk [.pv (.int .i64 a), .pv (.int .i64 b), .pv (.int .i64 v.k), .pv (.int .u8 v.b), .pv (.sl (v.l.map encV)), .pv (.sl (sp.map encS))] none]⟩ Q) :
    X E (.seq (.region ops false) rest) ⟨TL 152 f, [.blk [.pv (.int .i64 a), .pv (.int .i64 b), .pv (.int .i64 v.k), .pv (.int .u8 v.b), .pv (.sl (v.l.map encV)), .pv (.sl (sp.map encS))] none]⟩ Q := by
  subst hops
  have hwd := wide_ok HH.wide v 40 (by omega) (by omega)
  have hsp : (sp.map encS).length = sp.length := by simp
  simp only [eV] at hwd
  simp only [outS] at k
  refine X.goMid (fun st => ∃ f : Nat → V, (fk (Fk.mk (f := f)) 1 = .pv (.int .i64 e) ∧ fk (Fk.mk (f := f)) 2 = .pv (.int .i64 n) ∧ fk (Fk.mk (f := f)) 3 = .ptr 0 0 ∧ fk (Fk.mk (f := f)) 52 = .pv (.bool (wideS v 40 || decide ((40 : Int) < (sp.length : Int)) || decide (n < 0) || decide (1000 < n) || decide (e < 0) || decide (7 < e) || decide (a < -1000) || decide (1000 < b) || decide (b < a)))) ∧ st = ⟨TL 152 f, [.blk [.pv (.int .i64 a), .pv (.int .i64 b), .pv (.int .i64 v.k), .pv (.int .u8 v.b), .pv (.sl (v.l.map encV)), .pv (.sl (sp.map encS))] none]⟩) ?_ (by rintro st ⟨f, hf, rfl⟩; exact k f hf)
  clear k
  have w1 : binA .gtr .no (.pv (.int .i64 (sp.length : Int))) (.pv (.int .i64 40)) = some (.pv (.bool (decide ((40 : Int) < (sp.length : Int))))) := by simp [binA, intBin]
  have w2 : binA .lss .no (.pv (.int .i64 n)) (.pv (.int .i64 0)) = some (.pv (.bool (decide (n < 0)))) := by simp [binA, intBin]
  have w3 : binA .gtr .no (.pv (.int .i64 n)) (.pv (.int .i64 1000)) = some (.pv (.bool (decide (1000 < n)))) := by simp [binA, intBin]
  have w4 : binA .lss .no (.pv (.int .i64 e)) (.pv (.int .i64 0)) = some (.pv (.bool (decide (e < 0)))) := by simp [binA, intBin]
  have w5 : binA .gtr .no (.pv (.int .i64 e)) (.pv (.int .i64 7)) = some (.pv (.bool (decide (7 < e)))) := by simp [binA, intBin]
  have w6 : binA .lss .no (.pv (.int .i64 a)) (.pv (.int .i64 (-1000))) = some (.pv (.bool (decide (a < -1000)))) := by simp [binA, intBin]
  have w7 : binA .gtr .no (.pv (.int .i64 b)) (.pv (.int .i64 1000)) = some (.pv (.bool (decide (1000 < b)))) := by simp [binA, intBin]
  have w8 : binA .lss .no (.pv (.int .i64 b)) (.pv (.int .i64 a)) = some (.pv (.bool (decide (b < a)))) := by simp [binA, intBin]
  generalize wideS v 40 = p0 at hwd ⊢
  generalize decide ((40 : Int) < (sp.length : Int)) = p1 at w1 ⊢
  generalize decide (n < 0) = p2 at w2 ⊢
  generalize decide (1000 < n) = p3 at w3 ⊢
  generalize decide (e < 0) = p4 at w4 ⊢
  generalize decide (7 < e) = p5 at w5 ⊢
  generalize decide (a < -1000) = p6 at w6 ⊢
  generalize decide (1000 < b) = p7 at w7 ⊢
  generalize decide (b < a) = p8 at w8 ⊢
  unfold chainF
  cases p0 with
  | true =>
    (repeat' first
    | apply X.retS
    | apply X.skipS
    | apply X.skipB
    | apply X.skipL
    | (apply X.exitS; first | apply X.here | (refine X.out (by decide) ?_; apply X.here))
    | apply X.blockS
    | (apply X.condQ rfl; (focus (simp only [sub, subO, subL, subM, sub3, sub2, fk_some, fk_none, fk_arg0, fk_argS, fk_argN, fk_map0, fk_mapS, fk_mapN, reduceIte, Nat.reduceEqDiff, Nat.reduceAdd, f0, f1, f2, f3]; with_reducible rfl)); all_goals (intro hbr; first | exact absurd hbr (by decide) | ((try rw [hbr]); (try simp at hbr))))
    | apply X.stepZ
    | (apply X.stepQ rfl; (focus (simp only [sub, subO, subL, subM, sub3, sub2, fk_some, fk_none, fk_arg0, fk_argS, fk_argN, fk_map0, fk_mapS, fk_mapN, reduceIte, Nat.reduceEqDiff, Nat.reduceAdd, f0, f1, f2, f3]; with_reducible rfl)); (focus (simp [-getElem?_pos, -binA, HH.wide.raw, hwd, hsp, w1, w2, w3, w4, w5, w6, w7, w8]; with_reducible (first | rfl | exact ⟨rfl, rfl⟩))))
    | (apply X.stepNQ rfl; (focus (simp only [sub, subO, subL, subM, sub3, sub2, fk_some, fk_none, fk_arg0, fk_argS, fk_argN, fk_map0, fk_mapS, fk_mapN, reduceIte, Nat.reduceEqDiff, Nat.reduceAdd, f0, f1, f2, f3]; with_reducible rfl)))
    | ((first | apply X.stepGtQ rfl | apply X.stepGfQ rfl); (focus (simp only [sub, subO, subL, subM, sub3, sub2, fk_some, fk_none, fk_arg0, fk_argS, fk_argN, fk_map0, fk_mapS, fk_mapN, reduceIte, Nat.reduceEqDiff, Nat.reduceAdd, f0, f1, f2, f3]; with_reducible rfl)); all_goals (intro hbr; first | exact absurd hbr (by decide) | ((try rw [hbr]); (try simp at hbr)))))
    all_goals exact ⟨_, by simp [f0, f1, f2, f3], rfl⟩
  | false =>
  cases p1 with
  | true =>
    (repeat' first
    | apply X.retS
    | apply X.skipS
    | apply X.skipB
    | apply X.skipL
    | (apply X.exitS; first | apply X.here | (refine X.out (by decide) ?_; apply X.here))
    | apply X.blockS
    | (apply X.condQ rfl; (focus (simp only [sub, subO, subL, subM, sub3, sub2, fk_some, fk_none, fk_arg0, fk_argS, fk_argN, fk_map0, fk_mapS, fk_mapN, reduceIte, Nat.reduceEqDiff, Nat.reduceAdd, f0, f1, f2, f3]; with_reducible rfl)); all_goals (intro hbr; first | exact absurd hbr (by decide) | ((try rw [hbr]); (try simp at hbr))))
    | apply X.stepZ
    | (apply X.stepQ rfl; (focus (simp only [sub, subO, subL, subM, sub3, sub2, fk_some, fk_none, fk_arg0, fk_argS, fk_argN, fk_map0, fk_mapS, fk_mapN, reduceIte, Nat.reduceEqDiff, Nat.reduceAdd, f0, f1, f2, f3]; with_reducible rfl)); (focus (simp [-getElem?_pos, -binA, HH.wide.raw, hwd, hsp, w1, w2, w3, w4, w5, w6, w7, w8]; with_reducible (first | rfl | exact ⟨rfl, rfl⟩))))
    | (apply X.stepNQ rfl; (focus (simp only [sub, subO, subL, subM, sub3, sub2, fk_some, fk_none, fk_arg0, fk_argS, fk_argN, fk_map0, fk_mapS, fk_mapN, reduceIte, Nat.reduceEqDiff, Nat.reduceAdd, f0, f1, f2, f3]; with_reducible rfl)))
    | ((first | apply X.stepGtQ rfl | apply X.stepGfQ rfl); (focus (simp only [sub, subO, subL, subM, sub3, sub2, fk_some, fk_none, fk_arg0, fk_argS, fk_argN, fk_map0, fk_mapS, fk_mapN, reduceIte, Nat.reduceEqDiff, Nat.reduceAdd, f0, f1, f2, f3]; with_reducible rfl)); all_goals (intro hbr; first | exact absurd hbr (by decide) | ((try rw [hbr]); (try simp at hbr)))))
    all_goals exact ⟨_, by simp [f0, f1, f2, f3], rfl⟩
  | false =>
  cases p2 with
  | true =>
    (repeat' first
    | apply X.retS
    | apply X.skipS
    | apply X.skipB
    | apply X.skipL
    | (apply X.exitS; first | apply X.here | (refine X.out (by decide) ?_; apply X.here))
    | apply X.blockS
    | (apply X.condQ rfl; (focus (simp only [sub, subO, subL, subM, sub3, sub2, fk_some, fk_none, fk_arg0, fk_argS, fk_argN, fk_map0, fk_mapS, fk_mapN, reduceIte, Nat.reduceEqDiff, Nat.reduceAdd, f0, f1, f2, f3]; with_reducible rfl)); all_goals (intro hbr; first | exact absurd hbr (by decide) | ((try rw [hbr]); (try simp at hbr))))
    | apply X.stepZ
    | (apply X.stepQ rfl; (focus (simp only [sub, subO, subL, subM, sub3, sub2, fk_some, fk_none, fk_arg0, fk_argS, fk_argN, fk_map0, fk_mapS, fk_mapN, reduceIte, Nat.reduceEqDiff, Nat.reduceAdd, f0, f1, f2, f3]; with_reducible rfl)); (focus (simp [-getElem?_pos, -binA, HH.wide.raw, hwd, hsp, w1, w2, w3, w4, w5, w6, w7, w8]; with_reducible (first | rfl | exact ⟨rfl, rfl⟩))))
    | (apply X.stepNQ rfl; (focus (simp only [sub, subO, subL, subM, sub3, sub2, fk_some, fk_none, fk_arg0, fk_argS, fk_argN, fk_map0, fk_mapS, fk_mapN, reduceIte, Nat.reduceEqDiff, Nat.reduceAdd, f0, f1, f2, f3]; with_reducible rfl)))
    | ((first | apply X.stepGtQ rfl | apply X.stepGfQ rfl); (focus (simp only [sub, subO, subL, subM, sub3, sub2, fk_some, fk_none, fk_arg0, fk_argS, fk_argN, fk_map0, fk_mapS, fk_mapN, reduceIte, Nat.reduceEqDiff, Nat.reduceAdd, f0, f1, f2, f3]; with_reducible rfl)); all_goals (intro hbr; first | exact absurd hbr (by decide) | ((try rw [hbr]); (try simp at hbr)))))
    all_goals exact ⟨_, by simp [f0, f1, f2, f3], rfl⟩
  | false =>
  cases p3 with
  | true =>
    (repeat' first
    | apply X.retS
    | apply X.skipS
    | apply X.skipB
    | apply X.skipL
    | (apply X.exitS; first | apply X.here | (refine X.out (by decide) ?_; apply X.here))
    | apply X.blockS
    | (apply X.condQ rfl; (focus (simp only [sub, subO, subL, subM, sub3, sub2, fk_some, fk_none, fk_arg0, fk_argS, fk_argN, fk_map0, fk_mapS, fk_mapN, reduceIte, Nat.reduceEqDiff, Nat.reduceAdd, f0, f1, f2, f3]; with_reducible rfl)); all_goals (intro hbr; first | exact absurd hbr (by decide) | ((try rw [hbr]); (try simp at hbr))))
    | apply X.stepZ
    | (apply X.stepQ rfl; (focus (simp only [sub, subO, subL, subM, sub3, sub2, fk_some, fk_none, fk_arg0, fk_argS, fk_argN, fk_map0, fk_mapS, fk_mapN, reduceIte, Nat.reduceEqDiff, Nat.reduceAdd, f0, f1, f2, f3]; with_reducible rfl)); (focus (simp [-getElem?_pos, -binA, HH.wide.raw, hwd, hsp, w1, w2, w3, w4, w5, w6, w7, w8]; with_reducible (first | rfl | exact ⟨rfl, rfl⟩))))
    | (apply X.stepNQ rfl; (focus (simp only [sub, subO, subL, subM, sub3, sub2, fk_some, fk_none, fk_arg0, fk_argS, fk_argN, fk_map0, fk_mapS, fk_mapN, reduceIte, Nat.reduceEqDiff, Nat.reduceAdd, f0, f1, f2, f3]; with_reducible rfl)))
    | ((first | apply X.stepGtQ rfl | apply X.stepGfQ rfl); (focus (simp only [sub, subO, subL, subM, sub3, sub2, fk_some, fk_none, fk_arg0, fk_argS, fk_argN, fk_map0, fk_mapS, fk_mapN, reduceIte, Nat.reduceEqDiff, Nat.reduceAdd, f0, f1, f2, f3]; with_reducible rfl)); all_goals (intro hbr; first | exact absurd hbr (by decide) | ((try rw [hbr]); (try simp at hbr)))))
    all_goals exact ⟨_, by simp [f0, f1, f2, f3], rfl⟩
  | false =>
  cases p4 with
  | true =>
    (repeat' first
    | apply X.retS
    | apply X.skipS
    | apply X.skipB
    | apply X.skipL
    | (apply X.exitS; first | apply X.here | (refine X.out (by decide) ?_; apply X.here))
    | apply X.blockS
    | (apply X.condQ rfl; (focus (simp only [sub, subO, subL, subM, sub3, sub2, fk_some, fk_none, fk_arg0, fk_argS, fk_argN, fk_map0, fk_mapS, fk_mapN, reduceIte, Nat.reduceEqDiff, Nat.reduceAdd, f0, f1, f2, f3]; with_reducible rfl)); all_goals (intro hbr; first | exact absurd hbr (by decide) | ((try rw [hbr]); (try simp at hbr))))
    | apply X.stepZ
    | (apply X.stepQ rfl; (focus (simp only [sub, subO, subL, subM, sub3, sub2, fk_some, fk_none, fk_arg0, fk_argS, fk_argN, fk_map0, fk_mapS, fk_mapN, reduceIte, Nat.reduceEqDiff, Nat.reduceAdd, f0, f1, f2, f3]; with_reducible rfl)); (focus (simp [-getElem?_pos, -binA, HH.wide.raw, hwd, hsp, w1, w2, w3, w4, w5, w6, w7, w8]; with_reducible (first | rfl | exact ⟨rfl, rfl⟩))))
    | (apply X.stepNQ rfl; (focus (simp only [sub, subO, subL, subM, sub3, sub2, fk_some, fk_none, fk_arg0, fk_argS, fk_argN, fk_map0, fk_mapS, fk_mapN, reduceIte, Nat.reduceEqDiff, Nat.reduceAdd, f0, f1, f2, f3]; with_reducible rfl)))
    | ((first | apply X.stepGtQ rfl | apply X.stepGfQ rfl); (focus (simp only [sub, subO, subL, subM, sub3, sub2, fk_some, fk_none, fk_arg0, fk_argS, fk_argN, fk_map0, fk_mapS, fk_mapN, reduceIte, Nat.reduceEqDiff, Nat.reduceAdd, f0, f1, f2, f3]; with_reducible rfl)); all_goals (intro hbr; first | exact absurd hbr (by decide) | ((try rw [hbr]); (try simp at hbr)))))
    all_goals exact ⟨_, by simp [f0, f1, f2, f3], rfl⟩
  | false =>
  cases p5 with
  | true =>
    (repeat' first
    | apply X.retS
    | apply X.skipS
    | apply X.skipB
    | apply X.skipL
    | (apply X.exitS; first | apply X.here | (refine X.out (by decide) ?_; apply X.here))
    | apply X.blockS
    | (apply X.condQ rfl; (focus (simp only [sub, subO, subL, subM, sub3, sub2, fk_some, fk_none, fk_arg0, fk_argS, fk_argN, fk_map0, fk_mapS, fk_mapN, reduceIte, Nat.reduceEqDiff, Nat.reduceAdd, f0, f1, f2, f3]; with_reducible rfl)); all_goals (intro hbr; first | exact absurd hbr (by decide) | ((try rw [hbr]); (try simp at hbr))))
    | apply X.stepZ
    | (apply X.stepQ rfl; (focus (simp only [sub, subO, subL, subM, sub3, sub2, fk_some, fk_none, fk_arg0, fk_argS, fk_argN, fk_map0, fk_mapS, fk_mapN, reduceIte, Nat.reduceEqDiff, Nat.reduceAdd, f0, f1, f2, f3]; with_reducible rfl)); (focus (simp [-getElem?_pos, -binA, HH.wide.raw, hwd, hsp, w1, w2, w3, w4, w5, w6, w7, w8]; with_reducible (first | rfl | exact ⟨rfl, rfl⟩))))
    | (apply X.stepNQ rfl; (focus (simp only [sub, subO, subL, subM, sub3, sub2, fk_some, fk_none, fk_arg0, fk_argS, fk_argN, fk_map0, fk_mapS, fk_mapN, reduceIte, Nat.reduceEqDiff, Nat.reduceAdd, f0, f1, f2, f3]; with_reducible rfl)))
    | ((first | apply X.stepGtQ rfl | apply X.stepGfQ rfl); (focus (simp only [sub, subO, subL, subM, sub3, sub2, fk_some, fk_none, fk_arg0, fk_argS, fk_argN, fk_map0, fk_mapS, fk_mapN, reduceIte, Nat.reduceEqDiff, Nat.reduceAdd, f0, f1, f2, f3]; with_reducible rfl)); all_goals (intro hbr; first | exact absurd hbr (by decide) | ((try rw [hbr]); (try simp at hbr)))))
    all_goals exact ⟨_, by simp [f0, f1, f2, f3], rfl⟩
  | false =>
  cases p6 with
  | true =>
    (repeat' first
    | apply X.retS
    | apply X.skipS
    | apply X.skipB
    | apply X.skipL
    | (apply X.exitS; first | apply X.here | (refine X.out (by decide) ?_; apply X.here))
    | apply X.blockS
    | (apply X.condQ rfl; (focus (simp only [sub, subO, subL, subM, sub3, sub2, fk_some, fk_none, fk_arg0, fk_argS, fk_argN, fk_map0, fk_mapS, fk_mapN, reduceIte, Nat.reduceEqDiff, Nat.reduceAdd, f0, f1, f2, f3]; with_reducible rfl)); all_goals (intro hbr; first | exact absurd hbr (by decide) | ((try rw [hbr]); (try simp at hbr))))
    | apply X.stepZ
    | (apply X.stepQ rfl; (focus (simp only [sub, subO, subL, subM, sub3, sub2, fk_some, fk_none, fk_arg0, fk_argS, fk_argN, fk_map0, fk_mapS, fk_mapN, reduceIte, Nat.reduceEqDiff, Nat.reduceAdd, f0, f1, f2, f3]; with_reducible rfl)); (focus (simp [-getElem?_pos, -binA, HH.wide.raw, hwd, hsp, w1, w2, w3, w4, w5, w6, w7, w8]; with_reducible (first | rfl | exact ⟨rfl, rfl⟩))))
    | (apply X.stepNQ rfl; (focus (simp only [sub, subO, subL, subM, sub3, sub2, fk_some, fk_none, fk_arg0, fk_argS, fk_argN, fk_map0, fk_mapS, fk_mapN, reduceIte, Nat.reduceEqDiff, Nat.reduceAdd, f0, f1, f2, f3]; with_reducible rfl)))
    | ((first | apply X.stepGtQ rfl | apply X.stepGfQ rfl); (focus (simp only [sub, subO, subL, subM, sub3, sub2, fk_some, fk_none, fk_arg0, fk_argS, fk_argN, fk_map0, fk_mapS, fk_mapN, reduceIte, Nat.reduceEqDiff, Nat.reduceAdd, f0, f1, f2, f3]; with_reducible rfl)); all_goals (intro hbr; first | exact absurd hbr (by decide) | ((try rw [hbr]); (try simp at hbr)))))
    all_goals exact ⟨_, by simp [f0, f1, f2, f3], rfl⟩
  | false =>
  cases p7 with
  | true =>
    (repeat' first
    | apply X.retS
    | apply X.skipS
    | apply X.skipB
    | apply X.skipL
    | (apply X.exitS; first | apply X.here | (refine X.out (by decide) ?_; apply X.here))
    | apply X.blockS
    | (apply X.condQ rfl; (focus (simp only [sub, subO, subL, subM, sub3, sub2, fk_some, fk_none, fk_arg0, fk_argS, fk_argN, fk_map0, fk_mapS, fk_mapN, reduceIte, Nat.reduceEqDiff, Nat.reduceAdd, f0, f1, f2, f3]; with_reducible rfl)); all_goals (intro hbr; first | exact absurd hbr (by decide) | ((try rw [hbr]); (try simp at hbr))))
    | apply X.stepZ
    | (apply X.stepQ rfl; (focus (simp only [sub, subO, subL, subM, sub3, sub2, fk_some, fk_none, fk_arg0, fk_argS, fk_argN, fk_map0, fk_mapS, fk_mapN, reduceIte, Nat.reduceEqDiff, Nat.reduceAdd, f0, f1, f2, f3]; with_reducible rfl)); (focus (simp [-getElem?_pos, -binA, HH.wide.raw, hwd, hsp, w1, w2, w3, w4, w5, w6, w7, w8]; with_reducible (first | rfl | exact ⟨rfl, rfl⟩))))
    | (apply X.stepNQ rfl; (focus (simp only [sub, subO, subL, subM, sub3, sub2, fk_some, fk_none, fk_arg0, fk_argS, fk_argN, fk_map0, fk_mapS, fk_mapN, reduceIte, Nat.reduceEqDiff, Nat.reduceAdd, f0, f1, f2, f3]; with_reducible rfl)))
    | ((first | apply X.stepGtQ rfl | apply X.stepGfQ rfl); (focus (simp only [sub, subO, subL, subM, sub3, sub2, fk_some, fk_none, fk_arg0, fk_argS, fk_argN, fk_map0, fk_mapS, fk_mapN, reduceIte, Nat.reduceEqDiff, Nat.reduceAdd, f0, f1, f2, f3]; with_reducible rfl)); all_goals (intro hbr; first | exact absurd hbr (by decide) | ((try rw [hbr]); (try simp at hbr)))))
    all_goals exact ⟨_, by simp [f0, f1, f2, f3], rfl⟩
  | false =>
  cases p8 with
  | true =>
    (repeat' first
    | apply X.retS
    | apply X.skipS
    | apply X.skipB
    | apply X.skipL
    | (apply X.exitS; first | apply X.here | (refine X.out (by decide) ?_; apply X.here))
    | apply X.blockS
    | (apply X.condQ rfl; (focus (simp only [sub, subO, subL, subM, sub3, sub2, fk_some, fk_none, fk_arg0, fk_argS, fk_argN, fk_map0, fk_mapS, fk_mapN, reduceIte, Nat.reduceEqDiff, Nat.reduceAdd, f0, f1, f2, f3]; with_reducible rfl)); all_goals (intro hbr; first | exact absurd hbr (by decide) | ((try rw [hbr]); (try simp at hbr))))
    | apply X.stepZ
    | (apply X.stepQ rfl; (focus (simp only [sub, subO, subL, subM, sub3, sub2, fk_some, fk_none, fk_arg0, fk_argS, fk_argN, fk_map0, fk_mapS, fk_mapN, reduceIte, Nat.reduceEqDiff, Nat.reduceAdd, f0, f1, f2, f3]; with_reducible rfl)); (focus (simp [-getElem?_pos, -binA, HH.wide.raw, hwd, hsp, w1, w2, w3, w4, w5, w6, w7, w8]; with_reducible (first | rfl | exact ⟨rfl, rfl⟩))))
    | (apply X.stepNQ rfl; (focus (simp only [sub, subO, subL, subM, sub3, sub2, fk_some, fk_none, fk_arg0, fk_argS, fk_argN, fk_map0, fk_mapS, fk_mapN, reduceIte, Nat.reduceEqDiff, Nat.reduceAdd, f0, f1, f2, f3]; with_reducible rfl)))
    | ((first | apply X.stepGtQ rfl | apply X.stepGfQ rfl); (focus (simp only [sub, subO, subL, subM, sub3, sub2, fk_some, fk_none, fk_arg0, fk_argS, fk_argN, fk_map0, fk_mapS, fk_mapN, reduceIte, Nat.reduceEqDiff, Nat.reduceAdd, f0, f1, f2, f3]; with_reducible rfl)); all_goals (intro hbr; first | exact absurd hbr (by decide) | ((try rw [hbr]); (try simp at hbr)))))
    all_goals exact ⟨_, by simp [f0, f1, f2, f3], rfl⟩
  | false =>
  (repeat' first
    | apply X.retS
    | apply X.skipS
    | apply X.skipB
    | apply X.skipL
    | (apply X.exitS; first | apply X.here | (refine X.out (by decide) ?_; apply X.here))
    | apply X.blockS
    | (apply X.condQ rfl; (focus (simp only [sub, subO, subL, subM, sub3, sub2, fk_some, fk_none, fk_arg0, fk_argS, fk_argN, fk_map0, fk_mapS, fk_mapN, reduceIte, Nat.reduceEqDiff, Nat.reduceAdd, f0, f1, f2, f3]; with_reducible rfl)); all_goals (intro hbr; first | exact absurd hbr (by decide) | ((try rw [hbr]); (try simp at hbr))))
    | apply X.stepZ
    | (apply X.stepQ rfl; (focus (simp only [sub, subO, subL, subM, sub3, sub2, fk_some, fk_none, fk_arg0, fk_argS, fk_argN, fk_map0, fk_mapS, fk_mapN, reduceIte, Nat.reduceEqDiff, Nat.reduceAdd, f0, f1, f2, f3]; with_reducible rfl)); (focus (simp [-getElem?_pos, -binA, HH.wide.raw, hwd, hsp, w1, w2, w3, w4, w5, w6, w7, w8]; with_reducible (first | rfl | exact ⟨rfl, rfl⟩))))
    | (apply X.stepNQ rfl; (focus (simp only [sub, subO, subL, subM, sub3, sub2, fk_some, fk_none, fk_arg0, fk_argS, fk_argN, fk_map0, fk_mapS, fk_mapN, reduceIte, Nat.reduceEqDiff, Nat.reduceAdd, f0, f1, f2, f3]; with_reducible rfl)))
    | ((first | apply X.stepGtQ rfl | apply X.stepGfQ rfl); (focus (simp only [sub, subO, subL, subM, sub3, sub2, fk_some, fk_none, fk_arg0, fk_argS, fk_argN, fk_map0, fk_mapS, fk_mapN, reduceIte, Nat.reduceEqDiff, Nat.reduceAdd, f0, f1, f2, f3]; with_reducible rfl)); all_goals (intro hbr; first | exact absurd hbr (by decide) | ((try rw [hbr]); (try simp at hbr)))))
  all_goals exact ⟨_, by simp [f0, f1, f2, f3], rfl⟩
/-- What comes behind. -/
def restF : ACode := (.seq (.region [(.mk (some 53) (.load true 6 (.tmp 3)) none []), (.mk (some 54) (.move (.tmp 1)) none []), (.mk (some 55) (.move (.tmp 2)) none []), (.mk (some 56) (.call 14 [(.tmp 53), (.tmp 54), (.tmp 55)]) none []), (.mk (some 7) (.new 33 [(.pv (.int .i64 0)), (.pv (.int .i64 0)), (.pv (.int .i64 0)), .nils, (.pv (.int .i64 0)), (.pv (.int .u8 0)), .nils, (.pv (.flt .f64 0))]) none []), (.mk none (.store 8 (.tmp 7) (.tmp 56)) none [])] false) (.seq (.seq (.region [(.mk (some 57) (.move (.tmp 1)) none []), (.mk (some 58) (.bin .gtr .no (.tmp 57) (.val (.pv (.int .i64 0)))) none [])] false) (.cond (.tmp 58) (.seq (.region [(.mk (some 59) (.faddr 0 (.tmp 7)) none []), (.mk (some 60) (.load false 1 (.tmp 59)) none []), (.mk (some 61) (.move (.tmp 1)) none []), (.mk (some 62) (.bin .eql .no (.tmp 60) (.tmp 61)) none []), (.mk (some 63) (.move (.tmp 62)) none []), (.mk (some 64) (.faddr 1 (.tmp 7)) (some (63, true)) []), (.mk (some 65) (.load false 1 (.tmp 64)) (some (63, true)) []), (.mk (some 66) (.bin .eql .no (.tmp 65) (.val (.pv (.int .i64 0)))) (some (63, true)) []), (.mk (some 67) (.pick (.tmp 63) (.tmp 66) (.val (.pv (.bool false)))) none []), (.mk (some 68) (.move (.tmp 67)) none []), (.mk (some 69) (.faddr 2 (.tmp 7)) (some (68, true)) []), (.mk (some 70) (.load false 1 (.tmp 69)) (some (68, true)) []), (.mk (some 71) (.bin .eql .no (.tmp 70) (.val (.pv (.int .i64 0)))) (some (68, true)) []), (.mk (some 72) (.pick (.tmp 68) (.tmp 71) (.val (.pv (.bool false)))) none []), (.mk (some 73) (.move (.tmp 72)) none []), (.mk (some 74) (.faddr 3 (.tmp 7)) (some (73, true)) []), (.mk (some 75) (.load false 1 (.tmp 74)) (some (73, true)) []), (.mk (some 76) (.lenOf false (.tmp 75)) (some (73, true)) []), (.mk (some 77) (.bin .eql .no (.tmp 76) (.val (.pv (.int .i64 0)))) (some (73, true)) []), (.mk (some 78) (.pick (.tmp 73) (.tmp 77) (.val (.pv (.bool false)))) none []), (.mk (some 79) (.move (.tmp 78)) none []), (.mk (some 80) (.faddr 4 (.tmp 7)) (some (79, true)) []), (.mk (some 81) (.load true 3 (.tmp 80)) (some (79, true)) []), (.mk (some 82) (.build [(.pv (.int .i64 0)), (.pv (.int .u8 0)), .nils] []) (some (79, true)) []), (.mk (some 83) (.call 15 [(.tmp 81), (.tmp 82)]) (some (79, true)) []), (.mk (some 84) (.pick (.tmp 79) (.tmp 83) (.val (.pv (.bool false)))) none []), (.mk (some 85) (.move (.tmp 84)) none []), (.mk (some 86) (.faddr 7 (.tmp 7)) (some (85, true)) []), (.mk (some 87) (.load false 1 (.tmp 86)) (some (85, true)) []), (.mk (some 88) (.faddr 7 (.tmp 7)) (some (85, true)) []), (.mk (some 89) (.load false 1 (.tmp 88)) (some (85, true)) []), (.mk (some 90) (.bin .neq .no (.tmp 87) (.tmp 89)) (some (85, true)) []), (.mk (some 91) (.pick (.tmp 85) (.tmp 90) (.val (.pv (.bool false)))) none []), (.mk (some 92) (.move (.tmp 91)) none []), (.mk (some 93) (.load true 8 (.tmp 7)) (some (92, true)) []), (.mk (some 94) (.call 16 [(.tmp 93)]) (some (92, true)) []), (.mk (some 95) (.pick (.tmp 92) (.tmp 94) (.val (.pv (.bool false)))) none []), (.mk (some 6) (.move (.tmp 95)) none [])] false) .ret) .skip)) (.seq (.seq (.region [(.mk (some 96) (.faddr 1 (.tmp 7)) none []), (.mk (some 97) (.load false 1 (.tmp 96)) none []), (.mk (some 98) (.faddr 0 (.tmp 3)) none []), (.mk (some 99) (.load false 1 (.tmp 98)) none []), (.mk (some 100) (.bin .neq .no (.tmp 97) (.tmp 99)) none []), (.mk (some 101) (.move (.tmp 100)) none []), (.mk (some 102) (.faddr 2 (.tmp 7)) (some (101, false)) []), (.mk (some 103) (.load false 1 (.tmp 102)) (some (101, false)) []), (.mk (some 104) (.faddr 1 (.tmp 3)) (some (101, false)) []), (.mk (some 105) (.load false 1 (.tmp 104)) (some (101, false)) []), (.mk (some 106) (.bin .neq .no (.tmp 103) (.tmp 105)) (some (101, false)) []), (.mk (some 107) (.pick (.tmp 101) (.val (.pv (.bool true))) (.tmp 106)) none []), (.mk (some 108) (.move (.tmp 107)) none []), (.mk (some 109) (.faddr 3 (.tmp 7)) (some (108, false)) []), (.mk (some 110) (.load false 1 (.tmp 109)) (some (108, false)) []), (.mk (some 111) (.lenOf false (.tmp 110)) (some (108, false)) []), (.mk (some 112) (.faddr 5 (.tmp 3)) (some (108, false)) []), (.mk (some 113) (.load false 1 (.tmp 112)) (some (108, false)) []), (.mk (some 114) (.lenOf false (.tmp 113)) (some (108, false)) []), (.mk (some 115) (.bin .neq .no (.tmp 111) (.tmp 114)) (some (108, false)) []), (.mk (some 116) (.pick (.tmp 108) (.val (.pv (.bool true))) (.tmp 115)) none []), (.mk (some 117) (.move (.tmp 116)) none []), (.mk (some 118) (.faddr 4 (.tmp 7)) (some (117, false)) []), (.mk (some 119) (.load true 3 (.tmp 118)) (some (117, false)) []), (.mk (some 120) (.faddr 2 (.tmp 3)) (some (117, false)) []), (.mk (some 121) (.load true 3 (.tmp 120)) (some (117, false)) []), (.mk (some 122) (.call 15 [(.tmp 119), (.tmp 121)]) (some (117, false)) []), (.mk (some 123) (.un .not (.tmp 122)) (some (117, false)) []), (.mk (some 124) (.pick (.tmp 117) (.val (.pv (.bool true))) (.tmp 123)) none [])] false) (.cond (.tmp 124) (.seq (.region [(.mk (some 6) (.move (.val (.pv (.bool false)))) none [])] false) .ret) .skip)) (.seq (.region [(.mk (some 125) (.faddr 1 (.tmp 3)) none []), (.mk (some 126) (.load false 1 (.tmp 125)) none []), (.mk (some 127) (.faddr 0 (.tmp 3)) none []), (.mk (some 128) (.load false 1 (.tmp 127)) none []), (.mk (some 129) (.bin .sub .no (.tmp 126) (.tmp 128)) none []), (.mk (some 8) (.move (.tmp 129)) none [])] false) (.seq (.block 0 (.seq (.region [(.mk (some 131) (.move (.tmp 2)) none []), (.mk (some 132) (.bin .gtr .no (.tmp 131) (.val (.pv (.int .i64 0)))) none []), (.mk (some 130) (.move (.tmp 132)) none [])] false) (.cond (.tmp 130) (.seq (.region [(.mk (some 133) (.faddr 7 (.tmp 7)) none []), (.mk (some 134) (.load false 1 (.tmp 133)) none []), (.mk (some 135) (.move (.tmp 8)) none []), (.mk (some 136) (.conv (.flt .f64) (.tmp 135)) none []), (.mk (some 137) (.move (.tmp 2)) none []), (.mk (some 138) (.conv (.flt .f64) (.tmp 137)) none []), (.mk (some 139) (.special (.fdiv .f64) [(.tmp 136), (.tmp 138)]) none []), (.mk (some 140) (.bin .eql .no (.tmp 134) (.tmp 139)) none []), (.mk (some 6) (.move (.tmp 140)) none [])] false) .ret) (.seq (.region [(.mk (some 142) (.move (.tmp 8)) none []), (.mk (some 143) (.bin .gtr .no (.tmp 142) (.val (.pv (.int .i64 0)))) none []), (.mk (some 141) (.move (.tmp 143)) none [])] false) (.cond (.tmp 141) (.seq (.region [(.mk (some 144) (.faddr 7 (.tmp 7)) none []), (.mk (some 145) (.load false 1 (.tmp 144)) none []), (.mk (some 146) (.bin .gtr .no (.tmp 145) (.val (.pv (.flt .f64 9218868437227405311)))) none []), (.mk (some 6) (.move (.tmp 146)) none [])] false) .ret) .skip))))) (.seq (.region [(.mk (some 147) (.faddr 7 (.tmp 7)) none []), (.mk (some 148) (.load false 1 (.tmp 147)) none []), (.mk (some 149) (.faddr 7 (.tmp 7)) none []), (.mk (some 150) (.load false 1 (.tmp 149)) none []), (.mk (some 151) (.bin .neq .no (.tmp 148) (.tmp 150)) none []), (.mk (some 6) (.move (.tmp 151)) none [])] false) .ret))))))

set_option maxHeartbeats 16000000 in
set_option maxRecDepth 100000 in
theorem finds_e (HH : HasFi E) (a b : Int) (v : Va) (sp : List Sp) (e n : Int) (he : 0 < e) (he7 : e ≤ 7) {f : Nat → V} (hf : fk (Fk.mk (f := f)) 1 = .pv (.int .i64 e) ∧ fk (Fk.mk (f := f)) 2 = .pv (.int .i64 n) ∧ fk (Fk.mk (f := f)) 3 = .ptr 0 0) :
    X E (app restF .skip) ⟨TL 152 f, [.blk [.pv (.int .i64 a), .pv (.int .i64 b), .pv (.int .i64 v.k), .pv (.int .u8 v.b), .pv (.sl (v.l.map encV)), .pv (.sl (sp.map encS))] none]⟩ (Ab.Fin [.tmp 6] [.bool true]) := by
  obtain ⟨f1, f2, f3⟩ := hf
  have hof := ofE_ok HH a b v sp e n he
  have hgood := goodE_ok HH e he he7
  have hs0 := same_ok HH.same HH.eq (.mk 0 0 []) ⟨by omega, by simp, trivial⟩
  rw [eV] at hs0
  have hne := ne_nan (k := .f64) (b := nanC) (by decide +kernel)
  simp only [encF, encR, vk, vb, vl, List.map_nil] at hof hgood hs0
  generalize nanC = q at hof hgood hne
  have w0 : binA .gtr .no (.pv (.int .i64 e)) (.pv (.int .i64 0)) = some (.pv (.bool true)) := by simp [binA, intBin, he]
  have w1 : binA .eql .no (.pv (.int .i64 e)) (.pv (.int .i64 e)) = some (.pv (.bool true)) := by simp [binA, intBin]
  have w2 : binA .eql .no (.pv (.int .i64 0)) (.pv (.int .i64 0)) = some (.pv (.bool true)) := by simp [binA, intBin]
  clear he he7
  unfold restF
  (repeat' first
    | apply X.retS
    | apply X.skipS
    | apply X.skipB
    | apply X.skipL
    | (apply X.exitS; first | apply X.here | (refine X.out (by decide) ?_; apply X.here))
    | apply X.blockS
    | (apply X.condQ rfl; (focus (simp only [sub, subO, subL, subM, sub3, sub2, fk_some, fk_none, fk_arg0, fk_argS, fk_argN, fk_map0, fk_mapS, fk_mapN, reduceIte, Nat.reduceEqDiff, Nat.reduceAdd, f1, f2, f3]; with_reducible rfl)); all_goals (intro hbr; first | exact absurd hbr (by decide) | ((try rw [hbr]); (try simp at hbr))))
    | apply X.stepZ
    | (apply X.stepQ rfl; (focus (simp only [sub, subO, subL, subM, sub3, sub2, fk_some, fk_none, fk_arg0, fk_argS, fk_argN, fk_map0, fk_mapS, fk_mapN, reduceIte, Nat.reduceEqDiff, Nat.reduceAdd, f1, f2, f3]; with_reducible rfl)); (focus (simp [-getElem?_pos, -binA, HH.of.raw, hof, w0, w1, w2, HH.same.raw, hs0, hne, HH.good.raw, hgood]; with_reducible (first | rfl | exact ⟨rfl, rfl⟩))))
    | (apply X.stepNQ rfl; (focus (simp only [sub, subO, subL, subM, sub3, sub2, fk_some, fk_none, fk_arg0, fk_argS, fk_argN, fk_map0, fk_mapS, fk_mapN, reduceIte, Nat.reduceEqDiff, Nat.reduceAdd, f1, f2, f3]; with_reducible rfl)))
    | ((first | apply X.stepGtQ rfl | apply X.stepGfQ rfl); (focus (simp only [sub, subO, subL, subM, sub3, sub2, fk_some, fk_none, fk_arg0, fk_argS, fk_argN, fk_map0, fk_mapS, fk_mapN, reduceIte, Nat.reduceEqDiff, Nat.reduceAdd, f1, f2, f3]; with_reducible rfl)); all_goals (intro hbr; first | exact absurd hbr (by decide) | ((try rw [hbr]); (try simp at hbr)))))
  all_goals (refine Fin.mkQ rfl (by simp only [resS, sub, subO, subL, subM, sub3, sub2, fk_some, fk_none, fk_arg0, fk_argS, fk_argN, fk_map0, fk_mapS, fk_mapN, reduceIte, Nat.reduceEqDiff, Nat.reduceAdd]; with_reducible rfl) (by simp [oneOf, pureRes, snapFuel, snapL]; with_reducible rfl) ?_)
  all_goals rfl

set_option maxHeartbeats 16000000 in
set_option maxRecDepth 100000 in
theorem finds_0 (HH : HasFi E) (a b : Int) (v : Va) (hv : FineV v) (sp : List Sp) (n : Int) (ha : -1000 ≤ a) (hb : b ≤ 1000) (hab : a ≤ b) (hn0 : 0 ≤ n) (hn1 : n ≤ 1000) {f : Nat → V} (hf : fk (Fk.mk (f := f)) 1 = .pv (.int .i64 0) ∧ fk (Fk.mk (f := f)) 2 = .pv (.int .i64 n) ∧ fk (Fk.mk (f := f)) 3 = .ptr 0 0) :
    X E (app restF .skip) ⟨TL 152 f, [.blk [.pv (.int .i64 a), .pv (.int .i64 b), .pv (.int .i64 v.k), .pv (.int .u8 v.b), .pv (.sl (v.l.map encV)), .pv (.sl (sp.map encS))] none]⟩ (Ab.Fin [.tmp 6] [.bool true]) := by
  obtain ⟨g1, g2, g3⟩ := hf
  have hsame := same_ok HH.same HH.eq v hv
  rw [eV] at hsame
  have hsp : (sp.map encS).length = sp.length := by simp
  have hwba : IntKind.i64.wrap (b - a) = b - a := wrap_i64 (by omega)
  obtain ⟨k, hk⟩ := Int.eq_ofNat_of_zero_le (show 0 ≤ b - a by omega)
  obtain ⟨m, hm⟩ := Int.eq_ofNat_of_zero_le hn0
  obtain ⟨q, hq, q1, q2, q3⟩ := ratio_ok k m (by omega) (by omega)
  rw [← hk, ← hm] at hq
  have hof := of0_ok HH a b v sp n hwba hq
  have f2 : binA .gtr .no (.pv (.int .i64 0)) (.pv (.int .i64 0)) = some (.pv (.bool false)) := by simp [binA, intBin]
  have f3 : ∀ x : Int, binA .neq .no (.pv (.int .i64 x)) (.pv (.int .i64 x)) = some (.pv (.bool false)) := fun x => by simp [binA, intBin]
  have f4 : binA .sub .no (.pv (.int .i64 b)) (.pv (.int .i64 a)) = some (.pv (.int .i64 (b - a))) := by simp [binA, intBin, hwba]
  simp only [encF, encR, vk, vb, vl, List.map_nil] at hof
  obtain ⟨xx, hxx⟩ : ∃ x, x = FloatKind.f64.nearest (b - a) := ⟨_, rfl⟩
  obtain ⟨yy, hyy⟩ : ∃ x, x = FloatKind.f64.nearest n := ⟨_, rfl⟩
  rw [← hxx, ← hyy] at hq
  have hxx := hxx.symm
  have hyy := hyy.symm
  obtain ⟨ba, hba⟩ : ∃ x, x = b - a := ⟨_, rfl⟩
  rw [← hba] at f4 hxx
  rcases Nat.eq_zero_or_pos m with hm0 | hm0
  · have hn0 : n = 0 := by omega
    subst hn0
    rcases Nat.eq_zero_or_pos k with hk0 | hk0
    · have hne := ne_nan (q3 hm0 hk0)
      have hb0 : ba = 0 := by omega
      subst hb0
      clear hk hm q1 q2 q3 hwba hba
      unfold restF
      (repeat' first
    | apply X.retS
    | apply X.skipS
    | apply X.skipB
    | apply X.skipL
    | (apply X.exitS; first | apply X.here | (refine X.out (by decide) ?_; apply X.here))
    | apply X.blockS
    | (apply X.condQ rfl; (focus (simp only [sub, subO, subL, subM, sub3, sub2, fk_some, fk_none, fk_arg0, fk_argS, fk_argN, fk_map0, fk_mapS, fk_mapN, reduceIte, Nat.reduceEqDiff, Nat.reduceAdd, g1, g2, g3]; with_reducible rfl)); all_goals (intro hbr; first | exact absurd hbr (by decide) | ((try rw [hbr]); (try simp at hbr))))
    | apply X.stepZ
    | (apply X.stepQ rfl; (focus (simp only [sub, subO, subL, subM, sub3, sub2, fk_some, fk_none, fk_arg0, fk_argS, fk_argN, fk_map0, fk_mapS, fk_mapN, reduceIte, Nat.reduceEqDiff, Nat.reduceAdd, g1, g2, g3]; with_reducible rfl)); (focus (simp [-getElem?_pos, -binA, hsp, f2, f3, f4, HH.of.raw, hof, HH.same.raw, hsame, hne]; with_reducible (first | rfl | exact ⟨rfl, rfl⟩))))
    | (apply X.stepNQ rfl; (focus (simp only [sub, subO, subL, subM, sub3, sub2, fk_some, fk_none, fk_arg0, fk_argS, fk_argN, fk_map0, fk_mapS, fk_mapN, reduceIte, Nat.reduceEqDiff, Nat.reduceAdd, g1, g2, g3]; with_reducible rfl)))
    | ((first | apply X.stepGtQ rfl | apply X.stepGfQ rfl); (focus (simp only [sub, subO, subL, subM, sub3, sub2, fk_some, fk_none, fk_arg0, fk_argS, fk_argN, fk_map0, fk_mapS, fk_mapN, reduceIte, Nat.reduceEqDiff, Nat.reduceAdd, g1, g2, g3]; with_reducible rfl)); all_goals (intro hbr; first | exact absurd hbr (by decide) | ((try rw [hbr]); (try simp at hbr)))))
      all_goals (refine Fin.mkQ rfl (by simp only [resS, sub, subO, subL, subM, sub3, sub2, fk_some, fk_none, fk_arg0, fk_argS, fk_argN, fk_map0, fk_mapS, fk_mapN, reduceIte, Nat.reduceEqDiff, Nat.reduceAdd]; with_reducible rfl) (by simp [oneOf, pureRes, snapFuel, snapL]; with_reducible rfl) ?_)
      all_goals rfl
    · have hqi := q2 hm0 hk0
      subst hqi
      have hgt := inf_gt
      have w1 : binA .gtr .no (.pv (.int .i64 ba)) (.pv (.int .i64 0)) = some (.pv (.bool true)) := by simp [binA, intBin]; omega
      clear hk hm q1 q2 q3 hwba hba
      unfold restF
      (repeat' first
    | apply X.retS
    | apply X.skipS
    | apply X.skipB
    | apply X.skipL
    | (apply X.exitS; first | apply X.here | (refine X.out (by decide) ?_; apply X.here))
    | apply X.blockS
    | (apply X.condQ rfl; (focus (simp only [sub, subO, subL, subM, sub3, sub2, fk_some, fk_none, fk_arg0, fk_argS, fk_argN, fk_map0, fk_mapS, fk_mapN, reduceIte, Nat.reduceEqDiff, Nat.reduceAdd, g1, g2, g3]; with_reducible rfl)); all_goals (intro hbr; first | exact absurd hbr (by decide) | ((try rw [hbr]); (try simp at hbr))))
    | apply X.stepZ
    | (apply X.stepQ rfl; (focus (simp only [sub, subO, subL, subM, sub3, sub2, fk_some, fk_none, fk_arg0, fk_argS, fk_argN, fk_map0, fk_mapS, fk_mapN, reduceIte, Nat.reduceEqDiff, Nat.reduceAdd, g1, g2, g3]; with_reducible rfl)); (focus (simp [-getElem?_pos, -binA, hsp, f2, f3, f4, w1, HH.of.raw, hof, HH.same.raw, hsame, hgt]; with_reducible (first | rfl | exact ⟨rfl, rfl⟩))))
    | (apply X.stepNQ rfl; (focus (simp only [sub, subO, subL, subM, sub3, sub2, fk_some, fk_none, fk_arg0, fk_argS, fk_argN, fk_map0, fk_mapS, fk_mapN, reduceIte, Nat.reduceEqDiff, Nat.reduceAdd, g1, g2, g3]; with_reducible rfl)))
    | ((first | apply X.stepGtQ rfl | apply X.stepGfQ rfl); (focus (simp only [sub, subO, subL, subM, sub3, sub2, fk_some, fk_none, fk_arg0, fk_argS, fk_argN, fk_map0, fk_mapS, fk_mapN, reduceIte, Nat.reduceEqDiff, Nat.reduceAdd, g1, g2, g3]; with_reducible rfl)); all_goals (intro hbr; first | exact absurd hbr (by decide) | ((try rw [hbr]); (try simp at hbr)))))
      all_goals (refine Fin.mkQ rfl (by simp only [resS, sub, subO, subL, subM, sub3, sub2, fk_some, fk_none, fk_arg0, fk_argS, fk_argN, fk_map0, fk_mapS, fk_mapN, reduceIte, Nat.reduceEqDiff, Nat.reduceAdd]; with_reducible rfl) (by simp [oneOf, pureRes, snapFuel, snapL]; with_reducible rfl) ?_)
      all_goals rfl
  · have heq := eq_self (q1 hm0)
    have w1 : binA .gtr .no (.pv (.int .i64 n)) (.pv (.int .i64 0)) = some (.pv (.bool true)) := by simp [binA, intBin]; omega
    clear hk hm q1 q2 q3 hwba hba
    unfold restF
    (repeat' first
    | apply X.retS
    | apply X.skipS
    | apply X.skipB
    | apply X.skipL
    | (apply X.exitS; first | apply X.here | (refine X.out (by decide) ?_; apply X.here))
    | apply X.blockS
    | (apply X.condQ rfl; (focus (simp only [sub, subO, subL, subM, sub3, sub2, fk_some, fk_none, fk_arg0, fk_argS, fk_argN, fk_map0, fk_mapS, fk_mapN, reduceIte, Nat.reduceEqDiff, Nat.reduceAdd, g1, g2, g3]; with_reducible rfl)); all_goals (intro hbr; first | exact absurd hbr (by decide) | ((try rw [hbr]); (try simp at hbr))))
    | apply X.stepZ
    | (apply X.stepQ rfl; (focus (simp only [sub, subO, subL, subM, sub3, sub2, fk_some, fk_none, fk_arg0, fk_argS, fk_argN, fk_map0, fk_mapS, fk_mapN, reduceIte, Nat.reduceEqDiff, Nat.reduceAdd, g1, g2, g3]; with_reducible rfl)); (focus (simp [-getElem?_pos, -binA, hsp, f2, f3, f4, w1, HH.of.raw, hof, HH.same.raw, hsame, heq, hxx, hyy, hq, specA]; with_reducible (first | rfl | exact ⟨rfl, rfl⟩))))
    | (apply X.stepNQ rfl; (focus (simp only [sub, subO, subL, subM, sub3, sub2, fk_some, fk_none, fk_arg0, fk_argS, fk_argN, fk_map0, fk_mapS, fk_mapN, reduceIte, Nat.reduceEqDiff, Nat.reduceAdd, g1, g2, g3]; with_reducible rfl)))
    | ((first | apply X.stepGtQ rfl | apply X.stepGfQ rfl); (focus (simp only [sub, subO, subL, subM, sub3, sub2, fk_some, fk_none, fk_arg0, fk_argS, fk_argN, fk_map0, fk_mapS, fk_mapN, reduceIte, Nat.reduceEqDiff, Nat.reduceAdd, g1, g2, g3]; with_reducible rfl)); all_goals (intro hbr; first | exact absurd hbr (by decide) | ((try rw [hbr]); (try simp at hbr)))))
    all_goals (refine Fin.mkQ rfl (by simp only [resS, sub, subO, subL, subM, sub3, sub2, fk_some, fk_none, fk_arg0, fk_argS, fk_argN, fk_map0, fk_mapS, fk_mapN, reduceIte, Nat.reduceEqDiff, Nat.reduceAdd]; with_reducible rfl) (by simp [oneOf, pureRes, snapFuel, snapL]; with_reducible rfl) ?_)
    all_goals rfl

set_option maxHeartbeats 16000000 in
set_option maxRecDepth 100000 in
theorem finds_ok (HH : HasFi E) (a b : Int) (v : Va) (hv : FineV v) (sp : List Sp) (e n : Int) : limP E 3 [encF a b v sp, .int .i64 e, .int .i64 n] = some [.bool true] := by
  have H := HH.law
  have haw := HH.awake
  refine H.limQ (Nat.le_of_ble_eq_true rfl) ?_; unfold c3
  iterate 8 (first
    | apply X.retS
    | apply X.skipS
    | apply X.skipB
    | apply X.skipL
    | (apply X.exitS; first | apply X.here | (refine X.out (by decide) ?_; apply X.here))
    | apply X.blockS
    | (apply X.condQ rfl; (focus (simp only [sub, subO, subL, subM, sub3, sub2, fk_some, fk_none, fk_arg0, fk_argS, fk_argN, fk_map0, fk_mapS, fk_mapN, reduceIte, Nat.reduceEqDiff, Nat.reduceAdd]; with_reducible rfl)); all_goals (intro hbr; first | exact absurd hbr (by decide) | ((try rw [hbr]); (try simp at hbr))))
    | apply X.stepZ
    | (apply X.stepQ rfl; (focus (simp only [sub, subO, subL, subM, sub3, sub2, fk_some, fk_none, fk_arg0, fk_argS, fk_argN, fk_map0, fk_mapS, fk_mapN, reduceIte, Nat.reduceEqDiff, Nat.reduceAdd]; with_reducible rfl)); (focus (simp [-getElem?_pos, HH.rawake, haw, encF]; with_reducible (first | rfl | exact ⟨rfl, rfl⟩))))
    | (apply X.stepNQ rfl; (focus (simp only [sub, subO, subL, subM, sub3, sub2, fk_some, fk_none, fk_arg0, fk_argS, fk_argN, fk_map0, fk_mapS, fk_mapN, reduceIte, Nat.reduceEqDiff, Nat.reduceAdd]; with_reducible rfl)))
    | ((first | apply X.stepGtQ rfl | apply X.stepGfQ rfl); (focus (simp only [sub, subO, subL, subM, sub3, sub2, fk_some, fk_none, fk_arg0, fk_argS, fk_argN, fk_map0, fk_mapS, fk_mapN, reduceIte, Nat.reduceEqDiff, Nat.reduceAdd]; with_reducible rfl)); all_goals (intro hbr; first | exact absurd hbr (by decide) | ((try rw [hbr]); (try simp at hbr)))))
  refine finds_out HH a b v sp e n rfl (by simp) (by simp) (by simp) (by simp) ?_
  rintro f ⟨f1, f2, f3, f52⟩
  cases ho : outS a b v sp e n with
  | true =>
    rw [ho] at f52
    (repeat' first
    | apply X.retS
    | apply X.skipS
    | apply X.skipB
    | apply X.skipL
    | (apply X.exitS; first | apply X.here | (refine X.out (by decide) ?_; apply X.here))
    | apply X.blockS
    | (apply X.condQ rfl; (focus (simp only [sub, subO, subL, subM, sub3, sub2, fk_some, fk_none, fk_arg0, fk_argS, fk_argN, fk_map0, fk_mapS, fk_mapN, reduceIte, Nat.reduceEqDiff, Nat.reduceAdd, f52]; with_reducible rfl)); all_goals (intro hbr; first | exact absurd hbr (by decide) | ((try rw [hbr]); (try simp at hbr))))
    | apply X.stepZ
    | (apply X.stepQ rfl; (focus (simp only [sub, subO, subL, subM, sub3, sub2, fk_some, fk_none, fk_arg0, fk_argS, fk_argN, fk_map0, fk_mapS, fk_mapN, reduceIte, Nat.reduceEqDiff, Nat.reduceAdd, f52]; with_reducible rfl)); (focus (simp [-getElem?_pos]; with_reducible (first | rfl | exact ⟨rfl, rfl⟩))))
    | (apply X.stepNQ rfl; (focus (simp only [sub, subO, subL, subM, sub3, sub2, fk_some, fk_none, fk_arg0, fk_argS, fk_argN, fk_map0, fk_mapS, fk_mapN, reduceIte, Nat.reduceEqDiff, Nat.reduceAdd, f52]; with_reducible rfl)))
    | ((first | apply X.stepGtQ rfl | apply X.stepGfQ rfl); (focus (simp only [sub, subO, subL, subM, sub3, sub2, fk_some, fk_none, fk_arg0, fk_argS, fk_argN, fk_map0, fk_mapS, fk_mapN, reduceIte, Nat.reduceEqDiff, Nat.reduceAdd, f52]; with_reducible rfl)); all_goals (intro hbr; first | exact absurd hbr (by decide) | ((try rw [hbr]); (try simp at hbr)))))
    all_goals (refine Fin.mkQ rfl (by simp only [resS, sub, subO, subL, subM, sub3, sub2, fk_some, fk_none, fk_arg0, fk_argS, fk_argN, fk_map0, fk_mapS, fk_mapN, reduceIte, Nat.reduceEqDiff, Nat.reduceAdd]; with_reducible rfl) (by simp [oneOf, pureRes, snapFuel, snapL]; with_reducible rfl) ?_)
    all_goals rfl
  | false =>
    rw [ho] at f52
    simp only [outS, Bool.or_eq_false_iff, decide_eq_false_iff_not] at ho
    obtain ⟨⟨⟨⟨⟨⟨⟨⟨h0, h1⟩, h2⟩, h3⟩, h4⟩, h5⟩, h6⟩, h7⟩, h8⟩ := ho
    iterate 2 (first
    | apply X.retS
    | apply X.skipS
    | apply X.skipB
    | apply X.skipL
    | (apply X.exitS; first | apply X.here | (refine X.out (by decide) ?_; apply X.here))
    | apply X.blockS
    | (apply X.condQ rfl; (focus (simp only [sub, subO, subL, subM, sub3, sub2, fk_some, fk_none, fk_arg0, fk_argS, fk_argN, fk_map0, fk_mapS, fk_mapN, reduceIte, Nat.reduceEqDiff, Nat.reduceAdd, f52]; with_reducible rfl)); all_goals (intro hbr; first | exact absurd hbr (by decide) | ((try rw [hbr]); (try simp at hbr))))
    | apply X.stepZ
    | (apply X.stepQ rfl; (focus (simp only [sub, subO, subL, subM, sub3, sub2, fk_some, fk_none, fk_arg0, fk_argS, fk_argN, fk_map0, fk_mapS, fk_mapN, reduceIte, Nat.reduceEqDiff, Nat.reduceAdd, f52]; with_reducible rfl)); (focus (simp [-getElem?_pos]; with_reducible (first | rfl | exact ⟨rfl, rfl⟩))))
    | (apply X.stepNQ rfl; (focus (simp only [sub, subO, subL, subM, sub3, sub2, fk_some, fk_none, fk_arg0, fk_argS, fk_argN, fk_map0, fk_mapS, fk_mapN, reduceIte, Nat.reduceEqDiff, Nat.reduceAdd, f52]; with_reducible rfl)))
    | ((first | apply X.stepGtQ rfl | apply X.stepGfQ rfl); (focus (simp only [sub, subO, subL, subM, sub3, sub2, fk_some, fk_none, fk_arg0, fk_argS, fk_argN, fk_map0, fk_mapS, fk_mapN, reduceIte, Nat.reduceEqDiff, Nat.reduceAdd, f52]; with_reducible rfl)); all_goals (intro hbr; first | exact absurd hbr (by decide) | ((try rw [hbr]); (try simp at hbr)))))
    rcases Int.lt_or_le 0 e with he | he
    · exact finds_e HH a b v sp e n he (by omega) ⟨f1, f2, f3⟩
    · have he0 : e = 0 := by omega
      subst he0
      exact finds_0 HH a b v hv sp n (by omega) (by omega) (by omega) (by omega) (by omega) ⟨f1, f2, f3⟩
end Rp
