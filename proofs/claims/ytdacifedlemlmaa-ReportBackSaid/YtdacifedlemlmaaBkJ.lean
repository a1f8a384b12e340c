/- BkJ: steps, walks, laws: see the remarks within. -/
import Derived.Test.YtdacifedlemlmaaBkI
import Derived.Test.YtdacifedlemlmaaBkG
set_option linter.unusedSimpArgs false
set_option linter.unusedVariables false
-- ReportBack: walked.
namespace Rp
open Go Ab Go.Proofs.Ytdacifedlemlmaa.Mach
variable {E : Env}

/-- What is not wide is small. -/
theorem small_of : ∀ v, ∀ d : Int, wideS v d = false → SmV v := by
  refine Va.ind fun v ih d h => ?_
  rw [wideS_eq] at h
  simp only [Bool.or_eq_false_iff, decide_eq_false_iff_not] at h
  obtain ⟨⟨_, h2⟩, h3⟩ := h
  refine smV.2 ⟨by omega, ?_⟩
  have key : ∀ l : List Va, (∀ x ∈ l, ∀ d, wideS x d = false → SmV x) → wideS.wideL l (d - 1) = false → ∀ x ∈ l, SmV x := by
    intro l
    induction l with
    | nil => intro _ _ x hx; cases hx
    | cons y l ihl =>
      intro ih h x hx
      simp only [wideS.wideL, Bool.or_eq_false_iff] at h
      rcases List.mem_cons.1 hx with rfl | hx
      · exact ih x (by simp) _ h.1
      · exact ihl (fun z hz => ih z (by simp [hz])) h.2 x hx
  exact key v.l ih h3

structure HasBk (E : Env) : Prop where
  g : HasGt E
  sa : HasSa E
  law : Has E 8 c8
  rawake : E.raw 12 = false
  awake : limP E 12 [] = some [.bool true]
  wide : Has E 13 c13
  rsame : Has E 32 c32
  rof : Has E 34 c34
  vof : Has E 64 c64

def boxR (x : Re) : List V := [.pv (.int .i64 x.e), .pv (.int .i64 x.a), .pv (.int .i64 x.b), .pv (.sl (x.sp.map encS)), .pv (.int .i64 x.v.k), .pv (.int .u8 x.v.b), .pv (.sl (x.v.l.map encV)), .pv (.flt .f64 x.q)]

set_option maxHeartbeats 16000000 in
theorem back_ok (HH : HasBk E) (x y : Re) (bs : List Int) (hx : x.sp.length ≤ 9223372036854775807) (hfx : FineV x.v) (hqx : x.q < 2 ^ 64) (hy : y.sp.length ≤ 9223372036854775807) (hfy : FineV y.v) (hqy : y.q < 2 ^ 64) (hb : Byt bs) :
    limP E 8 [encX x, encX y, .sl (encB bs)] = some [.bool true] := by
  have H := HH.law
  have haw := HH.awake
  have hwx := wide_ok HH.wide x.v 60 (by omega) (by omega)
  have hwy := wide_ok HH.wide y.v 60 (by omega) (by omega)
  have hlx : (x.sp.map encS).length = x.sp.length := by simp
  have hly : (y.sp.map encS).length = y.sp.length := by simp
  have hlb := encB_len bs
  have w1 : binA .gtr .no (.pv (.int .i64 (x.sp.length : Int))) (.pv (.int .i64 40)) = some (.pv (.bool (decide (40 < x.sp.length)))) := by
    by_cases h : 40 < x.sp.length <;> simp [binA, intBin, h] <;> omega
  have w2 : binA .gtr .no (.pv (.int .i64 (y.sp.length : Int))) (.pv (.int .i64 40)) = some (.pv (.bool (decide (40 < y.sp.length)))) := by
    by_cases h : 40 < y.sp.length <;> simp [binA, intBin, h] <;> omega
  have w3 : binA .gtr .no (.pv (.int .i64 (bs.length : Int))) (.pv (.int .i64 600)) = some (.pv (.bool (decide (600 < bs.length)))) := by
    by_cases h : 600 < bs.length <;> simp [binA, intBin, h] <;> omega
  rw [eV] at hwx hwy
  have hsx := small_of x.v 60
  have hsy := small_of y.v 60
  unfold encX encR
  generalize hp1 : wideS x.v 60 = p1 at hwx hsx
  generalize hp2 : wideS y.v 60 = p2 at hwy hsy
  generalize hp3 : decide (40 < x.sp.length) = p3 at w1
  generalize hp4 : decide (40 < y.sp.length) = p4 at w2
  generalize hp5 : decide (600 < bs.length) = p5 at w3
  by_cases hw : p1 = false ∧ p2 = false ∧ p3 = false ∧ p4 = false ∧ p5 = false
  case neg =>
    clear hsx hsy hp1 hp2 hp3 hp4 hp5
    refine H.limQ (Nat.le_of_ble_eq_true rfl) ?_; unfold c8
    cases p1 with
    | true =>
      (repeat' first
    | apply X.retS
    | apply X.skipS
    | apply X.skipB
    | apply X.skipL
    | (apply X.exitS; first | apply X.here | (refine X.out (by decide) ?_; apply X.here))
    | apply X.blockS
    | (apply X.condQ rfl; (focus (simp only [sub, subO, subL, subM, sub3, sub2, fk_some, fk_none, fk_arg0, fk_argS, fk_argN, fk_map0, fk_mapS, fk_mapN, reduceIte, Nat.reduceEqDiff, Nat.reduceAdd]; with_reducible rfl)); all_goals (intro hbr; first | exact absurd hbr (by decide) | ((try rw [hbr]); (try simp at hbr))))
    | apply X.stepZ
    | (apply X.stepQ rfl; (focus (simp only [sub, subO, subL, subM, sub3, sub2, fk_some, fk_none, fk_arg0, fk_argS, fk_argN, fk_map0, fk_mapS, fk_mapN, reduceIte, Nat.reduceEqDiff, Nat.reduceAdd]; with_reducible rfl)); (focus (simp [-getElem?_pos, -binA, HH.rawake, haw, HH.wide.raw, hwx, hwy, hlx, hly, hlb, w1, w2, w3]; with_reducible (first | rfl | exact ⟨rfl, rfl⟩))))
    | (apply X.stepNQ rfl; (focus (simp only [sub, subO, subL, subM, sub3, sub2, fk_some, fk_none, fk_arg0, fk_argS, fk_argN, fk_map0, fk_mapS, fk_mapN, reduceIte, Nat.reduceEqDiff, Nat.reduceAdd]; with_reducible rfl)))
    | ((first | apply X.stepGtQ rfl | apply X.stepGfQ rfl); (focus (simp only [sub, subO, subL, subM, sub3, sub2, fk_some, fk_none, fk_arg0, fk_argS, fk_argN, fk_map0, fk_mapS, fk_mapN, reduceIte, Nat.reduceEqDiff, Nat.reduceAdd]; with_reducible rfl)); all_goals (intro hbr; first | exact absurd hbr (by decide) | ((try rw [hbr]); (try simp at hbr)))))
      all_goals (refine Fin.mkQ rfl (by simp only [resS, sub, subO, subL, subM, sub3, sub2, fk_some, fk_none, fk_arg0, fk_argS, fk_argN, fk_map0, fk_mapS, fk_mapN, reduceIte, Nat.reduceEqDiff, Nat.reduceAdd]; with_reducible rfl) (by simp [oneOf, pureRes, snapFuel, snapL]; with_reducible rfl) ?_)
      all_goals rfl
    | false =>
    cases p2 with
    | true =>
      (repeat' first
    | apply X.retS
    | apply X.skipS
    | apply X.skipB
    | apply X.skipL
    | (apply X.exitS; first | apply X.here | (refine X.out (by decide) ?_; apply X.here))
    | apply X.blockS
    | (apply X.condQ rfl; (focus (simp only [sub, subO, subL, subM, sub3, sub2, fk_some, fk_none, fk_arg0, fk_argS, fk_argN, fk_map0, fk_mapS, fk_mapN, reduceIte, Nat.reduceEqDiff, Nat.reduceAdd]; with_reducible rfl)); all_goals (intro hbr; first | exact absurd hbr (by decide) | ((try rw [hbr]); (try simp at hbr))))
    | apply X.stepZ
    | (apply X.stepQ rfl; (focus (simp only [sub, subO, subL, subM, sub3, sub2, fk_some, fk_none, fk_arg0, fk_argS, fk_argN, fk_map0, fk_mapS, fk_mapN, reduceIte, Nat.reduceEqDiff, Nat.reduceAdd]; with_reducible rfl)); (focus (simp [-getElem?_pos, -binA, HH.rawake, haw, HH.wide.raw, hwx, hwy, hlx, hly, hlb, w1, w2, w3]; with_reducible (first | rfl | exact ⟨rfl, rfl⟩))))
    | (apply X.stepNQ rfl; (focus (simp only [sub, subO, subL, subM, sub3, sub2, fk_some, fk_none, fk_arg0, fk_argS, fk_argN, fk_map0, fk_mapS, fk_mapN, reduceIte, Nat.reduceEqDiff, Nat.reduceAdd]; with_reducible rfl)))
    | ((first | apply X.stepGtQ rfl | apply X.stepGfQ rfl); (focus (simp only [sub, subO, subL, subM, sub3, sub2, fk_some, fk_none, fk_arg0, fk_argS, fk_argN, fk_map0, fk_mapS, fk_mapN, reduceIte, Nat.reduceEqDiff, Nat.reduceAdd]; with_reducible rfl)); all_goals (intro hbr; first | exact absurd hbr (by decide) | ((try rw [hbr]); (try simp at hbr)))))
      all_goals (refine Fin.mkQ rfl (by simp only [resS, sub, subO, subL, subM, sub3, sub2, fk_some, fk_none, fk_arg0, fk_argS, fk_argN, fk_map0, fk_mapS, fk_mapN, reduceIte, Nat.reduceEqDiff, Nat.reduceAdd]; with_reducible rfl) (by simp [oneOf, pureRes, snapFuel, snapL]; with_reducible rfl) ?_)
      all_goals rfl
    | false =>
    cases p3 with
    | true =>
      (repeat' first
    | apply X.retS
    | apply X.skipS
    | apply X.skipB
    | apply X.skipL
    | (apply X.exitS; first | apply X.here | (refine X.out (by decide) ?_; apply X.here))
    | apply X.blockS
    | (apply X.condQ rfl; (focus (simp only [sub, subO, subL, subM, sub3, sub2, fk_some, fk_none, fk_arg0, fk_argS, fk_argN, fk_map0, fk_mapS, fk_mapN, reduceIte, Nat.reduceEqDiff, Nat.reduceAdd]; with_reducible rfl)); all_goals (intro hbr; first | exact absurd hbr (by decide) | ((try rw [hbr]); (try simp at hbr))))
    | apply X.stepZ
    | (apply X.stepQ rfl; (focus (simp only [sub, subO, subL, subM, sub3, sub2, fk_some, fk_none, fk_arg0, fk_argS, fk_argN, fk_map0, fk_mapS, fk_mapN, reduceIte, Nat.reduceEqDiff, Nat.reduceAdd]; with_reducible rfl)); (focus (simp [-getElem?_pos, -binA, HH.rawake, haw, HH.wide.raw, hwx, hwy, hlx, hly, hlb, w1, w2, w3]; with_reducible (first | rfl | exact ⟨rfl, rfl⟩))))
    | (apply X.stepNQ rfl; (focus (simp only [sub, subO, subL, subM, sub3, sub2, fk_some, fk_none, fk_arg0, fk_argS, fk_argN, fk_map0, fk_mapS, fk_mapN, reduceIte, Nat.reduceEqDiff, Nat.reduceAdd]; with_reducible rfl)))
    | ((first | apply X.stepGtQ rfl | apply X.stepGfQ rfl); (focus (simp only [sub, subO, subL, subM, sub3, sub2, fk_some, fk_none, fk_arg0, fk_argS, fk_argN, fk_map0, fk_mapS, fk_mapN, reduceIte, Nat.reduceEqDiff, Nat.reduceAdd]; with_reducible rfl)); all_goals (intro hbr; first | exact absurd hbr (by decide) | ((try rw [hbr]); (try simp at hbr)))))
      all_goals (refine Fin.mkQ rfl (by simp only [resS, sub, subO, subL, subM, sub3, sub2, fk_some, fk_none, fk_arg0, fk_argS, fk_argN, fk_map0, fk_mapS, fk_mapN, reduceIte, Nat.reduceEqDiff, Nat.reduceAdd]; with_reducible rfl) (by simp [oneOf, pureRes, snapFuel, snapL]; with_reducible rfl) ?_)
      all_goals rfl
    | false =>
    cases p4 with
    | true =>
      (repeat' first
    | apply X.retS
    | apply X.skipS
    | apply X.skipB
    | apply X.skipL
    | (apply X.exitS; first | apply X.here | (refine X.out (by decide) ?_; apply X.here))
    | apply X.blockS
    | (apply X.condQ rfl; (focus (simp only [sub, subO, subL, subM, sub3, sub2, fk_some, fk_none, fk_arg0, fk_argS, fk_argN, fk_map0, fk_mapS, fk_mapN, reduceIte, Nat.reduceEqDiff, Nat.reduceAdd]; with_reducible rfl)); all_goals (intro hbr; first | exact absurd hbr (by decide) | ((try rw [hbr]); (try simp at hbr))))
    | apply X.stepZ
    | (apply X.stepQ rfl; (focus (simp only [sub, subO, subL, subM, sub3, sub2, fk_some, fk_none, fk_arg0, fk_argS, fk_argN, fk_map0, fk_mapS, fk_mapN, reduceIte, Nat.reduceEqDiff, Nat.reduceAdd]; with_reducible rfl)); (focus (simp [-getElem?_pos, -binA, HH.rawake, haw, HH.wide.raw, hwx, hwy, hlx, hly, hlb, w1, w2, w3]; with_reducible (first | rfl | exact ⟨rfl, rfl⟩))))
    | (apply X.stepNQ rfl; (focus (simp only [sub, subO, subL, subM, sub3, sub2, fk_some, fk_none, fk_arg0, fk_argS, fk_argN, fk_map0, fk_mapS, fk_mapN, reduceIte, Nat.reduceEqDiff, Nat.reduceAdd]; with_reducible rfl)))
    | ((first | apply X.stepGtQ rfl | apply X.stepGfQ rfl); (focus (simp only [sub, subO, subL, subM, sub3, sub2, fk_some, fk_none, fk_arg0, fk_argS, fk_argN, fk_map0, fk_mapS, fk_mapN, reduceIte, Nat.reduceEqDiff, Nat.reduceAdd]; with_reducible rfl)); all_goals (intro hbr; first | exact absurd hbr (by decide) | ((try rw [hbr]); (try simp at hbr)))))
      all_goals (refine Fin.mkQ rfl (by simp only [resS, sub, subO, subL, subM, sub3, sub2, fk_some, fk_none, fk_arg0, fk_argS, fk_argN, fk_map0, fk_mapS, fk_mapN, reduceIte, Nat.reduceEqDiff, Nat.reduceAdd]; with_reducible rfl) (by simp [oneOf, pureRes, snapFuel, snapL]; with_reducible rfl) ?_)
      all_goals rfl
    | false =>
    cases p5 with
    | true =>
      (repeat' first
    | apply X.retS
    | apply X.skipS
    | apply X.skipB
    | apply X.skipL
    | (apply X.exitS; first | apply X.here | (refine X.out (by decide) ?_; apply X.here))
    | apply X.blockS
    | (apply X.condQ rfl; (focus (simp only [sub, subO, subL, subM, sub3, sub2, fk_some, fk_none, fk_arg0, fk_argS, fk_argN, fk_map0, fk_mapS, fk_mapN, reduceIte, Nat.reduceEqDiff, Nat.reduceAdd]; with_reducible rfl)); all_goals (intro hbr; first | exact absurd hbr (by decide) | ((try rw [hbr]); (try simp at hbr))))
    | apply X.stepZ
    | (apply X.stepQ rfl; (focus (simp only [sub, subO, subL, subM, sub3, sub2, fk_some, fk_none, fk_arg0, fk_argS, fk_argN, fk_map0, fk_mapS, fk_mapN, reduceIte, Nat.reduceEqDiff, Nat.reduceAdd]; with_reducible rfl)); (focus (simp [-getElem?_pos, -binA, HH.rawake, haw, HH.wide.raw, hwx, hwy, hlx, hly, hlb, w1, w2, w3]; with_reducible (first | rfl | exact ⟨rfl, rfl⟩))))
    | (apply X.stepNQ rfl; (focus (simp only [sub, subO, subL, subM, sub3, sub2, fk_some, fk_none, fk_arg0, fk_argS, fk_argN, fk_map0, fk_mapS, fk_mapN, reduceIte, Nat.reduceEqDiff, Nat.reduceAdd]; with_reducible rfl)))
    | ((first | apply X.stepGtQ rfl | apply X.stepGfQ rfl); (focus (simp only [sub, subO, subL, subM, sub3, sub2, fk_some, fk_none, fk_arg0, fk_argS, fk_argN, fk_map0, fk_mapS, fk_mapN, reduceIte, Nat.reduceEqDiff, Nat.reduceAdd]; with_reducible rfl)); all_goals (intro hbr; first | exact absurd hbr (by decide) | ((try rw [hbr]); (try simp at hbr)))))
      all_goals (refine Fin.mkQ rfl (by simp only [resS, sub, subO, subL, subM, sub3, sub2, fk_some, fk_none, fk_arg0, fk_argS, fk_argN, fk_map0, fk_mapS, fk_mapN, reduceIte, Nat.reduceEqDiff, Nat.reduceAdd]; with_reducible rfl) (by simp [oneOf, pureRes, snapFuel, snapL]; with_reducible rfl) ?_)
      all_goals rfl
    | false => exact absurd ⟨rfl, rfl, rfl, rfl, rfl⟩ hw
  obtain ⟨rfl, rfl, rfl, rfl, rfl⟩ := hw
  simp only [decide_eq_false_iff_not] at hp3 hp4 hp5
  have sx := hsx rfl
  have sy := hsy rfl
  clear hsx hsy hp1 hp2
  have hgx := good_ok HH.g.u.g x.e x.a x.b x.sp x.v x.q hx hfx
  have hgy := good_ok HH.g.u.g y.e y.a y.b y.sp y.v y.q hy hfy
  have egx : goodS x.e x.a x.b x.sp x.v x.q = goodX x := rfl
  have egy : goodS y.e y.a y.b y.sp y.v y.q = goodX y := rfl
  rw [egx] at hgx
  rw [egy] at hgy
  have e8 : ∀ z : Re, encR z.e z.a z.b z.sp z.v z.q = .agg [.int .i64 z.e, .int .i64 z.a, .int .i64 z.b, .sl (z.sp.map encS), .int .i64 z.v.k, .int .u8 z.v.b, .sl (z.v.l.map encV), .flt .f64 z.q] := fun _ => rfl
  have e9 : ∀ z : Re, encX z = .agg [.int .i64 z.e, .int .i64 z.a, .int .i64 z.b, .sl (z.sp.map encS), .int .i64 z.v.k, .int .u8 z.v.b, .sl (z.v.l.map encV), .flt .f64 z.q] := fun _ => rfl
  rw [e8] at hgx hgy
  refine H.limQ (Nat.le_of_ble_eq_true rfl) ?_; unfold c8
  (repeat' first
    | apply X.retS
    | apply X.skipS
    | apply X.skipB
    | apply X.skipL
    | (apply X.exitS; first | apply X.here | (refine X.out (by decide) ?_; apply X.here))
    | apply X.blockS
    | (apply X.condQ rfl; (focus (simp only [sub, subO, subL, subM, sub3, sub2, fk_some, fk_none, fk_arg0, fk_argS, fk_argN, fk_map0, fk_mapS, fk_mapN, reduceIte, Nat.reduceEqDiff, Nat.reduceAdd]; with_reducible rfl)); all_goals (intro hbr; first | exact absurd hbr (by decide) | ((try rw [hbr]); (try simp at hbr))))
    | apply X.stepZ
    | (apply X.stepQ rfl; (focus (simp only [sub, subO, subL, subM, sub3, sub2, fk_some, fk_none, fk_arg0, fk_argS, fk_argN, fk_map0, fk_mapS, fk_mapN, reduceIte, Nat.reduceEqDiff, Nat.reduceAdd]; with_reducible rfl)); (focus (simp [-getElem?_pos, -binA, HH.rawake, haw, HH.wide.raw, hwx, hwy, hlx, hly, hlb, w1, w2, w3]; with_reducible (first | rfl | exact ⟨rfl, rfl⟩))))
    | (apply X.stepNQ rfl; (focus (simp only [sub, subO, subL, subM, sub3, sub2, fk_some, fk_none, fk_arg0, fk_argS, fk_argN, fk_map0, fk_mapS, fk_mapN, reduceIte, Nat.reduceEqDiff, Nat.reduceAdd]; with_reducible rfl)))
    | ((first | apply X.stepGtQ rfl | apply X.stepGfQ rfl); (focus (simp only [sub, subO, subL, subM, sub3, sub2, fk_some, fk_none, fk_arg0, fk_argS, fk_argN, fk_map0, fk_mapS, fk_mapN, reduceIte, Nat.reduceEqDiff, Nat.reduceAdd]; with_reducible rfl)); all_goals (intro hbr; first | exact absurd hbr (by decide) | ((try rw [hbr]); (try simp at hbr)))))
  clear w1 w2 w3 hwx hwy haw hlx hly hlb
  (first
    | apply X.retS
    | apply X.skipS
    | apply X.skipB
    | apply X.skipL
    | (apply X.exitS; first | apply X.here | (refine X.out (by decide) ?_; apply X.here))
    | apply X.blockS
    | (apply X.condQ rfl; (focus (simp only [sub, subO, subL, subM, sub3, sub2, fk_some, fk_none, fk_arg0, fk_argS, fk_argN, fk_map0, fk_mapS, fk_mapN, reduceIte, Nat.reduceEqDiff, Nat.reduceAdd]; with_reducible rfl)); all_goals (intro hbr; first | exact absurd hbr (by decide) | ((try rw [hbr]); (try simp at hbr))))
    | apply X.stepZ
    | (apply X.stepQ rfl; (focus (simp only [sub, subO, subL, subM, sub3, sub2, fk_some, fk_none, fk_arg0, fk_argS, fk_argN, fk_map0, fk_mapS, fk_mapN, reduceIte, Nat.reduceEqDiff, Nat.reduceAdd]; with_reducible rfl)); (focus (simp [-getElem?_pos, HH.g.u.rg, hgx]; with_reducible (first | rfl | exact ⟨rfl, rfl⟩))))
    | (apply X.stepNQ rfl; (focus (simp only [sub, subO, subL, subM, sub3, sub2, fk_some, fk_none, fk_arg0, fk_argS, fk_argN, fk_map0, fk_mapS, fk_mapN, reduceIte, Nat.reduceEqDiff, Nat.reduceAdd]; with_reducible rfl)))
    | ((first | apply X.stepGtQ rfl | apply X.stepGfQ rfl); (focus (simp only [sub, subO, subL, subM, sub3, sub2, fk_some, fk_none, fk_arg0, fk_argS, fk_argN, fk_map0, fk_mapS, fk_mapN, reduceIte, Nat.reduceEqDiff, Nat.reduceAdd]; with_reducible rfl)); all_goals (intro hbr; first | exact absurd hbr (by decide) | ((try rw [hbr]); (try simp at hbr)))))
  refine X.stepZ ?_
  refine X.midQ (fun st => ∃ (hh : Heap) (f : Nat → V), (fk (Fk.mk (f := f)) 2 = .pv (.sl (encB bs))) ∧ st = ⟨TL 94 f, hh⟩) ?_ ?_
  · generalize hgd : goodX x = gx at hgx
    cases gx with
    | false =>
      (repeat' first
    | apply X.retS
    | apply X.skipS
    | apply X.skipB
    | apply X.skipL
    | (apply X.exitS; first | apply X.here | (refine X.out (by decide) ?_; apply X.here))
    | apply X.blockS
    | (apply X.condQ rfl; (focus (simp only [sub, subO, subL, subM, sub3, sub2, fk_some, fk_none, fk_arg0, fk_argS, fk_argN, fk_map0, fk_mapS, fk_mapN, reduceIte, Nat.reduceEqDiff, Nat.reduceAdd]; with_reducible rfl)); all_goals (intro hbr; first | exact absurd hbr (by decide) | ((try rw [hbr]); (try simp at hbr))))
    | apply X.stepZ
    | (apply X.stepQ rfl; (focus (simp only [sub, subO, subL, subM, sub3, sub2, fk_some, fk_none, fk_arg0, fk_argS, fk_argN, fk_map0, fk_mapS, fk_mapN, reduceIte, Nat.reduceEqDiff, Nat.reduceAdd]; with_reducible rfl)); (focus (simp [-getElem?_pos]; with_reducible (first | rfl | exact ⟨rfl, rfl⟩))))
    | (apply X.stepNQ rfl; (focus (simp only [sub, subO, subL, subM, sub3, sub2, fk_some, fk_none, fk_arg0, fk_argS, fk_argN, fk_map0, fk_mapS, fk_mapN, reduceIte, Nat.reduceEqDiff, Nat.reduceAdd]; with_reducible rfl)))
    | ((first | apply X.stepGtQ rfl | apply X.stepGfQ rfl); (focus (simp only [sub, subO, subL, subM, sub3, sub2, fk_some, fk_none, fk_arg0, fk_argS, fk_argN, fk_map0, fk_mapS, fk_mapN, reduceIte, Nat.reduceEqDiff, Nat.reduceAdd]; with_reducible rfl)); all_goals (intro hbr; first | exact absurd hbr (by decide) | ((try rw [hbr]); (try simp at hbr)))))
      exact ⟨_, _, by simp, rfl⟩
    | true =>
    obtain ⟨z, hz1, hz2⟩ := get_back hgd hfx hqx
    obtain ⟨gz1, gz2, gz3⟩ := get_good hz1
    have hzs : z.sp = x.sp := hz2.2.2.2.1
    have hzv : z.v = x.v := hz2.2.2.2.2.1
    have hpx := Put_pure HH.g.putc HH.g.u x.e x.a x.b x.sp x.v x.q hx hfx
    have epx : putS x.e x.a x.b x.sp x.v x.q = putX x := rfl
    rw [e8, epx] at hpx
    have hgt := get_ok HH.g (putX x) (byt_putS hfx)
    rw [hz1] at hgt
    have r1 := reportof_ok HH.rof HH.vof z (by rw [hzs]; omega) (by rw [hzv]; exact sx)
    have r2 := reportof_ok HH.rof HH.vof x (by omega) sx
    have r3 := reportof_ok HH.rof HH.vof y (by omega) sy
    have s1 := same_alike HH.sa z x (by rw [hzs]; exact hx) (by rw [hzv]; exact hfx) gz3 hqx
    rw [alikeB_iff.2 hz2] at s1
    have t1 := rsame_pure HH.g HH.rsame HH.g.o.eq z x (by rw [hzs]; exact hx) (by rw [hzv]; exact hfx) hx hfx
    rw [gz1, hgd, decide_eq_true gz2] at t1
    simp only [Bool.and_true] at t1
    have s2 := same_alike HH.sa x y hx hfx hqx hqy
    have t2 := rsame_pure HH.g HH.rsame HH.g.o.eq x y hx hfx hy hfy
    rw [hgd, Bool.true_and] at t2
    have hst : goodX y = true → decide (putX x = putX y) = alikeB x y := fun h => by
      rw [Bool.eq_iff_iff, decide_eq_true_iff, alikeB_iff]
      exact put_inj hgd h hfx hfy hqx hqy
    dsimp only at hgt
    rw [e9] at hgt r1 r2 r3 s1 s2 t1 t2
    try rw [e9 x] at s1 t1
    try rw [e9 y] at s2 t2
    generalize encB (putX x) = P at hpx hgt
    (repeat' first
    | apply X.retS
    | apply X.skipS
    | apply X.skipB
    | apply X.skipL
    | (apply X.exitS; first | apply X.here | (refine X.out (by decide) ?_; apply X.here))
    | apply X.blockS
    | (apply X.condQ rfl; (focus (simp only [sub, subO, subL, subM, sub3, sub2, fk_some, fk_none, fk_arg0, fk_argS, fk_argN, fk_map0, fk_mapS, fk_mapN, reduceIte, Nat.reduceEqDiff, Nat.reduceAdd]; with_reducible rfl)); all_goals (intro hbr; first | exact absurd hbr (by decide) | ((try rw [hbr]); (try simp at hbr))))
    | apply X.stepZ
    | (apply X.stepQ rfl; (focus (simp only [sub, subO, subL, subM, sub3, sub2, fk_some, fk_none, fk_arg0, fk_argS, fk_argN, fk_map0, fk_mapS, fk_mapN, reduceIte, Nat.reduceEqDiff, Nat.reduceAdd]; with_reducible rfl)); (focus (simp [-getElem?_pos, HH.g.rput, hpx, HH.g.get.raw, hgt]; with_reducible (first | rfl | exact ⟨rfl, rfl⟩))))
    | (apply X.stepNQ rfl; (focus (simp only [sub, subO, subL, subM, sub3, sub2, fk_some, fk_none, fk_arg0, fk_argS, fk_argN, fk_map0, fk_mapS, fk_mapN, reduceIte, Nat.reduceEqDiff, Nat.reduceAdd]; with_reducible rfl)))
    | ((first | apply X.stepGtQ rfl | apply X.stepGfQ rfl); (focus (simp only [sub, subO, subL, subM, sub3, sub2, fk_some, fk_none, fk_arg0, fk_argS, fk_argN, fk_map0, fk_mapS, fk_mapN, reduceIte, Nat.reduceEqDiff, Nat.reduceAdd]; with_reducible rfl)); all_goals (intro hbr; first | exact absurd hbr (by decide) | ((try rw [hbr]); (try simp at hbr)))))
    refine X.abs2 (fun st => ∃ (f : Nat → V), (fk (Fk.mk (f := f)) 2 = .pv (.sl (encB bs)) ∧ fk (Fk.mk (f := f)) 3 = .ptr 0 0 ∧ fk (Fk.mk (f := f)) 4 = .ptr 1 0 ∧ fk (Fk.mk (f := f)) 7 = .ptr 2 0 ∧ fk (Fk.mk (f := f)) 8 = .pv (.int .i64 0)) ∧ st = ⟨TL 94 f, [.blk (boxR x) none, .blk (boxR y) none, .blk (boxR z) (some 33)]⟩) ?_ ?_
    · exact ⟨_, by simp, rfl⟩
    rintro st ⟨f, ⟨f2, f3, f4, f7, f8⟩, rfl⟩
    unfold boxR
    clear hgt hpx
    generalize goodX y = gy at hgy t2 hst
    cases gy with
    | false =>
      (repeat' first
    | apply X.retS
    | apply X.skipS
    | apply X.skipB
    | apply X.skipL
    | (apply X.exitS; first | apply X.here | (refine X.out (by decide) ?_; apply X.here))
    | apply X.blockS
    | (apply X.condQ rfl; (focus (simp only [sub, subO, subL, subM, sub3, sub2, fk_some, fk_none, fk_arg0, fk_argS, fk_argN, fk_map0, fk_mapS, fk_mapN, reduceIte, Nat.reduceEqDiff, Nat.reduceAdd, f2, f3, f4, f7, f8]; with_reducible rfl)); all_goals (intro hbr; first | exact absurd hbr (by decide) | ((try rw [hbr]); (try simp at hbr))))
    | apply X.stepZ
    | (apply X.stepQ rfl; (focus (simp only [sub, subO, subL, subM, sub3, sub2, fk_some, fk_none, fk_arg0, fk_argS, fk_argN, fk_map0, fk_mapS, fk_mapN, reduceIte, Nat.reduceEqDiff, Nat.reduceAdd, f2, f3, f4, f7, f8]; with_reducible rfl)); (focus (simp [-getElem?_pos, HH.rof.raw, r1, r2, HH.sa.same.raw, s1, HH.rsame.raw, t1, HH.g.u.rg, hgy]; with_reducible (first | rfl | exact ⟨rfl, rfl⟩))))
    | (apply X.stepNQ rfl; (focus (simp only [sub, subO, subL, subM, sub3, sub2, fk_some, fk_none, fk_arg0, fk_argS, fk_argN, fk_map0, fk_mapS, fk_mapN, reduceIte, Nat.reduceEqDiff, Nat.reduceAdd, f2, f3, f4, f7, f8]; with_reducible rfl)))
    | ((first | apply X.stepGtQ rfl | apply X.stepGfQ rfl); (focus (simp only [sub, subO, subL, subM, sub3, sub2, fk_some, fk_none, fk_arg0, fk_argS, fk_argN, fk_map0, fk_mapS, fk_mapN, reduceIte, Nat.reduceEqDiff, Nat.reduceAdd, f2, f3, f4, f7, f8]; with_reducible rfl)); all_goals (intro hbr; first | exact absurd hbr (by decide) | ((try rw [hbr]); (try simp at hbr))))
    | (apply X.draw0; (focus rfl))
    | (apply X.drawH0; (focus rfl))
    | apply XD.nil
    | (apply XD.calmQ rfl rfl; (focus (simp only [sub, subO, subL, subM, sub3, sub2, fk_some, fk_none, fk_arg0, fk_argS, fk_argN, fk_map0, fk_mapS, fk_mapN, reduceIte, Nat.reduceEqDiff, Nat.reduceAdd, f2, f3, f4, f7, f8]; with_reducible rfl)); (focus (simp [-getElem?_pos, HH.rof.raw, r1, r2, HH.sa.same.raw, s1, HH.rsame.raw, t1, HH.g.u.rg, hgy]; with_reducible (first | rfl | exact ⟨rfl, rfl⟩))))
    | (apply XD.callQ rfl; (focus (simp only [sub, subO, subL, subM, sub3, sub2, fk_some, fk_none, fk_arg0, fk_argS, fk_argN, fk_map0, fk_mapS, fk_mapN, reduceIte, Nat.reduceEqDiff, Nat.reduceAdd, f2, f3, f4, f7, f8]; simp; with_reducible rfl)); (focus (simp; with_reducible rfl)); (focus (simp [-getElem?_pos, HH.rof.raw, r1, r2, HH.sa.same.raw, s1, HH.rsame.raw, t1, HH.g.u.rg, hgy]; done)); (focus (simp [-getElem?_pos, HH.rof.raw, r1, r2, HH.sa.same.raw, s1, HH.rsame.raw, t1, HH.g.u.rg, hgy]; with_reducible rfl)))
    | (apply XD.callSQ rfl; (focus (simp only [sub, subO, subL, subM, sub3, sub2, fk_some, fk_none, fk_arg0, fk_argS, fk_argN, fk_map0, fk_mapS, fk_mapN, reduceIte, Nat.reduceEqDiff, Nat.reduceAdd, f2, f3, f4, f7, f8]; simp; with_reducible rfl)); (focus (simp [V.ids, V.ids.idsL]; done)); (focus (intro hh0; simp [snapL_eq, snapLF, snap_pv, snap_nils, snap_slx]; with_reducible rfl)); (focus (simp [-getElem?_pos, HH.rof.raw, r1, r2, HH.sa.same.raw, s1, HH.rsame.raw, t1, HH.g.u.rg, hgy]; done)); (focus (simp [-getElem?_pos, HH.rof.raw, r1, r2, HH.sa.same.raw, s1, HH.rsame.raw, t1, HH.g.u.rg, hgy]; with_reducible rfl)))
    | (apply XD.stepNQ rfl; (focus (simp only [sub, subO, subL, subM, sub3, sub2, fk_some, fk_none, fk_arg0, fk_argS, fk_argN, fk_map0, fk_mapS, fk_mapN, reduceIte, Nat.reduceEqDiff, Nat.reduceAdd, f2, f3, f4, f7, f8]; with_reducible rfl)))
    | ((first | apply XD.stepGtQ rfl | apply XD.stepGfQ rfl); (focus (simp only [sub, subO, subL, subM, sub3, sub2, fk_some, fk_none, fk_arg0, fk_argS, fk_argN, fk_map0, fk_mapS, fk_mapN, reduceIte, Nat.reduceEqDiff, Nat.reduceAdd, f2, f3, f4, f7, f8]; with_reducible rfl)); all_goals (intro hbr; first | exact absurd hbr (by decide) | ((try rw [hbr]); (try simp at hbr))))
    | (apply XD.loudQ rfl; (focus (simp only [sub, subO, subL, subM, sub3, sub2, fk_some, fk_none, fk_arg0, fk_argS, fk_argN, fk_map0, fk_mapS, fk_mapN, reduceIte, Nat.reduceEqDiff, Nat.reduceAdd, f2, f3, f4, f7, f8]; with_reducible rfl)); (focus (simp; with_reducible rfl)); (focus (simp [-getElem?_pos, HH.rof.raw, r1, r2, HH.sa.same.raw, s1, HH.rsame.raw, t1, HH.g.u.rg, hgy]; with_reducible (first | rfl | exact ⟨rfl, rfl⟩))); (focus (simp; done)); (focus (simp [-getElem?_pos, HH.rof.raw, r1, r2, HH.sa.same.raw, s1, HH.rsame.raw, t1, HH.g.u.rg, hgy]; with_reducible rfl))))
      exact ⟨_, _, by simp [f2], rfl⟩
    | true =>
      rw [hst rfl, Bool.true_and] at t2
      clear hst
      generalize alikeB x y = gb at t2 s2
      have w9 : binA .neq .bool (.pv (.bool gb)) (.pv (.bool gb)) = some (.pv (.bool false)) := by cases gb <;> rfl
      have w8 : binA .neq .no (.pv (.int .i64 0)) (.pv (.int .i64 0)) = some (.pv (.bool false)) := rfl
      (repeat' first
    | apply X.retS
    | apply X.skipS
    | apply X.skipB
    | apply X.skipL
    | (apply X.exitS; first | apply X.here | (refine X.out (by decide) ?_; apply X.here))
    | apply X.blockS
    | (apply X.condQ rfl; (focus (simp only [sub, subO, subL, subM, sub3, sub2, fk_some, fk_none, fk_arg0, fk_argS, fk_argN, fk_map0, fk_mapS, fk_mapN, reduceIte, Nat.reduceEqDiff, Nat.reduceAdd, f2, f3, f4, f7, f8]; with_reducible rfl)); all_goals (intro hbr; first | exact absurd hbr (by decide) | ((try rw [hbr]); (try simp at hbr))))
    | apply X.stepZ
    | (apply X.stepQ rfl; (focus (simp only [sub, subO, subL, subM, sub3, sub2, fk_some, fk_none, fk_arg0, fk_argS, fk_argN, fk_map0, fk_mapS, fk_mapN, reduceIte, Nat.reduceEqDiff, Nat.reduceAdd, f2, f3, f4, f7, f8]; with_reducible rfl)); (focus (simp [-getElem?_pos, -binA, w8, w9, HH.rof.raw, r1, r2, r3, HH.sa.same.raw, s1, s2, HH.rsame.raw, t1, t2, HH.g.u.rg, hgy]; with_reducible (first | rfl | exact ⟨rfl, rfl⟩))))
    | (apply X.stepNQ rfl; (focus (simp only [sub, subO, subL, subM, sub3, sub2, fk_some, fk_none, fk_arg0, fk_argS, fk_argN, fk_map0, fk_mapS, fk_mapN, reduceIte, Nat.reduceEqDiff, Nat.reduceAdd, f2, f3, f4, f7, f8]; with_reducible rfl)))
    | ((first | apply X.stepGtQ rfl | apply X.stepGfQ rfl); (focus (simp only [sub, subO, subL, subM, sub3, sub2, fk_some, fk_none, fk_arg0, fk_argS, fk_argN, fk_map0, fk_mapS, fk_mapN, reduceIte, Nat.reduceEqDiff, Nat.reduceAdd, f2, f3, f4, f7, f8]; with_reducible rfl)); all_goals (intro hbr; first | exact absurd hbr (by decide) | ((try rw [hbr]); (try simp at hbr))))
    | (apply X.draw0; (focus rfl))
    | (apply X.drawH0; (focus rfl))
    | apply XD.nil
    | (apply XD.calmQ rfl rfl; (focus (simp only [sub, subO, subL, subM, sub3, sub2, fk_some, fk_none, fk_arg0, fk_argS, fk_argN, fk_map0, fk_mapS, fk_mapN, reduceIte, Nat.reduceEqDiff, Nat.reduceAdd, f2, f3, f4, f7, f8]; with_reducible rfl)); (focus (simp [-getElem?_pos, -binA, w8, w9, HH.rof.raw, r1, r2, r3, HH.sa.same.raw, s1, s2, HH.rsame.raw, t1, t2, HH.g.u.rg, hgy]; with_reducible (first | rfl | exact ⟨rfl, rfl⟩))))
    | (apply XD.callQ rfl; (focus (simp only [sub, subO, subL, subM, sub3, sub2, fk_some, fk_none, fk_arg0, fk_argS, fk_argN, fk_map0, fk_mapS, fk_mapN, reduceIte, Nat.reduceEqDiff, Nat.reduceAdd, f2, f3, f4, f7, f8]; simp; with_reducible rfl)); (focus (simp; with_reducible rfl)); (focus (simp [-getElem?_pos, -binA, w8, w9, HH.rof.raw, r1, r2, r3, HH.sa.same.raw, s1, s2, HH.rsame.raw, t1, t2, HH.g.u.rg, hgy]; done)); (focus (simp [-getElem?_pos, -binA, w8, w9, HH.rof.raw, r1, r2, r3, HH.sa.same.raw, s1, s2, HH.rsame.raw, t1, t2, HH.g.u.rg, hgy]; with_reducible rfl)))
    | (apply XD.callSQ rfl; (focus (simp only [sub, subO, subL, subM, sub3, sub2, fk_some, fk_none, fk_arg0, fk_argS, fk_argN, fk_map0, fk_mapS, fk_mapN, reduceIte, Nat.reduceEqDiff, Nat.reduceAdd, f2, f3, f4, f7, f8]; simp; with_reducible rfl)); (focus (simp [V.ids, V.ids.idsL]; done)); (focus (intro hh0; simp [snapL_eq, snapLF, snap_pv, snap_nils, snap_slx]; with_reducible rfl)); (focus (simp [-getElem?_pos, -binA, w8, w9, HH.rof.raw, r1, r2, r3, HH.sa.same.raw, s1, s2, HH.rsame.raw, t1, t2, HH.g.u.rg, hgy]; done)); (focus (simp [-getElem?_pos, -binA, w8, w9, HH.rof.raw, r1, r2, r3, HH.sa.same.raw, s1, s2, HH.rsame.raw, t1, t2, HH.g.u.rg, hgy]; with_reducible rfl)))
    | (apply XD.stepNQ rfl; (focus (simp only [sub, subO, subL, subM, sub3, sub2, fk_some, fk_none, fk_arg0, fk_argS, fk_argN, fk_map0, fk_mapS, fk_mapN, reduceIte, Nat.reduceEqDiff, Nat.reduceAdd, f2, f3, f4, f7, f8]; with_reducible rfl)))
    | ((first | apply XD.stepGtQ rfl | apply XD.stepGfQ rfl); (focus (simp only [sub, subO, subL, subM, sub3, sub2, fk_some, fk_none, fk_arg0, fk_argS, fk_argN, fk_map0, fk_mapS, fk_mapN, reduceIte, Nat.reduceEqDiff, Nat.reduceAdd, f2, f3, f4, f7, f8]; with_reducible rfl)); all_goals (intro hbr; first | exact absurd hbr (by decide) | ((try rw [hbr]); (try simp at hbr))))
    | (apply XD.loudQ rfl; (focus (simp only [sub, subO, subL, subM, sub3, sub2, fk_some, fk_none, fk_arg0, fk_argS, fk_argN, fk_map0, fk_mapS, fk_mapN, reduceIte, Nat.reduceEqDiff, Nat.reduceAdd, f2, f3, f4, f7, f8]; with_reducible rfl)); (focus (simp; with_reducible rfl)); (focus (simp [-getElem?_pos, -binA, w8, w9, HH.rof.raw, r1, r2, r3, HH.sa.same.raw, s1, s2, HH.rsame.raw, t1, t2, HH.g.u.rg, hgy]; with_reducible (first | rfl | exact ⟨rfl, rfl⟩))); (focus (simp; done)); (focus (simp [-getElem?_pos, -binA, w8, w9, HH.rof.raw, r1, r2, r3, HH.sa.same.raw, s1, s2, HH.rsame.raw, t1, t2, HH.g.u.rg, hgy]; with_reducible rfl))))
      exact ⟨_, _, by simp [f2], rfl⟩
  clear hgx hgy egx egy sx sy
  rintro st ⟨hh, f, f2, rfl⟩
  have hgt := get_ok HH.g bs hb
  rcases getR_cases hb with hz | ⟨z, hz, hz2, hz3, hz4⟩
  · rw [hz] at hgt
    dsimp only at hgt
    rw [e9] at hgt
    refine X.abs2 (fun st => ∃ (hh : Heap) (f : Nat → V), (fk (Fk.mk (f := f)) 2 = .pv (.sl (encB bs))) ∧ st = ⟨TL 94 f, hh⟩) ⟨_, _, f2, rfl⟩ ?_
    clear f2 f hh
    rintro st ⟨hh, f, f2, rfl⟩
    have w8 : binA .neq .no (.pv (.int .i64 2)) (.pv (.int .i64 0)) = some (.pv (.bool true)) := rfl
    (repeat' first
    | apply X.retS
    | apply X.skipS
    | apply X.skipB
    | apply X.skipL
    | (apply X.exitS; first | apply X.here | (refine X.out (by decide) ?_; apply X.here))
    | apply X.blockS
    | (apply X.condQ rfl; (focus (simp only [sub, subO, subL, subM, sub3, sub2, fk_some, fk_none, fk_arg0, fk_argS, fk_argN, fk_map0, fk_mapS, fk_mapN, reduceIte, Nat.reduceEqDiff, Nat.reduceAdd, f2]; with_reducible rfl)); all_goals (intro hbr; first | exact absurd hbr (by decide) | ((try rw [hbr]); (try simp at hbr))))
    | apply X.stepZ
    | (apply X.stepQ rfl; (focus (simp only [sub, subO, subL, subM, sub3, sub2, fk_some, fk_none, fk_arg0, fk_argS, fk_argN, fk_map0, fk_mapS, fk_mapN, reduceIte, Nat.reduceEqDiff, Nat.reduceAdd, f2]; with_reducible rfl)); (focus (simp [-getElem?_pos, HH.g.get.raw, hgt]; with_reducible (first | rfl | exact ⟨rfl, rfl⟩))))
    | (apply X.stepNQ rfl; (focus (simp only [sub, subO, subL, subM, sub3, sub2, fk_some, fk_none, fk_arg0, fk_argS, fk_argN, fk_map0, fk_mapS, fk_mapN, reduceIte, Nat.reduceEqDiff, Nat.reduceAdd, f2]; with_reducible rfl)))
    | ((first | apply X.stepGtQ rfl | apply X.stepGfQ rfl); (focus (simp only [sub, subO, subL, subM, sub3, sub2, fk_some, fk_none, fk_arg0, fk_argS, fk_argN, fk_map0, fk_mapS, fk_mapN, reduceIte, Nat.reduceEqDiff, Nat.reduceAdd, f2]; with_reducible rfl)); all_goals (intro hbr; first | exact absurd hbr (by decide) | ((try rw [hbr]); (try simp at hbr)))))
    refine X.drawP [] [] rfl ?_
    (repeat' first
    | apply XC.nil
    | (apply XC.calmQ rfl rfl rfl; (focus (simp only [sub, subO, subL, subM, sub3, sub2, fk_some, fk_none, fk_arg0, fk_argS, fk_argN, fk_map0, fk_mapS, fk_mapN, reduceIte, Nat.reduceEqDiff, Nat.reduceAdd, f2]; with_reducible rfl)); (focus (simp [-getElem?_pos, -binA, w8]; done)); (focus (simp [-getElem?_pos, -binA, w8]; with_reducible (first | rfl | exact ⟨rfl, rfl⟩))))
    | (apply XC.callP rfl; (focus (simp only [sub, subO, subL, subM, sub3, sub2, fk_some, fk_none, fk_arg0, fk_argS, fk_argN, fk_map0, fk_mapS, fk_mapN, reduceIte, Nat.reduceEqDiff, Nat.reduceAdd, f2]; simp; with_reducible rfl)); (focus (simp; with_reducible rfl)); (focus (simp [-getElem?_pos, -binA, w8]; done)); (focus (simp [-getElem?_pos, -binA, w8]; with_reducible rfl)))
    | (apply XC.convP rfl; (focus (simp only [sub, subO, subL, subM, sub3, sub2, fk_some, fk_none, fk_arg0, fk_argS, fk_argN, fk_map0, fk_mapS, fk_mapN, reduceIte, Nat.reduceEqDiff, Nat.reduceAdd, f2]; with_reducible rfl)); (focus (simp [foot, oIds, V.ids]; done)); (focus (simp [-getElem?_pos, -binA, w8]; with_reducible (first | rfl | exact ⟨rfl, rfl⟩))))
    | (apply XC.stepNQ rfl; (focus (simp only [sub, subO, subL, subM, sub3, sub2, fk_some, fk_none, fk_arg0, fk_argS, fk_argN, fk_map0, fk_mapS, fk_mapN, reduceIte, Nat.reduceEqDiff, Nat.reduceAdd, f2]; with_reducible rfl)))
    | ((first | apply XC.stepGtQ rfl | apply XC.stepGfQ rfl); (focus (simp only [sub, subO, subL, subM, sub3, sub2, fk_some, fk_none, fk_arg0, fk_argS, fk_argN, fk_map0, fk_mapS, fk_mapN, reduceIte, Nat.reduceEqDiff, Nat.reduceAdd, f2]; with_reducible rfl)); all_goals (intro hbr; first | exact absurd hbr (by decide) | ((try rw [hbr]); (try simp at hbr))))
    | (apply XC.makeQ rfl rfl rfl rfl; (focus (simp only [sub, subO, subL, subM, sub3, sub2, fk_some, fk_none, fk_arg0, fk_argS, fk_argN, fk_map0, fk_mapS, fk_mapN, reduceIte, Nat.reduceEqDiff, Nat.reduceAdd, f2]; with_reducible rfl)); (focus rfl); (focus (simp; done)); (focus (first | (simp; done) | (simp; omega))); (focus (simp [-getElem?_pos, -binA, w8]; with_reducible (first | rfl | exact ⟨rfl, rfl⟩))); (focus (simp; done)); (focus (simp [-getElem?_pos, -binA, w8]; with_reducible rfl))))
    (repeat' first
    | apply X.retS
    | apply X.skipS
    | apply X.skipB
    | apply X.skipL
    | (apply X.exitS; first | apply X.here | (refine X.out (by decide) ?_; apply X.here))
    | apply X.blockS
    | (apply X.condQ rfl; (focus (simp only [sub, subO, subL, subM, sub3, sub2, fk_some, fk_none, fk_arg0, fk_argS, fk_argN, fk_map0, fk_mapS, fk_mapN, reduceIte, Nat.reduceEqDiff, Nat.reduceAdd]; with_reducible rfl)); all_goals (intro hbr; first | exact absurd hbr (by decide) | ((try rw [hbr]); (try simp at hbr))))
    | apply X.stepZ
    | (apply X.stepQ rfl; (focus (simp only [sub, subO, subL, subM, sub3, sub2, fk_some, fk_none, fk_arg0, fk_argS, fk_argN, fk_map0, fk_mapS, fk_mapN, reduceIte, Nat.reduceEqDiff, Nat.reduceAdd]; with_reducible rfl)); (focus (simp [-getElem?_pos]; with_reducible (first | rfl | exact ⟨rfl, rfl⟩))))
    | (apply X.stepNQ rfl; (focus (simp only [sub, subO, subL, subM, sub3, sub2, fk_some, fk_none, fk_arg0, fk_argS, fk_argN, fk_map0, fk_mapS, fk_mapN, reduceIte, Nat.reduceEqDiff, Nat.reduceAdd]; with_reducible rfl)))
    | ((first | apply X.stepGtQ rfl | apply X.stepGfQ rfl); (focus (simp only [sub, subO, subL, subM, sub3, sub2, fk_some, fk_none, fk_arg0, fk_argS, fk_argN, fk_map0, fk_mapS, fk_mapN, reduceIte, Nat.reduceEqDiff, Nat.reduceAdd]; with_reducible rfl)); all_goals (intro hbr; first | exact absurd hbr (by decide) | ((try rw [hbr]); (try simp at hbr)))))
    all_goals (refine Fin.mkQ rfl (by simp only [resS, sub, subO, subL, subM, sub3, sub2, fk_some, fk_none, fk_arg0, fk_argS, fk_argN, fk_map0, fk_mapS, fk_mapN, reduceIte, Nat.reduceEqDiff, Nat.reduceAdd]; with_reducible rfl) (by simp [oneOf, pureRes, snapFuel, snapL]; with_reducible rfl) ?_)
    all_goals rfl
  · rw [hz] at hgt
    obtain ⟨gz1, gz2, gz3⟩ := get_good hz
    dsimp only at hgt
    rw [e9] at hgt
    have hgz := good_ok HH.g.u.g z.e z.a z.b z.sp z.v z.q (by omega) hz4
    have egz : goodS z.e z.a z.b z.sp z.v z.q = goodX z := rfl
    have hpz := Put_pure HH.g.putc HH.g.u z.e z.a z.b z.sp z.v z.q (by omega) hz4
    have epz : putS z.e z.a z.b z.sp z.v z.q = putX z := rfl
    rw [egz, gz1, e8] at hgz
    rw [epz, gz2, e8] at hpz
    have e1 := bytesB bs
    have c1 : ∀ h, convA .bytesStr (.pv (.sl (encB bs))) h = some (.pv (.str (bs.map fun n => UInt8.ofNat n.toNat))) := fun h => by simp only [convA, pureElems, e1, Option.map_some]
    have w7 : binA .eql .no (.pv (.str (bs.map fun n => UInt8.ofNat n.toNat))) (.pv (.str (bs.map fun n => UInt8.ofNat n.toNat))) = some (.pv (.bool true)) := by simp [binA, strBin]
    have w8 : binA .neq .no (.pv (.int .i64 0)) (.pv (.int .i64 0)) = some (.pv (.bool false)) := rfl
    generalize (bs.map fun n => UInt8.ofNat n.toNat) = S at c1 w7
    generalize encB bs = B at c1 hgt hpz f2
    (repeat' first
    | apply X.retS
    | apply X.skipS
    | apply X.skipB
    | apply X.skipL
    | (apply X.exitS; first | apply X.here | (refine X.out (by decide) ?_; apply X.here))
    | apply X.blockS
    | (apply X.condQ rfl; (focus (simp only [sub, subO, subL, subM, sub3, sub2, fk_some, fk_none, fk_arg0, fk_argS, fk_argN, fk_map0, fk_mapS, fk_mapN, reduceIte, Nat.reduceEqDiff, Nat.reduceAdd, f2]; with_reducible rfl)); all_goals (intro hbr; first | exact absurd hbr (by decide) | ((try rw [hbr]); (try simp at hbr))))
    | apply X.stepZ
    | (apply X.stepQ rfl; (focus (simp only [sub, subO, subL, subM, sub3, sub2, fk_some, fk_none, fk_arg0, fk_argS, fk_argN, fk_map0, fk_mapS, fk_mapN, reduceIte, Nat.reduceEqDiff, Nat.reduceAdd, f2]; with_reducible rfl)); (focus (simp [-getElem?_pos, HH.g.get.raw, hgt]; with_reducible (first | rfl | exact ⟨rfl, rfl⟩))))
    | (apply X.stepNQ rfl; (focus (simp only [sub, subO, subL, subM, sub3, sub2, fk_some, fk_none, fk_arg0, fk_argS, fk_argN, fk_map0, fk_mapS, fk_mapN, reduceIte, Nat.reduceEqDiff, Nat.reduceAdd, f2]; with_reducible rfl)))
    | ((first | apply X.stepGtQ rfl | apply X.stepGfQ rfl); (focus (simp only [sub, subO, subL, subM, sub3, sub2, fk_some, fk_none, fk_arg0, fk_argS, fk_argN, fk_map0, fk_mapS, fk_mapN, reduceIte, Nat.reduceEqDiff, Nat.reduceAdd, f2]; with_reducible rfl)); all_goals (intro hbr; first | exact absurd hbr (by decide) | ((try rw [hbr]); (try simp at hbr)))))
    refine X.abs2 (fun st => ∃ (hh : Heap) (n : Nat) (f : Nat → V), ent hh n = .blk (boxR z) (some 33) ∧ (fk (Fk.mk (f := f)) 2 = .pv (.sl B) ∧ fk (Fk.mk (f := f)) 9 = .ptr n 0 ∧ fk (Fk.mk (f := f)) 10 = .pv (.int .i64 0)) ∧ st = ⟨TL 94 f, hh⟩) ?_ ?_
    · exact ⟨_, hh.length, _, by simp [boxR, ent_at0], by simp [f2], rfl⟩
    clear f2 f hh
    rintro st ⟨hh, n, f, x0, ⟨f2, f9, f10⟩, rfl⟩
    unfold boxR at x0
    refine X.drawP [] [n] rfl ?_
    (repeat' first
    | apply XC.nil
    | (apply XC.calmQ rfl rfl rfl; (focus (simp only [sub, subO, subL, subM, sub3, sub2, fk_some, fk_none, fk_arg0, fk_argS, fk_argN, fk_map0, fk_mapS, fk_mapN, reduceIte, Nat.reduceEqDiff, Nat.reduceAdd, f2, f9, f10]; with_reducible rfl)); (focus (simp [-getElem?_pos, -binA, -convA, x0, w7, w8, c1, HH.g.u.rg, hgz, HH.g.rput, hpz]; done)); (focus (simp [-getElem?_pos, -binA, -convA, x0, w7, w8, c1, HH.g.u.rg, hgz, HH.g.rput, hpz]; with_reducible (first | rfl | exact ⟨rfl, rfl⟩))))
    | (apply XC.callP rfl; (focus (simp only [sub, subO, subL, subM, sub3, sub2, fk_some, fk_none, fk_arg0, fk_argS, fk_argN, fk_map0, fk_mapS, fk_mapN, reduceIte, Nat.reduceEqDiff, Nat.reduceAdd, f2, f9, f10]; simp; with_reducible rfl)); (focus (simp; with_reducible rfl)); (focus (simp [-getElem?_pos, -binA, -convA, x0, w7, w8, c1, HH.g.u.rg, hgz, HH.g.rput, hpz]; done)); (focus (simp [-getElem?_pos, -binA, -convA, x0, w7, w8, c1, HH.g.u.rg, hgz, HH.g.rput, hpz]; with_reducible rfl)))
    | (apply XC.convP rfl; (focus (simp only [sub, subO, subL, subM, sub3, sub2, fk_some, fk_none, fk_arg0, fk_argS, fk_argN, fk_map0, fk_mapS, fk_mapN, reduceIte, Nat.reduceEqDiff, Nat.reduceAdd, f2, f9, f10]; with_reducible rfl)); (focus (simp [foot, oIds, V.ids]; done)); (focus (simp [-getElem?_pos, -binA, -convA, x0, w7, w8, c1, HH.g.u.rg, hgz, HH.g.rput, hpz]; with_reducible (first | rfl | exact ⟨rfl, rfl⟩))))
    | (apply XC.stepNQ rfl; (focus (simp only [sub, subO, subL, subM, sub3, sub2, fk_some, fk_none, fk_arg0, fk_argS, fk_argN, fk_map0, fk_mapS, fk_mapN, reduceIte, Nat.reduceEqDiff, Nat.reduceAdd, f2, f9, f10]; with_reducible rfl)))
    | ((first | apply XC.stepGtQ rfl | apply XC.stepGfQ rfl); (focus (simp only [sub, subO, subL, subM, sub3, sub2, fk_some, fk_none, fk_arg0, fk_argS, fk_argN, fk_map0, fk_mapS, fk_mapN, reduceIte, Nat.reduceEqDiff, Nat.reduceAdd, f2, f9, f10]; with_reducible rfl)); all_goals (intro hbr; first | exact absurd hbr (by decide) | ((try rw [hbr]); (try simp at hbr))))
    | (apply XC.makeQ rfl rfl rfl rfl; (focus (simp only [sub, subO, subL, subM, sub3, sub2, fk_some, fk_none, fk_arg0, fk_argS, fk_argN, fk_map0, fk_mapS, fk_mapN, reduceIte, Nat.reduceEqDiff, Nat.reduceAdd, f2, f9, f10]; with_reducible rfl)); (focus rfl); (focus (simp; done)); (focus (first | (simp; done) | (simp; omega))); (focus (simp [-getElem?_pos, -binA, -convA, x0, w7, w8, c1, HH.g.u.rg, hgz, HH.g.rput, hpz]; with_reducible (first | rfl | exact ⟨rfl, rfl⟩))); (focus (simp; done)); (focus (simp [-getElem?_pos, -binA, -convA, x0, w7, w8, c1, HH.g.u.rg, hgz, HH.g.rput, hpz]; with_reducible rfl))))
    (repeat' first
    | apply X.retS
    | apply X.skipS
    | apply X.skipB
    | apply X.skipL
    | (apply X.exitS; first | apply X.here | (refine X.out (by decide) ?_; apply X.here))
    | apply X.blockS
    | (apply X.condQ rfl; (focus (simp only [sub, subO, subL, subM, sub3, sub2, fk_some, fk_none, fk_arg0, fk_argS, fk_argN, fk_map0, fk_mapS, fk_mapN, reduceIte, Nat.reduceEqDiff, Nat.reduceAdd]; with_reducible rfl)); all_goals (intro hbr; first | exact absurd hbr (by decide) | ((try rw [hbr]); (try simp at hbr))))
    | apply X.stepZ
    | (apply X.stepQ rfl; (focus (simp only [sub, subO, subL, subM, sub3, sub2, fk_some, fk_none, fk_arg0, fk_argS, fk_argN, fk_map0, fk_mapS, fk_mapN, reduceIte, Nat.reduceEqDiff, Nat.reduceAdd]; with_reducible rfl)); (focus (simp [-getElem?_pos]; with_reducible (first | rfl | exact ⟨rfl, rfl⟩))))
    | (apply X.stepNQ rfl; (focus (simp only [sub, subO, subL, subM, sub3, sub2, fk_some, fk_none, fk_arg0, fk_argS, fk_argN, fk_map0, fk_mapS, fk_mapN, reduceIte, Nat.reduceEqDiff, Nat.reduceAdd]; with_reducible rfl)))
    | ((first | apply X.stepGtQ rfl | apply X.stepGfQ rfl); (focus (simp only [sub, subO, subL, subM, sub3, sub2, fk_some, fk_none, fk_arg0, fk_argS, fk_argN, fk_map0, fk_mapS, fk_mapN, reduceIte, Nat.reduceEqDiff, Nat.reduceAdd]; with_reducible rfl)); all_goals (intro hbr; first | exact absurd hbr (by decide) | ((try rw [hbr]); (try simp at hbr)))))
    all_goals (refine Fin.mkQ rfl (by simp only [resS, sub, subO, subL, subM, sub3, sub2, fk_some, fk_none, fk_arg0, fk_argS, fk_argN, fk_map0, fk_mapS, fk_mapN, reduceIte, Nat.reduceEqDiff, Nat.reduceAdd]; with_reducible rfl) (by simp [oneOf, pureRes, snapFuel, snapL]; with_reducible rfl) ?_)
    all_goals rfl
end Rp
