/- FiA: steps, walks, laws: see the remarks within. -/
import Derived.Test.YtdacifedlemlmaaAbStep
import Derived.Test.YtdacifedlemlmaaFiCode
set_option linter.unusedSimpArgs false
set_option linter.unusedVariables false
-- Values and spans as plain data; value.Same of one and itself; what is wide: walked.
namespace Rp
open Go Ab Go.Proofs.Ytdacifedlemlmaa.Mach
variable {E : Env}

theorem _root_.Ab.X.abs2 {c : ACode} {st : Ab.St} {Q : AExit → Ab.St → Prop} (M : Ab.St → Prop) (hm : M st) (k : ∀ st, M st → X E c st Q) : X E c st Q := k st hm
theorem ord_self {k : FloatKind} {b : Nat} (h : nanB k b = false) : fltOrd k b b = some .eq := by
  unfold fltOrd
  rw [h]
  simp only [Bool.or_self, Bool.false_eq_true, if_false]
  unfold nanB FloatKind.decode at h
  unfold Ieee.Format.order
  cases hr : k.format.read b with
  | nan s f => rw [hr] at h; cases h
  | infinity s =>
    simp only [Ieee.Datum.order]
    cases s <;> rfl
  | number s m i =>
    simp only [Ieee.Datum.order]
    congr 1
    simp [compare, compareOfLessAndEq]

/-- What is compared. -/
theorem eq_self {k : FloatKind} {b : Nat} (h : nanB k b = false) : binA .eql .no (.pv (.flt k b)) (.pv (.flt k b)) = some (.pv (.bool true)) := by simp [binA, fltBin, ord_self h]
theorem ne_nan {k : FloatKind} {b : Nat} (h : nanB k b = true) : binA .neq .no (.pv (.flt k b)) (.pv (.flt k b)) = some (.pv (.bool true)) := by simp [binA, fltBin, fltOrd, h]
/-- A value. -/
inductive Va where
  | mk (k b : Int) (l : List Va)
def Va.k : Va → Int | .mk k _ _ => k
def Va.b : Va → Int | .mk _ b _ => b
def Va.l : Va → List Va | .mk _ _ l => l
def encV : Va → PV
  | .mk k b l => .agg [.int .i64 k, .int .u8 b, .sl (encL l)]
where
  encL : List Va → List PV
  | [] => []
  | x :: l => encV x :: encL l
theorem encVL : ∀ l, encV.encL l = l.map encV
  | [] => rfl
  | x :: l => by simp [encV.encL, encVL l]
theorem eV (x : Va) : encV x = .agg [.int .i64 x.k, .int .u8 x.b, .sl (x.l.map encV)] := by
  cases x; simp [encV, encVL, Va.k, Va.b, Va.l]
theorem Va.ind {p : Va → Prop} (h : ∀ c, (∀ y ∈ c.l, p y) → p c) : ∀ c, p c
  | .mk k b l => h _ (indL h l)
where
  indL {p : Va → Prop} (h : ∀ c, (∀ y ∈ c.l, p y) → p c) : ∀ (l : List Va), ∀ y ∈ l, p y
  | [], y, hy => by cases hy
  | x :: l, y, hy => by
    rcases List.mem_cons.1 hy with h1 | h1
    · rw [h1]; exact Va.ind h x
    · exact indL h l y h1
/-- A byte, and rows that are no longer than a number tells. -/
def FineV : Va → Prop
  | .mk _ b l => (0 ≤ b ∧ b < 256) ∧ l.length ≤ 9223372036854775807 ∧ FineL l
where
  FineL : List Va → Prop
  | [] => True
  | x :: l => FineV x ∧ FineL l
theorem fineVL : ∀ {l : List Va}, FineV.FineL l ↔ ∀ x ∈ l, FineV x
  | [] => by simp [FineV.FineL]
  | x :: l => by simp [FineV.FineL, fineVL (l := l)]
theorem fineV {c : Va} (h : FineV c) : (0 ≤ c.b ∧ c.b < 256) ∧ c.l.length ≤ 9223372036854775807 ∧ ∀ x ∈ c.l, FineV x := by
  cases c; exact ⟨h.1, h.2.1, fineVL.1 h.2.2⟩

set_option maxHeartbeats 2000000 in
theorem eqfun_ok (H : Has E 43 c43) (hg : E.raw 15 = false) (l : List Va) (hl : l.length ≤ 9223372036854775807) (hr : ∀ x ∈ l, limP E 15 [encV x, encV x] = some [.bool true]) :
    limP E 43 [.sl (l.map encV), .sl (l.map encV), .fn 15 []] = some [.bool true] := by
  refine H.limQ (Nat.le_of_ble_eq_true rfl) ?_; unfold c43
  (repeat' first
    | apply X.retS
    | apply X.skipS
    | apply X.skipB
    | apply X.skipL
    | (apply X.exitS; first | apply X.here | (refine X.out (by decide) ?_; apply X.here))
    | apply X.blockS
    | (apply X.condQ rfl; (focus (simp only [sub, subO, subL, subM, sub3, sub2, fk_some, fk_none, fk_arg0, fk_argS, fk_argN, fk_map0, fk_mapS, fk_mapN, reduceIte, Nat.reduceEqDiff, Nat.reduceAdd]; with_reducible rfl)); all_goals (intro hbr; first | exact absurd hbr (by decide) | ((try rw [hbr]); (try simp at hbr))))
    | apply X.stepZ
    | (apply X.stepQ rfl; (focus (simp only [sub, subO, subL, subM, sub3, sub2, fk_some, fk_none, fk_arg0, fk_argS, fk_argN, fk_map0, fk_mapS, fk_mapN, reduceIte, Nat.reduceEqDiff, Nat.reduceAdd]; with_reducible rfl)); (focus (simp [-getElem?_pos]; with_reducible (first | rfl | exact ⟨rfl, rfl⟩))))
    | (apply X.stepNQ rfl; (focus (simp only [sub, subO, subL, subM, sub3, sub2, fk_some, fk_none, fk_arg0, fk_argS, fk_argN, fk_map0, fk_mapS, fk_mapN, reduceIte, Nat.reduceEqDiff, Nat.reduceAdd]; with_reducible rfl)))
    | ((first | apply X.stepGtQ rfl | apply X.stepGfQ rfl); (focus (simp only [sub, subO, subL, subM, sub3, sub2, fk_some, fk_none, fk_arg0, fk_argS, fk_argN, fk_map0, fk_mapS, fk_mapN, reduceIte, Nat.reduceEqDiff, Nat.reduceAdd]; with_reducible rfl)); all_goals (intro hbr; first | exact absurd hbr (by decide) | ((try rw [hbr]); (try simp at hbr)))))
  refine X.forS l.length (fun j st => ∃ (hh : Heap) (f : Nat → V), (fk (Fk.mk (f := f)) 1 = .pv (.sl (l.map encV)) ∧ fk (Fk.mk (f := f)) 2 = .pv (.fn 15 []) ∧ fk (Fk.mk (f := f)) 15 = .pv (.sl (l.map encV)) ∧ fk (Fk.mk (f := f)) 16 = .pv (.int .i64 (l.length : Int)) ∧ fk (Fk.mk (f := f)) 17 = .pv (.int .i64 (j : Int))) ∧ st = ⟨TL 32 f, hh⟩) ?_ ?_
  · exact ⟨_, _, by simp, rfl⟩
  rintro j st hj ⟨hh, f, ⟨f1, f2, f15, f16, f17⟩, rfl⟩
  rcases Nat.lt_or_ge j l.length with hj1 | hj1
  · have hj2 : (j : Int) < (l.length : Int) := by omega
    have hww : IntKind.i64.wrap ((j : Int) + 1) = (j : Int) + 1 := wrap_i64 (by omega)
    obtain ⟨x, hx⟩ := at_of_lt hj1
    have hc := hr x (List.mem_of_getElem? hx)
    clear hr
    rw [eV] at hc
    have hx2 : (l.map encV)[j]? = some (.agg [.int .i64 x.k, .int .u8 x.b, .sl (x.l.map encV)]) := by simp [hx, eV]
    (repeat' first
    | apply X.retS
    | apply X.skipS
    | apply X.skipB
    | apply X.skipL
    | (apply X.exitS; first | apply X.here | (refine X.out (by decide) ?_; apply X.here))
    | apply X.blockS
    | (apply X.condQ rfl; (focus (simp only [sub, subO, subL, subM, sub3, sub2, fk_some, fk_none, fk_arg0, fk_argS, fk_argN, fk_map0, fk_mapS, fk_mapN, reduceIte, Nat.reduceEqDiff, Nat.reduceAdd, f1, f2, f15, f16, f17]; with_reducible rfl)); all_goals (intro hbr; first | exact absurd hbr (by decide) | ((try rw [hbr]); (try simp at hbr))))
    | apply X.stepZ
    | (apply X.stepQ rfl; (focus (simp only [sub, subO, subL, subM, sub3, sub2, fk_some, fk_none, fk_arg0, fk_argS, fk_argN, fk_map0, fk_mapS, fk_mapN, reduceIte, Nat.reduceEqDiff, Nat.reduceAdd, f1, f2, f15, f16, f17]; with_reducible rfl)); (focus (simp [-getElem?_pos, hj1, hj2, hx, eV, hg, hc, hww]; with_reducible (first | rfl | exact ⟨rfl, rfl⟩))))
    | (apply X.stepNQ rfl; (focus (simp only [sub, subO, subL, subM, sub3, sub2, fk_some, fk_none, fk_arg0, fk_argS, fk_argN, fk_map0, fk_mapS, fk_mapN, reduceIte, Nat.reduceEqDiff, Nat.reduceAdd, f1, f2, f15, f16, f17]; with_reducible rfl)))
    | ((first | apply X.stepGtQ rfl | apply X.stepGfQ rfl); (focus (simp only [sub, subO, subL, subM, sub3, sub2, fk_some, fk_none, fk_arg0, fk_argS, fk_argN, fk_map0, fk_mapS, fk_mapN, reduceIte, Nat.reduceEqDiff, Nat.reduceAdd, f1, f2, f15, f16, f17]; with_reducible rfl)); all_goals (intro hbr; first | exact absurd hbr (by decide) | ((try rw [hbr]); (try simp at hbr)))))
    all_goals exact ⟨hj1, _, _, by simp [f1, f2, f15, f16], rfl⟩
  · have hj2 : ¬ (j : Int) < (l.length : Int) := by omega
    have hj3 : ¬ j < l.length := by omega
    clear hr
    (repeat' first
    | apply X.retS
    | apply X.skipS
    | apply X.skipB
    | apply X.skipL
    | (apply X.exitS; first | apply X.here | (refine X.out (by decide) ?_; apply X.here))
    | apply X.blockS
    | (apply X.condQ rfl; (focus (simp only [sub, subO, subL, subM, sub3, sub2, fk_some, fk_none, fk_arg0, fk_argS, fk_argN, fk_map0, fk_mapS, fk_mapN, reduceIte, Nat.reduceEqDiff, Nat.reduceAdd, f1, f2, f15, f16, f17]; with_reducible rfl)); all_goals (intro hbr; first | exact absurd hbr (by decide) | ((try rw [hbr]); (try simp at hbr))))
    | apply X.stepZ
    | (apply X.stepQ rfl; (focus (simp only [sub, subO, subL, subM, sub3, sub2, fk_some, fk_none, fk_arg0, fk_argS, fk_argN, fk_map0, fk_mapS, fk_mapN, reduceIte, Nat.reduceEqDiff, Nat.reduceAdd, f1, f2, f15, f16, f17]; with_reducible rfl)); (focus (simp [-getElem?_pos, hj3, hj2]; with_reducible (first | rfl | exact ⟨rfl, rfl⟩))))
    | (apply X.stepNQ rfl; (focus (simp only [sub, subO, subL, subM, sub3, sub2, fk_some, fk_none, fk_arg0, fk_argS, fk_argN, fk_map0, fk_mapS, fk_mapN, reduceIte, Nat.reduceEqDiff, Nat.reduceAdd, f1, f2, f15, f16, f17]; with_reducible rfl)))
    | ((first | apply X.stepGtQ rfl | apply X.stepGfQ rfl); (focus (simp only [sub, subO, subL, subM, sub3, sub2, fk_some, fk_none, fk_arg0, fk_argS, fk_argN, fk_map0, fk_mapS, fk_mapN, reduceIte, Nat.reduceEqDiff, Nat.reduceAdd, f1, f2, f15, f16, f17]; with_reducible rfl)); all_goals (intro hbr; first | exact absurd hbr (by decide) | ((try rw [hbr]); (try simp at hbr)))))
    all_goals (refine Fin.mkQ rfl (by simp only [resS, sub, subO, subL, subM, sub3, sub2, fk_some, fk_none, fk_arg0, fk_argS, fk_argN, fk_map0, fk_mapS, fk_mapN, reduceIte, Nat.reduceEqDiff, Nat.reduceAdd]; with_reducible rfl) (by simp [oneOf, pureRes, snapFuel, snapL]; with_reducible rfl) ?_)
    all_goals rfl

set_option maxHeartbeats 1000000 in
theorem same_ok (H : Has E 15 c15) (H2 : Has E 43 c43) : ∀ v, FineV v → limP E 15 [encV v, encV v] = some [.bool true] := by
  refine Va.ind fun v ih hf => ?_
  obtain ⟨_, hl, hk⟩ := fineV hf
  have he := eqfun_ok H2 H.raw v.l hl fun x hx => ih x hx (hk x hx)
  clear ih
  rw [eV]
  refine H.limQ (Nat.le_of_ble_eq_true rfl) ?_; unfold c15
  (repeat' first
    | apply X.retS
    | apply X.skipS
    | apply X.skipB
    | apply X.skipL
    | (apply X.exitS; first | apply X.here | (refine X.out (by decide) ?_; apply X.here))
    | apply X.blockS
    | (apply X.condQ rfl; (focus (simp only [sub, subO, subL, subM, sub3, sub2, fk_some, fk_none, fk_arg0, fk_argS, fk_argN, fk_map0, fk_mapS, fk_mapN, reduceIte, Nat.reduceEqDiff, Nat.reduceAdd]; with_reducible rfl)); all_goals (intro hbr; first | exact absurd hbr (by decide) | ((try rw [hbr]); (try simp at hbr))))
    | apply X.stepZ
    | (apply X.stepQ rfl; (focus (simp only [sub, subO, subL, subM, sub3, sub2, fk_some, fk_none, fk_arg0, fk_argS, fk_argN, fk_map0, fk_mapS, fk_mapN, reduceIte, Nat.reduceEqDiff, Nat.reduceAdd]; with_reducible rfl)); (focus (simp [-getElem?_pos, H2.raw, he]; with_reducible (first | rfl | exact ⟨rfl, rfl⟩))))
    | (apply X.stepNQ rfl; (focus (simp only [sub, subO, subL, subM, sub3, sub2, fk_some, fk_none, fk_arg0, fk_argS, fk_argN, fk_map0, fk_mapS, fk_mapN, reduceIte, Nat.reduceEqDiff, Nat.reduceAdd]; with_reducible rfl)))
    | ((first | apply X.stepGtQ rfl | apply X.stepGfQ rfl); (focus (simp only [sub, subO, subL, subM, sub3, sub2, fk_some, fk_none, fk_arg0, fk_argS, fk_argN, fk_map0, fk_mapS, fk_mapN, reduceIte, Nat.reduceEqDiff, Nat.reduceAdd]; with_reducible rfl)); all_goals (intro hbr; first | exact absurd hbr (by decide) | ((try rw [hbr]); (try simp at hbr)))))
  all_goals (refine Fin.mkQ rfl (by simp only [resS, sub, subO, subL, subM, sub3, sub2, fk_some, fk_none, fk_arg0, fk_argS, fk_argN, fk_map0, fk_mapS, fk_mapN, reduceIte, Nat.reduceEqDiff, Nat.reduceAdd]; with_reducible rfl) (by simp [oneOf, pureRes, snapFuel, snapL]; with_reducible rfl) ?_)
  all_goals rfl

/-- What is wide. -/
def wideS : Va → Int → Bool
  | .mk _ _ l, d => decide (d < 1) || decide (30 < (l.length : Int)) || wideL l (d - 1)
where
  wideL : List Va → Int → Bool
  | [], _ => false
  | x :: l, d => wideS x d || wideL l d
theorem wideS_eq (v : Va) (d : Int) : wideS v d = (decide (d < 1) || decide (30 < (v.l.length : Int)) || wideS.wideL v.l (d - 1)) := by cases v; rw [wideS]; rfl

set_option maxHeartbeats 2000000 in
theorem wide_ok (H : Has E 13 c13) : ∀ v, ∀ d : Int, 0 ≤ d → d ≤ 1000 → limP E 13 [encV v, .int .i64 d] = some [.bool (wideS v d)] := by
  refine Va.ind fun v ih d hd0 hd1 => ?_
  rw [wideS_eq, eV]
  by_cases h0 : d < 1
  · refine H.limQ (Nat.le_of_ble_eq_true rfl) ?_; unfold c13
    (repeat' first
    | apply X.retS
    | apply X.skipS
    | apply X.skipB
    | apply X.skipL
    | (apply X.exitS; first | apply X.here | (refine X.out (by decide) ?_; apply X.here))
    | apply X.blockS
    | (apply X.condQ rfl; (focus (simp only [sub, subO, subL, subM, sub3, sub2, fk_some, fk_none, fk_arg0, fk_argS, fk_argN, fk_map0, fk_mapS, fk_mapN, reduceIte, Nat.reduceEqDiff, Nat.reduceAdd]; with_reducible rfl)); all_goals (intro hbr; first | exact absurd hbr (by decide) | ((try rw [hbr]); (try simp at hbr))))
    | apply X.stepZ
    | (apply X.stepQ rfl; (focus (simp only [sub, subO, subL, subM, sub3, sub2, fk_some, fk_none, fk_arg0, fk_argS, fk_argN, fk_map0, fk_mapS, fk_mapN, reduceIte, Nat.reduceEqDiff, Nat.reduceAdd]; with_reducible rfl)); (focus (simp [-getElem?_pos, h0]; with_reducible (first | rfl | exact ⟨rfl, rfl⟩))))
    | (apply X.stepNQ rfl; (focus (simp only [sub, subO, subL, subM, sub3, sub2, fk_some, fk_none, fk_arg0, fk_argS, fk_argN, fk_map0, fk_mapS, fk_mapN, reduceIte, Nat.reduceEqDiff, Nat.reduceAdd]; with_reducible rfl)))
    | ((first | apply X.stepGtQ rfl | apply X.stepGfQ rfl); (focus (simp only [sub, subO, subL, subM, sub3, sub2, fk_some, fk_none, fk_arg0, fk_argS, fk_argN, fk_map0, fk_mapS, fk_mapN, reduceIte, Nat.reduceEqDiff, Nat.reduceAdd]; with_reducible rfl)); all_goals (intro hbr; first | exact absurd hbr (by decide) | ((try rw [hbr]); (try simp at hbr)))))
    all_goals (refine Fin.mkQ rfl (by simp only [resS, sub, subO, subL, subM, sub3, sub2, fk_some, fk_none, fk_arg0, fk_argS, fk_argN, fk_map0, fk_mapS, fk_mapN, reduceIte, Nat.reduceEqDiff, Nat.reduceAdd]; with_reducible rfl) (by simp [oneOf, pureRes, snapFuel, snapL]; with_reducible rfl) ?_)
    all_goals simp [h0]
  have hw : IntKind.i64.wrap (d - 1) = d - 1 := wrap_i64 (by omega)
  by_cases hl : 30 < v.l.length
  · have hl2 : (30 : Int) < (v.l.length : Int) := by omega
    refine H.limQ (Nat.le_of_ble_eq_true rfl) ?_; unfold c13
    (repeat' first
    | apply X.retS
    | apply X.skipS
    | apply X.skipB
    | apply X.skipL
    | (apply X.exitS; first | apply X.here | (refine X.out (by decide) ?_; apply X.here))
    | apply X.blockS
    | (apply X.condQ rfl; (focus (simp only [sub, subO, subL, subM, sub3, sub2, fk_some, fk_none, fk_arg0, fk_argS, fk_argN, fk_map0, fk_mapS, fk_mapN, reduceIte, Nat.reduceEqDiff, Nat.reduceAdd]; with_reducible rfl)); all_goals (intro hbr; first | exact absurd hbr (by decide) | ((try rw [hbr]); (try simp at hbr))))
    | apply X.stepZ
    | (apply X.stepQ rfl; (focus (simp only [sub, subO, subL, subM, sub3, sub2, fk_some, fk_none, fk_arg0, fk_argS, fk_argN, fk_map0, fk_mapS, fk_mapN, reduceIte, Nat.reduceEqDiff, Nat.reduceAdd]; with_reducible rfl)); (focus (simp [-getElem?_pos, h0, hl, hl2]; with_reducible (first | rfl | exact ⟨rfl, rfl⟩))))
    | (apply X.stepNQ rfl; (focus (simp only [sub, subO, subL, subM, sub3, sub2, fk_some, fk_none, fk_arg0, fk_argS, fk_argN, fk_map0, fk_mapS, fk_mapN, reduceIte, Nat.reduceEqDiff, Nat.reduceAdd]; with_reducible rfl)))
    | ((first | apply X.stepGtQ rfl | apply X.stepGfQ rfl); (focus (simp only [sub, subO, subL, subM, sub3, sub2, fk_some, fk_none, fk_arg0, fk_argS, fk_argN, fk_map0, fk_mapS, fk_mapN, reduceIte, Nat.reduceEqDiff, Nat.reduceAdd]; with_reducible rfl)); all_goals (intro hbr; first | exact absurd hbr (by decide) | ((try rw [hbr]); (try simp at hbr)))))
    all_goals (refine Fin.mkQ rfl (by simp only [resS, sub, subO, subL, subM, sub3, sub2, fk_some, fk_none, fk_arg0, fk_argS, fk_argN, fk_map0, fk_mapS, fk_mapN, reduceIte, Nat.reduceEqDiff, Nat.reduceAdd]; with_reducible rfl) (by simp [oneOf, pureRes, snapFuel, snapL]; with_reducible rfl) ?_)
    all_goals simp [h0, hl, hl2]
  have hl2 : ¬ (30 : Int) < (v.l.length : Int) := by omega
  have ih' := fun x hx => ih x hx (d - 1) (by omega) (by omega)
  clear ih
  refine H.limQ (Nat.le_of_ble_eq_true rfl) ?_; unfold c13
  (repeat' first
    | apply X.retS
    | apply X.skipS
    | apply X.skipB
    | apply X.skipL
    | (apply X.exitS; first | apply X.here | (refine X.out (by decide) ?_; apply X.here))
    | apply X.blockS
    | (apply X.condQ rfl; (focus (simp only [sub, subO, subL, subM, sub3, sub2, fk_some, fk_none, fk_arg0, fk_argS, fk_argN, fk_map0, fk_mapS, fk_mapN, reduceIte, Nat.reduceEqDiff, Nat.reduceAdd]; with_reducible rfl)); all_goals (intro hbr; first | exact absurd hbr (by decide) | ((try rw [hbr]); (try simp at hbr))))
    | apply X.stepZ
    | (apply X.stepQ rfl; (focus (simp only [sub, subO, subL, subM, sub3, sub2, fk_some, fk_none, fk_arg0, fk_argS, fk_argN, fk_map0, fk_mapS, fk_mapN, reduceIte, Nat.reduceEqDiff, Nat.reduceAdd]; with_reducible rfl)); (focus (simp [-getElem?_pos, h0, hl, hl2]; with_reducible (first | rfl | exact ⟨rfl, rfl⟩))))
    | (apply X.stepNQ rfl; (focus (simp only [sub, subO, subL, subM, sub3, sub2, fk_some, fk_none, fk_arg0, fk_argS, fk_argN, fk_map0, fk_mapS, fk_mapN, reduceIte, Nat.reduceEqDiff, Nat.reduceAdd]; with_reducible rfl)))
    | ((first | apply X.stepGtQ rfl | apply X.stepGfQ rfl); (focus (simp only [sub, subO, subL, subM, sub3, sub2, fk_some, fk_none, fk_arg0, fk_argS, fk_argN, fk_map0, fk_mapS, fk_mapN, reduceIte, Nat.reduceEqDiff, Nat.reduceAdd]; with_reducible rfl)); all_goals (intro hbr; first | exact absurd hbr (by decide) | ((try rw [hbr]); (try simp at hbr)))))
  refine X.forS v.l.length (fun j st => wideS.wideL (v.l.drop j) (d - 1) = wideS.wideL v.l (d - 1) ∧ ∃ (f : Nat → V), (fk (Fk.mk (f := f)) 1 = .pv (.int .i64 d) ∧ fk (Fk.mk (f := f)) 2 = .ptr 0 0 ∧ fk (Fk.mk (f := f)) 5 = .pv (.int .i64 (j : Int))) ∧ st = ⟨TL 29 f, [.blk [.pv (.int .i64 v.k), .pv (.int .u8 v.b), .pv (.sl (v.l.map encV))] none]⟩) ?_ ?_
  · exact ⟨rfl, _, by simp, rfl⟩
  rintro j st hj ⟨hi, f, ⟨f1, f2, f5⟩, rfl⟩
  rcases Nat.lt_or_ge j v.l.length with hj1 | hj1
  · have hj2 : (j : Int) < (v.l.length : Int) := by omega
    have hww : IntKind.i64.wrap ((j : Int) + 1) = (j : Int) + 1 := wrap_i64 (by omega)
    obtain ⟨x, hx⟩ := at_of_lt hj1
    have hc := ih' x (List.mem_of_getElem? hx)
    clear ih'
    rw [eV] at hc
    rw [drop_at hx] at hi
    simp only [wideS.wideL] at hi
    cases hb : wideS x (d - 1) with
    | true =>
      rw [hb] at hc hi
      (repeat' first
    | apply X.retS
    | apply X.skipS
    | apply X.skipB
    | apply X.skipL
    | (apply X.exitS; first | apply X.here | (refine X.out (by decide) ?_; apply X.here))
    | apply X.blockS
    | (apply X.condQ rfl; (focus (simp only [sub, subO, subL, subM, sub3, sub2, fk_some, fk_none, fk_arg0, fk_argS, fk_argN, fk_map0, fk_mapS, fk_mapN, reduceIte, Nat.reduceEqDiff, Nat.reduceAdd, f1, f2, f5]; with_reducible rfl)); all_goals (intro hbr; first | exact absurd hbr (by decide) | ((try rw [hbr]); (try simp at hbr))))
    | apply X.stepZ
    | (apply X.stepQ rfl; (focus (simp only [sub, subO, subL, subM, sub3, sub2, fk_some, fk_none, fk_arg0, fk_argS, fk_argN, fk_map0, fk_mapS, fk_mapN, reduceIte, Nat.reduceEqDiff, Nat.reduceAdd, f1, f2, f5]; with_reducible rfl)); (focus (simp [-getElem?_pos, hj1, hj2, hx, eV, hw, H.raw, hc]; with_reducible (first | rfl | exact ⟨rfl, rfl⟩))))
    | (apply X.stepNQ rfl; (focus (simp only [sub, subO, subL, subM, sub3, sub2, fk_some, fk_none, fk_arg0, fk_argS, fk_argN, fk_map0, fk_mapS, fk_mapN, reduceIte, Nat.reduceEqDiff, Nat.reduceAdd, f1, f2, f5]; with_reducible rfl)))
    | ((first | apply X.stepGtQ rfl | apply X.stepGfQ rfl); (focus (simp only [sub, subO, subL, subM, sub3, sub2, fk_some, fk_none, fk_arg0, fk_argS, fk_argN, fk_map0, fk_mapS, fk_mapN, reduceIte, Nat.reduceEqDiff, Nat.reduceAdd, f1, f2, f5]; with_reducible rfl)); all_goals (intro hbr; first | exact absurd hbr (by decide) | ((try rw [hbr]); (try simp at hbr)))))
      all_goals (refine Fin.mkQ rfl (by simp only [resS, sub, subO, subL, subM, sub3, sub2, fk_some, fk_none, fk_arg0, fk_argS, fk_argN, fk_map0, fk_mapS, fk_mapN, reduceIte, Nat.reduceEqDiff, Nat.reduceAdd]; with_reducible rfl) (by simp [oneOf, pureRes, snapFuel, snapL]; with_reducible rfl) ?_)
      all_goals simp [← hi]
    | false =>
      rw [hb] at hc hi
      (repeat' first
    | apply X.retS
    | apply X.skipS
    | apply X.skipB
    | apply X.skipL
    | (apply X.exitS; first | apply X.here | (refine X.out (by decide) ?_; apply X.here))
    | apply X.blockS
    | (apply X.condQ rfl; (focus (simp only [sub, subO, subL, subM, sub3, sub2, fk_some, fk_none, fk_arg0, fk_argS, fk_argN, fk_map0, fk_mapS, fk_mapN, reduceIte, Nat.reduceEqDiff, Nat.reduceAdd, f1, f2, f5]; with_reducible rfl)); all_goals (intro hbr; first | exact absurd hbr (by decide) | ((try rw [hbr]); (try simp at hbr))))
    | apply X.stepZ
    | (apply X.stepQ rfl; (focus (simp only [sub, subO, subL, subM, sub3, sub2, fk_some, fk_none, fk_arg0, fk_argS, fk_argN, fk_map0, fk_mapS, fk_mapN, reduceIte, Nat.reduceEqDiff, Nat.reduceAdd, f1, f2, f5]; with_reducible rfl)); (focus (simp [-getElem?_pos, hj1, hj2, hx, eV, hw, H.raw, hc, hww]; with_reducible (first | rfl | exact ⟨rfl, rfl⟩))))
    | (apply X.stepNQ rfl; (focus (simp only [sub, subO, subL, subM, sub3, sub2, fk_some, fk_none, fk_arg0, fk_argS, fk_argN, fk_map0, fk_mapS, fk_mapN, reduceIte, Nat.reduceEqDiff, Nat.reduceAdd, f1, f2, f5]; with_reducible rfl)))
    | ((first | apply X.stepGtQ rfl | apply X.stepGfQ rfl); (focus (simp only [sub, subO, subL, subM, sub3, sub2, fk_some, fk_none, fk_arg0, fk_argS, fk_argN, fk_map0, fk_mapS, fk_mapN, reduceIte, Nat.reduceEqDiff, Nat.reduceAdd, f1, f2, f5]; with_reducible rfl)); all_goals (intro hbr; first | exact absurd hbr (by decide) | ((try rw [hbr]); (try simp at hbr)))))
      all_goals exact ⟨hj1, by simpa using hi, _, by simp [f1, f2], rfl⟩
  · have hj2 : ¬ (j : Int) < (v.l.length : Int) := by omega
    have hj3 : ¬ j < v.l.length := by omega
    rw [List.drop_eq_nil_of_le hj1] at hi
    simp only [wideS.wideL] at hi
    clear ih'
    (repeat' first
    | apply X.retS
    | apply X.skipS
    | apply X.skipB
    | apply X.skipL
    | (apply X.exitS; first | apply X.here | (refine X.out (by decide) ?_; apply X.here))
    | apply X.blockS
    | (apply X.condQ rfl; (focus (simp only [sub, subO, subL, subM, sub3, sub2, fk_some, fk_none, fk_arg0, fk_argS, fk_argN, fk_map0, fk_mapS, fk_mapN, reduceIte, Nat.reduceEqDiff, Nat.reduceAdd, f1, f2, f5]; with_reducible rfl)); all_goals (intro hbr; first | exact absurd hbr (by decide) | ((try rw [hbr]); (try simp at hbr))))
    | apply X.stepZ
    | (apply X.stepQ rfl; (focus (simp only [sub, subO, subL, subM, sub3, sub2, fk_some, fk_none, fk_arg0, fk_argS, fk_argN, fk_map0, fk_mapS, fk_mapN, reduceIte, Nat.reduceEqDiff, Nat.reduceAdd, f1, f2, f5]; with_reducible rfl)); (focus (simp [-getElem?_pos, hj3, hj2]; with_reducible (first | rfl | exact ⟨rfl, rfl⟩))))
    | (apply X.stepNQ rfl; (focus (simp only [sub, subO, subL, subM, sub3, sub2, fk_some, fk_none, fk_arg0, fk_argS, fk_argN, fk_map0, fk_mapS, fk_mapN, reduceIte, Nat.reduceEqDiff, Nat.reduceAdd, f1, f2, f5]; with_reducible rfl)))
    | ((first | apply X.stepGtQ rfl | apply X.stepGfQ rfl); (focus (simp only [sub, subO, subL, subM, sub3, sub2, fk_some, fk_none, fk_arg0, fk_argS, fk_argN, fk_map0, fk_mapS, fk_mapN, reduceIte, Nat.reduceEqDiff, Nat.reduceAdd, f1, f2, f5]; with_reducible rfl)); all_goals (intro hbr; first | exact absurd hbr (by decide) | ((try rw [hbr]); (try simp at hbr)))))
    all_goals (refine Fin.mkQ rfl (by simp only [resS, sub, subO, subL, subM, sub3, sub2, fk_some, fk_none, fk_arg0, fk_argS, fk_argN, fk_map0, fk_mapS, fk_mapN, reduceIte, Nat.reduceEqDiff, Nat.reduceAdd]; with_reducible rfl) (by simp [oneOf, pureRes, snapFuel, snapL]; with_reducible rfl) ?_)
    all_goals simp [← hi, h0, hl2, hl]
end Rp

-- Spans, reports as plain data.
namespace Rp
open Go Ab Go.Proofs.Ytdacifedlemlmaa.Mach

theorem vk (k b : Int) (l : List Va) : (Va.mk k b l).k = k := rfl
theorem vb (k b : Int) (l : List Va) : (Va.mk k b l).b = b := rfl
theorem vl (k b : Int) (l : List Va) : (Va.mk k b l).l = l := rfl
/-- Spans. -/
abbrev Sp := Int × Int
def encS (s : Sp) : PV := .agg [.int .i64 s.1, .int .i64 s.2]
/-- What was found, as it is handed on. -/
def encF (a b : Int) (v : Va) (sp : List Sp) : PV := .agg [.int .i64 a, .int .i64 b, .int .i64 v.k, .int .u8 v.b, .sl (v.l.map encV), .sl (sp.map encS)]
/-- A report. -/
def encR (e a b : Int) (sp : List Sp) (v : Va) (q : Nat) : PV := .agg [.int .i64 e, .int .i64 a, .int .i64 b, .sl (sp.map encS), .int .i64 v.k, .int .u8 v.b, .sl (v.l.map encV), .flt .f64 q]
def nanC : Nat := 9221120237041090561

end Rp
