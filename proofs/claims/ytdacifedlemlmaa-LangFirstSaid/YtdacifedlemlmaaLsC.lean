/- LsC: steps, walks, laws: see the remarks within. -/
import Derived.Test.YtdacifedlemlmaaAbStep
import Derived.Test.YtdacifedlemlmaaLsCode
set_option linter.unusedSimpArgs false
set_option linter.unusedVariables false
-- Cores as plain data; whether they may be: walked.
namespace Cps
open Go Ab Go.Proofs.Ytdacifedlemlmaa.Mach

/-- A core. -/
inductive Co where
  | mk (k s0 s1 s2 s3 n : Int) (l : List Co)
def Co.k : Co → Int | .mk k _ _ _ _ _ _ => k
def Co.s0 : Co → Int | .mk _ s _ _ _ _ _ => s
def Co.s1 : Co → Int | .mk _ _ s _ _ _ _ => s
def Co.s2 : Co → Int | .mk _ _ _ s _ _ _ => s
def Co.s3 : Co → Int | .mk _ _ _ _ s _ _ => s
def Co.n : Co → Int | .mk _ _ _ _ _ n _ => n
def Co.l : Co → List Co | .mk _ _ _ _ _ _ l => l

/-- A value. -/
inductive Va where
  | mk (k b : Int) (l : List Va)
def Va.k : Va → Int | .mk k _ _ => k
def Va.b : Va → Int | .mk _ b _ => b
def Va.l : Va → List Va | .mk _ _ l => l

def encC : Co → PV
  | .mk k s0 s1 s2 s3 n l => .agg [.int .i64 k, .int .u64 s0, .int .u64 s1, .int .u64 s2, .int .u64 s3, .int .i64 n, .sl (encL l)]
where
  encL : List Co → List PV
  | [] => []
  | x :: l => encC x :: encL l
theorem encCL : ∀ l, encC.encL l = l.map encC
  | [] => rfl
  | x :: l => by simp [encC.encL, encCL l]
theorem eC (x : Co) : encC x = .agg [.int .i64 x.k, .int .u64 x.s0, .int .u64 x.s1, .int .u64 x.s2, .int .u64 x.s3, .int .i64 x.n, .sl (x.l.map encC)] := by
  cases x; simp [encC, encCL, Co.k, Co.s0, Co.s1, Co.s2, Co.s3, Co.n, Co.l]

def encV : Va → PV
  | .mk k b l => .agg [.int .i64 k, .int .u8 b, .sl (encL l)]
where
  encL : List Va → List PV
  | [] => []
  | x :: l => encV x :: encL l
theorem encVL : ∀ l, encV.encL l = l.map encV
  | [] => rfl
  | x :: l => by simp [encV.encL, encVL l]
theorem eV (x : Va) : encV x = .agg [.int .i64 x.k, .int .u8 x.b, .sl (x.l.map encV)] := by
  cases x; simp [encV, encVL, Va.k, Va.b, Va.l]

theorem Co.ind {p : Co → Prop} (h : ∀ c, (∀ y ∈ c.l, p y) → p c) : ∀ c, p c
  | .mk k s0 s1 s2 s3 n l => h _ (indL h l)
where
  indL {p : Co → Prop} (h : ∀ c, (∀ y ∈ c.l, p y) → p c) : ∀ (l : List Co), ∀ y ∈ l, p y
  | [], y, hy => by cases hy
  | x :: l, y, hy => by
    rcases List.mem_cons.1 hy with h1 | h1
    · rw [h1]; exact Co.ind h x
    · exact indL h l y h1
theorem Va.ind {p : Va → Prop} (h : ∀ c, (∀ y ∈ c.l, p y) → p c) : ∀ c, p c
  | .mk k b l => h _ (indL h l)
where
  indL {p : Va → Prop} (h : ∀ c, (∀ y ∈ c.l, p y) → p c) : ∀ (l : List Va), ∀ y ∈ l, p y
  | [], y, hy => by cases hy
  | x :: l, y, hy => by
    rcases List.mem_cons.1 hy with h1 | h1
    · rw [h1]; exact Va.ind h x
    · exact indL h l y h1

variable {E : Env}

/-- How many kids a kind has. -/
def kidsS (k : Int) : Int := if k = 0 ∨ k = 1 ∨ k = 2 then 0 else if k = 3 ∨ k = 4 then 2 else if k = 5 ∨ k = 6 ∨ k = 7 then 1 else -1

set_option maxHeartbeats 2000000 in
theorem kids_ok (H : Has E 78 c78) (k : Int) : limP E 78 [.int .i64 k] = some [.int .i64 (kidsS k)] := by
  refine H.lim (Nat.le_of_ble_eq_true rfl) (by simp; with_reducible rfl) ?_; unfold c78
  (repeat' first
    | apply X.retS
    | apply X.skipS
    | apply X.skipB
    | apply X.skipL
    | (apply X.exitS; first | apply X.here | (refine X.out (by decide) ?_; apply X.here))
    | apply X.blockS
    | (apply X.condS rfl <;> intro hp <;> first | exact absurd hp (by decide) | ((try rw [hp]); (try simp at hp)))
    | apply X.stepZ
    | (apply X.step; (focus (simp; with_reducible (first | rfl | exact ⟨rfl, rfl⟩))); (focus (simp; with_reducible rfl)))
    | (apply X.stepN rfl; (focus (simp; with_reducible rfl)))
    | ((first | apply X.stepGt rfl | apply X.stepGf rfl); (focus (simp; with_reducible rfl)); all_goals (intro hp; first | exact absurd hp (by decide) | ((try rw [hp]); (try simp at hp))))
    | (apply X.draw0; (focus rfl))
    | apply XD.nil
    | (apply XD.calm rfl; (focus (simp; with_reducible (first | rfl | exact ⟨rfl, rfl⟩))); (focus (simp; with_reducible rfl)))
    | (apply XD.call; (focus (simp; with_reducible rfl)); (focus (simp; with_reducible rfl)); (focus (simp; done)); (focus (simp; with_reducible rfl)); (focus (simp; with_reducible rfl)))
    | (apply XD.stepN rfl; (focus (simp; with_reducible rfl)))
    | ((first | apply XD.stepGt rfl | apply XD.stepGf rfl); (focus (simp; with_reducible rfl)); all_goals (intro hp; first | exact absurd hp (by decide) | ((try rw [hp]); (try simp at hp))))
    | (apply XD.loud; (focus (simp; with_reducible (first | rfl | exact ⟨rfl, rfl⟩))); (focus (simp; done)); (focus (simp; with_reducible rfl)); (focus (simp; with_reducible rfl))))
  all_goals (refine Fin.mk' (by simp [resA]; with_reducible rfl) (by simp [oneOf, pureRes, snapFuel, snapL]; with_reducible rfl) ?_)
  all_goals simp_all [kidsS]

/-- Where the first is that is so. -/
def idxC (r : Co → Bool) : List Co → Int → Int
  | [], _ => -1
  | x :: xs, i => if r x = true then i else idxC r xs (i + 1)

theorem idxC_any (r : Co → Bool) : ∀ (xs : List Co) (i : Int), 0 ≤ i → decide (0 ≤ idxC r xs i) = xs.any r
  | [], _, _ => rfl
  | x :: xs, i, hi => by
    simp only [idxC, List.any_cons]
    by_cases hr : r x = true
    · simp [hr, hi]
    · have := idxC_any r xs (i + 1) (by omega)
      simp only [hr]
      simpa [hr] using this

set_option maxHeartbeats 1000000 in
theorem indexC (H : Has E 87 c87) {g : FuncId} {caps : List PV} {xs : List Co} {r : Co → Bool} (hg : E.raw g = false) (hl : xs.length ≤ 9223372036854775807)
    (hr : ∀ x ∈ xs, limP E g (encC x :: caps) = some [.bool (r x)]) : limP E 87 [.sl (xs.map encC), .fn g caps] = some [.int .i64 (idxC r xs 0)] := by
  refine H.lim (Nat.le_of_ble_eq_true rfl) (by simp; with_reducible rfl) ?_; unfold c87
  (repeat' first
    | apply X.retS
    | apply X.skipS
    | apply X.skipB
    | apply X.skipL
    | (apply X.exitS; first | apply X.here | (refine X.out (by decide) ?_; apply X.here))
    | apply X.blockS
    | (apply X.condS rfl <;> intro hp <;> first | exact absurd hp (by decide) | ((try rw [hp]); (try simp at hp)))
    | apply X.stepZ
    | (apply X.step; (focus (simp; with_reducible (first | rfl | exact ⟨rfl, rfl⟩))); (focus (simp; with_reducible rfl)))
    | (apply X.stepN rfl; (focus (simp; with_reducible rfl)))
    | ((first | apply X.stepGt rfl | apply X.stepGf rfl); (focus (simp; with_reducible rfl)); all_goals (intro hp; first | exact absurd hp (by decide) | ((try rw [hp]); (try simp at hp))))
    | (apply X.draw0; (focus rfl))
    | apply XD.nil
    | (apply XD.calm rfl; (focus (simp; with_reducible (first | rfl | exact ⟨rfl, rfl⟩))); (focus (simp; with_reducible rfl)))
    | (apply XD.call; (focus (simp; with_reducible rfl)); (focus (simp; with_reducible rfl)); (focus (simp; done)); (focus (simp; with_reducible rfl)); (focus (simp; with_reducible rfl)))
    | (apply XD.stepN rfl; (focus (simp; with_reducible rfl)))
    | ((first | apply XD.stepGt rfl | apply XD.stepGf rfl); (focus (simp; with_reducible rfl)); all_goals (intro hp; first | exact absurd hp (by decide) | ((try rw [hp]); (try simp at hp))))
    | (apply XD.loud; (focus (simp; with_reducible (first | rfl | exact ⟨rfl, rfl⟩))); (focus (simp; done)); (focus (simp; with_reducible rfl)); (focus (simp; with_reducible rfl))))
  refine X.forS xs.length (fun j st => idxC r (xs.drop j) j = idxC r xs 0 ∧ ∃ x2 x3 x4 x5 x6 x9 x10 x11 x12 x13 x14 x15 x16 x17 x18 h,
    st = ⟨[.pv (.sl (xs.map encC)), .pv (.fn g caps), x2, x3, x4, x5, x6, .pv (.int .i64 xs.length), .pv (.int .i64 j), x9, x10, x11, x12, x13, x14, x15, x16, x17, x18], h⟩) ⟨rfl, _, _, _, _, _, _, _, _, _, _, _, _, _, _, _, _, rfl⟩ ?_
  rintro j st hj ⟨hi, x2, x3, x4, x5, x6, x9, x10, x11, x12, x13, x14, x15, x16, x17, x18, h, rfl⟩
  rcases Nat.lt_or_ge j xs.length with hj1 | hj1
  · obtain ⟨x, hx⟩ := at_of_lt hj1
    have hc := hr x (List.mem_of_getElem? hx)
    rw [drop_at hx] at hi
    simp only [idxC] at hi
    rw [eC] at hc
    have hw : IntKind.i64.wrap ((j : Int) + 1) = (j : Int) + 1 := wrap_i64 (by omega)
    clear hr
    (repeat' first
    | apply X.retS
    | apply X.skipS
    | apply X.skipB
    | apply X.skipL
    | (apply X.exitS; first | apply X.here | (refine X.out (by decide) ?_; apply X.here))
    | apply X.blockS
    | (apply X.condS rfl <;> intro hp <;> first | exact absurd hp (by decide) | ((try rw [hp]); (try simp at hp)))
    | apply X.stepZ
    | (apply X.step; (focus (simp [-getElem?_pos, hj1, hx, eC, hg, hc, hw]; with_reducible (first | rfl | exact ⟨rfl, rfl⟩))); (focus (simp; with_reducible rfl)))
    | (apply X.stepN rfl; (focus (simp; with_reducible rfl)))
    | ((first | apply X.stepGt rfl | apply X.stepGf rfl); (focus (simp; with_reducible rfl)); all_goals (intro hp; first | exact absurd hp (by decide) | ((try rw [hp]); (try simp at hp))))
    | (apply X.draw0; (focus rfl))
    | apply XD.nil
    | (apply XD.calm rfl; (focus (simp [-getElem?_pos, hj1, hx, eC, hg, hc, hw]; with_reducible (first | rfl | exact ⟨rfl, rfl⟩))); (focus (simp; with_reducible rfl)))
    | (apply XD.call; (focus (simp; with_reducible rfl)); (focus (simp; with_reducible rfl)); (focus (simp [-getElem?_pos, hj1, hx, eC, hg, hc, hw]; done)); (focus (simp [-getElem?_pos, hj1, hx, eC, hg, hc, hw]; with_reducible rfl)); (focus (simp; with_reducible rfl)))
    | (apply XD.stepN rfl; (focus (simp; with_reducible rfl)))
    | ((first | apply XD.stepGt rfl | apply XD.stepGf rfl); (focus (simp; with_reducible rfl)); all_goals (intro hp; first | exact absurd hp (by decide) | ((try rw [hp]); (try simp at hp))))
    | (apply XD.loud; (focus (simp [-getElem?_pos, hj1, hx, eC, hg, hc, hw]; with_reducible (first | rfl | exact ⟨rfl, rfl⟩))); (focus (simp; done)); (focus (simp; with_reducible rfl)); (focus (simp; with_reducible rfl))))
    all_goals first
      | ((refine Fin.mk' (by simp [resA]; with_reducible rfl) (by simp [oneOf, pureRes, snapFuel, snapL]; with_reducible rfl) ?_); simp [← hi, *]; done)
      | exact ⟨hj1, by simp_all, _, _, _, _, _, _, _, _, _, _, _, _, _, _, _, _, rfl⟩
  · have hj2 : ¬ j < xs.length := by omega
    rw [List.drop_eq_nil_of_le hj1] at hi
    clear hr
    (repeat' first
    | apply X.retS
    | apply X.skipS
    | apply X.skipB
    | apply X.skipL
    | (apply X.exitS; first | apply X.here | (refine X.out (by decide) ?_; apply X.here))
    | apply X.blockS
    | (apply X.condS rfl <;> intro hp <;> first | exact absurd hp (by decide) | ((try rw [hp]); (try simp at hp)))
    | apply X.stepZ
    | (apply X.step; (focus (simp [-getElem?_pos, hj2]; with_reducible (first | rfl | exact ⟨rfl, rfl⟩))); (focus (simp; with_reducible rfl)))
    | (apply X.stepN rfl; (focus (simp; with_reducible rfl)))
    | ((first | apply X.stepGt rfl | apply X.stepGf rfl); (focus (simp; with_reducible rfl)); all_goals (intro hp; first | exact absurd hp (by decide) | ((try rw [hp]); (try simp at hp))))
    | (apply X.draw0; (focus rfl))
    | apply XD.nil
    | (apply XD.calm rfl; (focus (simp [-getElem?_pos, hj2]; with_reducible (first | rfl | exact ⟨rfl, rfl⟩))); (focus (simp; with_reducible rfl)))
    | (apply XD.call; (focus (simp; with_reducible rfl)); (focus (simp; with_reducible rfl)); (focus (simp [-getElem?_pos, hj2]; done)); (focus (simp [-getElem?_pos, hj2]; with_reducible rfl)); (focus (simp; with_reducible rfl)))
    | (apply XD.stepN rfl; (focus (simp; with_reducible rfl)))
    | ((first | apply XD.stepGt rfl | apply XD.stepGf rfl); (focus (simp; with_reducible rfl)); all_goals (intro hp; first | exact absurd hp (by decide) | ((try rw [hp]); (try simp at hp))))
    | (apply XD.loud; (focus (simp [-getElem?_pos, hj2]; with_reducible (first | rfl | exact ⟨rfl, rfl⟩))); (focus (simp; done)); (focus (simp; with_reducible rfl)); (focus (simp; with_reducible rfl))))
    all_goals ((refine Fin.mk' (by simp [resA]; with_reducible rfl) (by simp [oneOf, pureRes, snapFuel, snapL]; with_reducible rfl) ?_); simp [← hi, idxC])

set_option maxHeartbeats 1000000 in
theorem containsC (H : Has E 79 c79) (H2 : Has E 87 c87) {g : FuncId} {caps : List PV} {xs : List Co} {r : Co → Bool} (hg : E.raw g = false) (hl : xs.length ≤ 9223372036854775807)
    (hr : ∀ x ∈ xs, limP E g (encC x :: caps) = some [.bool (r x)]) : limP E 79 [.sl (xs.map encC), .fn g caps] = some [.bool (xs.any r)] := by
  have hi := indexC H2 hg hl hr
  clear hr
  refine H.lim (Nat.le_of_ble_eq_true rfl) (by simp; with_reducible rfl) ?_; unfold c79
  (repeat' first
    | apply X.retS
    | apply X.skipS
    | apply X.skipB
    | apply X.skipL
    | (apply X.exitS; first | apply X.here | (refine X.out (by decide) ?_; apply X.here))
    | apply X.blockS
    | (apply X.condS rfl <;> intro hp <;> first | exact absurd hp (by decide) | ((try rw [hp]); (try simp at hp)))
    | apply X.stepZ
    | (apply X.step; (focus (simp [-getElem?_pos, H2.raw, hi]; with_reducible (first | rfl | exact ⟨rfl, rfl⟩))); (focus (simp; with_reducible rfl)))
    | (apply X.stepN rfl; (focus (simp; with_reducible rfl)))
    | ((first | apply X.stepGt rfl | apply X.stepGf rfl); (focus (simp; with_reducible rfl)); all_goals (intro hp; first | exact absurd hp (by decide) | ((try rw [hp]); (try simp at hp))))
    | (apply X.draw0; (focus rfl))
    | apply XD.nil
    | (apply XD.calm rfl; (focus (simp [-getElem?_pos, H2.raw, hi]; with_reducible (first | rfl | exact ⟨rfl, rfl⟩))); (focus (simp; with_reducible rfl)))
    | (apply XD.call; (focus (simp; with_reducible rfl)); (focus (simp; with_reducible rfl)); (focus (simp [-getElem?_pos, H2.raw, hi]; done)); (focus (simp [-getElem?_pos, H2.raw, hi]; with_reducible rfl)); (focus (simp; with_reducible rfl)))
    | (apply XD.stepN rfl; (focus (simp; with_reducible rfl)))
    | ((first | apply XD.stepGt rfl | apply XD.stepGf rfl); (focus (simp; with_reducible rfl)); all_goals (intro hp; first | exact absurd hp (by decide) | ((try rw [hp]); (try simp at hp))))
    | (apply XD.loud; (focus (simp [-getElem?_pos, H2.raw, hi]; with_reducible (first | rfl | exact ⟨rfl, rfl⟩))); (focus (simp; done)); (focus (simp; with_reducible rfl)); (focus (simp; with_reducible rfl))))
  all_goals ((refine Fin.mk' (by simp [resA]; with_reducible rfl) (by simp [oneOf, pureRes, snapFuel, snapL]; with_reducible rfl) ?_); simp [← idxC_any r xs 0 (by omega)])


/-- Rows that are no longer than a number tells. -/
def FineC : Co → Prop
  | .mk _ _ _ _ _ _ l => l.length ≤ 9223372036854775807 ∧ FineL l
where
  FineL : List Co → Prop
  | [] => True
  | x :: l => FineC x ∧ FineL l
theorem fineCL : ∀ {l : List Co}, FineC.FineL l ↔ ∀ x ∈ l, FineC x
  | [] => by simp [FineC.FineL]
  | x :: l => by simp [FineC.FineL, fineCL (l := l)]
theorem fineC {c : Co} (h : FineC c) : c.l.length ≤ 9223372036854775807 ∧ ∀ x ∈ c.l, FineC x := by
  cases c; exact ⟨h.1, fineCL.1 h.2⟩

/-- A byte, and rows that are no longer than a number tells. -/
def FineV : Va → Prop
  | .mk _ b l => (0 ≤ b ∧ b < 256) ∧ l.length ≤ 9223372036854775807 ∧ FineL l
where
  FineL : List Va → Prop
  | [] => True
  | x :: l => FineV x ∧ FineL l
theorem fineVL : ∀ {l : List Va}, FineV.FineL l ↔ ∀ x ∈ l, FineV x
  | [] => by simp [FineV.FineL]
  | x :: l => by simp [FineV.FineL, fineVL (l := l)]
theorem fineV {c : Va} (h : FineV c) : (0 ≤ c.b ∧ c.b < 256) ∧ c.l.length ≤ 9223372036854775807 ∧ ∀ x ∈ c.l, FineV x := by
  cases c; exact ⟨h.1, h.2.1, fineVL.1 h.2.2⟩

/-- May a core be so, within a depth? -/
def gcS : Co → Int → Bool
  | .mk k s0 s1 s2 s3 n l, d => if d < 1 then false else if ¬ (l.length : Int) = kidsS k then false else if ¬ k = 2 ∧ ¬ (s0 = 0 ∧ s1 = 0 ∧ s2 = 0 ∧ s3 = 0) then false else
    if k = 6 ∧ (n < 1 ∨ 32 < n) then false else if ¬ k = 6 ∧ ¬ n = 0 then false else gcL l (d - 1)
where
  gcL : List Co → Int → Bool
  | [], _ => true
  | x :: l, d => gcS x d && gcL l d
theorem gcL_any : ∀ (l : List Co) (d : Int), gcS.gcL l d = !(l.any fun y => !gcS y d)
  | [], _ => rfl
  | x :: l, d => by simp [gcS.gcL, gcL_any l d]
theorem gcS_eq (c : Co) (d : Int) : gcS c d = if d < 1 then false else if ¬ (c.l.length : Int) = kidsS c.k then false else if ¬ c.k = 2 ∧ ¬ (c.s0 = 0 ∧ c.s1 = 0 ∧ c.s2 = 0 ∧ c.s3 = 0) then false else
    if c.k = 6 ∧ (c.n < 1 ∨ 32 < c.n) then false else if ¬ c.k = 6 ∧ ¬ c.n = 0 then false else !(c.l.any fun y => !gcS y (d - 1)) := by
  cases c; rw [gcS, gcL_any]; rfl

theorem good1_ok (H : Has E 80 c80) (hr : E.raw 48 = false) {y : Co} {d : Int} {r : Bool} (hw : IntKind.i64.wrap (d - 1) = d - 1) (h : limP E 48 [encC y, .int .i64 (d - 1)] = some [.bool r]) : limP E 80 [encC y, .ip [.int .i64 d] 0] = some [.bool !r] := by
  rw [eC] at h ⊢
  refine H.lim (Nat.le_of_ble_eq_true rfl) (by simp; with_reducible rfl) ?_; unfold c80
  (repeat' first
    | apply X.retS
    | apply X.skipS
    | apply X.skipB
    | apply X.skipL
    | (apply X.exitS; first | apply X.here | (refine X.out (by decide) ?_; apply X.here))
    | apply X.blockS
    | (apply X.condS rfl <;> intro hp <;> first | exact absurd hp (by decide) | ((try rw [hp]); (try simp at hp)))
    | apply X.stepZ
    | (apply X.step; (focus (simp [-getElem?_pos, hw, hr, h]; with_reducible (first | rfl | exact ⟨rfl, rfl⟩))); (focus (simp; with_reducible rfl)))
    | (apply X.stepN rfl; (focus (simp; with_reducible rfl)))
    | ((first | apply X.stepGt rfl | apply X.stepGf rfl); (focus (simp; with_reducible rfl)); all_goals (intro hp; first | exact absurd hp (by decide) | ((try rw [hp]); (try simp at hp))))
    | (apply X.draw0; (focus rfl))
    | apply XD.nil
    | (apply XD.calm rfl; (focus (simp [-getElem?_pos, hw, hr, h]; with_reducible (first | rfl | exact ⟨rfl, rfl⟩))); (focus (simp; with_reducible rfl)))
    | (apply XD.call; (focus (simp; with_reducible rfl)); (focus (simp; with_reducible rfl)); (focus (simp [-getElem?_pos, hw, hr, h]; done)); (focus (simp [-getElem?_pos, hw, hr, h]; with_reducible rfl)); (focus (simp; with_reducible rfl)))
    | (apply XD.stepN rfl; (focus (simp; with_reducible rfl)))
    | ((first | apply XD.stepGt rfl | apply XD.stepGf rfl); (focus (simp; with_reducible rfl)); all_goals (intro hp; first | exact absurd hp (by decide) | ((try rw [hp]); (try simp at hp))))
    | (apply XD.loud; (focus (simp [-getElem?_pos, hw, hr, h]; with_reducible (first | rfl | exact ⟨rfl, rfl⟩))); (focus (simp; done)); (focus (simp; with_reducible rfl)); (focus (simp; with_reducible rfl))))
  all_goals ((refine Fin.mk' (by simp [resA]; with_reducible rfl) (by simp [oneOf, pureRes, snapFuel, snapL]; with_reducible rfl) ?_); simp)

set_option maxHeartbeats 4000000 in
theorem cgood_ok (H : Has E 48 c48) (H1 : Has E 80 c80) (H2 : Has E 78 c78) (H3 : Has E 79 c79) (H4 : Has E 87 c87) :
    ∀ c, FineC c → ∀ d : Int, d ≤ 9223372036854775807 → limP E 48 [encC c, .int .i64 d] = some [.bool (gcS c d)] := by
  refine Co.ind fun c ih hf d hd => ?_
  obtain ⟨hf1, hf2⟩ := fineC hf
  rw [gcS_eq]
  have hk := kids_ok H2 c.k
  by_cases h0 : d < 1
  · rw [eC]
    refine H.lim (Nat.le_of_ble_eq_true rfl) (by simp; with_reducible rfl) ?_; unfold c48
    (repeat' first
    | apply X.retS
    | apply X.skipS
    | apply X.skipB
    | apply X.skipL
    | (apply X.exitS; first | apply X.here | (refine X.out (by decide) ?_; apply X.here))
    | apply X.blockS
    | (apply X.condS rfl <;> intro hp <;> first | exact absurd hp (by decide) | ((try rw [hp]); (try simp at hp)))
    | apply X.stepZ
    | (apply X.step; (focus (simp [-getElem?_pos, h0]; with_reducible (first | rfl | exact ⟨rfl, rfl⟩))); (focus (simp; with_reducible rfl)))
    | (apply X.stepN rfl; (focus (simp; with_reducible rfl)))
    | ((first | apply X.stepGt rfl | apply X.stepGf rfl); (focus (simp; with_reducible rfl)); all_goals (intro hp; first | exact absurd hp (by decide) | ((try rw [hp]); (try simp at hp))))
    | (apply X.draw0; (focus rfl))
    | apply XD.nil
    | (apply XD.calm rfl; (focus (simp [-getElem?_pos, h0]; with_reducible (first | rfl | exact ⟨rfl, rfl⟩))); (focus (simp; with_reducible rfl)))
    | (apply XD.call; (focus (simp; with_reducible rfl)); (focus (simp; with_reducible rfl)); (focus (simp [-getElem?_pos, h0]; done)); (focus (simp [-getElem?_pos, h0]; with_reducible rfl)); (focus (simp; with_reducible rfl)))
    | (apply XD.stepN rfl; (focus (simp; with_reducible rfl)))
    | ((first | apply XD.stepGt rfl | apply XD.stepGf rfl); (focus (simp; with_reducible rfl)); all_goals (intro hp; first | exact absurd hp (by decide) | ((try rw [hp]); (try simp at hp))))
    | (apply XD.loud; (focus (simp [-getElem?_pos, h0]; with_reducible (first | rfl | exact ⟨rfl, rfl⟩))); (focus (simp; done)); (focus (simp; with_reducible rfl)); (focus (simp; with_reducible rfl))))
    all_goals ((refine Fin.mk' (by simp [resA]; with_reducible rfl) (by simp [oneOf, pureRes, snapFuel, snapL]; with_reducible rfl) ?_); simp [h0])
  · have hc := containsC H3 H4 (g := 80) (caps := [.ip [.int .i64 d] 0]) (xs := c.l) (r := fun y => !gcS y (d - 1)) H1.raw hf1 fun y hy => good1_ok H1 H.raw (wrap_i64 (by omega)) (ih y hy (hf2 y hy) (d - 1) (by omega))
    clear ih
    rw [eC]
    refine H.lim (Nat.le_of_ble_eq_true rfl) (by simp; with_reducible rfl) ?_; unfold c48
    (repeat' first
    | apply X.retS
    | apply X.skipS
    | apply X.skipB
    | apply X.skipL
    | (apply X.exitS; first | apply X.here | (refine X.out (by decide) ?_; apply X.here))
    | apply X.blockS
    | (apply X.condS rfl <;> intro hp <;> first | exact absurd hp (by decide) | ((try rw [hp]); (try simp at hp)))
    | apply X.stepZ
    | (apply X.step; (focus (simp [-getElem?_pos, h0, H2.raw, hk, H3.raw, hc]; with_reducible (first | rfl | exact ⟨rfl, rfl⟩))); (focus (simp; with_reducible rfl)))
    | (apply X.stepN rfl; (focus (simp; with_reducible rfl)))
    | ((first | apply X.stepGt rfl | apply X.stepGf rfl); (focus (simp; with_reducible rfl)); all_goals (intro hp; first | exact absurd hp (by decide) | ((try rw [hp]); (try simp at hp))))
    | (apply X.draw0; (focus rfl))
    | apply XD.nil
    | (apply XD.calm rfl; (focus (simp [-getElem?_pos, h0, H2.raw, hk, H3.raw, hc]; with_reducible (first | rfl | exact ⟨rfl, rfl⟩))); (focus (simp; with_reducible rfl)))
    | (apply XD.call; (focus (simp; with_reducible rfl)); (focus (simp; with_reducible rfl)); (focus (simp [-getElem?_pos, h0, H2.raw, hk, H3.raw, hc]; done)); (focus (simp [-getElem?_pos, h0, H2.raw, hk, H3.raw, hc]; with_reducible rfl)); (focus (simp; with_reducible rfl)))
    | (apply XD.stepN rfl; (focus (simp; with_reducible rfl)))
    | ((first | apply XD.stepGt rfl | apply XD.stepGf rfl); (focus (simp; with_reducible rfl)); all_goals (intro hp; first | exact absurd hp (by decide) | ((try rw [hp]); (try simp at hp))))
    | (apply XD.loud; (focus (simp [-getElem?_pos, h0, H2.raw, hk, H3.raw, hc]; with_reducible (first | rfl | exact ⟨rfl, rfl⟩))); (focus (simp; done)); (focus (simp; with_reducible rfl)); (focus (simp; with_reducible rfl))))
    all_goals ((refine Fin.mk' (by simp [resA]; with_reducible rfl) (by simp [oneOf, pureRes, snapFuel, snapL]; with_reducible rfl) ?_); clear hk hc; grind)

/-- How many words, at most 100000. -/
def szS : Co → Int
  | .mk _ _ _ _ _ _ l => if 100000 < szL 1 l then 100000 else szL 1 l
where
  szL (n : Int) : List Co → Int
  | [] => n
  | x :: l => if 100000 ≤ n then n else szL (n + szS x) l
theorem szS_eq (c : Co) : szS c = if 100000 < szS.szL 1 c.l then 100000 else szS.szL 1 c.l := by cases c; rw [szS]; rfl

theorem szS_pos : ∀ c, 1 ≤ szS c ∧ szS c ≤ 100000 := by
  refine Co.ind fun c ih => ?_
  have key : ∀ (l : List Co) (n : Int), (∀ y ∈ l, 1 ≤ szS y ∧ szS y ≤ 100000) → 1 ≤ n → 1 ≤ szS.szL n l := by
    intro l
    induction l with
    | nil => intro n _ hn; exact hn
    | cons x l ihl =>
      intro n h hn
      simp only [szS.szL]
      split
      · exact hn
      · have := (h x (by simp)).1
        exact ihl _ (fun y hy => h y (by simp [hy])) (by omega)
  have := key c.l 1 ih (by omega)
  rw [szS_eq]
  split <;> omega

set_option maxHeartbeats 2000000 in
theorem csize_ok (H : Has E 21 c21) : ∀ c, FineC c → limP E 21 [encC c] = some [.int .i64 (szS c)] := by
  refine Co.ind fun c ih hf => ?_
  obtain ⟨hf1, hf2⟩ := fineC hf
  rw [eC]
  refine H.lim (Nat.le_of_ble_eq_true rfl) (by simp; with_reducible rfl) ?_; unfold c21
  (repeat' first
    | apply X.retS
    | apply X.skipS
    | apply X.skipB
    | apply X.skipL
    | (apply X.exitS; first | apply X.here | (refine X.out (by decide) ?_; apply X.here))
    | apply X.blockS
    | (apply X.condS rfl <;> intro hp <;> first | exact absurd hp (by decide) | ((try rw [hp]); (try simp at hp)))
    | apply X.stepZ
    | (apply X.step; (focus (simp; with_reducible (first | rfl | exact ⟨rfl, rfl⟩))); (focus (simp; with_reducible rfl)))
    | (apply X.stepN rfl; (focus (simp; with_reducible rfl)))
    | ((first | apply X.stepGt rfl | apply X.stepGf rfl); (focus (simp; with_reducible rfl)); all_goals (intro hp; first | exact absurd hp (by decide) | ((try rw [hp]); (try simp at hp))))
    | (apply X.draw0; (focus rfl))
    | apply XD.nil
    | (apply XD.calm rfl; (focus (simp; with_reducible (first | rfl | exact ⟨rfl, rfl⟩))); (focus (simp; with_reducible rfl)))
    | (apply XD.call; (focus (simp; with_reducible rfl)); (focus (simp; with_reducible rfl)); (focus (simp; done)); (focus (simp; with_reducible rfl)); (focus (simp; with_reducible rfl)))
    | (apply XD.stepN rfl; (focus (simp; with_reducible rfl)))
    | ((first | apply XD.stepGt rfl | apply XD.stepGf rfl); (focus (simp; with_reducible rfl)); all_goals (intro hp; first | exact absurd hp (by decide) | ((try rw [hp]); (try simp at hp))))
    | (apply XD.loud; (focus (simp; with_reducible (first | rfl | exact ⟨rfl, rfl⟩))); (focus (simp; done)); (focus (simp; with_reducible rfl)); (focus (simp; with_reducible rfl))))
  refine X.forS c.l.length (fun j st => ∃ (n : Int), 1 ≤ n ∧ n ≤ 200000 ∧ szS.szL n (c.l.drop j) = szS.szL 1 c.l ∧ ∃ x0 x1 x2 x4 x5 x6 x10 x11 x12 x13 x14 x15 x16 x17 x18 x19 x20 x21 h,
    st = ⟨[x0, x1, x2, .pv (.int .i64 n), x4, x5, x6, .pv (.sl (c.l.map encC)), .pv (.int .i64 c.l.length), .pv (.int .i64 j), x10, x11, x12, x13, x14, x15, x16, x17, x18, x19, x20, x21], h⟩) ⟨1, by omega, by omega, rfl, _, _, _, _, _, _, _, _, _, _, _, _, _, _, _, _, _, _, _, rfl⟩ ?_
  rintro j st hj ⟨n, hn1, hn2, hi, x0, x1, x2, x4, x5, x6, x10, x11, x12, x13, x14, x15, x16, x17, x18, x19, x20, x21, h, rfl⟩
  rcases Nat.lt_or_ge j c.l.length with hj1 | hj1
  · obtain ⟨x, hx⟩ := at_of_lt hj1
    have hc := ih x (List.mem_of_getElem? hx) (hf2 x (List.mem_of_getElem? hx))
    obtain ⟨hs1, hs2⟩ := szS_pos x
    rw [drop_at hx] at hi
    simp only [szS.szL] at hi
    rw [eC] at hc
    have hw : IntKind.i64.wrap ((j : Int) + 1) = (j : Int) + 1 := wrap_i64 (by omega)
    clear ih
    by_cases hn : 100000 ≤ n
    · rw [if_pos hn] at hi
      (repeat' first
    | apply X.retS
    | apply X.skipS
    | apply X.skipB
    | apply X.skipL
    | (apply X.exitS; first | apply X.here | (refine X.out (by decide) ?_; apply X.here))
    | apply X.blockS
    | (apply X.condS rfl <;> intro hp <;> first | exact absurd hp (by decide) | ((try rw [hp]); (try simp at hp)))
    | apply X.stepZ
    | (apply X.step; (focus (simp [-getElem?_pos, hj1, hx, eC, hw, hn]; with_reducible (first | rfl | exact ⟨rfl, rfl⟩))); (focus (simp; with_reducible rfl)))
    | (apply X.stepN rfl; (focus (simp; with_reducible rfl)))
    | ((first | apply X.stepGt rfl | apply X.stepGf rfl); (focus (simp; with_reducible rfl)); all_goals (intro hp; first | exact absurd hp (by decide) | ((try rw [hp]); (try simp at hp))))
    | (apply X.draw0; (focus rfl))
    | apply XD.nil
    | (apply XD.calm rfl; (focus (simp [-getElem?_pos, hj1, hx, eC, hw, hn]; with_reducible (first | rfl | exact ⟨rfl, rfl⟩))); (focus (simp; with_reducible rfl)))
    | (apply XD.call; (focus (simp; with_reducible rfl)); (focus (simp; with_reducible rfl)); (focus (simp [-getElem?_pos, hj1, hx, eC, hw, hn]; done)); (focus (simp [-getElem?_pos, hj1, hx, eC, hw, hn]; with_reducible rfl)); (focus (simp; with_reducible rfl)))
    | (apply XD.stepN rfl; (focus (simp; with_reducible rfl)))
    | ((first | apply XD.stepGt rfl | apply XD.stepGf rfl); (focus (simp; with_reducible rfl)); all_goals (intro hp; first | exact absurd hp (by decide) | ((try rw [hp]); (try simp at hp))))
    | (apply XD.loud; (focus (simp [-getElem?_pos, hj1, hx, eC, hw, hn]; with_reducible (first | rfl | exact ⟨rfl, rfl⟩))); (focus (simp; done)); (focus (simp; with_reducible rfl)); (focus (simp; with_reducible rfl))))
      all_goals ((refine Fin.mk' (by simp [resA]; with_reducible rfl) (by simp [oneOf, pureRes, snapFuel, snapL]; with_reducible rfl) ?_); clear hc; first | (rw [szS_eq, ← hi]; done) | (rw [szS_eq, ← hi]; grind))
    · rw [if_neg hn] at hi
      have hw2 : IntKind.i64.wrap (n + szS x) = n + szS x := wrap_i64 (by omega)
      (repeat' first
    | apply X.retS
    | apply X.skipS
    | apply X.skipB
    | apply X.skipL
    | (apply X.exitS; first | apply X.here | (refine X.out (by decide) ?_; apply X.here))
    | apply X.blockS
    | (apply X.condS rfl <;> intro hp <;> first | exact absurd hp (by decide) | ((try rw [hp]); (try simp at hp)))
    | apply X.stepZ
    | (apply X.step; (focus (simp [-getElem?_pos, hj1, hx, eC, hw, hn, H.raw, hc, hw2]; with_reducible (first | rfl | exact ⟨rfl, rfl⟩))); (focus (simp; with_reducible rfl)))
    | (apply X.stepN rfl; (focus (simp; with_reducible rfl)))
    | ((first | apply X.stepGt rfl | apply X.stepGf rfl); (focus (simp; with_reducible rfl)); all_goals (intro hp; first | exact absurd hp (by decide) | ((try rw [hp]); (try simp at hp))))
    | (apply X.draw0; (focus rfl))
    | apply XD.nil
    | (apply XD.calm rfl; (focus (simp [-getElem?_pos, hj1, hx, eC, hw, hn, H.raw, hc, hw2]; with_reducible (first | rfl | exact ⟨rfl, rfl⟩))); (focus (simp; with_reducible rfl)))
    | (apply XD.call; (focus (simp; with_reducible rfl)); (focus (simp; with_reducible rfl)); (focus (simp [-getElem?_pos, hj1, hx, eC, hw, hn, H.raw, hc, hw2]; done)); (focus (simp [-getElem?_pos, hj1, hx, eC, hw, hn, H.raw, hc, hw2]; with_reducible rfl)); (focus (simp; with_reducible rfl)))
    | (apply XD.stepN rfl; (focus (simp; with_reducible rfl)))
    | ((first | apply XD.stepGt rfl | apply XD.stepGf rfl); (focus (simp; with_reducible rfl)); all_goals (intro hp; first | exact absurd hp (by decide) | ((try rw [hp]); (try simp at hp))))
    | (apply XD.loud; (focus (simp [-getElem?_pos, hj1, hx, eC, hw, hn, H.raw, hc, hw2]; with_reducible (first | rfl | exact ⟨rfl, rfl⟩))); (focus (simp; done)); (focus (simp; with_reducible rfl)); (focus (simp; with_reducible rfl))))
      exact ⟨hj1, n + szS x, by omega, by omega, hi, _, _, _, _, _, _, _, _, _, _, _, _, _, _, _, _, _, _, _, rfl⟩
  · have hj2 : ¬ j < c.l.length := by omega
    rw [List.drop_eq_nil_of_le hj1] at hi
    simp only [szS.szL] at hi
    clear ih
    (repeat' first
    | apply X.retS
    | apply X.skipS
    | apply X.skipB
    | apply X.skipL
    | (apply X.exitS; first | apply X.here | (refine X.out (by decide) ?_; apply X.here))
    | apply X.blockS
    | (apply X.condS rfl <;> intro hp <;> first | exact absurd hp (by decide) | ((try rw [hp]); (try simp at hp)))
    | apply X.stepZ
    | (apply X.step; (focus (simp [-getElem?_pos, hj2]; with_reducible (first | rfl | exact ⟨rfl, rfl⟩))); (focus (simp; with_reducible rfl)))
    | (apply X.stepN rfl; (focus (simp; with_reducible rfl)))
    | ((first | apply X.stepGt rfl | apply X.stepGf rfl); (focus (simp; with_reducible rfl)); all_goals (intro hp; first | exact absurd hp (by decide) | ((try rw [hp]); (try simp at hp))))
    | (apply X.draw0; (focus rfl))
    | apply XD.nil
    | (apply XD.calm rfl; (focus (simp [-getElem?_pos, hj2]; with_reducible (first | rfl | exact ⟨rfl, rfl⟩))); (focus (simp; with_reducible rfl)))
    | (apply XD.call; (focus (simp; with_reducible rfl)); (focus (simp; with_reducible rfl)); (focus (simp [-getElem?_pos, hj2]; done)); (focus (simp [-getElem?_pos, hj2]; with_reducible rfl)); (focus (simp; with_reducible rfl)))
    | (apply XD.stepN rfl; (focus (simp; with_reducible rfl)))
    | ((first | apply XD.stepGt rfl | apply XD.stepGf rfl); (focus (simp; with_reducible rfl)); all_goals (intro hp; first | exact absurd hp (by decide) | ((try rw [hp]); (try simp at hp))))
    | (apply XD.loud; (focus (simp [-getElem?_pos, hj2]; with_reducible (first | rfl | exact ⟨rfl, rfl⟩))); (focus (simp; done)); (focus (simp; with_reducible rfl)); (focus (simp; with_reducible rfl))))
    all_goals ((refine Fin.mk' (by simp [resA]; with_reducible rfl) (by simp [oneOf, pureRes, snapFuel, snapL]; with_reducible rfl) ?_); first | (rw [szS_eq, ← hi]; done) | (rw [szS_eq, ← hi]; grind))

/-- What the walks of cores lean on. -/
structure HasC (E : Env) : Prop where
  good : Has E 48 c48
  good1 : Has E 80 c80
  kids : Has E 78 c78
  con : Has E 79 c79
  idx : Has E 87 c87
  size : Has E 21 c21
  Good : Has E 19 c19

def GoodC (c : Co) : Bool := if szS c ≤ 2000 then gcS c 8000 else false

set_option maxHeartbeats 1000000 in
theorem CGood_ok (H : HasC E) (c : Co) (hf : FineC c) : limP E 19 [encC c] = some [.bool (GoodC c)] := by
  have h1 := csize_ok H.size c hf
  have h2 := cgood_ok H.good H.good1 H.kids H.con H.idx c hf 8000 (by omega)
  rw [eC] at h1 h2 ⊢
  have H := H.Good
  rename_i HH
  refine H.lim (Nat.le_of_ble_eq_true rfl) (by simp; with_reducible rfl) ?_; unfold c19
  (repeat' first
    | apply X.retS
    | apply X.skipS
    | apply X.skipB
    | apply X.skipL
    | (apply X.exitS; first | apply X.here | (refine X.out (by decide) ?_; apply X.here))
    | apply X.blockS
    | (apply X.condS rfl <;> intro hp <;> first | exact absurd hp (by decide) | ((try rw [hp]); (try simp at hp)))
    | apply X.stepZ
    | (apply X.step; (focus (simp [-getElem?_pos, HH.size.raw, HH.good.raw, h1, h2]; with_reducible (first | rfl | exact ⟨rfl, rfl⟩))); (focus (simp; with_reducible rfl)))
    | (apply X.stepN rfl; (focus (simp; with_reducible rfl)))
    | ((first | apply X.stepGt rfl | apply X.stepGf rfl); (focus (simp; with_reducible rfl)); all_goals (intro hp; first | exact absurd hp (by decide) | ((try rw [hp]); (try simp at hp))))
    | (apply X.draw0; (focus rfl))
    | apply XD.nil
    | (apply XD.calm rfl; (focus (simp [-getElem?_pos, HH.size.raw, HH.good.raw, h1, h2]; with_reducible (first | rfl | exact ⟨rfl, rfl⟩))); (focus (simp; with_reducible rfl)))
    | (apply XD.call; (focus (simp; with_reducible rfl)); (focus (simp; with_reducible rfl)); (focus (simp [-getElem?_pos, HH.size.raw, HH.good.raw, h1, h2]; done)); (focus (simp [-getElem?_pos, HH.size.raw, HH.good.raw, h1, h2]; with_reducible rfl)); (focus (simp; with_reducible rfl)))
    | (apply XD.stepN rfl; (focus (simp; with_reducible rfl)))
    | ((first | apply XD.stepGt rfl | apply XD.stepGf rfl); (focus (simp; with_reducible rfl)); all_goals (intro hp; first | exact absurd hp (by decide) | ((try rw [hp]); (try simp at hp))))
    | (apply XD.loud; (focus (simp [-getElem?_pos, HH.size.raw, HH.good.raw, h1, h2]; with_reducible (first | rfl | exact ⟨rfl, rfl⟩))); (focus (simp; done)); (focus (simp; with_reducible rfl)); (focus (simp; with_reducible rfl))))
  all_goals ((refine Fin.mk' (by simp [resA]; with_reducible rfl) (by simp [oneOf, pureRes, snapFuel, snapL]; with_reducible rfl) ?_); grind [GoodC])

/-- Whether a byte is in a core's set. -/
def hasS (c : Co) (b : Int) : Bool :=
  let w := if b < 64 then c.s0 else if b < 128 then c.s1 else if b < 192 then c.s2 else c.s3
  decide (w.fdiv (2 ^ min (b.tmod 64).toNat 64) % 2 = 1)

theorem and1 (x : Int) : (IntKind.u64.wrap (BitVec.ofInt 64 x &&& 1#64).toNat == 1) = decide (x % 2 = 1) := by
  have e : (((BitVec.ofInt 64 x &&& 1#64).toNat : Nat) : Int) = x % 2 := by simp; omega
  have e2 : IntKind.u64.wrap (x % 2) = x % 2 := by simp [IntKind.wrap, IntKind.signed, IntKind.bits]; omega
  rw [e, e2, Bool.eq_iff_iff]
  simp

set_option maxHeartbeats 2000000 in
theorem Has_ok (H : Has E 41 c41) (c : Co) (b : Int) (hb : 0 ≤ b ∧ b < 256) : limP E 41 [.agg [.int .u64 c.s0, .int .u64 c.s1, .int .u64 c.s2, .int .u64 c.s3], .int .u8 b] = some [.bool (hasS c b)] := by
  have ht : b.tmod 64 = b % 64 := Int.tmod_eq_emod_of_nonneg hb.1
  have hd : b.tdiv 64 = b / 64 := Int.tdiv_eq_ediv_of_nonneg hb.1
  have hm2 : ¬ b.tmod 64 < 0 := by omega
  have hq : (b < 64 ∧ b.tdiv 64 = 0) ∨ (¬ b < 64 ∧ b < 128 ∧ b.tdiv 64 = 1) ∨ (¬ b < 64 ∧ ¬ b < 128 ∧ b < 192 ∧ b.tdiv 64 = 2) ∨ (¬ b < 64 ∧ ¬ b < 128 ∧ ¬ b < 192 ∧ b.tdiv 64 = 3) := by omega
  clear hd ht
  have hw : ∀ i : Int, 0 ≤ i → i < 4 → IntKind.u8.wrap i = i := fun i h1 h2 => by rw [IntKind.wrap_u8]; omega
  refine H.lim (Nat.le_of_ble_eq_true rfl) (by simp; with_reducible rfl) ?_; unfold c41
  rcases hq with ⟨h1, hq⟩ | ⟨h1, h2, hq⟩ | ⟨h1, h2, h3, hq⟩ | ⟨h1, h2, h3, hq⟩
  · have := hw 0 (by omega) (by omega)
    (repeat' first
    | apply X.retS
    | apply X.skipS
    | apply X.skipB
    | apply X.skipL
    | (apply X.exitS; first | apply X.here | (refine X.out (by decide) ?_; apply X.here))
    | apply X.blockS
    | (apply X.condS rfl <;> intro hp <;> first | exact absurd hp (by decide) | ((try rw [hp]); (try simp at hp)))
    | apply X.stepZ
    | (apply X.step; (focus (simp [-getElem?_pos, hq, this, hm2, IntKind.bits, and1]; with_reducible (first | rfl | exact ⟨rfl, rfl⟩))); (focus (simp; with_reducible rfl)))
    | (apply X.stepN rfl; (focus (simp; with_reducible rfl)))
    | ((first | apply X.stepGt rfl | apply X.stepGf rfl); (focus (simp; with_reducible rfl)); all_goals (intro hp; first | exact absurd hp (by decide) | ((try rw [hp]); (try simp at hp))))
    | (apply X.draw0; (focus rfl))
    | apply XD.nil
    | (apply XD.calm rfl; (focus (simp [-getElem?_pos, hq, this, hm2, IntKind.bits, and1]; with_reducible (first | rfl | exact ⟨rfl, rfl⟩))); (focus (simp; with_reducible rfl)))
    | (apply XD.call; (focus (simp; with_reducible rfl)); (focus (simp; with_reducible rfl)); (focus (simp [-getElem?_pos, hq, this, hm2, IntKind.bits, and1]; done)); (focus (simp [-getElem?_pos, hq, this, hm2, IntKind.bits, and1]; with_reducible rfl)); (focus (simp; with_reducible rfl)))
    | (apply XD.stepN rfl; (focus (simp; with_reducible rfl)))
    | ((first | apply XD.stepGt rfl | apply XD.stepGf rfl); (focus (simp; with_reducible rfl)); all_goals (intro hp; first | exact absurd hp (by decide) | ((try rw [hp]); (try simp at hp))))
    | (apply XD.loud; (focus (simp [-getElem?_pos, hq, this, hm2, IntKind.bits, and1]; with_reducible (first | rfl | exact ⟨rfl, rfl⟩))); (focus (simp; done)); (focus (simp; with_reducible rfl)); (focus (simp; with_reducible rfl))))
    all_goals ((refine Fin.mk' (by simp [resA]; with_reducible rfl) (by simp [oneOf, pureRes, snapFuel, snapL]; with_reducible rfl) ?_); simp only [hasS, h1, if_true, if_false, BitVec.ofNat_eq_ofNat]; rw [← and1]; rfl)
  · have := hw 1 (by omega) (by omega)
    (repeat' first
    | apply X.retS
    | apply X.skipS
    | apply X.skipB
    | apply X.skipL
    | (apply X.exitS; first | apply X.here | (refine X.out (by decide) ?_; apply X.here))
    | apply X.blockS
    | (apply X.condS rfl <;> intro hp <;> first | exact absurd hp (by decide) | ((try rw [hp]); (try simp at hp)))
    | apply X.stepZ
    | (apply X.step; (focus (simp [-getElem?_pos, hq, this, hm2, IntKind.bits, and1]; with_reducible (first | rfl | exact ⟨rfl, rfl⟩))); (focus (simp; with_reducible rfl)))
    | (apply X.stepN rfl; (focus (simp; with_reducible rfl)))
    | ((first | apply X.stepGt rfl | apply X.stepGf rfl); (focus (simp; with_reducible rfl)); all_goals (intro hp; first | exact absurd hp (by decide) | ((try rw [hp]); (try simp at hp))))
    | (apply X.draw0; (focus rfl))
    | apply XD.nil
    | (apply XD.calm rfl; (focus (simp [-getElem?_pos, hq, this, hm2, IntKind.bits, and1]; with_reducible (first | rfl | exact ⟨rfl, rfl⟩))); (focus (simp; with_reducible rfl)))
    | (apply XD.call; (focus (simp; with_reducible rfl)); (focus (simp; with_reducible rfl)); (focus (simp [-getElem?_pos, hq, this, hm2, IntKind.bits, and1]; done)); (focus (simp [-getElem?_pos, hq, this, hm2, IntKind.bits, and1]; with_reducible rfl)); (focus (simp; with_reducible rfl)))
    | (apply XD.stepN rfl; (focus (simp; with_reducible rfl)))
    | ((first | apply XD.stepGt rfl | apply XD.stepGf rfl); (focus (simp; with_reducible rfl)); all_goals (intro hp; first | exact absurd hp (by decide) | ((try rw [hp]); (try simp at hp))))
    | (apply XD.loud; (focus (simp [-getElem?_pos, hq, this, hm2, IntKind.bits, and1]; with_reducible (first | rfl | exact ⟨rfl, rfl⟩))); (focus (simp; done)); (focus (simp; with_reducible rfl)); (focus (simp; with_reducible rfl))))
    all_goals ((refine Fin.mk' (by simp [resA]; with_reducible rfl) (by simp [oneOf, pureRes, snapFuel, snapL]; with_reducible rfl) ?_); simp only [hasS, h1, h2, if_true, if_false]; rw [← and1]; rfl)
  · have := hw 2 (by omega) (by omega)
    (repeat' first
    | apply X.retS
    | apply X.skipS
    | apply X.skipB
    | apply X.skipL
    | (apply X.exitS; first | apply X.here | (refine X.out (by decide) ?_; apply X.here))
    | apply X.blockS
    | (apply X.condS rfl <;> intro hp <;> first | exact absurd hp (by decide) | ((try rw [hp]); (try simp at hp)))
    | apply X.stepZ
    | (apply X.step; (focus (simp [-getElem?_pos, hq, this, hm2, IntKind.bits, and1]; with_reducible (first | rfl | exact ⟨rfl, rfl⟩))); (focus (simp; with_reducible rfl)))
    | (apply X.stepN rfl; (focus (simp; with_reducible rfl)))
    | ((first | apply X.stepGt rfl | apply X.stepGf rfl); (focus (simp; with_reducible rfl)); all_goals (intro hp; first | exact absurd hp (by decide) | ((try rw [hp]); (try simp at hp))))
    | (apply X.draw0; (focus rfl))
    | apply XD.nil
    | (apply XD.calm rfl; (focus (simp [-getElem?_pos, hq, this, hm2, IntKind.bits, and1]; with_reducible (first | rfl | exact ⟨rfl, rfl⟩))); (focus (simp; with_reducible rfl)))
    | (apply XD.call; (focus (simp; with_reducible rfl)); (focus (simp; with_reducible rfl)); (focus (simp [-getElem?_pos, hq, this, hm2, IntKind.bits, and1]; done)); (focus (simp [-getElem?_pos, hq, this, hm2, IntKind.bits, and1]; with_reducible rfl)); (focus (simp; with_reducible rfl)))
    | (apply XD.stepN rfl; (focus (simp; with_reducible rfl)))
    | ((first | apply XD.stepGt rfl | apply XD.stepGf rfl); (focus (simp; with_reducible rfl)); all_goals (intro hp; first | exact absurd hp (by decide) | ((try rw [hp]); (try simp at hp))))
    | (apply XD.loud; (focus (simp [-getElem?_pos, hq, this, hm2, IntKind.bits, and1]; with_reducible (first | rfl | exact ⟨rfl, rfl⟩))); (focus (simp; done)); (focus (simp; with_reducible rfl)); (focus (simp; with_reducible rfl))))
    all_goals ((refine Fin.mk' (by simp [resA]; with_reducible rfl) (by simp [oneOf, pureRes, snapFuel, snapL]; with_reducible rfl) ?_); simp only [hasS, h1, h2, h3, if_true, if_false]; rw [← and1]; rfl)
  · have := hw 3 (by omega) (by omega)
    (repeat' first
    | apply X.retS
    | apply X.skipS
    | apply X.skipB
    | apply X.skipL
    | (apply X.exitS; first | apply X.here | (refine X.out (by decide) ?_; apply X.here))
    | apply X.blockS
    | (apply X.condS rfl <;> intro hp <;> first | exact absurd hp (by decide) | ((try rw [hp]); (try simp at hp)))
    | apply X.stepZ
    | (apply X.step; (focus (simp [-getElem?_pos, hq, this, hm2, IntKind.bits, and1]; with_reducible (first | rfl | exact ⟨rfl, rfl⟩))); (focus (simp; with_reducible rfl)))
    | (apply X.stepN rfl; (focus (simp; with_reducible rfl)))
    | ((first | apply X.stepGt rfl | apply X.stepGf rfl); (focus (simp; with_reducible rfl)); all_goals (intro hp; first | exact absurd hp (by decide) | ((try rw [hp]); (try simp at hp))))
    | (apply X.draw0; (focus rfl))
    | apply XD.nil
    | (apply XD.calm rfl; (focus (simp [-getElem?_pos, hq, this, hm2, IntKind.bits, and1]; with_reducible (first | rfl | exact ⟨rfl, rfl⟩))); (focus (simp; with_reducible rfl)))
    | (apply XD.call; (focus (simp; with_reducible rfl)); (focus (simp; with_reducible rfl)); (focus (simp [-getElem?_pos, hq, this, hm2, IntKind.bits, and1]; done)); (focus (simp [-getElem?_pos, hq, this, hm2, IntKind.bits, and1]; with_reducible rfl)); (focus (simp; with_reducible rfl)))
    | (apply XD.stepN rfl; (focus (simp; with_reducible rfl)))
    | ((first | apply XD.stepGt rfl | apply XD.stepGf rfl); (focus (simp; with_reducible rfl)); all_goals (intro hp; first | exact absurd hp (by decide) | ((try rw [hp]); (try simp at hp))))
    | (apply XD.loud; (focus (simp [-getElem?_pos, hq, this, hm2, IntKind.bits, and1]; with_reducible (first | rfl | exact ⟨rfl, rfl⟩))); (focus (simp; done)); (focus (simp; with_reducible rfl)); (focus (simp; with_reducible rfl))))
    all_goals ((refine Fin.mk' (by simp [resA]; with_reducible rfl) (by simp [oneOf, pureRes, snapFuel, snapL]; with_reducible rfl) ?_); simp only [hasS, h1, h2, h3, if_true, if_false]; rw [← and1]; rfl)

/-- As many kids as its kind has, and a group's number: all the way down. -/
def Sh : Co → Prop
  | .mk k _ _ _ _ n l => (l.length : Int) = kidsS k ∧ (k = 6 → 1 ≤ n ∧ n ≤ 32) ∧ ShL l
where
  ShL : List Co → Prop
  | [] => True
  | x :: l => Sh x ∧ ShL l
theorem shL : ∀ {l : List Co}, Sh.ShL l ↔ ∀ x ∈ l, Sh x
  | [] => by simp [Sh.ShL]
  | x :: l => by simp [Sh.ShL, shL (l := l)]
theorem sh_mk {c : Co} : Sh c ↔ (c.l.length : Int) = kidsS c.k ∧ (c.k = 6 → 1 ≤ c.n ∧ c.n ≤ 32) ∧ ∀ x ∈ c.l, Sh x := by
  cases c; simp only [Sh, shL, Co.k, Co.l, Co.n]

theorem sh_of_good : ∀ c d, gcS c d = true → Sh c := by
  refine Co.ind fun c ih d h => ?_
  rw [gcS_eq] at h
  rw [sh_mk]
  split at h
  · cases h
  · split at h
    · cases h
    · rename_i h2
      split at h
      · cases h
      · split at h
        · cases h
        · rename_i h4
          split at h
          · cases h
          · refine ⟨by simpa using h2, fun h6 => ?_, fun x hx => ?_⟩
            · simp only [h6, true_and, not_or] at h4; omega
            · have : (c.l.any fun y => !gcS y (d - 1)) = false := by simpa using h
              rw [List.any_eq_false] at this
              exact ih x hx (d - 1) (by simpa using this x hx)

theorem sh_GoodC {c : Co} (h : GoodC c = true) : Sh c := by
  unfold GoodC at h
  split at h
  · exact sh_of_good c _ h
  · cases h

/-- The kids, by the kind. -/
theorem sh_one {c : Co} (h : Sh c) (hk : c.k = 5 ∨ c.k = 6 ∨ c.k = 7) : ∃ a, c.l = [a] ∧ Sh a := by
  rw [sh_mk] at h
  obtain ⟨h1, _, h3⟩ := h
  have : c.l.length = 1 := by
    have : kidsS c.k = 1 := by rcases hk with h | h | h <;> rw [h] <;> rfl
    omega
  match hl : c.l, this with
  | [a], _ => exact ⟨a, rfl, h3 a (by rw [hl]; simp)⟩
theorem sh_two {c : Co} (h : Sh c) (hk : c.k = 3 ∨ c.k = 4) : ∃ a b, c.l = [a, b] ∧ Sh a ∧ Sh b := by
  rw [sh_mk] at h
  obtain ⟨h1, _, h3⟩ := h
  have : c.l.length = 2 := by
    have : kidsS c.k = 2 := by rcases hk with h | h <;> rw [h] <;> rfl
    omega
  match hl : c.l, this with
  | [a, b], _ => exact ⟨a, b, rfl, h3 a (by rw [hl]; simp), h3 b (by rw [hl]; simp)⟩

theorem eCm (k s0 s1 s2 s3 n : Int) (l : List Co) : encC (.mk k s0 s1 s2 s3 n l) = .agg [.int .i64 k, .int .u64 s0, .int .u64 s1, .int .u64 s2, .int .u64 s3, .int .i64 n, .sl (l.map encC)] := eC _
end Cps

-- What cores say: rows of places, and texts; in plain words.
namespace Lng
open Cps

/-- Places of a text. -/
abbrev Pl := Nat → Bool
def orP (p q : Pl) : Pl := fun j => p j || q j
def one (i : Nat) : Pl := fun j => decide (j = i)
def none' : Pl := fun _ => false
/-- From a place on, so many: where it stands in one, what goes on from there is put in. -/
def goS (r : Nat → Pl) : Nat → Nat → Pl → Pl
  | 0, _, p => p
  | m + 1, k, p => goS r m (k + 1) (if p k then orP p (r k) else p)
def goB (l : Pl) (r : Nat → Pl) : Nat → Nat → Pl → Pl
  | 0, _, p => p
  | m + 1, k, p => goB l r m (k + 1) (if l k then orP p (r k) else p)

/-- Where what a core says from a place on may end. -/
def rowS (s : List Int) : Co → Nat → Pl
  | .mk k s0 s1 s2 s3 n l => fun i =>
    if k = 1 then one i else
    if k = 2 then (match s[i]? with
      | some b => if hasS (.mk k s0 s1 s2 s3 n []) b then one (i + 1) else none'
      | none => none') else
    if k = 3 then goB (rowAt s l 0 i) (rowAt s l 1) (s.length + 1 - i) i none' else
    if k = 4 then orP (orP none' (rowAt s l 0 i)) (rowAt s l 1 i) else
    if k = 5 then goS (rowAt s l 0) (s.length + 1 - i) i (one i) else
    if k = 6 ∨ k = 7 then orP none' (rowAt s l 0 i) else none'
where
  rowAt (s : List Int) : List Co → Nat → Nat → Pl
  | [], _, _ => none'
  | c :: _, 0, i => rowS s c i
  | _ :: l, m + 1, i => rowAt s l m i

theorem rowS_eq (s : List Int) (c : Co) (i : Nat) : rowS s c i =
    if c.k = 1 then one i else
    if c.k = 2 then (match s[i]? with
      | some b => if hasS c b then one (i + 1) else none'
      | none => none') else
    if c.k = 3 then goB (rowS.rowAt s c.l 0 i) (rowS.rowAt s c.l 1) (s.length + 1 - i) i none' else
    if c.k = 4 then orP (orP none' (rowS.rowAt s c.l 0 i)) (rowS.rowAt s c.l 1 i) else
    if c.k = 5 then goS (rowS.rowAt s c.l 0) (s.length + 1 - i) i (one i) else
    if c.k = 6 ∨ c.k = 7 then orP none' (rowS.rowAt s c.l 0 i) else none' := by
  cases c
  rw [rowS]
  simp only [Co.k, Co.l, hasS, Co.s0, Co.s1, Co.s2, Co.s3]
  rfl

/-- As often as one likes. -/
inductive St (R : List Int → Prop) : List Int → Prop
  | nil : St R []
  | cons {u v : List Int} : R u → St R v → St R (u ++ v)

/-- The texts that a core says. -/
def Lg : Co → List Int → Prop
  | .mk k s0 s1 s2 s3 n l => fun t =>
    if k = 1 then t = [] else
    if k = 2 then ∃ b, t = [b] ∧ hasS (.mk k s0 s1 s2 s3 n []) b = true else
    if k = 3 then ∃ u v, t = u ++ v ∧ LgAt l 0 u ∧ LgAt l 1 v else
    if k = 4 then LgAt l 0 t ∨ LgAt l 1 t else
    if k = 5 then St (LgAt l 0) t else
    if k = 6 ∨ k = 7 then LgAt l 0 t else False
where
  LgAt : List Co → Nat → List Int → Prop
  | [], _, _ => False
  | c :: _, 0, t => Lg c t
  | _ :: l, m + 1, t => LgAt l m t

theorem Lg_eq (c : Co) (t : List Int) : Lg c t =
    if c.k = 1 then t = [] else
    if c.k = 2 then ∃ b, t = [b] ∧ hasS c b = true else
    if c.k = 3 then ∃ u v, t = u ++ v ∧ Lg.LgAt c.l 0 u ∧ Lg.LgAt c.l 1 v else
    if c.k = 4 then Lg.LgAt c.l 0 t ∨ Lg.LgAt c.l 1 t else
    if c.k = 5 then St (Lg.LgAt c.l 0) t else
    if c.k = 6 ∨ c.k = 7 then Lg.LgAt c.l 0 t else False := by
  cases c
  rw [Lg]
  simp only [Co.k, Co.l, hasS, Co.s0, Co.s1, Co.s2, Co.s3]
  rfl

theorem St.app {R : List Int → Prop} {u v : List Int} (h : St R u) (k : St R v) : St R (u ++ v) := by
  induction h with
  | nil => exact k
  | cons h1 h2 ih => rw [List.append_assoc]; exact .cons h1 ih
theorem St.single {R : List Int → Prop} {u : List Int} (h : R u) : St R u := by
  have := St.cons h (St.nil (R := R))
  rwa [List.append_nil] at this
theorem St.mono {R R' : List Int → Prop} {u : List Int} (h : St R u) (k : ∀ t, R t → R' t) : St R' u := by
  induction h with
  | nil => exact .nil
  | cons h1 h2 ih => exact .cons (k _ h1) ih
/-- As often as one likes of as often as one likes. -/
theorem St.star {R : List Int → Prop} {u : List Int} : St (St R) u ↔ St R u := by
  constructor
  · intro h
    induction h with
    | nil => exact .nil
    | cons h1 h2 ih => exact h1.app ih
  · exact St.single

theorem goB_iff {l : Pl} {r : Nat → Pl} {j : Nat} : ∀ (m k : Nat) (p : Pl), goB l r m k p j = true ↔ p j = true ∨ ∃ x, k ≤ x ∧ x < k + m ∧ l x = true ∧ r x j = true
  | 0, k, p => by
    simp only [goB]
    constructor
    · exact .inl
    · rintro (h | ⟨x, h1, h2, _⟩)
      · exact h
      · omega
  | m + 1, k, p => by
    rw [goB, goB_iff m (k + 1)]
    by_cases hl : l k = true
    · rw [if_pos hl]
      simp only [orP, Bool.or_eq_true]
      constructor
      · rintro ((h | h) | ⟨x, h1, h2, h3⟩)
        · exact .inl h
        · exact .inr ⟨k, by omega, by omega, hl, h⟩
        · exact .inr ⟨x, by omega, by omega, h3⟩
      · rintro (h | ⟨x, h1, h2, h3, h4⟩)
        · exact .inl (.inl h)
        · by_cases hx : x = k
          · subst hx; exact .inl (.inr h4)
          · exact .inr ⟨x, by omega, by omega, h3, h4⟩
    · rw [if_neg hl]
      constructor
      · rintro (h | ⟨x, h1, h2, h3⟩)
        · exact .inl h
        · exact .inr ⟨x, by omega, by omega, h3⟩
      · rintro (h | ⟨x, h1, h2, h3, h4⟩)
        · exact .inl h
        · by_cases hx : x = k
          · subst hx; exact absurd h3 hl
          · exact .inr ⟨x, by omega, by omega, h3, h4⟩

/-- Gone to, step by step. -/
inductive Rc (r : Nat → Pl) (p : Pl) : Nat → Prop
  | base {j : Nat} : p j = true → Rc r p j
  | step {k j : Nat} : Rc r p k → r k j = true → Rc r p j

theorem goS_ge {r : Nat → Pl} {j : Nat} : ∀ (m k : Nat) (p : Pl), p j = true → goS r m k p j = true
  | 0, _, _, h => h
  | m + 1, k, p, h => by
    rw [goS]
    refine goS_ge m _ _ ?_
    split
    · simp [orP, h]
    · exact h
theorem goS_le {r : Nat → Pl} {p0 : Pl} {j : Nat} : ∀ (m k : Nat) (p : Pl), (∀ x, p x = true → Rc r p0 x) → goS r m k p j = true → Rc r p0 j
  | 0, _, _, h, hj => h _ hj
  | m + 1, k, p, h, hj => by
    rw [goS] at hj
    refine goS_le m _ _ ?_ hj
    intro x hx
    split at hx
    · rename_i hk
      simp only [orP, Bool.or_eq_true] at hx
      rcases hx with hx | hx
      · exact h x hx
      · exact .step (h k hk) hx
    · exact h x hx
theorem goS_closed {r : Nat → Pl} (hr : ∀ k j, r k j = true → k ≤ j) : ∀ (m k : Nat) (p : Pl), (∀ x, x < k → p x = true → ∀ j, r x j = true → p j = true) → ∀ x, x < k + m → goS r m k p x = true → ∀ j, r x j = true → goS r m k p j = true
  | 0, k, p, h => fun x hx hp j hj => h x (by omega) hp j hj
  | m + 1, k, p, h => by
    intro x hx
    rw [goS]
    refine goS_closed hr m (k + 1) _ ?_ x (by omega)
    intro y hy hp j hj
    by_cases hk : p k = true
    · rw [if_pos hk] at hp ⊢
      simp only [orP, Bool.or_eq_true] at hp ⊢
      by_cases hyk : y = k
      · subst hyk; exact .inr hj
      · rcases hp with hp | hp
        · exact .inl (h y (by omega) hp j hj)
        · have := hr _ _ hp; omega
    · rw [if_neg hk] at hp ⊢
      by_cases hyk : y = k
      · subst hyk; exact absurd hp hk
      · exact h y (by omega) hp j hj

/-- A part of a text. -/
def seg (s : List Int) (i j : Nat) : List Int := (s.drop i).take (j - i)
theorem seg_app {s : List Int} {i k j : Nat} (h1 : i ≤ k) (h2 : k ≤ j) : seg s i j = seg s i k ++ seg s k j := by
  simp only [seg]
  have e : j - i = (k - i) + (j - k) := by omega
  rw [e, List.take_add, List.drop_drop]
  have : i + (k - i) = k := by omega
  rw [this]
theorem seg_len {s : List Int} {i j : Nat} (h1 : i ≤ j) (h2 : j ≤ s.length) : (seg s i j).length = j - i := by
  simp [seg]; omega
theorem seg_nil {s : List Int} {i : Nat} : seg s i i = [] := by simp [seg]
theorem seg_split {s : List Int} {i j : Nat} {u v : List Int} (h1 : i ≤ j) (h2 : j ≤ s.length) (h : seg s i j = u ++ v) : i + u.length ≤ j ∧ seg s i (i + u.length) = u ∧ seg s (i + u.length) j = v := by
  have hl := seg_len h1 h2
  rw [h, List.length_append] at hl
  have hu : i + u.length ≤ j := by omega
  refine ⟨hu, ?_⟩
  have e := seg_app (s := s) (i := i) (k := i + u.length) (j := j) (by omega) hu
  rw [h] at e
  have hlu : (seg s i (i + u.length)).length = u.length := by rw [seg_len (by omega) (by omega)]; omega
  have := List.append_inj e hlu.symm
  exact ⟨this.1.symm, this.2.symm⟩
theorem seg_one {s : List Int} {i : Nat} {b : Int} (h : s[i]? = some b) : seg s i (i + 1) = [b] := by
  simp only [seg]
  rw [Ab.drop_at h]
  simp
theorem seg_all {s : List Int} : seg s 0 s.length = s := by simp [seg]

/-- What a row says: the texts. -/
theorem row_iff {s : List Int} : ∀ c i j, i ≤ s.length → (rowS s c i j = true ↔ i ≤ j ∧ j ≤ s.length ∧ Lg c (seg s i j)) := by
  refine Co.ind fun c ih i j hi => ?_
  have hat : ∀ (l : List Co) (m i j : Nat), (∀ y ∈ l, ∀ i j, i ≤ s.length → (rowS s y i j = true ↔ i ≤ j ∧ j ≤ s.length ∧ Lg y (seg s i j))) → i ≤ s.length → (rowS.rowAt s l m i j = true ↔ i ≤ j ∧ j ≤ s.length ∧ Lg.LgAt l m (seg s i j)) := by
    intro l
    induction l with
    | nil => intro m i j _ _; simp [rowS.rowAt, Lg.LgAt, none']
    | cons x l ihl =>
      intro m i j hh hi
      cases m with
      | zero => simp only [rowS.rowAt, Lg.LgAt]; exact hh x (by simp) i j hi
      | succ m => simp only [rowS.rowAt, Lg.LgAt]; exact ihl m i j (fun y hy => hh y (by simp [hy])) hi
  have h0 := fun i j hi => hat c.l 0 i j ih hi
  have h1 := fun i j hi => hat c.l 1 i j ih hi
  clear hat ih
  rw [rowS_eq, Lg_eq]
  generalize rowS.rowAt s c.l 0 = r0 at h0
  generalize rowS.rowAt s c.l 1 = r1 at h1
  generalize Lg.LgAt c.l 0 = L0 at h0
  generalize Lg.LgAt c.l 1 = L1 at h1
  split
  · simp only [one, decide_eq_true_eq]
    constructor
    · rintro rfl; exact ⟨Nat.le_refl _, hi, seg_nil⟩
    · rintro ⟨g1, g2, g3⟩
      have := seg_len g1 g2
      rw [g3] at this
      simp at this
      omega
  · split
    · cases hb : s[i]? with
      | none =>
        simp only [none', Bool.false_eq_true, false_iff, not_and]
        rintro g1 g2 ⟨b, g3, _⟩
        have := seg_len g1 g2
        rw [g3] at this
        simp at this
        rw [List.getElem?_eq_none_iff] at hb
        omega
      | some b =>
        have hlt := (List.getElem?_eq_some_iff.1 hb).1
        simp only
        constructor
        · intro h
          split at h
          · rename_i hh
            simp only [one, decide_eq_true_eq] at h
            subst h
            exact ⟨by omega, by omega, b, seg_one hb, hh⟩
          · simp [none'] at h
        · rintro ⟨g1, g2, b', g3, g4⟩
          have := seg_len g1 g2
          rw [g3] at this
          simp at this
          have hj : j = i + 1 := by omega
          subst hj
          rw [seg_one hb] at g3
          have : b = b' := by simpa using g3
          subst this
          rw [if_pos g4]
          simp [one]
    · split
      · rw [goB_iff]
        simp only [none', Bool.false_eq_true, false_or]
        constructor
        · rintro ⟨x, g1, g2, g3, g4⟩
          obtain ⟨a1, a2, a3⟩ := (h0 i x hi).1 g3
          obtain ⟨b1, b2, b3⟩ := (h1 x j a2).1 g4
          exact ⟨by omega, b2, _, _, seg_app a1 b1, a3, b3⟩
        · rintro ⟨g1, g2, u, v, g3, g4, g5⟩
          obtain ⟨a1, a2, a3⟩ := seg_split g1 g2 g3
          refine ⟨i + u.length, by omega, by omega, (h0 i _ hi).2 ⟨by omega, by omega, by rw [a2]; exact g4⟩, (h1 _ j (by omega)).2 ⟨a1, g2, by rw [a3]; exact g5⟩⟩
      · split
        · simp only [orP, none', Bool.false_or, Bool.or_eq_true]
          rw [h0 i j hi, h1 i j hi]
          constructor
          · rintro (⟨a, b, c⟩ | ⟨a, b, c⟩)
            · exact ⟨a, b, .inl c⟩
            · exact ⟨a, b, .inr c⟩
          · rintro ⟨a, b, c | c⟩
            · exact .inl ⟨a, b, c⟩
            · exact .inr ⟨a, b, c⟩
        · split
          · have hr : ∀ k j, (fun k => if k ≤ s.length then r0 k else none') k j = true → k ≤ j := by
              intro k j h
              simp only at h
              split at h
              · exact ((h0 k j (by assumption)).1 h).1
              · simp [none'] at h
            have hgo : ∀ (m k : Nat) (p : Pl), k + m ≤ s.length + 1 → goS r0 m k p = goS (fun k => if k ≤ s.length then r0 k else none') m k p := by
              intro m
              induction m with
              | zero => intro k p _; rfl
              | succ m ihm =>
                intro k p hk
                rw [goS, goS, ihm _ _ (by omega)]
                simp only [if_pos (show k ≤ s.length by omega)]
            rw [hgo _ _ _ (by omega)]
            have hcl := goS_closed hr (s.length + 1 - i) i (one i) (fun x hx hp => by simp [one] at hp; omega)
            constructor
            · intro h
              have hR := goS_le (p0 := one i) _ _ _ (fun x hx => .base hx) h
              clear h hcl hgo
              induction hR with
              | base hb =>
                simp only [one, decide_eq_true_eq] at hb
                subst hb
                exact ⟨Nat.le_refl _, hi, by rw [seg_nil]; exact .nil⟩
              | step hk hj ihk =>
                obtain ⟨a1, a2, a3⟩ := ihk
                simp only [if_pos a2] at hj
                obtain ⟨b1, b2, b3⟩ := (h0 _ _ a2).1 hj
                refine ⟨by omega, b2, ?_⟩
                rw [seg_app a1 b1]
                exact a3.app (.single b3)
            · rintro ⟨g1, g2, g3⟩
              have key : ∀ t, St L0 t → ∀ k, goS (fun k => if k ≤ s.length then r0 k else none') (s.length + 1 - i) i (one i) k = true → k ≤ j → i ≤ k → seg s k j = t → goS (fun k => if k ≤ s.length then r0 k else none') (s.length + 1 - i) i (one i) j = true := by
                intro t ht
                induction ht with
                | nil =>
                  intro k hk hkj hik hs
                  have := seg_len hkj g2
                  rw [hs] at this
                  simp at this
                  have : k = j := by omega
                  subst this; exact hk
                | cons hu hv ihv =>
                  rename_i u v
                  intro k hk hkj hik hs
                  obtain ⟨a1, a2, a3⟩ := seg_split hkj g2 hs
                  refine ihv (k + u.length) ?_ a1 (by omega) a3
                  refine hcl k (by omega) hk _ ?_
                  simp only [if_pos (show k ≤ s.length by omega)]
                  exact (h0 k _ (by omega)).2 ⟨by omega, by omega, by rw [a2]; exact hu⟩
              exact key _ g3 i (goS_ge _ _ _ (by simp [one])) g1 (Nat.le_refl _) rfl
          · split
            · simp only [orP, none', Bool.false_or]
              exact h0 i j hi
            · simp [none']
end Lng

-- Places, bit by bit: has, put, or walked.
namespace Lng
open Go Ab Cps Go.Proofs.Ytdacifedlemlmaa.Mach
variable {E : Env}

def cellsW (ws : List Nat) : List V := ws.map fun (w : Nat) => V.pv (.int .u64 (w : Int))
/-- Five words are these places. -/
structure Pw (ws : List Nat) (p : Pl) : Prop where
  len : ws.length = 5
  lt : ∀ w ∈ ws, w < 18446744073709551616
  bit : ∀ i, i < 320 → (ws.getD (i / 64) 0).testBit (i % 64) = p i

theorem _root_.Cps.lt_of_ent' {h : Heap} {i : Nat} (he : ent h i ≠ .dead) : i < h.length := by
  rcases Nat.lt_or_ge i h.length with h1 | h1
  · exact h1
  · exact absurd (by simp [ent, List.getElem?_eq_none h1]) he

theorem five {ws : List Nat} (h : ws.length = 5) : ∃ a b c d e, ws = [a, b, c, d, e] := by
  match ws, h with
  | [a, b, c, d, e], _ => exact ⟨a, b, c, d, e, rfl⟩

theorem shr1 (w k : Nat) : (IntKind.u64.wrap (BitVec.ofInt 64 ((w : Int).fdiv (2 ^ k)) &&& 1#64).toNat == 1) = w.testBit k := by
  rw [and1, Nat.testBit_eq_decide_div_mod_eq]
  have e : (w : Int).fdiv (2 ^ k) = ((w / 2 ^ k : Nat) : Int) := by
    rw [Int.fdiv_eq_ediv_of_nonneg _ (Int.le_of_lt (Int.pow_pos (by omega)))]
    simp
  rw [e]
  have : (((w / 2 ^ k : Nat) : Int) % 2 = 1) ↔ (w / 2 ^ k % 2 = 1) := by omega
  simp only [this]

theorem wrap_nat {n : Nat} (h : n < 18446744073709551616) : IntKind.u64.wrap (n : Int) = n := by
  simp [IntKind.wrap, IntKind.signed, IntKind.bits]; omega
theorem or_nat {a b : Nat} (ha : a < 18446744073709551616) (hb : b < 18446744073709551616) : IntKind.u64.wrap ((a % 2 ^ IntKind.u64.bits ||| b % 2 ^ IntKind.u64.bits : Nat) : Int) = ((a ||| b : Nat) : Int) := by
  have e1 : a % 2 ^ IntKind.u64.bits = a := Nat.mod_eq_of_lt ha
  have e2 : b % 2 ^ IntKind.u64.bits = b := Nat.mod_eq_of_lt hb
  rw [e1, e2]
  exact wrap_nat (Nat.or_lt_two_pow (n := 64) ha hb)
theorem pow_lt {k : Nat} (h : k < 64) : 2 ^ k < 18446744073709551616 := Nat.pow_lt_pow_right (n := 64) (by omega) h

structure HasP (E : Env) : Prop where
  has : HasR E 83 c83
  put : HasR E 88 c88
  or : HasR E 89 c89

theorem idx_cases {i : Nat} (h : i < 320) : (i < 64 ∧ i / 64 = 0) ∨ (64 ≤ i ∧ i < 128 ∧ i / 64 = 1) ∨ (128 ≤ i ∧ i < 192 ∧ i / 64 = 2) ∨ (192 ≤ i ∧ i < 256 ∧ i / 64 = 3) ∨ (256 ≤ i ∧ i / 64 = 4) := by omega

set_option maxHeartbeats 2000000 in
theorem has_ok (HH : HasP E) {h : Heap} {q : Nat} {ws : List Nat} {p : Pl} {t : Option TypeId} (he : ent h q = .blk (cellsW ws) t) (hp : Pw ws p) {i : Nat} (hi : i < 320) :
    ∃ v h', limR E 83 [.ptr q 0, .pv (.int .i64 (i : Int))] h = some (v, h') ∧ (v = .pv (.bool (p i)) ∧ h' = h) := by
  have hb := hp.bit i hi
  obtain ⟨a, b, c, d, e, rfl⟩ := five hp.len
  have hq : (i : Int).tdiv 64 = ((i / 64 : Nat) : Int) := by rw [Int.tdiv_eq_ediv_of_nonneg (by omega)]; omega
  have hr : (i : Int).tmod 64 = ((i % 64 : Nat) : Int) := by rw [Int.tmod_eq_emod_of_nonneg (by omega)]; omega
  have hm : min (i % 64) 64 = i % 64 := by omega
  have hn : ¬ ((i % 64 : Nat) : Int) < 0 := by omega
  have hc : ∀ m : Nat, m < 5 → IntKind.i64.wrap (m : Int) = (m : Int) := fun m hm => wrap_i64 (by omega)
  generalize hj : i % 64 = j at *
  refine HH.has.limQE (Nat.le_of_ble_eq_true rfl) ?_; unfold c83
  rcases idx_cases hi with ⟨_, g⟩ | ⟨_, _, g⟩ | ⟨_, _, g⟩ | ⟨_, _, g⟩ | ⟨_, g⟩ <;> rw [g] at hq hb <;> simp only [Int.cast_ofNat_Int] at hq <;>
  · have hw := hc 0 (by omega)
    have hw1 := hc 1 (by omega)
    have hw2 := hc 2 (by omega)
    have hw3 := hc 3 (by omega)
    have hw4 := hc 4 (by omega)
    simp only [Int.cast_ofNat_Int] at hw hw1 hw2 hw3 hw4
    (repeat' first
    | apply X.retS
    | apply X.skipS
    | apply X.skipB
    | apply X.skipL
    | (apply X.exitS; first | apply X.here | (refine X.out (by decide) ?_; apply X.here))
    | apply X.blockS
    | (apply X.condQ rfl; (focus (simp only [sub, subO, subL, subM, sub3, sub2, fk_some, fk_none, fk_arg0, fk_argS, fk_argN, fk_map0, fk_mapS, fk_mapN, reduceIte, Nat.reduceEqDiff, Nat.reduceAdd]; with_reducible rfl)); all_goals (intro hbr; first | exact absurd hbr (by decide) | ((try rw [hbr]); (try simp at hbr))))
    | apply X.stepZ
    | (apply X.stepQ rfl; (focus (simp only [sub, subO, subL, subM, sub3, sub2, fk_some, fk_none, fk_arg0, fk_argS, fk_argN, fk_map0, fk_mapS, fk_mapN, reduceIte, Nat.reduceEqDiff, Nat.reduceAdd]; with_reducible rfl)); (focus (simp [-getElem?_pos, hq, hr, hm, hn, hw, hw1, hw2, hw3, hw4, he, cellsW, IntKind.bits, shr1]; with_reducible (first | rfl | exact ⟨rfl, rfl⟩))))
    | (apply X.stepNQ rfl; (focus (simp only [sub, subO, subL, subM, sub3, sub2, fk_some, fk_none, fk_arg0, fk_argS, fk_argN, fk_map0, fk_mapS, fk_mapN, reduceIte, Nat.reduceEqDiff, Nat.reduceAdd]; with_reducible rfl)))
    | ((first | apply X.stepGtQ rfl | apply X.stepGfQ rfl); (focus (simp only [sub, subO, subL, subM, sub3, sub2, fk_some, fk_none, fk_arg0, fk_argS, fk_argN, fk_map0, fk_mapS, fk_mapN, reduceIte, Nat.reduceEqDiff, Nat.reduceAdd]; with_reducible rfl)); all_goals (intro hbr; first | exact absurd hbr (by decide) | ((try rw [hbr]); (try simp at hbr))))
    | (apply X.draw0; (focus rfl))
    | (apply X.drawH0; (focus rfl))
    | apply XD.nil
    | (apply XD.calmQ rfl rfl; (focus (simp only [sub, subO, subL, subM, sub3, sub2, fk_some, fk_none, fk_arg0, fk_argS, fk_argN, fk_map0, fk_mapS, fk_mapN, reduceIte, Nat.reduceEqDiff, Nat.reduceAdd]; with_reducible rfl)); (focus (simp [-getElem?_pos, hq, hr, hm, hn, hw, hw1, hw2, hw3, hw4, he, cellsW, IntKind.bits, shr1]; with_reducible (first | rfl | exact ⟨rfl, rfl⟩))))
    | (apply XD.callQ rfl; (focus (simp only [sub, subO, subL, subM, sub3, sub2, fk_some, fk_none, fk_arg0, fk_argS, fk_argN, fk_map0, fk_mapS, fk_mapN, reduceIte, Nat.reduceEqDiff, Nat.reduceAdd]; simp; with_reducible rfl)); (focus (simp; with_reducible rfl)); (focus (simp [-getElem?_pos, hq, hr, hm, hn, hw, hw1, hw2, hw3, hw4, he, cellsW, IntKind.bits, shr1]; done)); (focus (simp [-getElem?_pos, hq, hr, hm, hn, hw, hw1, hw2, hw3, hw4, he, cellsW, IntKind.bits, shr1]; with_reducible rfl)))
    | (apply XD.stepNQ rfl; (focus (simp only [sub, subO, subL, subM, sub3, sub2, fk_some, fk_none, fk_arg0, fk_argS, fk_argN, fk_map0, fk_mapS, fk_mapN, reduceIte, Nat.reduceEqDiff, Nat.reduceAdd]; with_reducible rfl)))
    | ((first | apply XD.stepGtQ rfl | apply XD.stepGfQ rfl); (focus (simp only [sub, subO, subL, subM, sub3, sub2, fk_some, fk_none, fk_arg0, fk_argS, fk_argN, fk_map0, fk_mapS, fk_mapN, reduceIte, Nat.reduceEqDiff, Nat.reduceAdd]; with_reducible rfl)); all_goals (intro hbr; first | exact absurd hbr (by decide) | ((try rw [hbr]); (try simp at hbr))))
    | (apply XD.loudQ rfl; (focus (simp only [sub, subO, subL, subM, sub3, sub2, fk_some, fk_none, fk_arg0, fk_argS, fk_argN, fk_map0, fk_mapS, fk_mapN, reduceIte, Nat.reduceEqDiff, Nat.reduceAdd]; with_reducible rfl)); (focus (simp; with_reducible rfl)); (focus (simp [-getElem?_pos, hq, hr, hm, hn, hw, hw1, hw2, hw3, hw4, he, cellsW, IntKind.bits, shr1]; with_reducible (first | rfl | exact ⟨rfl, rfl⟩))); (focus (simp; done)); (focus (simp [-getElem?_pos, hq, hr, hm, hn, hw, hw1, hw2, hw3, hw4, he, cellsW, IntKind.bits, shr1]; with_reducible rfl))))
    all_goals exact FinE.retQ rfl (by simp only [resS, fk_some, reduceIte, Nat.reduceEqDiff]; with_reducible rfl) ⟨by simp [oneOf, ← hb]; exact shr1 _ _, rfl⟩

/-- Places put in. -/
theorem pw_put {ws : List Nat} {p : Pl} (hp : Pw ws p) {i : Nat} (hi : i < 320) : Pw (ws.set (i / 64) (ws.getD (i / 64) 0 ||| 2 ^ (i % 64))) (orP p (one i)) := by
  have hl := hp.len
  refine ⟨by simpa using hl, fun w hw => ?_, fun j hj => ?_⟩
  · rcases List.mem_or_eq_of_mem_set hw with h | h
    · exact hp.lt w h
    · rw [h]
      refine Nat.or_lt_two_pow (n := 64) ?_ (pow_lt (Nat.mod_lt _ (by omega)))
      have hlt : i / 64 < ws.length := by omega
      have e : ws.getD (i / 64) 0 = ws[i / 64] := by rw [List.getD_eq_getElem?_getD, List.getElem?_eq_getElem hlt]; rfl
      rw [e]
      exact hp.lt _ (List.getElem_mem hlt)
  · have hb := hp.bit j hj
    simp only [orP, one]
    rw [← hb]
    simp only [List.getD_eq_getElem?_getD, List.getElem?_set]
    by_cases h : i / 64 = j / 64
    · have hlt : i / 64 < ws.length := by omega
      rw [if_pos h, if_pos (by omega)]
      simp only [Option.getD_some, Nat.testBit_or, ← h, Nat.testBit_two_pow]
      have : decide (i % 64 = j % 64) = decide (j = i) := by
        rw [decide_eq_decide]; omega
      rw [this]
    · rw [if_neg h]
      have : ¬ j = i := fun hh => h (by rw [hh])
      simp [this]

set_option maxHeartbeats 400000 in
theorem put_ok (HH : HasP E) {h : Heap} {q : Nat} {ws : List Nat} {p : Pl} {t : Option TypeId} (he : ent h q = .blk (cellsW ws) t) (hp : Pw ws p) {i : Nat} (hi : i < 320) :
    ∃ v h', limR E 88 [.ptr q 0, .pv (.int .i64 (i : Int))] h = some (v, h') ∧ (v = .tup [] ∧ ∃ ws', Pw ws' (orP p (one i)) ∧ h' = h.set q (.blk (cellsW ws') t)) := by
  have hpp := pw_put hp hi
  have hlt := hp.lt
  obtain ⟨a, b, c, d, e, rfl⟩ := five hp.len
  have hq : (i : Int).tdiv 64 = ((i / 64 : Nat) : Int) := by rw [Int.tdiv_eq_ediv_of_nonneg (by omega)]; omega
  have hr : (i : Int).tmod 64 = ((i % 64 : Nat) : Int) := by rw [Int.tmod_eq_emod_of_nonneg (by omega)]; omega
  have hm : min (i % 64) IntKind.u64.bits = i % 64 := by simp only [IntKind.bits]; omega
  have hn : ¬ ((i % 64 : Nat) : Int) < 0 := by omega
  have hj : i % 64 < 64 := Nat.mod_lt _ (by omega)
  have hid : q < h.length := Cps.lt_of_ent' (by rw [he]; simp)
  have h2 : IntKind.u64.wrap (2 ^ (i % 64) : Int) = ((2 ^ (i % 64) : Nat) : Int) := by
    have := wrap_nat (pow_lt hj)
    rw [← this]; simp
  have hor : ∀ w : Nat, w < 18446744073709551616 → IntKind.u64.wrap ((w % 2 ^ IntKind.u64.bits ||| 2 ^ (i % 64) % 2 ^ IntKind.u64.bits : Nat) : Int) = ((w ||| 2 ^ (i % 64) : Nat) : Int) := fun w hw => or_nat hw (pow_lt hj)
  have ha := hor a (hlt a (by simp))
  have hb := hor b (hlt b (by simp))
  have hc := hor c (hlt c (by simp))
  have hd := hor d (hlt d (by simp))
  have he' := hor e (hlt e (by simp))
  clear hor hlt
  have hc0 : ∀ m : Nat, m < 5 → IntKind.i64.wrap (m : Int) = (m : Int) := fun m hm => wrap_i64 (by omega)
  generalize i % 64 = j at *
  generalize hP : (2 ^ j : Nat) = P at *
  refine HH.put.limQE (Nat.le_of_ble_eq_true rfl) ?_; unfold c88
  rcases idx_cases hi with ⟨_, g⟩ | ⟨_, _, g⟩ | ⟨_, _, g⟩ | ⟨_, _, g⟩ | ⟨_, g⟩ <;> rw [g] at hq hpp <;> simp only [Int.cast_ofNat_Int] at hq <;>
  · have hw := hc0 0 (by omega)
    have hw1 := hc0 1 (by omega)
    have hw2 := hc0 2 (by omega)
    have hw3 := hc0 3 (by omega)
    have hw4 := hc0 4 (by omega)
    simp only [Int.cast_ofNat_Int] at hw hw1 hw2 hw3 hw4
    (repeat' first
    | apply X.retS
    | apply X.skipS
    | apply X.skipB
    | apply X.skipL
    | (apply X.exitS; first | apply X.here | (refine X.out (by decide) ?_; apply X.here))
    | apply X.blockS
    | (apply X.condQ rfl; (focus (simp only [sub, subO, subL, subM, sub3, sub2, fk_some, fk_none, fk_arg0, fk_argS, fk_argN, fk_map0, fk_mapS, fk_mapN, reduceIte, Nat.reduceEqDiff, Nat.reduceAdd]; with_reducible rfl)); all_goals (intro hbr; first | exact absurd hbr (by decide) | ((try rw [hbr]); (try simp at hbr))))
    | apply X.stepZ
    | (apply X.stepQ rfl; (focus (simp only [sub, subO, subL, subM, sub3, sub2, fk_some, fk_none, fk_arg0, fk_argS, fk_argN, fk_map0, fk_mapS, fk_mapN, reduceIte, Nat.reduceEqDiff, Nat.reduceAdd]; with_reducible rfl)); (focus (simp [-getElem?_pos, hq, hr, hm, hn, hw, hw1, hw2, hw3, hw4, he, cellsW, h2, ha, hb, hc, hd, he']; with_reducible (first | rfl | exact ⟨rfl, rfl⟩))))
    | (apply X.stepNQ rfl; (focus (simp only [sub, subO, subL, subM, sub3, sub2, fk_some, fk_none, fk_arg0, fk_argS, fk_argN, fk_map0, fk_mapS, fk_mapN, reduceIte, Nat.reduceEqDiff, Nat.reduceAdd]; with_reducible rfl)))
    | ((first | apply X.stepGtQ rfl | apply X.stepGfQ rfl); (focus (simp only [sub, subO, subL, subM, sub3, sub2, fk_some, fk_none, fk_arg0, fk_argS, fk_argN, fk_map0, fk_mapS, fk_mapN, reduceIte, Nat.reduceEqDiff, Nat.reduceAdd]; with_reducible rfl)); all_goals (intro hbr; first | exact absurd hbr (by decide) | ((try rw [hbr]); (try simp at hbr))))
    | (apply X.draw0; (focus rfl))
    | (apply X.drawH0; (focus rfl))
    | apply XD.nil
    | (apply XD.calmQ rfl rfl; (focus (simp only [sub, subO, subL, subM, sub3, sub2, fk_some, fk_none, fk_arg0, fk_argS, fk_argN, fk_map0, fk_mapS, fk_mapN, reduceIte, Nat.reduceEqDiff, Nat.reduceAdd]; with_reducible rfl)); (focus (simp [-getElem?_pos, hq, hr, hm, hn, hw, hw1, hw2, hw3, hw4, he, cellsW, h2, ha, hb, hc, hd, he']; with_reducible (first | rfl | exact ⟨rfl, rfl⟩))))
    | (apply XD.callQ rfl; (focus (simp only [sub, subO, subL, subM, sub3, sub2, fk_some, fk_none, fk_arg0, fk_argS, fk_argN, fk_map0, fk_mapS, fk_mapN, reduceIte, Nat.reduceEqDiff, Nat.reduceAdd]; simp; with_reducible rfl)); (focus (simp; with_reducible rfl)); (focus (simp [-getElem?_pos, hq, hr, hm, hn, hw, hw1, hw2, hw3, hw4, he, cellsW, h2, ha, hb, hc, hd, he']; done)); (focus (simp [-getElem?_pos, hq, hr, hm, hn, hw, hw1, hw2, hw3, hw4, he, cellsW, h2, ha, hb, hc, hd, he']; with_reducible rfl)))
    | (apply XD.stepNQ rfl; (focus (simp only [sub, subO, subL, subM, sub3, sub2, fk_some, fk_none, fk_arg0, fk_argS, fk_argN, fk_map0, fk_mapS, fk_mapN, reduceIte, Nat.reduceEqDiff, Nat.reduceAdd]; with_reducible rfl)))
    | ((first | apply XD.stepGtQ rfl | apply XD.stepGfQ rfl); (focus (simp only [sub, subO, subL, subM, sub3, sub2, fk_some, fk_none, fk_arg0, fk_argS, fk_argN, fk_map0, fk_mapS, fk_mapN, reduceIte, Nat.reduceEqDiff, Nat.reduceAdd]; with_reducible rfl)); all_goals (intro hbr; first | exact absurd hbr (by decide) | ((try rw [hbr]); (try simp at hbr))))
    | (apply XD.loudQ rfl; (focus (simp only [sub, subO, subL, subM, sub3, sub2, fk_some, fk_none, fk_arg0, fk_argS, fk_argN, fk_map0, fk_mapS, fk_mapN, reduceIte, Nat.reduceEqDiff, Nat.reduceAdd]; with_reducible rfl)); (focus (simp; with_reducible rfl)); (focus (simp [-getElem?_pos, hq, hr, hm, hn, hw, hw1, hw2, hw3, hw4, he, cellsW, h2, ha, hb, hc, hd, he']; with_reducible (first | rfl | exact ⟨rfl, rfl⟩))); (focus (simp; done)); (focus (simp [-getElem?_pos, hq, hr, hm, hn, hw, hw1, hw2, hw3, hw4, he, cellsW, h2, ha, hb, hc, hd, he']; with_reducible rfl))))
    all_goals exact X.skipEQ (us := []) rfl rfl ⟨rfl, _, hpp, by simp [cellsW]⟩

/-- Two rows of places, put together up to a word. -/
def orW (ws vs : List Nat) (j : Nat) : List Nat := (List.zipWith (fun a b => a ||| b) ws vs).take j ++ ws.drop j

theorem pw_or {ws vs : List Nat} {p r : Pl} (hp : Pw ws p) (hr : Pw vs r) : Pw (orW ws vs 5) (orP p r) := by
  have h1 := hp.len
  have h2 := hr.len
  have e : orW ws vs 5 = List.zipWith (fun a b => a ||| b) ws vs := by
    rw [orW, List.drop_eq_nil_of_le (by omega), List.append_nil, List.take_of_length_le (by simp; omega)]
  rw [e]
  refine ⟨by simp; omega, fun w hw => ?_, fun i hi => ?_⟩
  · rw [List.mem_iff_getElem] at hw
    obtain ⟨n, hn, rfl⟩ := hw
    simp only [List.length_zipWith] at hn
    rw [List.getElem_zipWith]
    exact Nat.or_lt_two_pow (n := 64) (hp.lt _ (List.getElem_mem _)) (hr.lt _ (List.getElem_mem _))
  · have a := hp.bit i hi
    have b := hr.bit i hi
    have g1 : i / 64 < ws.length := by omega
    have g2 : i / 64 < vs.length := by omega
    simp only [List.getD_eq_getElem?_getD, List.getElem?_eq_getElem g1, List.getElem?_eq_getElem g2, Option.getD_some] at a b
    simp only [List.getD_eq_getElem?_getD, List.getElem?_zipWith, List.getElem?_eq_getElem g1, List.getElem?_eq_getElem g2, orP]
    rw [← a, ← b]
    simp [Nat.testBit_or]

set_option maxHeartbeats 2000000 in
theorem or_ok (HH : HasP E) {h : Heap} {q q2 : Nat} {ws vs : List Nat} {p r : Pl} {t t2 : Option TypeId} (he : ent h q = .blk (cellsW ws) t) (he2 : ent h q2 = .blk (cellsW vs) t2) (hne : q ≠ q2) (hp : Pw ws p) (hr : Pw vs r) :
    ∃ v h', limR E 89 [.ptr q 0, .ptr q2 0] h = some (v, h') ∧ (v = .tup [] ∧ ∃ ws', Pw ws' (orP p r) ∧ h' = h.set q (.blk (cellsW ws') t)) := by
  have hpp := pw_or hp hr
  have hl1 := hp.lt
  have hl2 := hr.lt
  obtain ⟨a, b, c, d, e, rfl⟩ := five hp.len
  obtain ⟨a', b', c', d', e', rfl⟩ := five hr.len
  have hid : q < h.length := Cps.lt_of_ent' (by rw [he]; simp)
  have ha := or_nat (hl1 a (by simp)) (hl2 a' (by simp))
  have hb := or_nat (hl1 b (by simp)) (hl2 b' (by simp))
  have hc := or_nat (hl1 c (by simp)) (hl2 c' (by simp))
  have hd := or_nat (hl1 d (by simp)) (hl2 d' (by simp))
  have hee := or_nat (hl1 e (by simp)) (hl2 e' (by simp))
  have hs0 : h = h.set q (.blk (cellsW (orW [a, b, c, d, e] [a', b', c', d', e'] 0)) t) := by
    have e1 := he
    simp only [ent, List.getElem?_eq_getElem hid, Option.getD_some] at e1
    simp only [orW, List.take_zero, List.nil_append, List.drop_zero]
    rw [← e1, List.set_getElem_self]
  have hes : ∀ B, ent (h.set q B) q = B := fun B => ent_set hid
  have hes2 : ∀ B, ent (h.set q B) q2 = .blk (cellsW [a', b', c', d', e']) t2 := fun B => by rw [ent_set_ne (by omega)]; exact he2
  have hss : ∀ B C, (h.set q B).set q C = h.set q C := fun B C => List.set_set _
  clear hl1 hl2
  refine HH.or.limQE (Nat.le_of_ble_eq_true rfl) ?_; unfold c89
  (repeat' first
    | apply X.retS
    | apply X.skipS
    | apply X.skipB
    | apply X.skipL
    | (apply X.exitS; first | apply X.here | (refine X.out (by decide) ?_; apply X.here))
    | apply X.blockS
    | (apply X.condQ rfl; (focus (simp only [sub, subO, subL, subM, sub3, sub2, fk_some, fk_none, fk_arg0, fk_argS, fk_argN, fk_map0, fk_mapS, fk_mapN, reduceIte, Nat.reduceEqDiff, Nat.reduceAdd]; with_reducible rfl)); all_goals (intro hbr; first | exact absurd hbr (by decide) | ((try rw [hbr]); (try simp at hbr))))
    | apply X.stepZ
    | (apply X.stepQ rfl; (focus (simp only [sub, subO, subL, subM, sub3, sub2, fk_some, fk_none, fk_arg0, fk_argS, fk_argN, fk_map0, fk_mapS, fk_mapN, reduceIte, Nat.reduceEqDiff, Nat.reduceAdd]; with_reducible rfl)); (focus (simp [-getElem?_pos]; with_reducible (first | rfl | exact ⟨rfl, rfl⟩))))
    | (apply X.stepNQ rfl; (focus (simp only [sub, subO, subL, subM, sub3, sub2, fk_some, fk_none, fk_arg0, fk_argS, fk_argN, fk_map0, fk_mapS, fk_mapN, reduceIte, Nat.reduceEqDiff, Nat.reduceAdd]; with_reducible rfl)))
    | ((first | apply X.stepGtQ rfl | apply X.stepGfQ rfl); (focus (simp only [sub, subO, subL, subM, sub3, sub2, fk_some, fk_none, fk_arg0, fk_argS, fk_argN, fk_map0, fk_mapS, fk_mapN, reduceIte, Nat.reduceEqDiff, Nat.reduceAdd]; with_reducible rfl)); all_goals (intro hbr; first | exact absurd hbr (by decide) | ((try rw [hbr]); (try simp at hbr))))
    | (apply X.draw0; (focus rfl))
    | (apply X.drawH0; (focus rfl))
    | apply XD.nil
    | (apply XD.calmQ rfl rfl; (focus (simp only [sub, subO, subL, subM, sub3, sub2, fk_some, fk_none, fk_arg0, fk_argS, fk_argN, fk_map0, fk_mapS, fk_mapN, reduceIte, Nat.reduceEqDiff, Nat.reduceAdd]; with_reducible rfl)); (focus (simp [-getElem?_pos]; with_reducible (first | rfl | exact ⟨rfl, rfl⟩))))
    | (apply XD.callQ rfl; (focus (simp only [sub, subO, subL, subM, sub3, sub2, fk_some, fk_none, fk_arg0, fk_argS, fk_argN, fk_map0, fk_mapS, fk_mapN, reduceIte, Nat.reduceEqDiff, Nat.reduceAdd]; simp; with_reducible rfl)); (focus (simp; with_reducible rfl)); (focus (simp [-getElem?_pos]; done)); (focus (simp [-getElem?_pos]; with_reducible rfl)))
    | (apply XD.stepNQ rfl; (focus (simp only [sub, subO, subL, subM, sub3, sub2, fk_some, fk_none, fk_arg0, fk_argS, fk_argN, fk_map0, fk_mapS, fk_mapN, reduceIte, Nat.reduceEqDiff, Nat.reduceAdd]; with_reducible rfl)))
    | ((first | apply XD.stepGtQ rfl | apply XD.stepGfQ rfl); (focus (simp only [sub, subO, subL, subM, sub3, sub2, fk_some, fk_none, fk_arg0, fk_argS, fk_argN, fk_map0, fk_mapS, fk_mapN, reduceIte, Nat.reduceEqDiff, Nat.reduceAdd]; with_reducible rfl)); all_goals (intro hbr; first | exact absurd hbr (by decide) | ((try rw [hbr]); (try simp at hbr))))
    | (apply XD.loudQ rfl; (focus (simp only [sub, subO, subL, subM, sub3, sub2, fk_some, fk_none, fk_arg0, fk_argS, fk_argN, fk_map0, fk_mapS, fk_mapN, reduceIte, Nat.reduceEqDiff, Nat.reduceAdd]; with_reducible rfl)); (focus (simp; with_reducible rfl)); (focus (simp [-getElem?_pos]; with_reducible (first | rfl | exact ⟨rfl, rfl⟩))); (focus (simp; done)); (focus (simp [-getElem?_pos]; with_reducible rfl))))
  refine X.forS 5 (fun j st => ∃ f, (fk (Fk.mk (f := f)) 0 = .ptr q 0 ∧ fk (Fk.mk (f := f)) 1 = .ptr q2 0 ∧ fk (Fk.mk (f := f)) 5 = .pv (.int .i64 j)) ∧ st = ⟨TL 22 f, h.set q (.blk (cellsW (orW [a, b, c, d, e] [a', b', c', d', e'] j)) t)⟩) ?_ ?_
  · refine ⟨_, ?_, congrArg (St.mk _) hs0⟩
    simp
  rintro j st hj ⟨f, ⟨f0, f1, f5⟩, rfl⟩
  have hw : ∀ m : Nat, m < 6 → IntKind.i64.wrap ((m : Int) + 1) = (m : Int) + 1 := fun m hm => wrap_i64 (by omega)
  match j, hj with
  | 0, _ =>
    have hw := hw 0 (by omega)
    simp only [Int.cast_ofNat_Int, Int.reduceAdd] at hw f5
    (repeat' first
    | apply X.retS
    | apply X.skipS
    | apply X.skipB
    | apply X.skipL
    | (apply X.exitS; first | apply X.here | (refine X.out (by decide) ?_; apply X.here))
    | apply X.blockS
    | (apply X.condQ rfl; (focus (simp only [sub, subO, subL, subM, sub3, sub2, fk_some, fk_none, fk_arg0, fk_argS, fk_argN, fk_map0, fk_mapS, fk_mapN, reduceIte, Nat.reduceEqDiff, Nat.reduceAdd, f0, f1, f5]; with_reducible rfl)); all_goals (intro hbr; first | exact absurd hbr (by decide) | ((try rw [hbr]); (try simp at hbr))))
    | apply X.stepZ
    | (apply X.stepQ rfl; (focus (simp only [sub, subO, subL, subM, sub3, sub2, fk_some, fk_none, fk_arg0, fk_argS, fk_argN, fk_map0, fk_mapS, fk_mapN, reduceIte, Nat.reduceEqDiff, Nat.reduceAdd, f0, f1, f5]; with_reducible rfl)); (focus (simp [-getElem?_pos, hes, hes2, hss, hne, cellsW, orW, ha, hb, hc, hd, hee, hw]; with_reducible (first | rfl | exact ⟨rfl, rfl⟩))))
    | (apply X.stepNQ rfl; (focus (simp only [sub, subO, subL, subM, sub3, sub2, fk_some, fk_none, fk_arg0, fk_argS, fk_argN, fk_map0, fk_mapS, fk_mapN, reduceIte, Nat.reduceEqDiff, Nat.reduceAdd, f0, f1, f5]; with_reducible rfl)))
    | ((first | apply X.stepGtQ rfl | apply X.stepGfQ rfl); (focus (simp only [sub, subO, subL, subM, sub3, sub2, fk_some, fk_none, fk_arg0, fk_argS, fk_argN, fk_map0, fk_mapS, fk_mapN, reduceIte, Nat.reduceEqDiff, Nat.reduceAdd, f0, f1, f5]; with_reducible rfl)); all_goals (intro hbr; first | exact absurd hbr (by decide) | ((try rw [hbr]); (try simp at hbr))))
    | (apply X.draw0; (focus rfl))
    | (apply X.drawH0; (focus rfl))
    | apply XD.nil
    | (apply XD.calmQ rfl rfl; (focus (simp only [sub, subO, subL, subM, sub3, sub2, fk_some, fk_none, fk_arg0, fk_argS, fk_argN, fk_map0, fk_mapS, fk_mapN, reduceIte, Nat.reduceEqDiff, Nat.reduceAdd, f0, f1, f5]; with_reducible rfl)); (focus (simp [-getElem?_pos, hes, hes2, hss, hne, cellsW, orW, ha, hb, hc, hd, hee, hw]; with_reducible (first | rfl | exact ⟨rfl, rfl⟩))))
    | (apply XD.callQ rfl; (focus (simp only [sub, subO, subL, subM, sub3, sub2, fk_some, fk_none, fk_arg0, fk_argS, fk_argN, fk_map0, fk_mapS, fk_mapN, reduceIte, Nat.reduceEqDiff, Nat.reduceAdd, f0, f1, f5]; simp; with_reducible rfl)); (focus (simp; with_reducible rfl)); (focus (simp [-getElem?_pos, hes, hes2, hss, hne, cellsW, orW, ha, hb, hc, hd, hee, hw]; done)); (focus (simp [-getElem?_pos, hes, hes2, hss, hne, cellsW, orW, ha, hb, hc, hd, hee, hw]; with_reducible rfl)))
    | (apply XD.stepNQ rfl; (focus (simp only [sub, subO, subL, subM, sub3, sub2, fk_some, fk_none, fk_arg0, fk_argS, fk_argN, fk_map0, fk_mapS, fk_mapN, reduceIte, Nat.reduceEqDiff, Nat.reduceAdd, f0, f1, f5]; with_reducible rfl)))
    | ((first | apply XD.stepGtQ rfl | apply XD.stepGfQ rfl); (focus (simp only [sub, subO, subL, subM, sub3, sub2, fk_some, fk_none, fk_arg0, fk_argS, fk_argN, fk_map0, fk_mapS, fk_mapN, reduceIte, Nat.reduceEqDiff, Nat.reduceAdd, f0, f1, f5]; with_reducible rfl)); all_goals (intro hbr; first | exact absurd hbr (by decide) | ((try rw [hbr]); (try simp at hbr))))
    | (apply XD.loudQ rfl; (focus (simp only [sub, subO, subL, subM, sub3, sub2, fk_some, fk_none, fk_arg0, fk_argS, fk_argN, fk_map0, fk_mapS, fk_mapN, reduceIte, Nat.reduceEqDiff, Nat.reduceAdd, f0, f1, f5]; with_reducible rfl)); (focus (simp; with_reducible rfl)); (focus (simp [-getElem?_pos, hes, hes2, hss, hne, cellsW, orW, ha, hb, hc, hd, hee, hw]; with_reducible (first | rfl | exact ⟨rfl, rfl⟩))); (focus (simp; done)); (focus (simp [-getElem?_pos, hes, hes2, hss, hne, cellsW, orW, ha, hb, hc, hd, hee, hw]; with_reducible rfl))))
    all_goals exact ⟨by omega, _, by simp [f0, f1], rfl⟩
  | 1, _ =>
    have hw := hw 1 (by omega)
    simp only [Int.cast_ofNat_Int, Int.reduceAdd] at hw f5
    (repeat' first
    | apply X.retS
    | apply X.skipS
    | apply X.skipB
    | apply X.skipL
    | (apply X.exitS; first | apply X.here | (refine X.out (by decide) ?_; apply X.here))
    | apply X.blockS
    | (apply X.condQ rfl; (focus (simp only [sub, subO, subL, subM, sub3, sub2, fk_some, fk_none, fk_arg0, fk_argS, fk_argN, fk_map0, fk_mapS, fk_mapN, reduceIte, Nat.reduceEqDiff, Nat.reduceAdd, f0, f1, f5]; with_reducible rfl)); all_goals (intro hbr; first | exact absurd hbr (by decide) | ((try rw [hbr]); (try simp at hbr))))
    | apply X.stepZ
    | (apply X.stepQ rfl; (focus (simp only [sub, subO, subL, subM, sub3, sub2, fk_some, fk_none, fk_arg0, fk_argS, fk_argN, fk_map0, fk_mapS, fk_mapN, reduceIte, Nat.reduceEqDiff, Nat.reduceAdd, f0, f1, f5]; with_reducible rfl)); (focus (simp [-getElem?_pos, hes, hes2, hss, hne, cellsW, orW, ha, hb, hc, hd, hee, hw]; with_reducible (first | rfl | exact ⟨rfl, rfl⟩))))
    | (apply X.stepNQ rfl; (focus (simp only [sub, subO, subL, subM, sub3, sub2, fk_some, fk_none, fk_arg0, fk_argS, fk_argN, fk_map0, fk_mapS, fk_mapN, reduceIte, Nat.reduceEqDiff, Nat.reduceAdd, f0, f1, f5]; with_reducible rfl)))
    | ((first | apply X.stepGtQ rfl | apply X.stepGfQ rfl); (focus (simp only [sub, subO, subL, subM, sub3, sub2, fk_some, fk_none, fk_arg0, fk_argS, fk_argN, fk_map0, fk_mapS, fk_mapN, reduceIte, Nat.reduceEqDiff, Nat.reduceAdd, f0, f1, f5]; with_reducible rfl)); all_goals (intro hbr; first | exact absurd hbr (by decide) | ((try rw [hbr]); (try simp at hbr))))
    | (apply X.draw0; (focus rfl))
    | (apply X.drawH0; (focus rfl))
    | apply XD.nil
    | (apply XD.calmQ rfl rfl; (focus (simp only [sub, subO, subL, subM, sub3, sub2, fk_some, fk_none, fk_arg0, fk_argS, fk_argN, fk_map0, fk_mapS, fk_mapN, reduceIte, Nat.reduceEqDiff, Nat.reduceAdd, f0, f1, f5]; with_reducible rfl)); (focus (simp [-getElem?_pos, hes, hes2, hss, hne, cellsW, orW, ha, hb, hc, hd, hee, hw]; with_reducible (first | rfl | exact ⟨rfl, rfl⟩))))
    | (apply XD.callQ rfl; (focus (simp only [sub, subO, subL, subM, sub3, sub2, fk_some, fk_none, fk_arg0, fk_argS, fk_argN, fk_map0, fk_mapS, fk_mapN, reduceIte, Nat.reduceEqDiff, Nat.reduceAdd, f0, f1, f5]; simp; with_reducible rfl)); (focus (simp; with_reducible rfl)); (focus (simp [-getElem?_pos, hes, hes2, hss, hne, cellsW, orW, ha, hb, hc, hd, hee, hw]; done)); (focus (simp [-getElem?_pos, hes, hes2, hss, hne, cellsW, orW, ha, hb, hc, hd, hee, hw]; with_reducible rfl)))
    | (apply XD.stepNQ rfl; (focus (simp only [sub, subO, subL, subM, sub3, sub2, fk_some, fk_none, fk_arg0, fk_argS, fk_argN, fk_map0, fk_mapS, fk_mapN, reduceIte, Nat.reduceEqDiff, Nat.reduceAdd, f0, f1, f5]; with_reducible rfl)))
    | ((first | apply XD.stepGtQ rfl | apply XD.stepGfQ rfl); (focus (simp only [sub, subO, subL, subM, sub3, sub2, fk_some, fk_none, fk_arg0, fk_argS, fk_argN, fk_map0, fk_mapS, fk_mapN, reduceIte, Nat.reduceEqDiff, Nat.reduceAdd, f0, f1, f5]; with_reducible rfl)); all_goals (intro hbr; first | exact absurd hbr (by decide) | ((try rw [hbr]); (try simp at hbr))))
    | (apply XD.loudQ rfl; (focus (simp only [sub, subO, subL, subM, sub3, sub2, fk_some, fk_none, fk_arg0, fk_argS, fk_argN, fk_map0, fk_mapS, fk_mapN, reduceIte, Nat.reduceEqDiff, Nat.reduceAdd, f0, f1, f5]; with_reducible rfl)); (focus (simp; with_reducible rfl)); (focus (simp [-getElem?_pos, hes, hes2, hss, hne, cellsW, orW, ha, hb, hc, hd, hee, hw]; with_reducible (first | rfl | exact ⟨rfl, rfl⟩))); (focus (simp; done)); (focus (simp [-getElem?_pos, hes, hes2, hss, hne, cellsW, orW, ha, hb, hc, hd, hee, hw]; with_reducible rfl))))
    all_goals exact ⟨by omega, _, by simp [f0, f1], rfl⟩
  | 2, _ =>
    have hw := hw 2 (by omega)
    simp only [Int.cast_ofNat_Int, Int.reduceAdd] at hw f5
    (repeat' first
    | apply X.retS
    | apply X.skipS
    | apply X.skipB
    | apply X.skipL
    | (apply X.exitS; first | apply X.here | (refine X.out (by decide) ?_; apply X.here))
    | apply X.blockS
    | (apply X.condQ rfl; (focus (simp only [sub, subO, subL, subM, sub3, sub2, fk_some, fk_none, fk_arg0, fk_argS, fk_argN, fk_map0, fk_mapS, fk_mapN, reduceIte, Nat.reduceEqDiff, Nat.reduceAdd, f0, f1, f5]; with_reducible rfl)); all_goals (intro hbr; first | exact absurd hbr (by decide) | ((try rw [hbr]); (try simp at hbr))))
    | apply X.stepZ
    | (apply X.stepQ rfl; (focus (simp only [sub, subO, subL, subM, sub3, sub2, fk_some, fk_none, fk_arg0, fk_argS, fk_argN, fk_map0, fk_mapS, fk_mapN, reduceIte, Nat.reduceEqDiff, Nat.reduceAdd, f0, f1, f5]; with_reducible rfl)); (focus (simp [-getElem?_pos, hes, hes2, hss, hne, cellsW, orW, ha, hb, hc, hd, hee, hw]; with_reducible (first | rfl | exact ⟨rfl, rfl⟩))))
    | (apply X.stepNQ rfl; (focus (simp only [sub, subO, subL, subM, sub3, sub2, fk_some, fk_none, fk_arg0, fk_argS, fk_argN, fk_map0, fk_mapS, fk_mapN, reduceIte, Nat.reduceEqDiff, Nat.reduceAdd, f0, f1, f5]; with_reducible rfl)))
    | ((first | apply X.stepGtQ rfl | apply X.stepGfQ rfl); (focus (simp only [sub, subO, subL, subM, sub3, sub2, fk_some, fk_none, fk_arg0, fk_argS, fk_argN, fk_map0, fk_mapS, fk_mapN, reduceIte, Nat.reduceEqDiff, Nat.reduceAdd, f0, f1, f5]; with_reducible rfl)); all_goals (intro hbr; first | exact absurd hbr (by decide) | ((try rw [hbr]); (try simp at hbr))))
    | (apply X.draw0; (focus rfl))
    | (apply X.drawH0; (focus rfl))
    | apply XD.nil
    | (apply XD.calmQ rfl rfl; (focus (simp only [sub, subO, subL, subM, sub3, sub2, fk_some, fk_none, fk_arg0, fk_argS, fk_argN, fk_map0, fk_mapS, fk_mapN, reduceIte, Nat.reduceEqDiff, Nat.reduceAdd, f0, f1, f5]; with_reducible rfl)); (focus (simp [-getElem?_pos, hes, hes2, hss, hne, cellsW, orW, ha, hb, hc, hd, hee, hw]; with_reducible (first | rfl | exact ⟨rfl, rfl⟩))))
    | (apply XD.callQ rfl; (focus (simp only [sub, subO, subL, subM, sub3, sub2, fk_some, fk_none, fk_arg0, fk_argS, fk_argN, fk_map0, fk_mapS, fk_mapN, reduceIte, Nat.reduceEqDiff, Nat.reduceAdd, f0, f1, f5]; simp; with_reducible rfl)); (focus (simp; with_reducible rfl)); (focus (simp [-getElem?_pos, hes, hes2, hss, hne, cellsW, orW, ha, hb, hc, hd, hee, hw]; done)); (focus (simp [-getElem?_pos, hes, hes2, hss, hne, cellsW, orW, ha, hb, hc, hd, hee, hw]; with_reducible rfl)))
    | (apply XD.stepNQ rfl; (focus (simp only [sub, subO, subL, subM, sub3, sub2, fk_some, fk_none, fk_arg0, fk_argS, fk_argN, fk_map0, fk_mapS, fk_mapN, reduceIte, Nat.reduceEqDiff, Nat.reduceAdd, f0, f1, f5]; with_reducible rfl)))
    | ((first | apply XD.stepGtQ rfl | apply XD.stepGfQ rfl); (focus (simp only [sub, subO, subL, subM, sub3, sub2, fk_some, fk_none, fk_arg0, fk_argS, fk_argN, fk_map0, fk_mapS, fk_mapN, reduceIte, Nat.reduceEqDiff, Nat.reduceAdd, f0, f1, f5]; with_reducible rfl)); all_goals (intro hbr; first | exact absurd hbr (by decide) | ((try rw [hbr]); (try simp at hbr))))
    | (apply XD.loudQ rfl; (focus (simp only [sub, subO, subL, subM, sub3, sub2, fk_some, fk_none, fk_arg0, fk_argS, fk_argN, fk_map0, fk_mapS, fk_mapN, reduceIte, Nat.reduceEqDiff, Nat.reduceAdd, f0, f1, f5]; with_reducible rfl)); (focus (simp; with_reducible rfl)); (focus (simp [-getElem?_pos, hes, hes2, hss, hne, cellsW, orW, ha, hb, hc, hd, hee, hw]; with_reducible (first | rfl | exact ⟨rfl, rfl⟩))); (focus (simp; done)); (focus (simp [-getElem?_pos, hes, hes2, hss, hne, cellsW, orW, ha, hb, hc, hd, hee, hw]; with_reducible rfl))))
    all_goals exact ⟨by omega, _, by simp [f0, f1], rfl⟩
  | 3, _ =>
    have hw := hw 3 (by omega)
    simp only [Int.cast_ofNat_Int, Int.reduceAdd] at hw f5
    (repeat' first
    | apply X.retS
    | apply X.skipS
    | apply X.skipB
    | apply X.skipL
    | (apply X.exitS; first | apply X.here | (refine X.out (by decide) ?_; apply X.here))
    | apply X.blockS
    | (apply X.condQ rfl; (focus (simp only [sub, subO, subL, subM, sub3, sub2, fk_some, fk_none, fk_arg0, fk_argS, fk_argN, fk_map0, fk_mapS, fk_mapN, reduceIte, Nat.reduceEqDiff, Nat.reduceAdd, f0, f1, f5]; with_reducible rfl)); all_goals (intro hbr; first | exact absurd hbr (by decide) | ((try rw [hbr]); (try simp at hbr))))
    | apply X.stepZ
    | (apply X.stepQ rfl; (focus (simp only [sub, subO, subL, subM, sub3, sub2, fk_some, fk_none, fk_arg0, fk_argS, fk_argN, fk_map0, fk_mapS, fk_mapN, reduceIte, Nat.reduceEqDiff, Nat.reduceAdd, f0, f1, f5]; with_reducible rfl)); (focus (simp [-getElem?_pos, hes, hes2, hss, hne, cellsW, orW, ha, hb, hc, hd, hee, hw]; with_reducible (first | rfl | exact ⟨rfl, rfl⟩))))
    | (apply X.stepNQ rfl; (focus (simp only [sub, subO, subL, subM, sub3, sub2, fk_some, fk_none, fk_arg0, fk_argS, fk_argN, fk_map0, fk_mapS, fk_mapN, reduceIte, Nat.reduceEqDiff, Nat.reduceAdd, f0, f1, f5]; with_reducible rfl)))
    | ((first | apply X.stepGtQ rfl | apply X.stepGfQ rfl); (focus (simp only [sub, subO, subL, subM, sub3, sub2, fk_some, fk_none, fk_arg0, fk_argS, fk_argN, fk_map0, fk_mapS, fk_mapN, reduceIte, Nat.reduceEqDiff, Nat.reduceAdd, f0, f1, f5]; with_reducible rfl)); all_goals (intro hbr; first | exact absurd hbr (by decide) | ((try rw [hbr]); (try simp at hbr))))
    | (apply X.draw0; (focus rfl))
    | (apply X.drawH0; (focus rfl))
    | apply XD.nil
    | (apply XD.calmQ rfl rfl; (focus (simp only [sub, subO, subL, subM, sub3, sub2, fk_some, fk_none, fk_arg0, fk_argS, fk_argN, fk_map0, fk_mapS, fk_mapN, reduceIte, Nat.reduceEqDiff, Nat.reduceAdd, f0, f1, f5]; with_reducible rfl)); (focus (simp [-getElem?_pos, hes, hes2, hss, hne, cellsW, orW, ha, hb, hc, hd, hee, hw]; with_reducible (first | rfl | exact ⟨rfl, rfl⟩))))
    | (apply XD.callQ rfl; (focus (simp only [sub, subO, subL, subM, sub3, sub2, fk_some, fk_none, fk_arg0, fk_argS, fk_argN, fk_map0, fk_mapS, fk_mapN, reduceIte, Nat.reduceEqDiff, Nat.reduceAdd, f0, f1, f5]; simp; with_reducible rfl)); (focus (simp; with_reducible rfl)); (focus (simp [-getElem?_pos, hes, hes2, hss, hne, cellsW, orW, ha, hb, hc, hd, hee, hw]; done)); (focus (simp [-getElem?_pos, hes, hes2, hss, hne, cellsW, orW, ha, hb, hc, hd, hee, hw]; with_reducible rfl)))
    | (apply XD.stepNQ rfl; (focus (simp only [sub, subO, subL, subM, sub3, sub2, fk_some, fk_none, fk_arg0, fk_argS, fk_argN, fk_map0, fk_mapS, fk_mapN, reduceIte, Nat.reduceEqDiff, Nat.reduceAdd, f0, f1, f5]; with_reducible rfl)))
    | ((first | apply XD.stepGtQ rfl | apply XD.stepGfQ rfl); (focus (simp only [sub, subO, subL, subM, sub3, sub2, fk_some, fk_none, fk_arg0, fk_argS, fk_argN, fk_map0, fk_mapS, fk_mapN, reduceIte, Nat.reduceEqDiff, Nat.reduceAdd, f0, f1, f5]; with_reducible rfl)); all_goals (intro hbr; first | exact absurd hbr (by decide) | ((try rw [hbr]); (try simp at hbr))))
    | (apply XD.loudQ rfl; (focus (simp only [sub, subO, subL, subM, sub3, sub2, fk_some, fk_none, fk_arg0, fk_argS, fk_argN, fk_map0, fk_mapS, fk_mapN, reduceIte, Nat.reduceEqDiff, Nat.reduceAdd, f0, f1, f5]; with_reducible rfl)); (focus (simp; with_reducible rfl)); (focus (simp [-getElem?_pos, hes, hes2, hss, hne, cellsW, orW, ha, hb, hc, hd, hee, hw]; with_reducible (first | rfl | exact ⟨rfl, rfl⟩))); (focus (simp; done)); (focus (simp [-getElem?_pos, hes, hes2, hss, hne, cellsW, orW, ha, hb, hc, hd, hee, hw]; with_reducible rfl))))
    all_goals exact ⟨by omega, _, by simp [f0, f1], rfl⟩
  | 4, _ =>
    have hw := hw 4 (by omega)
    simp only [Int.cast_ofNat_Int, Int.reduceAdd] at hw f5
    (repeat' first
    | apply X.retS
    | apply X.skipS
    | apply X.skipB
    | apply X.skipL
    | (apply X.exitS; first | apply X.here | (refine X.out (by decide) ?_; apply X.here))
    | apply X.blockS
    | (apply X.condQ rfl; (focus (simp only [sub, subO, subL, subM, sub3, sub2, fk_some, fk_none, fk_arg0, fk_argS, fk_argN, fk_map0, fk_mapS, fk_mapN, reduceIte, Nat.reduceEqDiff, Nat.reduceAdd, f0, f1, f5]; with_reducible rfl)); all_goals (intro hbr; first | exact absurd hbr (by decide) | ((try rw [hbr]); (try simp at hbr))))
    | apply X.stepZ
    | (apply X.stepQ rfl; (focus (simp only [sub, subO, subL, subM, sub3, sub2, fk_some, fk_none, fk_arg0, fk_argS, fk_argN, fk_map0, fk_mapS, fk_mapN, reduceIte, Nat.reduceEqDiff, Nat.reduceAdd, f0, f1, f5]; with_reducible rfl)); (focus (simp [-getElem?_pos, hes, hes2, hss, hne, cellsW, orW, ha, hb, hc, hd, hee, hw]; with_reducible (first | rfl | exact ⟨rfl, rfl⟩))))
    | (apply X.stepNQ rfl; (focus (simp only [sub, subO, subL, subM, sub3, sub2, fk_some, fk_none, fk_arg0, fk_argS, fk_argN, fk_map0, fk_mapS, fk_mapN, reduceIte, Nat.reduceEqDiff, Nat.reduceAdd, f0, f1, f5]; with_reducible rfl)))
    | ((first | apply X.stepGtQ rfl | apply X.stepGfQ rfl); (focus (simp only [sub, subO, subL, subM, sub3, sub2, fk_some, fk_none, fk_arg0, fk_argS, fk_argN, fk_map0, fk_mapS, fk_mapN, reduceIte, Nat.reduceEqDiff, Nat.reduceAdd, f0, f1, f5]; with_reducible rfl)); all_goals (intro hbr; first | exact absurd hbr (by decide) | ((try rw [hbr]); (try simp at hbr))))
    | (apply X.draw0; (focus rfl))
    | (apply X.drawH0; (focus rfl))
    | apply XD.nil
    | (apply XD.calmQ rfl rfl; (focus (simp only [sub, subO, subL, subM, sub3, sub2, fk_some, fk_none, fk_arg0, fk_argS, fk_argN, fk_map0, fk_mapS, fk_mapN, reduceIte, Nat.reduceEqDiff, Nat.reduceAdd, f0, f1, f5]; with_reducible rfl)); (focus (simp [-getElem?_pos, hes, hes2, hss, hne, cellsW, orW, ha, hb, hc, hd, hee, hw]; with_reducible (first | rfl | exact ⟨rfl, rfl⟩))))
    | (apply XD.callQ rfl; (focus (simp only [sub, subO, subL, subM, sub3, sub2, fk_some, fk_none, fk_arg0, fk_argS, fk_argN, fk_map0, fk_mapS, fk_mapN, reduceIte, Nat.reduceEqDiff, Nat.reduceAdd, f0, f1, f5]; simp; with_reducible rfl)); (focus (simp; with_reducible rfl)); (focus (simp [-getElem?_pos, hes, hes2, hss, hne, cellsW, orW, ha, hb, hc, hd, hee, hw]; done)); (focus (simp [-getElem?_pos, hes, hes2, hss, hne, cellsW, orW, ha, hb, hc, hd, hee, hw]; with_reducible rfl)))
    | (apply XD.stepNQ rfl; (focus (simp only [sub, subO, subL, subM, sub3, sub2, fk_some, fk_none, fk_arg0, fk_argS, fk_argN, fk_map0, fk_mapS, fk_mapN, reduceIte, Nat.reduceEqDiff, Nat.reduceAdd, f0, f1, f5]; with_reducible rfl)))
    | ((first | apply XD.stepGtQ rfl | apply XD.stepGfQ rfl); (focus (simp only [sub, subO, subL, subM, sub3, sub2, fk_some, fk_none, fk_arg0, fk_argS, fk_argN, fk_map0, fk_mapS, fk_mapN, reduceIte, Nat.reduceEqDiff, Nat.reduceAdd, f0, f1, f5]; with_reducible rfl)); all_goals (intro hbr; first | exact absurd hbr (by decide) | ((try rw [hbr]); (try simp at hbr))))
    | (apply XD.loudQ rfl; (focus (simp only [sub, subO, subL, subM, sub3, sub2, fk_some, fk_none, fk_arg0, fk_argS, fk_argN, fk_map0, fk_mapS, fk_mapN, reduceIte, Nat.reduceEqDiff, Nat.reduceAdd, f0, f1, f5]; with_reducible rfl)); (focus (simp; with_reducible rfl)); (focus (simp [-getElem?_pos, hes, hes2, hss, hne, cellsW, orW, ha, hb, hc, hd, hee, hw]; with_reducible (first | rfl | exact ⟨rfl, rfl⟩))); (focus (simp; done)); (focus (simp [-getElem?_pos, hes, hes2, hss, hne, cellsW, orW, ha, hb, hc, hd, hee, hw]; with_reducible rfl))))
    all_goals exact ⟨by omega, _, by simp [f0, f1], rfl⟩
  | 5, _ =>
    simp only [Int.cast_ofNat_Int] at f5
    (repeat' first
    | apply X.retS
    | apply X.skipS
    | apply X.skipB
    | apply X.skipL
    | (apply X.exitS; first | apply X.here | (refine X.out (by decide) ?_; apply X.here))
    | apply X.blockS
    | (apply X.condQ rfl; (focus (simp only [sub, subO, subL, subM, sub3, sub2, fk_some, fk_none, fk_arg0, fk_argS, fk_argN, fk_map0, fk_mapS, fk_mapN, reduceIte, Nat.reduceEqDiff, Nat.reduceAdd, f0, f1, f5]; with_reducible rfl)); all_goals (intro hbr; first | exact absurd hbr (by decide) | ((try rw [hbr]); (try simp at hbr))))
    | apply X.stepZ
    | (apply X.stepQ rfl; (focus (simp only [sub, subO, subL, subM, sub3, sub2, fk_some, fk_none, fk_arg0, fk_argS, fk_argN, fk_map0, fk_mapS, fk_mapN, reduceIte, Nat.reduceEqDiff, Nat.reduceAdd, f0, f1, f5]; with_reducible rfl)); (focus (simp [-getElem?_pos]; with_reducible (first | rfl | exact ⟨rfl, rfl⟩))))
    | (apply X.stepNQ rfl; (focus (simp only [sub, subO, subL, subM, sub3, sub2, fk_some, fk_none, fk_arg0, fk_argS, fk_argN, fk_map0, fk_mapS, fk_mapN, reduceIte, Nat.reduceEqDiff, Nat.reduceAdd, f0, f1, f5]; with_reducible rfl)))
    | ((first | apply X.stepGtQ rfl | apply X.stepGfQ rfl); (focus (simp only [sub, subO, subL, subM, sub3, sub2, fk_some, fk_none, fk_arg0, fk_argS, fk_argN, fk_map0, fk_mapS, fk_mapN, reduceIte, Nat.reduceEqDiff, Nat.reduceAdd, f0, f1, f5]; with_reducible rfl)); all_goals (intro hbr; first | exact absurd hbr (by decide) | ((try rw [hbr]); (try simp at hbr))))
    | (apply X.draw0; (focus rfl))
    | (apply X.drawH0; (focus rfl))
    | apply XD.nil
    | (apply XD.calmQ rfl rfl; (focus (simp only [sub, subO, subL, subM, sub3, sub2, fk_some, fk_none, fk_arg0, fk_argS, fk_argN, fk_map0, fk_mapS, fk_mapN, reduceIte, Nat.reduceEqDiff, Nat.reduceAdd, f0, f1, f5]; with_reducible rfl)); (focus (simp [-getElem?_pos]; with_reducible (first | rfl | exact ⟨rfl, rfl⟩))))
    | (apply XD.callQ rfl; (focus (simp only [sub, subO, subL, subM, sub3, sub2, fk_some, fk_none, fk_arg0, fk_argS, fk_argN, fk_map0, fk_mapS, fk_mapN, reduceIte, Nat.reduceEqDiff, Nat.reduceAdd, f0, f1, f5]; simp; with_reducible rfl)); (focus (simp; with_reducible rfl)); (focus (simp [-getElem?_pos]; done)); (focus (simp [-getElem?_pos]; with_reducible rfl)))
    | (apply XD.stepNQ rfl; (focus (simp only [sub, subO, subL, subM, sub3, sub2, fk_some, fk_none, fk_arg0, fk_argS, fk_argN, fk_map0, fk_mapS, fk_mapN, reduceIte, Nat.reduceEqDiff, Nat.reduceAdd, f0, f1, f5]; with_reducible rfl)))
    | ((first | apply XD.stepGtQ rfl | apply XD.stepGfQ rfl); (focus (simp only [sub, subO, subL, subM, sub3, sub2, fk_some, fk_none, fk_arg0, fk_argS, fk_argN, fk_map0, fk_mapS, fk_mapN, reduceIte, Nat.reduceEqDiff, Nat.reduceAdd, f0, f1, f5]; with_reducible rfl)); all_goals (intro hbr; first | exact absurd hbr (by decide) | ((try rw [hbr]); (try simp at hbr))))
    | (apply XD.loudQ rfl; (focus (simp only [sub, subO, subL, subM, sub3, sub2, fk_some, fk_none, fk_arg0, fk_argS, fk_argN, fk_map0, fk_mapS, fk_mapN, reduceIte, Nat.reduceEqDiff, Nat.reduceAdd, f0, f1, f5]; with_reducible rfl)); (focus (simp; with_reducible rfl)); (focus (simp [-getElem?_pos]; with_reducible (first | rfl | exact ⟨rfl, rfl⟩))); (focus (simp; done)); (focus (simp [-getElem?_pos]; with_reducible rfl))))
    all_goals exact X.skipEQ (us := []) rfl rfl ⟨rfl, _, hpp, rfl⟩
  | j + 6, hj => omega
end Lng

-- The table of a core's parts: what lang.New lays.
namespace Lng
open Go Ab Cps Go.Proofs.Ytdacifedlemlmaa.Mach
variable {E : Env}

/-- How many words. -/
def nodes : Co → Nat
  | .mk _ _ _ _ _ _ l => 1 + nodesL l
where
  nodesL : List Co → Nat
  | [] => 0
  | x :: l => nodes x + nodesL l
theorem nodes_eq' (c : Co) : nodes c = 1 + nodes.nodesL c.l := by cases c; rfl

/-- A part: its core, its kids' numbers. -/
abbrev Pt := Co × List Nat
/-- One more kid's number. -/
def push (a k : Nat) (P : List Pt) : List Pt := match P[a]? with
  | some x => P.set a (x.1, x.2 ++ [k])
  | none => P
/-- The parts of a core, behind others. -/
def addP : Co → List Pt → List Pt
  | .mk k s0 s1 s2 s3 n l, P => addL P.length l (P ++ [(.mk k s0 s1 s2 s3 n l, [])])
where
  addL (a : Nat) : List Co → List Pt → List Pt
  | [], P => P
  | x :: l, P => addL a l (push a P.length (addP x P))
theorem addP_eq (c : Co) (P : List Pt) : addP c P = addP.addL P.length c.l (P ++ [(c, [])]) := by cases c; rfl

theorem push_len {a k : Nat} {P : List Pt} : (push a k P).length = P.length := by unfold push; split <;> simp
theorem push_ne {a k i : Nat} {P : List Pt} (h : i ≠ a) : (push a k P)[i]? = P[i]? := by
  unfold push; split
  · rw [List.getElem?_set_ne (by omega)]
  · rfl
theorem push_at {a k : Nat} {P : List Pt} {x : Pt} (h : P[a]? = some x) : (push a k P)[a]? = some (x.1, x.2 ++ [k]) := by
  unfold push; rw [h]; simp only
  rw [List.getElem?_set_self (lt_of_at h)]

theorem addL_facts (a : Nat) : ∀ (l : List Co) (P : List Pt), (∀ y ∈ l, ∀ P, (addP y P).length = P.length + nodes y ∧ ∀ i, i < P.length → (addP y P)[i]? = P[i]?) →
    (addP.addL a l P).length = P.length + nodes.nodesL l ∧ ∀ i, i < P.length → i ≠ a → (addP.addL a l P)[i]? = P[i]?
  | [], P, _ => ⟨by simp [addP.addL, nodes.nodesL], fun i _ _ => rfl⟩
  | x :: l, P, h => by
    obtain ⟨h1, h2⟩ := h x (by simp) P
    obtain ⟨h3, h4⟩ := addL_facts a l (push a P.length (addP x P)) fun y hy => h y (by simp [hy])
    refine ⟨by simp only [addP.addL, h3, push_len, h1, nodes.nodesL]; omega, fun i hi hne => ?_⟩
    simp only [addP.addL]
    rw [h4 i (by rw [push_len, h1]; omega) hne, push_ne hne, h2 i hi]
theorem addP_facts : ∀ c (P : List Pt), (addP c P).length = P.length + nodes c ∧ ∀ i, i < P.length → (addP c P)[i]? = P[i]? := by
  refine Co.ind fun c ih P => ?_
  obtain ⟨h1, h2⟩ := addL_facts P.length c.l (P ++ [(c, [])]) ih
  rw [addP_eq, nodes_eq']
  refine ⟨by rw [h1]; simp; omega, fun i hi => ?_⟩
  rw [h2 i (by simp; omega) (by omega), List.getElem?_append_left hi]

/-- A part stands where its number tells, and so do those in it. -/
def Tree (P : List Pt) : Co → Nat → Prop
  | .mk k s0 s1 s2 s3 n l, a => ∃ ks, P[a]? = some (.mk k s0 s1 s2 s3 n l, ks) ∧ TreeL P l ks
where
  TreeL (P : List Pt) : List Co → List Nat → Prop
  | [], ks => ks = []
  | x :: l, ks => ∃ k ks', ks = k :: ks' ∧ Tree P x k ∧ TreeL P l ks'
theorem tree_eq {P : List Pt} {c : Co} {a : Nat} : Tree P c a ↔ ∃ ks, P[a]? = some (c, ks) ∧ Tree.TreeL P c.l ks := by cases c; rw [Tree]; rfl

/-- Kids stand behind. -/
def Up (P : List Pt) : Prop := ∀ (i : Nat) (x : Co) (ks : List Nat) (k : Nat), P[i]? = some (x, ks) → k ∈ ks → i < k

/-- Parts that stay. -/
theorem tree_mono {P P' : List Pt} : ∀ (c : Co) (a : Nat), (∀ (i : Nat) (x : Pt), a ≤ i → P[i]? = some x → P'[i]? = some x) → Up P → Tree P c a → Tree P' c a := by
  refine Co.ind fun c ih a hm hk ht => ?_
  rw [tree_eq] at ht ⊢
  obtain ⟨ks, h1, h2⟩ := ht
  refine ⟨ks, hm a _ (Nat.le_refl _) h1, ?_⟩
  have hka := fun k => hk a c ks k h1
  have key : ∀ (l : List Co) (ks : List Nat), (∀ y ∈ l, ∀ a, (∀ (i : Nat) (x : Pt), a ≤ i → P[i]? = some x → P'[i]? = some x) → Up P → Tree P y a → Tree P' y a) → (∀ k ∈ ks, a < k) → Tree.TreeL P l ks → Tree.TreeL P' l ks := by
    intro l
    induction l with
    | nil => intro ks _ _ h; exact h
    | cons x l ihl =>
      rintro ks hh hak ⟨k, ks', rfl, h3, h4⟩
      exact ⟨k, ks', rfl, hh x (by simp) k (fun i y hi => hm i y (by have := hak k (by simp); omega)) hk h3, ihl ks' (fun y hy => hh y (by simp [hy])) (fun k hk => hak k (by simp [hk])) h4⟩
  exact key c.l ks ih hka h2

theorem treeL_app {P : List Pt} {x : Co} {k : Nat} (hx : Tree P x k) : ∀ (l : List Co) (ks : List Nat), Tree.TreeL P l ks → Tree.TreeL P (l ++ [x]) (ks ++ [k])
  | [], ks, h => by
    have : ks = [] := h
    subst this
    exact ⟨k, [], rfl, hx, rfl⟩
  | y :: l, ks, h => by
    obtain ⟨k', ks', rfl, h1, h2⟩ := h
    exact ⟨k', ks' ++ [k], rfl, h1, treeL_app hx l ks' h2⟩
theorem treeL_mono {P P' : List Pt} {a : Nat} (hm : ∀ (i : Nat) (x : Pt), a < i → P[i]? = some x → P'[i]? = some x) (hu : Up P) : ∀ (l : List Co) (ks : List Nat), (∀ k ∈ ks, a < k) → Tree.TreeL P l ks → Tree.TreeL P' l ks
  | [], _, _, h => h
  | x :: l, _, hk, h => by
    obtain ⟨k, ks', rfl, h1, h2⟩ := h
    have := hk k (by simp)
    exact ⟨k, ks', rfl, tree_mono x k (fun i x hi => hm i x (by omega)) hu h1, treeL_mono hm hu l ks' (fun k hk' => hk k (by simp [hk'])) h2⟩

theorem addL_tree (a : Nat) (c : Co) : ∀ (l done : List Co) (P : List Pt) (ks : List Nat), (∀ y ∈ l, ∀ P, Up P → Up (addP y P) ∧ Tree (addP y P) y P.length) → Up P → P[a]? = some (c, ks) → Tree.TreeL P done ks →
    Up (addP.addL a l P) ∧ ∃ ks', (addP.addL a l P)[a]? = some (c, ks') ∧ Tree.TreeL (addP.addL a l P) (done ++ l) ks'
  | [], done, P, ks, _, hu, ha, ht => ⟨hu, ks, ha, by simpa [addP.addL] using ht⟩
  | x :: l, done, P, ks, hh, hu, ha, ht => by
    obtain ⟨hu1, ht1⟩ := hh x (by simp) P hu
    obtain ⟨hl1, hf1⟩ := addP_facts x P
    have hlt := lt_of_at ha
    have ha1 : (addP x P)[a]? = some (c, ks) := by rw [hf1 a hlt]; exact ha
    have ha2 : (push a P.length (addP x P))[a]? = some (c, ks ++ [P.length]) := push_at ha1
    have hu2 : Up (push a P.length (addP x P)) := by
      intro i y qs k hi hk
      by_cases hia : i = a
      · subst hia
        rw [ha2] at hi
        cases hi
        rcases List.mem_append.1 hk with h | h
        · exact hu1 i c ks k ha1 h
        · simp at h; omega
      · rw [push_ne hia] at hi
        exact hu1 i y qs k hi hk
    have htx : Tree (push a P.length (addP x P)) x P.length := tree_mono x P.length (fun i y hi hy => by rw [push_ne (by omega)]; exact hy) hu1 ht1
    have htd : Tree.TreeL (push a P.length (addP x P)) done ks := by
      refine treeL_mono (a := a) (P := P) (fun i y hi hy => ?_) hu done ks (fun k hk => hu a c ks k ha hk) ht
      rw [push_ne (by omega), hf1 i (lt_of_at hy)]; exact hy
    have := addL_tree a c l (done ++ [x]) (push a P.length (addP x P)) (ks ++ [P.length]) (fun y hy => hh y (by simp [hy])) hu2 ha2 (treeL_app htx _ _ htd)
    simpa [addP.addL] using this

theorem addP_tree : ∀ c (P : List Pt), Up P → Up (addP c P) ∧ Tree (addP c P) c P.length := by
  refine Co.ind fun c ih P hu => ?_
  have hu0 : Up (P ++ [(c, [])]) := by
    intro i x ks k hi hk
    rcases Nat.lt_or_ge i P.length with h | h
    · rw [List.getElem?_append_left h] at hi; exact hu i x ks k hi hk
    · rw [List.getElem?_append_right h] at hi
      have h0 : i - P.length = 0 := by have := lt_of_at hi; simp at this; omega
      rw [h0] at hi
      simp at hi
      rw [hi.2] at hk
      cases hk
  obtain ⟨h1, ks, h2, h3⟩ := addL_tree P.length c c.l [] (P ++ [(c, [])]) [] ih hu0 (by simp) rfl
  rw [addP_eq, tree_eq]
  exact ⟨h1, ks, h2, by simpa using h3⟩

/-- Numbers as the heap has them. -/
def encN (ks : List Nat) : List PV := ks.map fun (k : Nat) => PV.int .i64 (k : Int)
def coreV (c : Co) : List V := [.pv (.int .i64 c.k), .pv (.int .u64 c.s0), .pv (.int .u64 c.s1), .pv (.int .u64 c.s2), .pv (.int .u64 c.s3), .pv (.int .i64 c.n), .pv (.sl (c.l.map encC))]
/-- The parts, cell by cell. -/
def cellsT : List Pt → List V → List V
  | x :: P, kv :: kvs => coreV x.1 ++ kv :: cellsT P kvs
  | _, _ => []

theorem cellsT_len : ∀ (P : List Pt) (kvs : List V), kvs.length = P.length → (cellsT P kvs).length = P.length * 8
  | [], [], _ => rfl
  | x :: P, kv :: kvs, h => by
    have := cellsT_len P kvs (by simpa using h)
    simp [cellsT, coreV, this]; omega
  | [], _ :: _, h => by simp at h
  | _ :: _, [], h => by simp at h
theorem cellsT_snoc (x : Pt) (kv : V) : ∀ (P : List Pt) (kvs : List V), kvs.length = P.length → cellsT (P ++ [x]) (kvs ++ [kv]) = cellsT P kvs ++ (coreV x.1 ++ [kv])
  | [], [], _ => by simp [cellsT]
  | y :: P, kw :: kvs, h => by
    have := cellsT_snoc x kv P kvs (by simpa using h)
    simp [cellsT, this]
  | [], _ :: _, h => by simp at h
  | _ :: _, [], h => by simp at h
theorem cellsT_at : ∀ (P : List Pt) (kvs : List V) (i : Nat) (x : Pt) (kv : V), P[i]? = some x → kvs[i]? = some kv → ∃ r, (cellsT P kvs).drop (i * 8) = coreV x.1 ++ kv :: r
  | y :: P, kw :: kvs, 0, x, kv, h1, h2 => by
    simp at h1 h2
    subst h1; subst h2
    exact ⟨_, rfl⟩
  | y :: P, kw :: kvs, i + 1, x, kv, h1, h2 => by
    obtain ⟨r, hr⟩ := cellsT_at P kvs i x kv (by simpa using h1) (by simpa using h2)
    refine ⟨r, ?_⟩
    rw [← hr]
    have : (i + 1) * 8 = i * 8 + 8 := by omega
    rw [this]
    simp [cellsT, coreV]
  | [], _, _, _, _, h, _ => by simp at h
  | _ :: _, [], _, _, _, _, h => by simp at h
theorem cellsT_set (v : V) : ∀ (P : List Pt) (kvs : List V) (i : Nat), kvs.length = P.length → i < P.length → (cellsT P kvs).set (i * 8 + 7) v = cellsT P (kvs.set i v)
  | y :: P, kw :: kvs, 0, _, _ => by simp [cellsT, coreV]
  | y :: P, kw :: kvs, i + 1, h, hi => by
    have := cellsT_set v P kvs i (by simpa using h) (by simpa using hi)
    have e : (i + 1) * 8 + 7 = i * 8 + 7 + 8 := by omega
    rw [e]
    simp [cellsT, coreV, this]
  | [], _, _, _, h => by simp at h
  | _ :: _, [], _, h, _ => by simp at h
theorem cellsT_push (a k : Nat) : ∀ (P P' : List Pt) (kvs : List V), P'.map (·.1) = P.map (·.1) → cellsT P' kvs = cellsT P kvs
  | [], [], _, _ => rfl
  | x :: P, y :: P', [], _ => by simp [cellsT]
  | x :: P, y :: P', kv :: kvs, h => by
    simp only [List.map_cons, List.cons.injEq] at h
    simp only [cellsT]
    rw [h.1, cellsT_push a k P P' kvs h.2]
  | [], _ :: _, _, h => by simp at h
  | _ :: _, [], _, h => by simp at h
theorem push_map {a k : Nat} {P : List Pt} : (push a k P).map (·.1) = P.map (·.1) := by
  unfold push
  split
  · rename_i x hx
    refine List.ext_getElem? fun i => ?_
    simp only [List.getElem?_map, List.getElem?_set]
    by_cases h : a = i
    · subst h
      rw [if_pos rfl, if_pos (lt_of_at hx), hx]; rfl
    · rw [if_neg h]
  · rfl
theorem splice_one {cs : List V} {i : Nat} {v : V} (h : i < cs.length) : splice cs i [v] = cs.set i v := by
  simp only [splice]
  refine List.ext_getElem? fun j => ?_
  rw [List.getElem?_set]
  by_cases h1 : j < i
  · rw [if_neg (by omega), List.getElem?_append_left (by simp; omega), List.getElem?_append_left (by simp; omega), List.getElem?_take_of_lt h1]
  · by_cases h2 : i = j
    · subst h2
      rw [if_pos rfl, if_pos h, List.getElem?_append_left (by simp; omega), List.getElem?_append_right (by simp; omega)]
      simp [Nat.min_eq_left (Nat.le_of_lt h)]
    · rw [if_neg h2, List.getElem?_append_right (by simp; omega)]
      simp only [List.length_append, List.length_take, List.length_cons, List.length_nil, Nat.min_eq_left (Nat.le_of_lt h), List.getElem?_drop]
      congr 1; omega
end Lng
