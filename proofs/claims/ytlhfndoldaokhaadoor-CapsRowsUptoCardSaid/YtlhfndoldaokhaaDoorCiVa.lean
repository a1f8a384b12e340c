/- CiVa: steps, walks, laws: see the remarks within. -/
import Derived.Test.YtlhfndoldaokhaaDoorAbStep
import Derived.Test.YtlhfndoldaokhaaDoorCiCode
set_option linter.unusedSimpArgs false
set_option linter.unusedVariables false
-- Cores and values as plain data; whether they may be: walked.
namespace Cps
open Go Ab Go.Proofs.YtlhfndoldaokhaaDoor.Mach

/-- A core. -/
inductive Co where
  | mk (k s0 s1 s2 s3 n : Int) (l : List Co)
def Co.k : Co → Int | .mk k _ _ _ _ _ _ => k
def Co.s0 : Co → Int | .mk _ s _ _ _ _ _ => s
def Co.s1 : Co → Int | .mk _ _ s _ _ _ _ => s
def Co.s2 : Co → Int | .mk _ _ _ s _ _ _ => s
def Co.s3 : Co → Int | .mk _ _ _ _ s _ _ => s
def Co.n : Co → Int | .mk _ _ _ _ _ n _ => n
def Co.l : Co → List Co | .mk _ _ _ _ _ _ l => l

/-- A value. -/
inductive Va where
  | mk (k b : Int) (l : List Va)
def Va.k : Va → Int | .mk k _ _ => k
def Va.b : Va → Int | .mk _ b _ => b
def Va.l : Va → List Va | .mk _ _ l => l

def encC : Co → PV
  | .mk k s0 s1 s2 s3 n l => .agg [.int .i64 k, .int .u64 s0, .int .u64 s1, .int .u64 s2, .int .u64 s3, .int .i64 n, .sl (encL l)]
where
  encL : List Co → List PV
  | [] => []
  | x :: l => encC x :: encL l
theorem encCL : ∀ l, encC.encL l = l.map encC
  | [] => rfl
  | x :: l => by simp [encC.encL, encCL l]
theorem eC (x : Co) : encC x = .agg [.int .i64 x.k, .int .u64 x.s0, .int .u64 x.s1, .int .u64 x.s2, .int .u64 x.s3, .int .i64 x.n, .sl (x.l.map encC)] := by
  cases x; simp [encC, encCL, Co.k, Co.s0, Co.s1, Co.s2, Co.s3, Co.n, Co.l]

def encV : Va → PV
  | .mk k b l => .agg [.int .i64 k, .int .u8 b, .sl (encL l)]
where
  encL : List Va → List PV
  | [] => []
  | x :: l => encV x :: encL l
theorem encVL : ∀ l, encV.encL l = l.map encV
  | [] => rfl
  | x :: l => by simp [encV.encL, encVL l]
theorem eV (x : Va) : encV x = .agg [.int .i64 x.k, .int .u8 x.b, .sl (x.l.map encV)] := by
  cases x; simp [encV, encVL, Va.k, Va.b, Va.l]

theorem Co.ind {p : Co → Prop} (h : ∀ c, (∀ y ∈ c.l, p y) → p c) : ∀ c, p c
  | .mk k s0 s1 s2 s3 n l => h _ (indL h l)
where
  indL {p : Co → Prop} (h : ∀ c, (∀ y ∈ c.l, p y) → p c) : ∀ (l : List Co), ∀ y ∈ l, p y
  | [], y, hy => by cases hy
  | x :: l, y, hy => by
    rcases List.mem_cons.1 hy with h1 | h1
    · rw [h1]; exact Co.ind h x
    · exact indL h l y h1
theorem Va.ind {p : Va → Prop} (h : ∀ c, (∀ y ∈ c.l, p y) → p c) : ∀ c, p c
  | .mk k b l => h _ (indL h l)
where
  indL {p : Va → Prop} (h : ∀ c, (∀ y ∈ c.l, p y) → p c) : ∀ (l : List Va), ∀ y ∈ l, p y
  | [], y, hy => by cases hy
  | x :: l, y, hy => by
    rcases List.mem_cons.1 hy with h1 | h1
    · rw [h1]; exact Va.ind h x
    · exact indL h l y h1

variable {E : Env}

/-- How many kids a kind has. -/
def kidsS (k : Int) : Int := if k = 0 ∨ k = 1 ∨ k = 2 then 0 else if k = 3 ∨ k = 4 then 2 else if k = 5 ∨ k = 6 ∨ k = 7 then 1 else -1

set_option maxHeartbeats 2000000 in
theorem kids_ok (H : Has E 99 c99) (k : Int) : limP E 99 [.int .i64 k] = some [.int .i64 (kidsS k)] := by
  refine H.lim (Nat.le_of_ble_eq_true rfl) (by simp; with_reducible rfl) ?_; unfold c99
  (repeat' first
    | apply X.retS
    | apply X.skipS
    | apply X.skipB
    | apply X.skipL
    | (apply X.exitS; first | apply X.here | (refine X.out (by decide) ?_; apply X.here))
    | apply X.blockS
    | (apply X.condS rfl <;> intro hp <;> first | exact absurd hp (by decide) | ((try rw [hp]); (try simp at hp)))
    | apply X.stepZ
    | (apply X.step; (focus (simp; with_reducible (first | rfl | exact ⟨rfl, rfl⟩))); (focus (simp; with_reducible rfl)))
    | (apply X.stepN rfl; (focus (simp; with_reducible rfl)))
    | ((first | apply X.stepGt rfl | apply X.stepGf rfl); (focus (simp; with_reducible rfl)); all_goals (intro hp; first | exact absurd hp (by decide) | ((try rw [hp]); (try simp at hp))))
    | (apply X.draw0; (focus rfl))
    | apply XD.nil
    | (apply XD.calm rfl; (focus (simp; with_reducible (first | rfl | exact ⟨rfl, rfl⟩))); (focus (simp; with_reducible rfl)))
    | (apply XD.call; (focus (simp; with_reducible rfl)); (focus (simp; with_reducible rfl)); (focus (simp; done)); (focus (simp; with_reducible rfl)); (focus (simp; with_reducible rfl)))
    | (apply XD.stepN rfl; (focus (simp; with_reducible rfl)))
    | ((first | apply XD.stepGt rfl | apply XD.stepGf rfl); (focus (simp; with_reducible rfl)); all_goals (intro hp; first | exact absurd hp (by decide) | ((try rw [hp]); (try simp at hp))))
    | (apply XD.loud; (focus (simp; with_reducible (first | rfl | exact ⟨rfl, rfl⟩))); (focus (simp; done)); (focus (simp; with_reducible rfl)); (focus (simp; with_reducible rfl))))
  all_goals (refine Fin.mk' (by simp [resA]; with_reducible rfl) (by simp [oneOf, pureRes, snapFuel, snapL]; with_reducible rfl) ?_)
  all_goals simp_all [kidsS]

/-- Where the first is that is so. -/
def idxC (r : Co → Bool) : List Co → Int → Int
  | [], _ => -1
  | x :: xs, i => if r x = true then i else idxC r xs (i + 1)

theorem idxC_any (r : Co → Bool) : ∀ (xs : List Co) (i : Int), 0 ≤ i → decide (0 ≤ idxC r xs i) = xs.any r
  | [], _, _ => rfl
  | x :: xs, i, hi => by
    simp only [idxC, List.any_cons]
    by_cases hr : r x = true
    · simp [hr, hi]
    · have := idxC_any r xs (i + 1) (by omega)
      simp only [hr]
      simpa [hr] using this

set_option maxHeartbeats 1000000 in
theorem indexC (H : Has E 120 c120) {g : FuncId} {caps : List PV} {xs : List Co} {r : Co → Bool} (hg : E.raw g = false) (hl : xs.length ≤ 9223372036854775807)
    (hr : ∀ x ∈ xs, limP E g (encC x :: caps) = some [.bool (r x)]) : limP E 120 [.sl (xs.map encC), .fn g caps] = some [.int .i64 (idxC r xs 0)] := by
  refine H.lim (Nat.le_of_ble_eq_true rfl) (by simp; with_reducible rfl) ?_; unfold c120
  (repeat' first
    | apply X.retS
    | apply X.skipS
    | apply X.skipB
    | apply X.skipL
    | (apply X.exitS; first | apply X.here | (refine X.out (by decide) ?_; apply X.here))
    | apply X.blockS
    | (apply X.condS rfl <;> intro hp <;> first | exact absurd hp (by decide) | ((try rw [hp]); (try simp at hp)))
    | apply X.stepZ
    | (apply X.step; (focus (simp; with_reducible (first | rfl | exact ⟨rfl, rfl⟩))); (focus (simp; with_reducible rfl)))
    | (apply X.stepN rfl; (focus (simp; with_reducible rfl)))
    | ((first | apply X.stepGt rfl | apply X.stepGf rfl); (focus (simp; with_reducible rfl)); all_goals (intro hp; first | exact absurd hp (by decide) | ((try rw [hp]); (try simp at hp))))
    | (apply X.draw0; (focus rfl))
    | apply XD.nil
    | (apply XD.calm rfl; (focus (simp; with_reducible (first | rfl | exact ⟨rfl, rfl⟩))); (focus (simp; with_reducible rfl)))
    | (apply XD.call; (focus (simp; with_reducible rfl)); (focus (simp; with_reducible rfl)); (focus (simp; done)); (focus (simp; with_reducible rfl)); (focus (simp; with_reducible rfl)))
    | (apply XD.stepN rfl; (focus (simp; with_reducible rfl)))
    | ((first | apply XD.stepGt rfl | apply XD.stepGf rfl); (focus (simp; with_reducible rfl)); all_goals (intro hp; first | exact absurd hp (by decide) | ((try rw [hp]); (try simp at hp))))
    | (apply XD.loud; (focus (simp; with_reducible (first | rfl | exact ⟨rfl, rfl⟩))); (focus (simp; done)); (focus (simp; with_reducible rfl)); (focus (simp; with_reducible rfl))))
  refine X.forS xs.length (fun j st => idxC r (xs.drop j) j = idxC r xs 0 ∧ ∃ x2 x3 x4 x5 x6 x9 x10 x11 x12 x13 x14 x15 x16 x17 x18 h,
    st = ⟨[.pv (.sl (xs.map encC)), .pv (.fn g caps), x2, x3, x4, x5, x6, .pv (.int .i64 xs.length), .pv (.int .i64 j), x9, x10, x11, x12, x13, x14, x15, x16, x17, x18], h⟩) ⟨rfl, _, _, _, _, _, _, _, _, _, _, _, _, _, _, _, _, rfl⟩ ?_
  rintro j st hj ⟨hi, x2, x3, x4, x5, x6, x9, x10, x11, x12, x13, x14, x15, x16, x17, x18, h, rfl⟩
  rcases Nat.lt_or_ge j xs.length with hj1 | hj1
  · obtain ⟨x, hx⟩ := at_of_lt hj1
    have hc := hr x (List.mem_of_getElem? hx)
    rw [drop_at hx] at hi
    simp only [idxC] at hi
    rw [eC] at hc
    have hw : IntKind.i64.wrap ((j : Int) + 1) = (j : Int) + 1 := wrap_i64 (by omega)
    clear hr
    (repeat' first
    | apply X.retS
    | apply X.skipS
    | apply X.skipB
    | apply X.skipL
    | (apply X.exitS; first | apply X.here | (refine X.out (by decide) ?_; apply X.here))
    | apply X.blockS
    | (apply X.condS rfl <;> intro hp <;> first | exact absurd hp (by decide) | ((try rw [hp]); (try simp at hp)))
    | apply X.stepZ
    | (apply X.step; (focus (simp [-getElem?_pos, hj1, hx, eC, hg, hc, hw]; with_reducible (first | rfl | exact ⟨rfl, rfl⟩))); (focus (simp; with_reducible rfl)))
    | (apply X.stepN rfl; (focus (simp; with_reducible rfl)))
    | ((first | apply X.stepGt rfl | apply X.stepGf rfl); (focus (simp; with_reducible rfl)); all_goals (intro hp; first | exact absurd hp (by decide) | ((try rw [hp]); (try simp at hp))))
    | (apply X.draw0; (focus rfl))
    | apply XD.nil
    | (apply XD.calm rfl; (focus (simp [-getElem?_pos, hj1, hx, eC, hg, hc, hw]; with_reducible (first | rfl | exact ⟨rfl, rfl⟩))); (focus (simp; with_reducible rfl)))
    | (apply XD.call; (focus (simp; with_reducible rfl)); (focus (simp; with_reducible rfl)); (focus (simp [-getElem?_pos, hj1, hx, eC, hg, hc, hw]; done)); (focus (simp [-getElem?_pos, hj1, hx, eC, hg, hc, hw]; with_reducible rfl)); (focus (simp; with_reducible rfl)))
    | (apply XD.stepN rfl; (focus (simp; with_reducible rfl)))
    | ((first | apply XD.stepGt rfl | apply XD.stepGf rfl); (focus (simp; with_reducible rfl)); all_goals (intro hp; first | exact absurd hp (by decide) | ((try rw [hp]); (try simp at hp))))
    | (apply XD.loud; (focus (simp [-getElem?_pos, hj1, hx, eC, hg, hc, hw]; with_reducible (first | rfl | exact ⟨rfl, rfl⟩))); (focus (simp; done)); (focus (simp; with_reducible rfl)); (focus (simp; with_reducible rfl))))
    all_goals first
      | ((refine Fin.mk' (by simp [resA]; with_reducible rfl) (by simp [oneOf, pureRes, snapFuel, snapL]; with_reducible rfl) ?_); simp [← hi, *]; done)
      | exact ⟨hj1, by simp_all, _, _, _, _, _, _, _, _, _, _, _, _, _, _, _, _, rfl⟩
  · have hj2 : ¬ j < xs.length := by omega
    rw [List.drop_eq_nil_of_le hj1] at hi
    clear hr
    (repeat' first
    | apply X.retS
    | apply X.skipS
    | apply X.skipB
    | apply X.skipL
    | (apply X.exitS; first | apply X.here | (refine X.out (by decide) ?_; apply X.here))
    | apply X.blockS
    | (apply X.condS rfl <;> intro hp <;> first | exact absurd hp (by decide) | ((try rw [hp]); (try simp at hp)))
    | apply X.stepZ
    | (apply X.step; (focus (simp [-getElem?_pos, hj2]; with_reducible (first | rfl | exact ⟨rfl, rfl⟩))); (focus (simp; with_reducible rfl)))
    | (apply X.stepN rfl; (focus (simp; with_reducible rfl)))
    | ((first | apply X.stepGt rfl | apply X.stepGf rfl); (focus (simp; with_reducible rfl)); all_goals (intro hp; first | exact absurd hp (by decide) | ((try rw [hp]); (try simp at hp))))
    | (apply X.draw0; (focus rfl))
    | apply XD.nil
    | (apply XD.calm rfl; (focus (simp [-getElem?_pos, hj2]; with_reducible (first | rfl | exact ⟨rfl, rfl⟩))); (focus (simp; with_reducible rfl)))
    | (apply XD.call; (focus (simp; with_reducible rfl)); (focus (simp; with_reducible rfl)); (focus (simp [-getElem?_pos, hj2]; done)); (focus (simp [-getElem?_pos, hj2]; with_reducible rfl)); (focus (simp; with_reducible rfl)))
    | (apply XD.stepN rfl; (focus (simp; with_reducible rfl)))
    | ((first | apply XD.stepGt rfl | apply XD.stepGf rfl); (focus (simp; with_reducible rfl)); all_goals (intro hp; first | exact absurd hp (by decide) | ((try rw [hp]); (try simp at hp))))
    | (apply XD.loud; (focus (simp [-getElem?_pos, hj2]; with_reducible (first | rfl | exact ⟨rfl, rfl⟩))); (focus (simp; done)); (focus (simp; with_reducible rfl)); (focus (simp; with_reducible rfl))))
    all_goals ((refine Fin.mk' (by simp [resA]; with_reducible rfl) (by simp [oneOf, pureRes, snapFuel, snapL]; with_reducible rfl) ?_); simp [← hi, idxC])

set_option maxHeartbeats 1000000 in
theorem containsC (H : Has E 100 c100) (H2 : Has E 120 c120) {g : FuncId} {caps : List PV} {xs : List Co} {r : Co → Bool} (hg : E.raw g = false) (hl : xs.length ≤ 9223372036854775807)
    (hr : ∀ x ∈ xs, limP E g (encC x :: caps) = some [.bool (r x)]) : limP E 100 [.sl (xs.map encC), .fn g caps] = some [.bool (xs.any r)] := by
  have hi := indexC H2 hg hl hr
  clear hr
  refine H.lim (Nat.le_of_ble_eq_true rfl) (by simp; with_reducible rfl) ?_; unfold c100
  (repeat' first
    | apply X.retS
    | apply X.skipS
    | apply X.skipB
    | apply X.skipL
    | (apply X.exitS; first | apply X.here | (refine X.out (by decide) ?_; apply X.here))
    | apply X.blockS
    | (apply X.condS rfl <;> intro hp <;> first | exact absurd hp (by decide) | ((try rw [hp]); (try simp at hp)))
    | apply X.stepZ
    | (apply X.step; (focus (simp [-getElem?_pos, H2.raw, hi]; with_reducible (first | rfl | exact ⟨rfl, rfl⟩))); (focus (simp; with_reducible rfl)))
    | (apply X.stepN rfl; (focus (simp; with_reducible rfl)))
    | ((first | apply X.stepGt rfl | apply X.stepGf rfl); (focus (simp; with_reducible rfl)); all_goals (intro hp; first | exact absurd hp (by decide) | ((try rw [hp]); (try simp at hp))))
    | (apply X.draw0; (focus rfl))
    | apply XD.nil
    | (apply XD.calm rfl; (focus (simp [-getElem?_pos, H2.raw, hi]; with_reducible (first | rfl | exact ⟨rfl, rfl⟩))); (focus (simp; with_reducible rfl)))
    | (apply XD.call; (focus (simp; with_reducible rfl)); (focus (simp; with_reducible rfl)); (focus (simp [-getElem?_pos, H2.raw, hi]; done)); (focus (simp [-getElem?_pos, H2.raw, hi]; with_reducible rfl)); (focus (simp; with_reducible rfl)))
    | (apply XD.stepN rfl; (focus (simp; with_reducible rfl)))
    | ((first | apply XD.stepGt rfl | apply XD.stepGf rfl); (focus (simp; with_reducible rfl)); all_goals (intro hp; first | exact absurd hp (by decide) | ((try rw [hp]); (try simp at hp))))
    | (apply XD.loud; (focus (simp [-getElem?_pos, H2.raw, hi]; with_reducible (first | rfl | exact ⟨rfl, rfl⟩))); (focus (simp; done)); (focus (simp; with_reducible rfl)); (focus (simp; with_reducible rfl))))
  all_goals ((refine Fin.mk' (by simp [resA]; with_reducible rfl) (by simp [oneOf, pureRes, snapFuel, snapL]; with_reducible rfl) ?_); simp [← idxC_any r xs 0 (by omega)])

/-- Where the first is that is so. -/
def idxV (r : Va → Bool) : List Va → Int → Int
  | [], _ => -1
  | x :: xs, i => if r x = true then i else idxV r xs (i + 1)

theorem idxV_any (r : Va → Bool) : ∀ (xs : List Va) (i : Int), 0 ≤ i → decide (0 ≤ idxV r xs i) = xs.any r
  | [], _, _ => rfl
  | x :: xs, i, hi => by
    simp only [idxV, List.any_cons]
    by_cases hr : r x = true
    · simp [hr, hi]
    · have := idxV_any r xs (i + 1) (by omega)
      simp only [hr]
      simpa [hr] using this

set_option maxHeartbeats 1000000 in
theorem indexV (H : Has E 118 c118) {g : FuncId} {caps : List PV} {xs : List Va} {r : Va → Bool} (hg : E.raw g = false) (hl : xs.length ≤ 9223372036854775807)
    (hr : ∀ x ∈ xs, limP E g (encV x :: caps) = some [.bool (r x)]) : limP E 118 [.sl (xs.map encV), .fn g caps] = some [.int .i64 (idxV r xs 0)] := by
  refine H.lim (Nat.le_of_ble_eq_true rfl) (by simp; with_reducible rfl) ?_; unfold c118
  (repeat' first
    | apply X.retS
    | apply X.skipS
    | apply X.skipB
    | apply X.skipL
    | (apply X.exitS; first | apply X.here | (refine X.out (by decide) ?_; apply X.here))
    | apply X.blockS
    | (apply X.condS rfl <;> intro hp <;> first | exact absurd hp (by decide) | ((try rw [hp]); (try simp at hp)))
    | apply X.stepZ
    | (apply X.step; (focus (simp; with_reducible (first | rfl | exact ⟨rfl, rfl⟩))); (focus (simp; with_reducible rfl)))
    | (apply X.stepN rfl; (focus (simp; with_reducible rfl)))
    | ((first | apply X.stepGt rfl | apply X.stepGf rfl); (focus (simp; with_reducible rfl)); all_goals (intro hp; first | exact absurd hp (by decide) | ((try rw [hp]); (try simp at hp))))
    | (apply X.draw0; (focus rfl))
    | apply XD.nil
    | (apply XD.calm rfl; (focus (simp; with_reducible (first | rfl | exact ⟨rfl, rfl⟩))); (focus (simp; with_reducible rfl)))
    | (apply XD.call; (focus (simp; with_reducible rfl)); (focus (simp; with_reducible rfl)); (focus (simp; done)); (focus (simp; with_reducible rfl)); (focus (simp; with_reducible rfl)))
    | (apply XD.stepN rfl; (focus (simp; with_reducible rfl)))
    | ((first | apply XD.stepGt rfl | apply XD.stepGf rfl); (focus (simp; with_reducible rfl)); all_goals (intro hp; first | exact absurd hp (by decide) | ((try rw [hp]); (try simp at hp))))
    | (apply XD.loud; (focus (simp; with_reducible (first | rfl | exact ⟨rfl, rfl⟩))); (focus (simp; done)); (focus (simp; with_reducible rfl)); (focus (simp; with_reducible rfl))))
  refine X.forS xs.length (fun j st => idxV r (xs.drop j) j = idxV r xs 0 ∧ ∃ x2 x3 x4 x5 x6 x9 x10 x11 x12 x13 x14 x15 x16 x17 x18 h,
    st = ⟨[.pv (.sl (xs.map encV)), .pv (.fn g caps), x2, x3, x4, x5, x6, .pv (.int .i64 xs.length), .pv (.int .i64 j), x9, x10, x11, x12, x13, x14, x15, x16, x17, x18], h⟩) ⟨rfl, _, _, _, _, _, _, _, _, _, _, _, _, _, _, _, _, rfl⟩ ?_
  rintro j st hj ⟨hi, x2, x3, x4, x5, x6, x9, x10, x11, x12, x13, x14, x15, x16, x17, x18, h, rfl⟩
  rcases Nat.lt_or_ge j xs.length with hj1 | hj1
  · obtain ⟨x, hx⟩ := at_of_lt hj1
    have hc := hr x (List.mem_of_getElem? hx)
    rw [drop_at hx] at hi
    simp only [idxV] at hi
    rw [eV] at hc
    have hw : IntKind.i64.wrap ((j : Int) + 1) = (j : Int) + 1 := wrap_i64 (by omega)
    clear hr
    (repeat' first
    | apply X.retS
    | apply X.skipS
    | apply X.skipB
    | apply X.skipL
    | (apply X.exitS; first | apply X.here | (refine X.out (by decide) ?_; apply X.here))
    | apply X.blockS
    | (apply X.condS rfl <;> intro hp <;> first | exact absurd hp (by decide) | ((try rw [hp]); (try simp at hp)))
    | apply X.stepZ
    | (apply X.step; (focus (simp [-getElem?_pos, hj1, hx, eV, hg, hc, hw]; with_reducible (first | rfl | exact ⟨rfl, rfl⟩))); (focus (simp; with_reducible rfl)))
    | (apply X.stepN rfl; (focus (simp; with_reducible rfl)))
    | ((first | apply X.stepGt rfl | apply X.stepGf rfl); (focus (simp; with_reducible rfl)); all_goals (intro hp; first | exact absurd hp (by decide) | ((try rw [hp]); (try simp at hp))))
    | (apply X.draw0; (focus rfl))
    | apply XD.nil
    | (apply XD.calm rfl; (focus (simp [-getElem?_pos, hj1, hx, eV, hg, hc, hw]; with_reducible (first | rfl | exact ⟨rfl, rfl⟩))); (focus (simp; with_reducible rfl)))
    | (apply XD.call; (focus (simp; with_reducible rfl)); (focus (simp; with_reducible rfl)); (focus (simp [-getElem?_pos, hj1, hx, eV, hg, hc, hw]; done)); (focus (simp [-getElem?_pos, hj1, hx, eV, hg, hc, hw]; with_reducible rfl)); (focus (simp; with_reducible rfl)))
    | (apply XD.stepN rfl; (focus (simp; with_reducible rfl)))
    | ((first | apply XD.stepGt rfl | apply XD.stepGf rfl); (focus (simp; with_reducible rfl)); all_goals (intro hp; first | exact absurd hp (by decide) | ((try rw [hp]); (try simp at hp))))
    | (apply XD.loud; (focus (simp [-getElem?_pos, hj1, hx, eV, hg, hc, hw]; with_reducible (first | rfl | exact ⟨rfl, rfl⟩))); (focus (simp; done)); (focus (simp; with_reducible rfl)); (focus (simp; with_reducible rfl))))
    all_goals first
      | ((refine Fin.mk' (by simp [resA]; with_reducible rfl) (by simp [oneOf, pureRes, snapFuel, snapL]; with_reducible rfl) ?_); simp [← hi, *]; done)
      | exact ⟨hj1, by simp_all, _, _, _, _, _, _, _, _, _, _, _, _, _, _, _, _, rfl⟩
  · have hj2 : ¬ j < xs.length := by omega
    rw [List.drop_eq_nil_of_le hj1] at hi
    clear hr
    (repeat' first
    | apply X.retS
    | apply X.skipS
    | apply X.skipB
    | apply X.skipL
    | (apply X.exitS; first | apply X.here | (refine X.out (by decide) ?_; apply X.here))
    | apply X.blockS
    | (apply X.condS rfl <;> intro hp <;> first | exact absurd hp (by decide) | ((try rw [hp]); (try simp at hp)))
    | apply X.stepZ
    | (apply X.step; (focus (simp [-getElem?_pos, hj2]; with_reducible (first | rfl | exact ⟨rfl, rfl⟩))); (focus (simp; with_reducible rfl)))
    | (apply X.stepN rfl; (focus (simp; with_reducible rfl)))
    | ((first | apply X.stepGt rfl | apply X.stepGf rfl); (focus (simp; with_reducible rfl)); all_goals (intro hp; first | exact absurd hp (by decide) | ((try rw [hp]); (try simp at hp))))
    | (apply X.draw0; (focus rfl))
    | apply XD.nil
    | (apply XD.calm rfl; (focus (simp [-getElem?_pos, hj2]; with_reducible (first | rfl | exact ⟨rfl, rfl⟩))); (focus (simp; with_reducible rfl)))
    | (apply XD.call; (focus (simp; with_reducible rfl)); (focus (simp; with_reducible rfl)); (focus (simp [-getElem?_pos, hj2]; done)); (focus (simp [-getElem?_pos, hj2]; with_reducible rfl)); (focus (simp; with_reducible rfl)))
    | (apply XD.stepN rfl; (focus (simp; with_reducible rfl)))
    | ((first | apply XD.stepGt rfl | apply XD.stepGf rfl); (focus (simp; with_reducible rfl)); all_goals (intro hp; first | exact absurd hp (by decide) | ((try rw [hp]); (try simp at hp))))
    | (apply XD.loud; (focus (simp [-getElem?_pos, hj2]; with_reducible (first | rfl | exact ⟨rfl, rfl⟩))); (focus (simp; done)); (focus (simp; with_reducible rfl)); (focus (simp; with_reducible rfl))))
    all_goals ((refine Fin.mk' (by simp [resA]; with_reducible rfl) (by simp [oneOf, pureRes, snapFuel, snapL]; with_reducible rfl) ?_); simp [← hi, idxV])

set_option maxHeartbeats 1000000 in
theorem containsV (H : Has E 94 c94) (H2 : Has E 118 c118) {g : FuncId} {caps : List PV} {xs : List Va} {r : Va → Bool} (hg : E.raw g = false) (hl : xs.length ≤ 9223372036854775807)
    (hr : ∀ x ∈ xs, limP E g (encV x :: caps) = some [.bool (r x)]) : limP E 94 [.sl (xs.map encV), .fn g caps] = some [.bool (xs.any r)] := by
  have hi := indexV H2 hg hl hr
  clear hr
  refine H.lim (Nat.le_of_ble_eq_true rfl) (by simp; with_reducible rfl) ?_; unfold c94
  (repeat' first
    | apply X.retS
    | apply X.skipS
    | apply X.skipB
    | apply X.skipL
    | (apply X.exitS; first | apply X.here | (refine X.out (by decide) ?_; apply X.here))
    | apply X.blockS
    | (apply X.condS rfl <;> intro hp <;> first | exact absurd hp (by decide) | ((try rw [hp]); (try simp at hp)))
    | apply X.stepZ
    | (apply X.step; (focus (simp [-getElem?_pos, H2.raw, hi]; with_reducible (first | rfl | exact ⟨rfl, rfl⟩))); (focus (simp; with_reducible rfl)))
    | (apply X.stepN rfl; (focus (simp; with_reducible rfl)))
    | ((first | apply X.stepGt rfl | apply X.stepGf rfl); (focus (simp; with_reducible rfl)); all_goals (intro hp; first | exact absurd hp (by decide) | ((try rw [hp]); (try simp at hp))))
    | (apply X.draw0; (focus rfl))
    | apply XD.nil
    | (apply XD.calm rfl; (focus (simp [-getElem?_pos, H2.raw, hi]; with_reducible (first | rfl | exact ⟨rfl, rfl⟩))); (focus (simp; with_reducible rfl)))
    | (apply XD.call; (focus (simp; with_reducible rfl)); (focus (simp; with_reducible rfl)); (focus (simp [-getElem?_pos, H2.raw, hi]; done)); (focus (simp [-getElem?_pos, H2.raw, hi]; with_reducible rfl)); (focus (simp; with_reducible rfl)))
    | (apply XD.stepN rfl; (focus (simp; with_reducible rfl)))
    | ((first | apply XD.stepGt rfl | apply XD.stepGf rfl); (focus (simp; with_reducible rfl)); all_goals (intro hp; first | exact absurd hp (by decide) | ((try rw [hp]); (try simp at hp))))
    | (apply XD.loud; (focus (simp [-getElem?_pos, H2.raw, hi]; with_reducible (first | rfl | exact ⟨rfl, rfl⟩))); (focus (simp; done)); (focus (simp; with_reducible rfl)); (focus (simp; with_reducible rfl))))
  all_goals ((refine Fin.mk' (by simp [resA]; with_reducible rfl) (by simp [oneOf, pureRes, snapFuel, snapL]; with_reducible rfl) ?_); simp [← idxV_any r xs 0 (by omega)])


/-- Rows that are no longer than a number tells. -/
def FineC : Co → Prop
  | .mk _ _ _ _ _ _ l => l.length ≤ 9223372036854775807 ∧ FineL l
where
  FineL : List Co → Prop
  | [] => True
  | x :: l => FineC x ∧ FineL l
theorem fineCL : ∀ {l : List Co}, FineC.FineL l ↔ ∀ x ∈ l, FineC x
  | [] => by simp [FineC.FineL]
  | x :: l => by simp [FineC.FineL, fineCL (l := l)]
theorem fineC {c : Co} (h : FineC c) : c.l.length ≤ 9223372036854775807 ∧ ∀ x ∈ c.l, FineC x := by
  cases c; exact ⟨h.1, fineCL.1 h.2⟩

/-- A byte, and rows that are no longer than a number tells. -/
def FineV : Va → Prop
  | .mk _ b l => (0 ≤ b ∧ b < 256) ∧ l.length ≤ 9223372036854775807 ∧ FineL l
where
  FineL : List Va → Prop
  | [] => True
  | x :: l => FineV x ∧ FineL l
theorem fineVL : ∀ {l : List Va}, FineV.FineL l ↔ ∀ x ∈ l, FineV x
  | [] => by simp [FineV.FineL]
  | x :: l => by simp [FineV.FineL, fineVL (l := l)]
theorem fineV {c : Va} (h : FineV c) : (0 ≤ c.b ∧ c.b < 256) ∧ c.l.length ≤ 9223372036854775807 ∧ ∀ x ∈ c.l, FineV x := by
  cases c; exact ⟨h.1, h.2.1, fineVL.1 h.2.2⟩

/-- May a core be so, within a depth? -/
def gcS : Co → Int → Bool
  | .mk k s0 s1 s2 s3 n l, d => if d < 1 then false else if ¬ (l.length : Int) = kidsS k then false else if ¬ k = 2 ∧ ¬ (s0 = 0 ∧ s1 = 0 ∧ s2 = 0 ∧ s3 = 0) then false else
    if k = 6 ∧ (n < 1 ∨ 32 < n) then false else if ¬ k = 6 ∧ ¬ n = 0 then false else gcL l (d - 1)
where
  gcL : List Co → Int → Bool
  | [], _ => true
  | x :: l, d => gcS x d && gcL l d
theorem gcL_any : ∀ (l : List Co) (d : Int), gcS.gcL l d = !(l.any fun y => !gcS y d)
  | [], _ => rfl
  | x :: l, d => by simp [gcS.gcL, gcL_any l d]
theorem gcS_eq (c : Co) (d : Int) : gcS c d = if d < 1 then false else if ¬ (c.l.length : Int) = kidsS c.k then false else if ¬ c.k = 2 ∧ ¬ (c.s0 = 0 ∧ c.s1 = 0 ∧ c.s2 = 0 ∧ c.s3 = 0) then false else
    if c.k = 6 ∧ (c.n < 1 ∨ 32 < c.n) then false else if ¬ c.k = 6 ∧ ¬ c.n = 0 then false else !(c.l.any fun y => !gcS y (d - 1)) := by
  cases c; rw [gcS, gcL_any]; rfl

theorem good1_ok (H : Has E 101 c101) (hr : E.raw 72 = false) {y : Co} {d : Int} {r : Bool} (hw : IntKind.i64.wrap (d - 1) = d - 1) (h : limP E 72 [encC y, .int .i64 (d - 1)] = some [.bool r]) : limP E 101 [encC y, .ip [.int .i64 d] 0] = some [.bool !r] := by
  rw [eC] at h ⊢
  refine H.lim (Nat.le_of_ble_eq_true rfl) (by simp; with_reducible rfl) ?_; unfold c101
  (repeat' first
    | apply X.retS
    | apply X.skipS
    | apply X.skipB
    | apply X.skipL
    | (apply X.exitS; first | apply X.here | (refine X.out (by decide) ?_; apply X.here))
    | apply X.blockS
    | (apply X.condS rfl <;> intro hp <;> first | exact absurd hp (by decide) | ((try rw [hp]); (try simp at hp)))
    | apply X.stepZ
    | (apply X.step; (focus (simp [-getElem?_pos, hw, hr, h]; with_reducible (first | rfl | exact ⟨rfl, rfl⟩))); (focus (simp; with_reducible rfl)))
    | (apply X.stepN rfl; (focus (simp; with_reducible rfl)))
    | ((first | apply X.stepGt rfl | apply X.stepGf rfl); (focus (simp; with_reducible rfl)); all_goals (intro hp; first | exact absurd hp (by decide) | ((try rw [hp]); (try simp at hp))))
    | (apply X.draw0; (focus rfl))
    | apply XD.nil
    | (apply XD.calm rfl; (focus (simp [-getElem?_pos, hw, hr, h]; with_reducible (first | rfl | exact ⟨rfl, rfl⟩))); (focus (simp; with_reducible rfl)))
    | (apply XD.call; (focus (simp; with_reducible rfl)); (focus (simp; with_reducible rfl)); (focus (simp [-getElem?_pos, hw, hr, h]; done)); (focus (simp [-getElem?_pos, hw, hr, h]; with_reducible rfl)); (focus (simp; with_reducible rfl)))
    | (apply XD.stepN rfl; (focus (simp; with_reducible rfl)))
    | ((first | apply XD.stepGt rfl | apply XD.stepGf rfl); (focus (simp; with_reducible rfl)); all_goals (intro hp; first | exact absurd hp (by decide) | ((try rw [hp]); (try simp at hp))))
    | (apply XD.loud; (focus (simp [-getElem?_pos, hw, hr, h]; with_reducible (first | rfl | exact ⟨rfl, rfl⟩))); (focus (simp; done)); (focus (simp; with_reducible rfl)); (focus (simp; with_reducible rfl))))
  all_goals ((refine Fin.mk' (by simp [resA]; with_reducible rfl) (by simp [oneOf, pureRes, snapFuel, snapL]; with_reducible rfl) ?_); simp)

set_option maxHeartbeats 4000000 in
theorem cgood_ok (H : Has E 72 c72) (H1 : Has E 101 c101) (H2 : Has E 99 c99) (H3 : Has E 100 c100) (H4 : Has E 120 c120) :
    ∀ c, FineC c → ∀ d : Int, d ≤ 9223372036854775807 → limP E 72 [encC c, .int .i64 d] = some [.bool (gcS c d)] := by
  refine Co.ind fun c ih hf d hd => ?_
  obtain ⟨hf1, hf2⟩ := fineC hf
  rw [gcS_eq]
  have hk := kids_ok H2 c.k
  by_cases h0 : d < 1
  · rw [eC]
    refine H.lim (Nat.le_of_ble_eq_true rfl) (by simp; with_reducible rfl) ?_; unfold c72
    (repeat' first
    | apply X.retS
    | apply X.skipS
    | apply X.skipB
    | apply X.skipL
    | (apply X.exitS; first | apply X.here | (refine X.out (by decide) ?_; apply X.here))
    | apply X.blockS
    | (apply X.condS rfl <;> intro hp <;> first | exact absurd hp (by decide) | ((try rw [hp]); (try simp at hp)))
    | apply X.stepZ
    | (apply X.step; (focus (simp [-getElem?_pos, h0]; with_reducible (first | rfl | exact ⟨rfl, rfl⟩))); (focus (simp; with_reducible rfl)))
    | (apply X.stepN rfl; (focus (simp; with_reducible rfl)))
    | ((first | apply X.stepGt rfl | apply X.stepGf rfl); (focus (simp; with_reducible rfl)); all_goals (intro hp; first | exact absurd hp (by decide) | ((try rw [hp]); (try simp at hp))))
    | (apply X.draw0; (focus rfl))
    | apply XD.nil
    | (apply XD.calm rfl; (focus (simp [-getElem?_pos, h0]; with_reducible (first | rfl | exact ⟨rfl, rfl⟩))); (focus (simp; with_reducible rfl)))
    | (apply XD.call; (focus (simp; with_reducible rfl)); (focus (simp; with_reducible rfl)); (focus (simp [-getElem?_pos, h0]; done)); (focus (simp [-getElem?_pos, h0]; with_reducible rfl)); (focus (simp; with_reducible rfl)))
    | (apply XD.stepN rfl; (focus (simp; with_reducible rfl)))
    | ((first | apply XD.stepGt rfl | apply XD.stepGf rfl); (focus (simp; with_reducible rfl)); all_goals (intro hp; first | exact absurd hp (by decide) | ((try rw [hp]); (try simp at hp))))
    | (apply XD.loud; (focus (simp [-getElem?_pos, h0]; with_reducible (first | rfl | exact ⟨rfl, rfl⟩))); (focus (simp; done)); (focus (simp; with_reducible rfl)); (focus (simp; with_reducible rfl))))
    all_goals ((refine Fin.mk' (by simp [resA]; with_reducible rfl) (by simp [oneOf, pureRes, snapFuel, snapL]; with_reducible rfl) ?_); simp [h0])
  · have hc := containsC H3 H4 (g := 101) (caps := [.ip [.int .i64 d] 0]) (xs := c.l) (r := fun y => !gcS y (d - 1)) H1.raw hf1 fun y hy => good1_ok H1 H.raw (wrap_i64 (by omega)) (ih y hy (hf2 y hy) (d - 1) (by omega))
    clear ih
    rw [eC]
    refine H.lim (Nat.le_of_ble_eq_true rfl) (by simp; with_reducible rfl) ?_; unfold c72
    (repeat' first
    | apply X.retS
    | apply X.skipS
    | apply X.skipB
    | apply X.skipL
    | (apply X.exitS; first | apply X.here | (refine X.out (by decide) ?_; apply X.here))
    | apply X.blockS
    | (apply X.condS rfl <;> intro hp <;> first | exact absurd hp (by decide) | ((try rw [hp]); (try simp at hp)))
    | apply X.stepZ
    | (apply X.step; (focus (simp [-getElem?_pos, h0, H2.raw, hk, H3.raw, hc]; with_reducible (first | rfl | exact ⟨rfl, rfl⟩))); (focus (simp; with_reducible rfl)))
    | (apply X.stepN rfl; (focus (simp; with_reducible rfl)))
    | ((first | apply X.stepGt rfl | apply X.stepGf rfl); (focus (simp; with_reducible rfl)); all_goals (intro hp; first | exact absurd hp (by decide) | ((try rw [hp]); (try simp at hp))))
    | (apply X.draw0; (focus rfl))
    | apply XD.nil
    | (apply XD.calm rfl; (focus (simp [-getElem?_pos, h0, H2.raw, hk, H3.raw, hc]; with_reducible (first | rfl | exact ⟨rfl, rfl⟩))); (focus (simp; with_reducible rfl)))
    | (apply XD.call; (focus (simp; with_reducible rfl)); (focus (simp; with_reducible rfl)); (focus (simp [-getElem?_pos, h0, H2.raw, hk, H3.raw, hc]; done)); (focus (simp [-getElem?_pos, h0, H2.raw, hk, H3.raw, hc]; with_reducible rfl)); (focus (simp; with_reducible rfl)))
    | (apply XD.stepN rfl; (focus (simp; with_reducible rfl)))
    | ((first | apply XD.stepGt rfl | apply XD.stepGf rfl); (focus (simp; with_reducible rfl)); all_goals (intro hp; first | exact absurd hp (by decide) | ((try rw [hp]); (try simp at hp))))
    | (apply XD.loud; (focus (simp [-getElem?_pos, h0, H2.raw, hk, H3.raw, hc]; with_reducible (first | rfl | exact ⟨rfl, rfl⟩))); (focus (simp; done)); (focus (simp; with_reducible rfl)); (focus (simp; with_reducible rfl))))
    all_goals ((refine Fin.mk' (by simp [resA]; with_reducible rfl) (by simp [oneOf, pureRes, snapFuel, snapL]; with_reducible rfl) ?_); clear hk hc; grind)

end Cps

-- Cores and values: how great they are, whether they may be.
namespace Cps
open Go Ab Go.Proofs.YtlhfndoldaokhaaDoor.Mach
variable {E : Env}

/-- How many words, at most 100000. -/
def szS : Co → Int
  | .mk _ _ _ _ _ _ l => if 100000 < szL 1 l then 100000 else szL 1 l
where
  szL (n : Int) : List Co → Int
  | [] => n
  | x :: l => if 100000 ≤ n then n else szL (n + szS x) l
theorem szS_eq (c : Co) : szS c = if 100000 < szS.szL 1 c.l then 100000 else szS.szL 1 c.l := by cases c; rw [szS]; rfl

theorem szS_pos : ∀ c, 1 ≤ szS c ∧ szS c ≤ 100000 := by
  refine Co.ind fun c ih => ?_
  have key : ∀ (l : List Co) (n : Int), (∀ y ∈ l, 1 ≤ szS y ∧ szS y ≤ 100000) → 1 ≤ n → 1 ≤ szS.szL n l := by
    intro l
    induction l with
    | nil => intro n _ hn; exact hn
    | cons x l ihl =>
      intro n h hn
      simp only [szS.szL]
      split
      · exact hn
      · have := (h x (by simp)).1
        exact ihl _ (fun y hy => h y (by simp [hy])) (by omega)
  have := key c.l 1 ih (by omega)
  rw [szS_eq]
  split <;> omega

set_option maxHeartbeats 2000000 in
theorem csize_ok (H : Has E 71 c71) : ∀ c, FineC c → limP E 71 [encC c] = some [.int .i64 (szS c)] := by
  refine Co.ind fun c ih hf => ?_
  obtain ⟨hf1, hf2⟩ := fineC hf
  rw [eC]
  refine H.lim (Nat.le_of_ble_eq_true rfl) (by simp; with_reducible rfl) ?_; unfold c71
  (repeat' first
    | apply X.retS
    | apply X.skipS
    | apply X.skipB
    | apply X.skipL
    | (apply X.exitS; first | apply X.here | (refine X.out (by decide) ?_; apply X.here))
    | apply X.blockS
    | (apply X.condS rfl <;> intro hp <;> first | exact absurd hp (by decide) | ((try rw [hp]); (try simp at hp)))
    | apply X.stepZ
    | (apply X.step; (focus (simp; with_reducible (first | rfl | exact ⟨rfl, rfl⟩))); (focus (simp; with_reducible rfl)))
    | (apply X.stepN rfl; (focus (simp; with_reducible rfl)))
    | ((first | apply X.stepGt rfl | apply X.stepGf rfl); (focus (simp; with_reducible rfl)); all_goals (intro hp; first | exact absurd hp (by decide) | ((try rw [hp]); (try simp at hp))))
    | (apply X.draw0; (focus rfl))
    | apply XD.nil
    | (apply XD.calm rfl; (focus (simp; with_reducible (first | rfl | exact ⟨rfl, rfl⟩))); (focus (simp; with_reducible rfl)))
    | (apply XD.call; (focus (simp; with_reducible rfl)); (focus (simp; with_reducible rfl)); (focus (simp; done)); (focus (simp; with_reducible rfl)); (focus (simp; with_reducible rfl)))
    | (apply XD.stepN rfl; (focus (simp; with_reducible rfl)))
    | ((first | apply XD.stepGt rfl | apply XD.stepGf rfl); (focus (simp; with_reducible rfl)); all_goals (intro hp; first | exact absurd hp (by decide) | ((try rw [hp]); (try simp at hp))))
    | (apply XD.loud; (focus (simp; with_reducible (first | rfl | exact ⟨rfl, rfl⟩))); (focus (simp; done)); (focus (simp; with_reducible rfl)); (focus (simp; with_reducible rfl))))
  refine X.forS c.l.length (fun j st => ∃ (n : Int), 1 ≤ n ∧ n ≤ 200000 ∧ szS.szL n (c.l.drop j) = szS.szL 1 c.l ∧ ∃ x0 x1 x2 x4 x5 x6 x10 x11 x12 x13 x14 x15 x16 x17 x18 x19 x20 x21 h,
    st = ⟨[x0, x1, x2, .pv (.int .i64 n), x4, x5, x6, .pv (.sl (c.l.map encC)), .pv (.int .i64 c.l.length), .pv (.int .i64 j), x10, x11, x12, x13, x14, x15, x16, x17, x18, x19, x20, x21], h⟩) ⟨1, by omega, by omega, rfl, _, _, _, _, _, _, _, _, _, _, _, _, _, _, _, _, _, _, _, rfl⟩ ?_
  rintro j st hj ⟨n, hn1, hn2, hi, x0, x1, x2, x4, x5, x6, x10, x11, x12, x13, x14, x15, x16, x17, x18, x19, x20, x21, h, rfl⟩
  rcases Nat.lt_or_ge j c.l.length with hj1 | hj1
  · obtain ⟨x, hx⟩ := at_of_lt hj1
    have hc := ih x (List.mem_of_getElem? hx) (hf2 x (List.mem_of_getElem? hx))
    obtain ⟨hs1, hs2⟩ := szS_pos x
    rw [drop_at hx] at hi
    simp only [szS.szL] at hi
    rw [eC] at hc
    have hw : IntKind.i64.wrap ((j : Int) + 1) = (j : Int) + 1 := wrap_i64 (by omega)
    clear ih
    by_cases hn : 100000 ≤ n
    · rw [if_pos hn] at hi
      (repeat' first
    | apply X.retS
    | apply X.skipS
    | apply X.skipB
    | apply X.skipL
    | (apply X.exitS; first | apply X.here | (refine X.out (by decide) ?_; apply X.here))
    | apply X.blockS
    | (apply X.condS rfl <;> intro hp <;> first | exact absurd hp (by decide) | ((try rw [hp]); (try simp at hp)))
    | apply X.stepZ
    | (apply X.step; (focus (simp [-getElem?_pos, hj1, hx, eC, hw, hn]; with_reducible (first | rfl | exact ⟨rfl, rfl⟩))); (focus (simp; with_reducible rfl)))
    | (apply X.stepN rfl; (focus (simp; with_reducible rfl)))
    | ((first | apply X.stepGt rfl | apply X.stepGf rfl); (focus (simp; with_reducible rfl)); all_goals (intro hp; first | exact absurd hp (by decide) | ((try rw [hp]); (try simp at hp))))
    | (apply X.draw0; (focus rfl))
    | apply XD.nil
    | (apply XD.calm rfl; (focus (simp [-getElem?_pos, hj1, hx, eC, hw, hn]; with_reducible (first | rfl | exact ⟨rfl, rfl⟩))); (focus (simp; with_reducible rfl)))
    | (apply XD.call; (focus (simp; with_reducible rfl)); (focus (simp; with_reducible rfl)); (focus (simp [-getElem?_pos, hj1, hx, eC, hw, hn]; done)); (focus (simp [-getElem?_pos, hj1, hx, eC, hw, hn]; with_reducible rfl)); (focus (simp; with_reducible rfl)))
    | (apply XD.stepN rfl; (focus (simp; with_reducible rfl)))
    | ((first | apply XD.stepGt rfl | apply XD.stepGf rfl); (focus (simp; with_reducible rfl)); all_goals (intro hp; first | exact absurd hp (by decide) | ((try rw [hp]); (try simp at hp))))
    | (apply XD.loud; (focus (simp [-getElem?_pos, hj1, hx, eC, hw, hn]; with_reducible (first | rfl | exact ⟨rfl, rfl⟩))); (focus (simp; done)); (focus (simp; with_reducible rfl)); (focus (simp; with_reducible rfl))))
      all_goals ((refine Fin.mk' (by simp [resA]; with_reducible rfl) (by simp [oneOf, pureRes, snapFuel, snapL]; with_reducible rfl) ?_); clear hc; first | (rw [szS_eq, ← hi]; done) | (rw [szS_eq, ← hi]; grind))
    · rw [if_neg hn] at hi
      have hw2 : IntKind.i64.wrap (n + szS x) = n + szS x := wrap_i64 (by omega)
      (repeat' first
    | apply X.retS
    | apply X.skipS
    | apply X.skipB
    | apply X.skipL
    | (apply X.exitS; first | apply X.here | (refine X.out (by decide) ?_; apply X.here))
    | apply X.blockS
    | (apply X.condS rfl <;> intro hp <;> first | exact absurd hp (by decide) | ((try rw [hp]); (try simp at hp)))
    | apply X.stepZ
    | (apply X.step; (focus (simp [-getElem?_pos, hj1, hx, eC, hw, hn, H.raw, hc, hw2]; with_reducible (first | rfl | exact ⟨rfl, rfl⟩))); (focus (simp; with_reducible rfl)))
    | (apply X.stepN rfl; (focus (simp; with_reducible rfl)))
    | ((first | apply X.stepGt rfl | apply X.stepGf rfl); (focus (simp; with_reducible rfl)); all_goals (intro hp; first | exact absurd hp (by decide) | ((try rw [hp]); (try simp at hp))))
    | (apply X.draw0; (focus rfl))
    | apply XD.nil
    | (apply XD.calm rfl; (focus (simp [-getElem?_pos, hj1, hx, eC, hw, hn, H.raw, hc, hw2]; with_reducible (first | rfl | exact ⟨rfl, rfl⟩))); (focus (simp; with_reducible rfl)))
    | (apply XD.call; (focus (simp; with_reducible rfl)); (focus (simp; with_reducible rfl)); (focus (simp [-getElem?_pos, hj1, hx, eC, hw, hn, H.raw, hc, hw2]; done)); (focus (simp [-getElem?_pos, hj1, hx, eC, hw, hn, H.raw, hc, hw2]; with_reducible rfl)); (focus (simp; with_reducible rfl)))
    | (apply XD.stepN rfl; (focus (simp; with_reducible rfl)))
    | ((first | apply XD.stepGt rfl | apply XD.stepGf rfl); (focus (simp; with_reducible rfl)); all_goals (intro hp; first | exact absurd hp (by decide) | ((try rw [hp]); (try simp at hp))))
    | (apply XD.loud; (focus (simp [-getElem?_pos, hj1, hx, eC, hw, hn, H.raw, hc, hw2]; with_reducible (first | rfl | exact ⟨rfl, rfl⟩))); (focus (simp; done)); (focus (simp; with_reducible rfl)); (focus (simp; with_reducible rfl))))
      exact ⟨hj1, n + szS x, by omega, by omega, hi, _, _, _, _, _, _, _, _, _, _, _, _, _, _, _, _, _, _, _, rfl⟩
  · have hj2 : ¬ j < c.l.length := by omega
    rw [List.drop_eq_nil_of_le hj1] at hi
    simp only [szS.szL] at hi
    clear ih
    (repeat' first
    | apply X.retS
    | apply X.skipS
    | apply X.skipB
    | apply X.skipL
    | (apply X.exitS; first | apply X.here | (refine X.out (by decide) ?_; apply X.here))
    | apply X.blockS
    | (apply X.condS rfl <;> intro hp <;> first | exact absurd hp (by decide) | ((try rw [hp]); (try simp at hp)))
    | apply X.stepZ
    | (apply X.step; (focus (simp [-getElem?_pos, hj2]; with_reducible (first | rfl | exact ⟨rfl, rfl⟩))); (focus (simp; with_reducible rfl)))
    | (apply X.stepN rfl; (focus (simp; with_reducible rfl)))
    | ((first | apply X.stepGt rfl | apply X.stepGf rfl); (focus (simp; with_reducible rfl)); all_goals (intro hp; first | exact absurd hp (by decide) | ((try rw [hp]); (try simp at hp))))
    | (apply X.draw0; (focus rfl))
    | apply XD.nil
    | (apply XD.calm rfl; (focus (simp [-getElem?_pos, hj2]; with_reducible (first | rfl | exact ⟨rfl, rfl⟩))); (focus (simp; with_reducible rfl)))
    | (apply XD.call; (focus (simp; with_reducible rfl)); (focus (simp; with_reducible rfl)); (focus (simp [-getElem?_pos, hj2]; done)); (focus (simp [-getElem?_pos, hj2]; with_reducible rfl)); (focus (simp; with_reducible rfl)))
    | (apply XD.stepN rfl; (focus (simp; with_reducible rfl)))
    | ((first | apply XD.stepGt rfl | apply XD.stepGf rfl); (focus (simp; with_reducible rfl)); all_goals (intro hp; first | exact absurd hp (by decide) | ((try rw [hp]); (try simp at hp))))
    | (apply XD.loud; (focus (simp [-getElem?_pos, hj2]; with_reducible (first | rfl | exact ⟨rfl, rfl⟩))); (focus (simp; done)); (focus (simp; with_reducible rfl)); (focus (simp; with_reducible rfl))))
    all_goals ((refine Fin.mk' (by simp [resA]; with_reducible rfl) (by simp [oneOf, pureRes, snapFuel, snapL]; with_reducible rfl) ?_); first | (rw [szS_eq, ← hi]; done) | (rw [szS_eq, ← hi]; grind))

/-- What the walks of cores lean on. -/
structure HasC (E : Env) : Prop where
  good : Has E 72 c72
  good1 : Has E 101 c101
  kids : Has E 99 c99
  con : Has E 100 c100
  idx : Has E 120 c120
  size : Has E 71 c71
  Good : Has E 38 c38

def GoodC (c : Co) : Bool := if szS c ≤ 2000 then gcS c 8000 else false

set_option maxHeartbeats 1000000 in
theorem CGood_ok (H : HasC E) (c : Co) (hf : FineC c) : limP E 38 [encC c] = some [.bool (GoodC c)] := by
  have h1 := csize_ok H.size c hf
  have h2 := cgood_ok H.good H.good1 H.kids H.con H.idx c hf 8000 (by omega)
  rw [eC] at h1 h2 ⊢
  have H := H.Good
  rename_i HH
  refine H.lim (Nat.le_of_ble_eq_true rfl) (by simp; with_reducible rfl) ?_; unfold c38
  (repeat' first
    | apply X.retS
    | apply X.skipS
    | apply X.skipB
    | apply X.skipL
    | (apply X.exitS; first | apply X.here | (refine X.out (by decide) ?_; apply X.here))
    | apply X.blockS
    | (apply X.condS rfl <;> intro hp <;> first | exact absurd hp (by decide) | ((try rw [hp]); (try simp at hp)))
    | apply X.stepZ
    | (apply X.step; (focus (simp [-getElem?_pos, HH.size.raw, HH.good.raw, h1, h2]; with_reducible (first | rfl | exact ⟨rfl, rfl⟩))); (focus (simp; with_reducible rfl)))
    | (apply X.stepN rfl; (focus (simp; with_reducible rfl)))
    | ((first | apply X.stepGt rfl | apply X.stepGf rfl); (focus (simp; with_reducible rfl)); all_goals (intro hp; first | exact absurd hp (by decide) | ((try rw [hp]); (try simp at hp))))
    | (apply X.draw0; (focus rfl))
    | apply XD.nil
    | (apply XD.calm rfl; (focus (simp [-getElem?_pos, HH.size.raw, HH.good.raw, h1, h2]; with_reducible (first | rfl | exact ⟨rfl, rfl⟩))); (focus (simp; with_reducible rfl)))
    | (apply XD.call; (focus (simp; with_reducible rfl)); (focus (simp; with_reducible rfl)); (focus (simp [-getElem?_pos, HH.size.raw, HH.good.raw, h1, h2]; done)); (focus (simp [-getElem?_pos, HH.size.raw, HH.good.raw, h1, h2]; with_reducible rfl)); (focus (simp; with_reducible rfl)))
    | (apply XD.stepN rfl; (focus (simp; with_reducible rfl)))
    | ((first | apply XD.stepGt rfl | apply XD.stepGf rfl); (focus (simp; with_reducible rfl)); all_goals (intro hp; first | exact absurd hp (by decide) | ((try rw [hp]); (try simp at hp))))
    | (apply XD.loud; (focus (simp [-getElem?_pos, HH.size.raw, HH.good.raw, h1, h2]; with_reducible (first | rfl | exact ⟨rfl, rfl⟩))); (focus (simp; done)); (focus (simp; with_reducible rfl)); (focus (simp; with_reducible rfl))))
  all_goals ((refine Fin.mk' (by simp [resA]; with_reducible rfl) (by simp [oneOf, pureRes, snapFuel, snapL]; with_reducible rfl) ?_); grind [GoodC])

/-- Which kind of core a value's is, and how many it has. -/
def kindC (k : Int) : Int := if k = 1 then 1 else if k = 2 then 2 else if k = 3 then 3 else if k = 4 ∨ k = 5 then 4 else if k = 6 then 5 else if k = 7 then 6 else 0
def kindM (k : Int) (n : Nat) : Int := if k = 1 then 0 else if k = 2 then 0 else if k = 3 then 2 else if k = 4 ∨ k = 5 then 1 else if k = 6 then n else if k = 7 then 1 else 0

set_option maxHeartbeats 2000000 in
theorem kind_ok (H : Has E 92 c92) (v : Va) : limP E 92 [encV v] = some [.int .i64 (kindC v.k), .int .i64 (kindM v.k v.l.length)] := by
  rw [eV]
  refine H.lim (Nat.le_of_ble_eq_true rfl) (by simp; with_reducible rfl) ?_; unfold c92
  (repeat' first
    | apply X.retS
    | apply X.skipS
    | apply X.skipB
    | apply X.skipL
    | (apply X.exitS; first | apply X.here | (refine X.out (by decide) ?_; apply X.here))
    | apply X.blockS
    | (apply X.condS rfl <;> intro hp <;> first | exact absurd hp (by decide) | ((try rw [hp]); (try simp at hp)))
    | apply X.stepZ
    | (apply X.step; (focus (simp; with_reducible (first | rfl | exact ⟨rfl, rfl⟩))); (focus (simp; with_reducible rfl)))
    | (apply X.stepN rfl; (focus (simp; with_reducible rfl)))
    | ((first | apply X.stepGt rfl | apply X.stepGf rfl); (focus (simp; with_reducible rfl)); all_goals (intro hp; first | exact absurd hp (by decide) | ((try rw [hp]); (try simp at hp))))
    | (apply X.draw0; (focus rfl))
    | apply XD.nil
    | (apply XD.calm rfl; (focus (simp; with_reducible (first | rfl | exact ⟨rfl, rfl⟩))); (focus (simp; with_reducible rfl)))
    | (apply XD.call; (focus (simp; with_reducible rfl)); (focus (simp; with_reducible rfl)); (focus (simp; done)); (focus (simp; with_reducible rfl)); (focus (simp; with_reducible rfl)))
    | (apply XD.stepN rfl; (focus (simp; with_reducible rfl)))
    | ((first | apply XD.stepGt rfl | apply XD.stepGf rfl); (focus (simp; with_reducible rfl)); all_goals (intro hp; first | exact absurd hp (by decide) | ((try rw [hp]); (try simp at hp))))
    | (apply XD.loud; (focus (simp; with_reducible (first | rfl | exact ⟨rfl, rfl⟩))); (focus (simp; done)); (focus (simp; with_reducible rfl)); (focus (simp; with_reducible rfl))))
  all_goals ((refine Fin.mk' (by simp [resA]; with_reducible rfl) (by simp [oneOf, pureRes, snapFuel, snapL]; with_reducible rfl) ?_); simp_all [kindC, kindM])

/-- Whether a byte is in a core's set. -/
def hasS (c : Co) (b : Int) : Bool :=
  let w := if b < 64 then c.s0 else if b < 128 then c.s1 else if b < 192 then c.s2 else c.s3
  decide (w.fdiv (2 ^ min (b.tmod 64).toNat 64) % 2 = 1)

theorem and1 (x : Int) : (IntKind.u64.wrap (BitVec.ofInt 64 x &&& 1#64).toNat == 1) = decide (x % 2 = 1) := by
  have e : (((BitVec.ofInt 64 x &&& 1#64).toNat : Nat) : Int) = x % 2 := by simp; omega
  have e2 : IntKind.u64.wrap (x % 2) = x % 2 := by simp [IntKind.wrap, IntKind.signed, IntKind.bits]; omega
  rw [e, e2, Bool.eq_iff_iff]
  simp

set_option maxHeartbeats 2000000 in
theorem Has_ok (H : Has E 93 c93) (c : Co) (b : Int) (hb : 0 ≤ b ∧ b < 256) : limP E 93 [.agg [.int .u64 c.s0, .int .u64 c.s1, .int .u64 c.s2, .int .u64 c.s3], .int .u8 b] = some [.bool (hasS c b)] := by
  have ht : b.tmod 64 = b % 64 := Int.tmod_eq_emod_of_nonneg hb.1
  have hd : b.tdiv 64 = b / 64 := Int.tdiv_eq_ediv_of_nonneg hb.1
  have hm2 : ¬ b.tmod 64 < 0 := by omega
  have hq : (b < 64 ∧ b.tdiv 64 = 0) ∨ (¬ b < 64 ∧ b < 128 ∧ b.tdiv 64 = 1) ∨ (¬ b < 64 ∧ ¬ b < 128 ∧ b < 192 ∧ b.tdiv 64 = 2) ∨ (¬ b < 64 ∧ ¬ b < 128 ∧ ¬ b < 192 ∧ b.tdiv 64 = 3) := by omega
  clear hd ht
  have hw : ∀ i : Int, 0 ≤ i → i < 4 → IntKind.u8.wrap i = i := fun i h1 h2 => by rw [IntKind.wrap_u8]; omega
  refine H.lim (Nat.le_of_ble_eq_true rfl) (by simp; with_reducible rfl) ?_; unfold c93
  rcases hq with ⟨h1, hq⟩ | ⟨h1, h2, hq⟩ | ⟨h1, h2, h3, hq⟩ | ⟨h1, h2, h3, hq⟩
  · have := hw 0 (by omega) (by omega)
    (repeat' first
    | apply X.retS
    | apply X.skipS
    | apply X.skipB
    | apply X.skipL
    | (apply X.exitS; first | apply X.here | (refine X.out (by decide) ?_; apply X.here))
    | apply X.blockS
    | (apply X.condS rfl <;> intro hp <;> first | exact absurd hp (by decide) | ((try rw [hp]); (try simp at hp)))
    | apply X.stepZ
    | (apply X.step; (focus (simp [-getElem?_pos, hq, this, hm2, IntKind.bits, and1]; with_reducible (first | rfl | exact ⟨rfl, rfl⟩))); (focus (simp; with_reducible rfl)))
    | (apply X.stepN rfl; (focus (simp; with_reducible rfl)))
    | ((first | apply X.stepGt rfl | apply X.stepGf rfl); (focus (simp; with_reducible rfl)); all_goals (intro hp; first | exact absurd hp (by decide) | ((try rw [hp]); (try simp at hp))))
    | (apply X.draw0; (focus rfl))
    | apply XD.nil
    | (apply XD.calm rfl; (focus (simp [-getElem?_pos, hq, this, hm2, IntKind.bits, and1]; with_reducible (first | rfl | exact ⟨rfl, rfl⟩))); (focus (simp; with_reducible rfl)))
    | (apply XD.call; (focus (simp; with_reducible rfl)); (focus (simp; with_reducible rfl)); (focus (simp [-getElem?_pos, hq, this, hm2, IntKind.bits, and1]; done)); (focus (simp [-getElem?_pos, hq, this, hm2, IntKind.bits, and1]; with_reducible rfl)); (focus (simp; with_reducible rfl)))
    | (apply XD.stepN rfl; (focus (simp; with_reducible rfl)))
    | ((first | apply XD.stepGt rfl | apply XD.stepGf rfl); (focus (simp; with_reducible rfl)); all_goals (intro hp; first | exact absurd hp (by decide) | ((try rw [hp]); (try simp at hp))))
    | (apply XD.loud; (focus (simp [-getElem?_pos, hq, this, hm2, IntKind.bits, and1]; with_reducible (first | rfl | exact ⟨rfl, rfl⟩))); (focus (simp; done)); (focus (simp; with_reducible rfl)); (focus (simp; with_reducible rfl))))
    all_goals ((refine Fin.mk' (by simp [resA]; with_reducible rfl) (by simp [oneOf, pureRes, snapFuel, snapL]; with_reducible rfl) ?_); simp only [hasS, h1, if_true, if_false, BitVec.ofNat_eq_ofNat]; rw [← and1]; rfl)
  · have := hw 1 (by omega) (by omega)
    (repeat' first
    | apply X.retS
    | apply X.skipS
    | apply X.skipB
    | apply X.skipL
    | (apply X.exitS; first | apply X.here | (refine X.out (by decide) ?_; apply X.here))
    | apply X.blockS
    | (apply X.condS rfl <;> intro hp <;> first | exact absurd hp (by decide) | ((try rw [hp]); (try simp at hp)))
    | apply X.stepZ
    | (apply X.step; (focus (simp [-getElem?_pos, hq, this, hm2, IntKind.bits, and1]; with_reducible (first | rfl | exact ⟨rfl, rfl⟩))); (focus (simp; with_reducible rfl)))
    | (apply X.stepN rfl; (focus (simp; with_reducible rfl)))
    | ((first | apply X.stepGt rfl | apply X.stepGf rfl); (focus (simp; with_reducible rfl)); all_goals (intro hp; first | exact absurd hp (by decide) | ((try rw [hp]); (try simp at hp))))
    | (apply X.draw0; (focus rfl))
    | apply XD.nil
    | (apply XD.calm rfl; (focus (simp [-getElem?_pos, hq, this, hm2, IntKind.bits, and1]; with_reducible (first | rfl | exact ⟨rfl, rfl⟩))); (focus (simp; with_reducible rfl)))
    | (apply XD.call; (focus (simp; with_reducible rfl)); (focus (simp; with_reducible rfl)); (focus (simp [-getElem?_pos, hq, this, hm2, IntKind.bits, and1]; done)); (focus (simp [-getElem?_pos, hq, this, hm2, IntKind.bits, and1]; with_reducible rfl)); (focus (simp; with_reducible rfl)))
    | (apply XD.stepN rfl; (focus (simp; with_reducible rfl)))
    | ((first | apply XD.stepGt rfl | apply XD.stepGf rfl); (focus (simp; with_reducible rfl)); all_goals (intro hp; first | exact absurd hp (by decide) | ((try rw [hp]); (try simp at hp))))
    | (apply XD.loud; (focus (simp [-getElem?_pos, hq, this, hm2, IntKind.bits, and1]; with_reducible (first | rfl | exact ⟨rfl, rfl⟩))); (focus (simp; done)); (focus (simp; with_reducible rfl)); (focus (simp; with_reducible rfl))))
    all_goals ((refine Fin.mk' (by simp [resA]; with_reducible rfl) (by simp [oneOf, pureRes, snapFuel, snapL]; with_reducible rfl) ?_); simp only [hasS, h1, h2, if_true, if_false]; rw [← and1]; rfl)
  · have := hw 2 (by omega) (by omega)
    (repeat' first
    | apply X.retS
    | apply X.skipS
    | apply X.skipB
    | apply X.skipL
    | (apply X.exitS; first | apply X.here | (refine X.out (by decide) ?_; apply X.here))
    | apply X.blockS
    | (apply X.condS rfl <;> intro hp <;> first | exact absurd hp (by decide) | ((try rw [hp]); (try simp at hp)))
    | apply X.stepZ
    | (apply X.step; (focus (simp [-getElem?_pos, hq, this, hm2, IntKind.bits, and1]; with_reducible (first | rfl | exact ⟨rfl, rfl⟩))); (focus (simp; with_reducible rfl)))
    | (apply X.stepN rfl; (focus (simp; with_reducible rfl)))
    | ((first | apply X.stepGt rfl | apply X.stepGf rfl); (focus (simp; with_reducible rfl)); all_goals (intro hp; first | exact absurd hp (by decide) | ((try rw [hp]); (try simp at hp))))
    | (apply X.draw0; (focus rfl))
    | apply XD.nil
    | (apply XD.calm rfl; (focus (simp [-getElem?_pos, hq, this, hm2, IntKind.bits, and1]; with_reducible (first | rfl | exact ⟨rfl, rfl⟩))); (focus (simp; with_reducible rfl)))
    | (apply XD.call; (focus (simp; with_reducible rfl)); (focus (simp; with_reducible rfl)); (focus (simp [-getElem?_pos, hq, this, hm2, IntKind.bits, and1]; done)); (focus (simp [-getElem?_pos, hq, this, hm2, IntKind.bits, and1]; with_reducible rfl)); (focus (simp; with_reducible rfl)))
    | (apply XD.stepN rfl; (focus (simp; with_reducible rfl)))
    | ((first | apply XD.stepGt rfl | apply XD.stepGf rfl); (focus (simp; with_reducible rfl)); all_goals (intro hp; first | exact absurd hp (by decide) | ((try rw [hp]); (try simp at hp))))
    | (apply XD.loud; (focus (simp [-getElem?_pos, hq, this, hm2, IntKind.bits, and1]; with_reducible (first | rfl | exact ⟨rfl, rfl⟩))); (focus (simp; done)); (focus (simp; with_reducible rfl)); (focus (simp; with_reducible rfl))))
    all_goals ((refine Fin.mk' (by simp [resA]; with_reducible rfl) (by simp [oneOf, pureRes, snapFuel, snapL]; with_reducible rfl) ?_); simp only [hasS, h1, h2, h3, if_true, if_false]; rw [← and1]; rfl)
  · have := hw 3 (by omega) (by omega)
    (repeat' first
    | apply X.retS
    | apply X.skipS
    | apply X.skipB
    | apply X.skipL
    | (apply X.exitS; first | apply X.here | (refine X.out (by decide) ?_; apply X.here))
    | apply X.blockS
    | (apply X.condS rfl <;> intro hp <;> first | exact absurd hp (by decide) | ((try rw [hp]); (try simp at hp)))
    | apply X.stepZ
    | (apply X.step; (focus (simp [-getElem?_pos, hq, this, hm2, IntKind.bits, and1]; with_reducible (first | rfl | exact ⟨rfl, rfl⟩))); (focus (simp; with_reducible rfl)))
    | (apply X.stepN rfl; (focus (simp; with_reducible rfl)))
    | ((first | apply X.stepGt rfl | apply X.stepGf rfl); (focus (simp; with_reducible rfl)); all_goals (intro hp; first | exact absurd hp (by decide) | ((try rw [hp]); (try simp at hp))))
    | (apply X.draw0; (focus rfl))
    | apply XD.nil
    | (apply XD.calm rfl; (focus (simp [-getElem?_pos, hq, this, hm2, IntKind.bits, and1]; with_reducible (first | rfl | exact ⟨rfl, rfl⟩))); (focus (simp; with_reducible rfl)))
    | (apply XD.call; (focus (simp; with_reducible rfl)); (focus (simp; with_reducible rfl)); (focus (simp [-getElem?_pos, hq, this, hm2, IntKind.bits, and1]; done)); (focus (simp [-getElem?_pos, hq, this, hm2, IntKind.bits, and1]; with_reducible rfl)); (focus (simp; with_reducible rfl)))
    | (apply XD.stepN rfl; (focus (simp; with_reducible rfl)))
    | ((first | apply XD.stepGt rfl | apply XD.stepGf rfl); (focus (simp; with_reducible rfl)); all_goals (intro hp; first | exact absurd hp (by decide) | ((try rw [hp]); (try simp at hp))))
    | (apply XD.loud; (focus (simp [-getElem?_pos, hq, this, hm2, IntKind.bits, and1]; with_reducible (first | rfl | exact ⟨rfl, rfl⟩))); (focus (simp; done)); (focus (simp; with_reducible rfl)); (focus (simp; with_reducible rfl))))
    all_goals ((refine Fin.mk' (by simp [resA]; with_reducible rfl) (by simp [oneOf, pureRes, snapFuel, snapL]; with_reducible rfl) ?_); simp only [hasS, h1, h2, h3, if_true, if_false]; rw [← and1]; rfl)

/-- Is a value one of a core that may be? -/
def gvS : Co → Va → Bool
  | .mk k s0 s1 s2 s3 n l, v => if k = 7 then gvAt l 0 v else
    if ¬ kindC v.k = k ∨ kindC v.k = 0 ∨ ¬ (v.l.length : Int) = kindM v.k v.l.length ∨ ¬ kindC v.k = 2 ∧ ¬ v.b = 0 then false else
    if v.k = 2 then hasS (.mk k s0 s1 s2 s3 n []) v.b else
    if v.k = 5 then (match v.l with | [x] => gvAt l 1 x | _ => false) else
    if v.k = 3 then (match v.l with | [x, y] => gvAt l 0 x && gvAt l 1 y | _ => false) else !(v.l.any fun x => !gvAt l 0 x)
where
  gvAt : List Co → Nat → Va → Bool
  | [], _, _ => false
  | c :: _, 0, v => gvS c v
  | _ :: l, i + 1, v => gvAt l i v
theorem gvAt_eq : ∀ (l : List Co) (i : Nat) (c : Co) (v : Va), l[i]? = some c → gvS.gvAt l i v = gvS c v
  | [], _, _, _, h => by simp at h
  | x :: l, 0, c, v, h => by simp at h; subst h; simp [gvS.gvAt]
  | x :: l, i + 1, c, v, h => by simp only [gvS.gvAt]; exact gvAt_eq l i c v (by simpa using h)

end Cps
