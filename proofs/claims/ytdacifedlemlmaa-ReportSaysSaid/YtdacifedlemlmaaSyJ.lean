/- SyJ: steps, walks, laws: see the remarks within. -/
import Derived.Test.YtdacifedlemlmaaSyI
set_option linter.unusedSimpArgs false
set_option linter.unusedVariables false
-- The document's own sizes of values: walked.
namespace Rp
open Go Ab Go.Proofs.Ytdacifedlemlmaa.Mach
variable {E : Env}

def sizeR : Va → Int → Int
  | .mk _ _ l, m => sizeL l 1 m
where
  sizeL : List Va → Int → Int → Int
  | [], n, _ => n
  | x :: l, n, m => if n ≤ m then sizeL l (n + sizeR x (m - n)) m else n
theorem sizeR_eq (v : Va) (m : Int) : sizeR v m = sizeR.sizeL v.l 1 m := by cases v; rw [sizeR]; rfl
theorem sizeL_rng {m : Int} : ∀ (l : List Va) (n : Int), (∀ x ∈ l, ∀ k, 0 ≤ k → 1 ≤ sizeR x k ∧ sizeR x k ≤ k + 1) → 1 ≤ n → n ≤ m + 1 → 1 ≤ sizeR.sizeL l n m ∧ sizeR.sizeL l n m ≤ m + 1
  | [], n, _, h1, h2 => ⟨h1, h2⟩
  | x :: l, n, hx, h1, h2 => by
    simp only [sizeR.sizeL]
    split
    · rename_i h
      have h3 := hx x (by simp) (m - n) (by omega)
      exact sizeL_rng l _ (fun y hy => hx y (by simp [hy])) (by omega) (by omega)
    · exact ⟨h1, h2⟩
theorem sizeR_rng : ∀ v, ∀ m : Int, 0 ≤ m → 1 ≤ sizeR v m ∧ sizeR v m ≤ m + 1 := by
  refine Va.ind fun v ih m hm => ?_
  rw [sizeR_eq]
  exact sizeL_rng v.l 1 ih (by omega) (by omega)

set_option maxHeartbeats 4000000 in
theorem size_ok (H : Has E 70 c70) : ∀ v, FineV v → ∀ m : Int, 0 ≤ m → m ≤ 4000 → limP E 70 [encV v, .int .i64 m] = some [.int .i64 (sizeR v m)] := by
  refine Va.ind fun v ih hf m hm0 hm1 => ?_
  obtain ⟨_, hlen, hk⟩ := fineV hf
  have ih' := fun x hx => ih x hx (hk x hx)
  clear ih
  have ea : (v.l.map encV).length = v.l.length := by simp
  rw [sizeR_eq, eV]
  refine H.limQ (Nat.le_of_ble_eq_true rfl) ?_; unfold c70
  (repeat' first
    | apply X.blockS
    | apply X.stepZ
    | (apply X.stepQ rfl; (focus (simp only [SB, reduceIte, Nat.reduceEqDiff]; with_reducible rfl)); (focus (simp [-getElem?_pos]; with_reducible (first | rfl | exact ⟨rfl, rfl⟩))))
    | fail)
  refine X.forS v.l.length (fun j st => ∃ (n : Int) (f : Nat → V), (1 ≤ n ∧ n ≤ m + 1 ∧ sizeR.sizeL (v.l.drop j) n m = sizeR.sizeL v.l 1 m) ∧ (fk (Fk.mk (f := f)) 1 = .pv (.int .i64 m) ∧ fk (Fk.mk (f := f)) 2 = .ptr 0 0 ∧ fk (Fk.mk (f := f)) 5 = .pv (.int .i64 n) ∧ fk (Fk.mk (f := f)) 6 = .pv (.int .i64 (j : Int))) ∧ st = ⟨TL 31 f, [.blk [.pv (.int .i64 v.k), .pv (.int .u8 v.b), .pv (.sl (v.l.map encV))] none]⟩) ?_ ?_
  · exact ⟨1, _, ⟨by omega, by omega, rfl⟩, by simp, rfl⟩
  rintro j st hj ⟨n, f, ⟨hn0, hn1, hi⟩, ⟨f1, f2, f5, f6⟩, rfl⟩
  rcases Nat.lt_or_ge j v.l.length with hj1 | hj1
  · have hww : IntKind.i64.wrap ((j : Int) + 1) = (j : Int) + 1 := wrap_i64 (by omega)
    have w3 : binA .add .no (.pv (.int .i64 (j : Int))) (.pv (.int .i64 1)) = some (.pv (.int .i64 ((j : Int) + 1))) := by simp [binA, intBin, hww]
    have w1 : binA .lss .no (.pv (.int .i64 (j : Int))) (.pv (.int .i64 (v.l.length : Int))) = some (.pv (.bool true)) := by simp [binA, intBin]; omega
    obtain ⟨x, hx⟩ := at_of_lt hj1
    have hx2 : (v.l.map encV)[j]? = some (.agg [.int .i64 x.k, .int .u8 x.b, .sl (x.l.map encV)]) := by simp [hx, eV]
    rw [drop_at hx] at hi
    simp only [sizeR.sizeL] at hi
    by_cases hnm : n ≤ m
    · have w2 : binA .leq .no (.pv (.int .i64 n)) (.pv (.int .i64 m)) = some (.pv (.bool true)) := by simp [binA, intBin, hnm]
      have hc := ih' x (List.mem_of_getElem? hx) (m - n) (by omega) (by omega)
      have hr := sizeR_rng x (m - n) (by omega)
      rw [eV x] at hc
      rw [if_pos hnm] at hi
      generalize sizeR x (m - n) = y at hc hi hr
      have e1 : IntKind.i64.wrap (m - n) = m - n := wrap_i64 (by omega)
      have w4 : binA .sub .no (.pv (.int .i64 m)) (.pv (.int .i64 n)) = some (.pv (.int .i64 (m - n))) := by simp [binA, intBin, e1]
      have e2 : IntKind.i64.wrap (n + y) = n + y := wrap_i64 (by omega)
      have w5 : binA .add .no (.pv (.int .i64 n)) (.pv (.int .i64 y)) = some (.pv (.int .i64 (n + y))) := by simp [binA, intBin, e2]
      clear ih'
      (repeat' first
    | apply X.skipS
    | apply X.skipB
    | apply X.skipL
    | apply X.blockS
    | (apply X.condQ rfl; (focus (simp only [SB, reduceIte, Nat.reduceEqDiff, f1, f2, f5, f6]; with_reducible rfl)); all_goals (intro hbr; first | exact absurd hbr (by decide) | ((try rw [hbr]); (try simp at hbr))))
    | apply X.stepZ
    | (apply X.stepQ rfl; (focus (simp only [SB, reduceIte, Nat.reduceEqDiff, f1, f2, f5, f6]; with_reducible rfl)); (focus (simp [-getElem?_pos, -binA, ea, w1, w2, w3, w4, w5, hx2, H.raw, hc]; with_reducible (first | rfl | exact ⟨rfl, rfl⟩))))
    | ((first | apply X.stepGtQ rfl | apply X.stepGfQ rfl); (focus (simp only [SB, reduceIte, Nat.reduceEqDiff, f1, f2, f5, f6]; with_reducible rfl)); all_goals (intro hbr; first | exact absurd hbr (by decide) | ((try rw [hbr]); (try simp at hbr))))
    | fail)
      all_goals exact ⟨hj1, n + y, _, ⟨by omega, by omega, hi⟩, by simp [f1, f2], rfl⟩
    · have w2 : binA .leq .no (.pv (.int .i64 n)) (.pv (.int .i64 m)) = some (.pv (.bool false)) := by simp [binA, intBin, hnm]
      rw [if_neg hnm] at hi
      rw [← hi]
      clear ih'
      (repeat' first
    | apply X.retS
    | (apply X.exitS; first | apply X.here | (refine X.out (by decide) ?_; apply X.here))
    | (apply X.condQ rfl; (focus (simp only [SB, reduceIte, Nat.reduceEqDiff, f1, f2, f5, f6]; with_reducible rfl)); all_goals (intro hbr; first | exact absurd hbr (by decide) | ((try rw [hbr]); (try simp at hbr))))
    | apply X.stepZ
    | (apply X.stepQ rfl; (focus (simp only [SB, reduceIte, Nat.reduceEqDiff, f1, f2, f5, f6]; with_reducible rfl)); (focus (simp [-getElem?_pos, -binA, ea, w1, w2, w3]; with_reducible (first | rfl | exact ⟨rfl, rfl⟩))))
    | ((first | apply X.stepGtQ rfl | apply X.stepGfQ rfl); (focus (simp only [SB, reduceIte, Nat.reduceEqDiff, f1, f2, f5, f6]; with_reducible rfl)); all_goals (intro hbr; first | exact absurd hbr (by decide) | ((try rw [hbr]); (try simp at hbr))))
    | fail)
      all_goals (refine Fin.mkQ rfl (by simp only [resS, SB, reduceIte, Nat.reduceEqDiff]; with_reducible rfl) (by simp [oneOf, pureRes, snapFuel, snapL]; with_reducible rfl) ?_)
      all_goals rfl
  · have w1 : binA .lss .no (.pv (.int .i64 (j : Int))) (.pv (.int .i64 (v.l.length : Int))) = some (.pv (.bool false)) := by simp [binA, intBin]; omega
    rw [List.drop_eq_nil_of_le hj1] at hi
    simp only [sizeR.sizeL] at hi
    rw [← hi]
    clear ih'
    (repeat' first
    | apply X.retS
    | (apply X.exitS; first | apply X.here | (refine X.out (by decide) ?_; apply X.here))
    | (apply X.condQ rfl; (focus (simp only [SB, reduceIte, Nat.reduceEqDiff, f1, f2, f5, f6]; with_reducible rfl)); all_goals (intro hbr; first | exact absurd hbr (by decide) | ((try rw [hbr]); (try simp at hbr))))
    | apply X.stepZ
    | (apply X.stepQ rfl; (focus (simp only [SB, reduceIte, Nat.reduceEqDiff, f1, f2, f5, f6]; with_reducible rfl)); (focus (simp [-getElem?_pos, -binA, ea, w1]; with_reducible (first | rfl | exact ⟨rfl, rfl⟩))))
    | ((first | apply X.stepGtQ rfl | apply X.stepGfQ rfl); (focus (simp only [SB, reduceIte, Nat.reduceEqDiff, f1, f2, f5, f6]; with_reducible rfl)); all_goals (intro hbr; first | exact absurd hbr (by decide) | ((try rw [hbr]); (try simp at hbr))))
    | fail)
    all_goals (refine Fin.mkQ rfl (by simp only [resS, SB, reduceIte, Nat.reduceEqDiff]; with_reducible rfl) (by simp [oneOf, pureRes, snapFuel, snapL]; with_reducible rfl) ?_)
    all_goals rfl

def depR : Va → Int → Int
  | .mk _ _ l, m => if m ≤ 0 then 1 else depL l 0 (m - 1) + 1
where
  depL : List Va → Int → Int → Int
  | [], d, _ => d
  | x :: l, d, m => depL l (if d < depR x m then depR x m else d) m
theorem depR_eq (v : Va) (m : Int) : depR v m = if m ≤ 0 then 1 else depR.depL v.l 0 (m - 1) + 1 := by cases v; rw [depR]; rfl
theorem depL_rng {m B : Int} : ∀ (l : List Va) (d : Int), (∀ x ∈ l, 1 ≤ depR x m ∧ depR x m ≤ B) → 0 ≤ d → d ≤ B → 0 ≤ depR.depL l d m ∧ depR.depL l d m ≤ B
  | [], d, _, h1, h2 => ⟨h1, h2⟩
  | x :: l, d, hx, h1, h2 => by
    simp only [depR.depL]
    have h3 := hx x (by simp)
    refine depL_rng l _ (fun y hy => hx y (by simp [hy])) ?_ ?_ <;> split <;> omega
theorem depR_rng : ∀ v, ∀ m : Int, 0 ≤ m → 1 ≤ depR v m ∧ depR v m ≤ m + 1 := by
  refine Va.ind fun v ih m hm => ?_
  rw [depR_eq]
  split
  · omega
  · have := depL_rng (m := m - 1) (B := m) v.l 0 (fun x hx => by have := ih x hx (m - 1) (by omega); omega) (by omega) (by omega)
    omega

set_option maxHeartbeats 4000000 in
theorem dep_ok (H : Has E 71 c71) : ∀ v, FineV v → ∀ m : Int, 0 ≤ m → m ≤ 4000 → limP E 71 [encV v, .int .i64 m] = some [.int .i64 (depR v m)] := by
  refine Va.ind fun v ih hf m hm0 hm1 => ?_
  obtain ⟨_, hlen, hk⟩ := fineV hf
  have ih' := fun x hx => ih x hx (hk x hx)
  clear ih
  have ea : (v.l.map encV).length = v.l.length := by simp
  rw [depR_eq, eV]
  by_cases hm : m ≤ 0
  · have w0 : binA .leq .no (.pv (.int .i64 m)) (.pv (.int .i64 0)) = some (.pv (.bool true)) := by simp [binA, intBin, hm]
    rw [if_pos hm]
    clear ih'
    refine H.limQ (Nat.le_of_ble_eq_true rfl) ?_; unfold c71
    (repeat' first
    | apply X.retS
    | (apply X.condQ rfl; (focus (simp only [SB, reduceIte, Nat.reduceEqDiff]; with_reducible rfl)); all_goals (intro hbr; first | exact absurd hbr (by decide) | ((try rw [hbr]); (try simp at hbr))))
    | apply X.stepZ
    | (apply X.stepQ rfl; (focus (simp only [SB, reduceIte, Nat.reduceEqDiff]; with_reducible rfl)); (focus (simp [-getElem?_pos, -binA, w0]; with_reducible (first | rfl | exact ⟨rfl, rfl⟩))))
    | fail)
    all_goals (refine Fin.mkQ rfl (by simp only [resS, SB, reduceIte, Nat.reduceEqDiff]; with_reducible rfl) (by simp [oneOf, pureRes, snapFuel, snapL]; with_reducible rfl) ?_)
    all_goals rfl
  have w0 : binA .leq .no (.pv (.int .i64 m)) (.pv (.int .i64 0)) = some (.pv (.bool false)) := by simp [binA, intBin, hm]
  have e1 : IntKind.i64.wrap (m - 1) = m - 1 := wrap_i64 (by omega)
  have w4 : binA .sub .no (.pv (.int .i64 m)) (.pv (.int .i64 1)) = some (.pv (.int .i64 (m - 1))) := by simp [binA, intBin, e1]
  rw [if_neg hm]
  refine H.limQ (Nat.le_of_ble_eq_true rfl) ?_; unfold c71
  (repeat' first
    | apply X.skipS
    | apply X.blockS
    | (apply X.condQ rfl; (focus (simp only [SB, reduceIte, Nat.reduceEqDiff]; with_reducible rfl)); all_goals (intro hbr; first | exact absurd hbr (by decide) | ((try rw [hbr]); (try simp at hbr))))
    | apply X.stepZ
    | (apply X.stepQ rfl; (focus (simp only [SB, reduceIte, Nat.reduceEqDiff]; with_reducible rfl)); (focus (simp [-getElem?_pos, -binA, w0]; with_reducible (first | rfl | exact ⟨rfl, rfl⟩))))
    | fail)
  refine X.forS v.l.length (fun j st => ∃ (n : Int) (hh : Heap) (f : Nat → V), (0 ≤ n ∧ n ≤ m ∧ depR.depL (v.l.drop j) n (m - 1) = depR.depL v.l 0 (m - 1)) ∧ (fk (Fk.mk (f := f)) 1 = .pv (.int .i64 m) ∧ fk (Fk.mk (f := f)) 2 = .ptr 0 0 ∧ fk (Fk.mk (f := f)) 5 = .pv (.int .i64 n) ∧ fk (Fk.mk (f := f)) 6 = .pv (.int .i64 (j : Int))) ∧ st = ⟨TL 31 f, [.blk [.pv (.int .i64 v.k), .pv (.int .u8 v.b), .pv (.sl (v.l.map encV))] none]⟩) ?_ ?_
  · exact ⟨0, [], _, ⟨by omega, by omega, rfl⟩, by simp, rfl⟩
  rintro j st hj ⟨n, hh, f, ⟨hn0, hn1, hi⟩, ⟨f1, f2, f5, f6⟩, rfl⟩
  rcases Nat.lt_or_ge j v.l.length with hj1 | hj1
  · have hww : IntKind.i64.wrap ((j : Int) + 1) = (j : Int) + 1 := wrap_i64 (by omega)
    have w3 : binA .add .no (.pv (.int .i64 (j : Int))) (.pv (.int .i64 1)) = some (.pv (.int .i64 ((j : Int) + 1))) := by simp [binA, intBin, hww]
    have w1 : binA .lss .no (.pv (.int .i64 (j : Int))) (.pv (.int .i64 (v.l.length : Int))) = some (.pv (.bool true)) := by simp [binA, intBin]; omega
    obtain ⟨x, hx⟩ := at_of_lt hj1
    have hx2 : (v.l.map encV)[j]? = some (.agg [.int .i64 x.k, .int .u8 x.b, .sl (x.l.map encV)]) := by simp [hx, eV]
    rw [drop_at hx] at hi
    simp only [depR.depL] at hi
    have hc := ih' x (List.mem_of_getElem? hx) (m - 1) (by omega) (by omega)
    have hr := depR_rng x (m - 1) (by omega)
    rw [eV x] at hc
    generalize depR x (m - 1) = y at hc hi hr
    clear ih'
    by_cases hny : n < y
    · have w5 : binA .gtr .no (.pv (.int .i64 y)) (.pv (.int .i64 n)) = some (.pv (.bool true)) := by simp [binA, intBin, hny]
      rw [if_pos hny] at hi
      (repeat' first
    | apply X.skipS
    | apply X.skipB
    | apply X.skipL
    | apply X.blockS
    | (apply X.condQ rfl; (focus (simp only [SB, reduceIte, Nat.reduceEqDiff, f1, f2, f5, f6]; with_reducible rfl)); all_goals (intro hbr; first | exact absurd hbr (by decide) | ((try rw [hbr]); (try simp at hbr))))
    | apply X.stepZ
    | (apply X.stepQ rfl; (focus (simp only [SB, reduceIte, Nat.reduceEqDiff, f1, f2, f5, f6]; with_reducible rfl)); (focus (simp [-getElem?_pos, -binA, ea, w1, w3, w4, w5, hx2, H.raw, hc]; with_reducible (first | rfl | exact ⟨rfl, rfl⟩))))
    | fail)
      all_goals exact ⟨hj1, y, [], _, ⟨by omega, by omega, hi⟩, by simp [f1, f2], rfl⟩
    · have w5 : binA .gtr .no (.pv (.int .i64 y)) (.pv (.int .i64 n)) = some (.pv (.bool false)) := by simp [binA, intBin, hny]
      rw [if_neg hny] at hi
      (repeat' first
    | apply X.skipS
    | apply X.skipB
    | apply X.skipL
    | apply X.blockS
    | (apply X.condQ rfl; (focus (simp only [SB, reduceIte, Nat.reduceEqDiff, f1, f2, f5, f6]; with_reducible rfl)); all_goals (intro hbr; first | exact absurd hbr (by decide) | ((try rw [hbr]); (try simp at hbr))))
    | apply X.stepZ
    | (apply X.stepQ rfl; (focus (simp only [SB, reduceIte, Nat.reduceEqDiff, f1, f2, f5, f6]; with_reducible rfl)); (focus (simp [-getElem?_pos, -binA, ea, w1, w3, w4, w5, hx2, H.raw, hc]; with_reducible (first | rfl | exact ⟨rfl, rfl⟩))))
    | fail)
      all_goals exact ⟨hj1, n, [], _, ⟨by omega, by omega, hi⟩, by simp [f1, f2, f5], rfl⟩
  · have w1 : binA .lss .no (.pv (.int .i64 (j : Int))) (.pv (.int .i64 (v.l.length : Int))) = some (.pv (.bool false)) := by simp [binA, intBin]; omega
    rw [List.drop_eq_nil_of_le hj1] at hi
    simp only [depR.depL] at hi
    rw [← hi]
    have e2 : IntKind.i64.wrap (n + 1) = n + 1 := wrap_i64 (by omega)
    have w5 : binA .add .no (.pv (.int .i64 n)) (.pv (.int .i64 1)) = some (.pv (.int .i64 (n + 1))) := by simp [binA, intBin, e2]
    clear ih'
    (repeat' first
    | apply X.retS
    | (apply X.exitS; first | apply X.here | (refine X.out (by decide) ?_; apply X.here))
    | (apply X.condQ rfl; (focus (simp only [SB, reduceIte, Nat.reduceEqDiff, f1, f2, f5, f6]; with_reducible rfl)); all_goals (intro hbr; first | exact absurd hbr (by decide) | ((try rw [hbr]); (try simp at hbr))))
    | apply X.stepZ
    | (apply X.stepQ rfl; (focus (simp only [SB, reduceIte, Nat.reduceEqDiff, f1, f2, f5, f6]; with_reducible rfl)); (focus (simp [-getElem?_pos, -binA, ea, w1, w5]; with_reducible (first | rfl | exact ⟨rfl, rfl⟩))))
    | fail)
    all_goals (refine Fin.mkQ rfl (by simp only [resS, SB, reduceIte, Nat.reduceEqDiff]; with_reducible rfl) (by simp [oneOf, pureRes, snapFuel, snapL]; with_reducible rfl) ?_)
    all_goals rfl

theorem lssI (x y : Int) : binA .lss .no (.pv (.int .i64 x)) (.pv (.int .i64 y)) = some (.pv (.bool (decide (x < y)))) := by simp [binA, intBin]
theorem leqI (x y : Int) : binA .leq .no (.pv (.int .i64 x)) (.pv (.int .i64 y)) = some (.pv (.bool (decide (x ≤ y)))) := by simp [binA, intBin]
theorem gtrI (x y : Int) : binA .gtr .no (.pv (.int .i64 x)) (.pv (.int .i64 y)) = some (.pv (.bool (decide (y < x)))) := by simp [binA, intBin]
theorem eqlI (x y : Int) : binA .eql .no (.pv (.int .i64 x)) (.pv (.int .i64 y)) = some (.pv (.bool (decide (x = y)))) := by
  by_cases h : x = y <;> simp [binA, intBin, h]
theorem neU (x y : Int) : binA .neq .no (.pv (.int .u8 x)) (.pv (.int .u8 y)) = some (.pv (.bool (!decide (x = y)))) := by
  simp [binA, intBin, bne]
  rfl
def formR : Va → Bool
  | .mk k b l => (decide ((l.length : Int) = manyS k l.length) && decide (k = 2 ∨ b = 0)) && formL l
where
  formL : List Va → Bool
  | [] => true
  | x :: l => formR x && formL l
theorem formR_eq (v : Va) : formR v = ((decide ((v.l.length : Int) = manyS v.k v.l.length) && decide (v.k = 2 ∨ v.b = 0)) && formR.formL v.l) := by cases v; rw [formR]; rfl

theorem steps_app {E : Env} {p : FuncId → List PV → Option (List PV)} {r : FuncId → List V → Heap → Option (V × Heap)} : ∀ (a b : List AOper) (st : Ab.St), stepsA E p r (a ++ b) st = (stepsA E p r a st).bind (stepsA E p r b)
  | [], b, st => rfl
  | o :: a, b, st => by
    simp only [List.cons_append, stepsA]
    cases stepA E p r o st with
 | none => rfl
 | some st' => exact steps_app a b st'
theorem _root_.Ab.X.midR {ops : List AOper} {rest : ACode} {st : Ab.St} {Q : AExit → Ab.St → Prop} (j : Nat) (M : Ab.St → Prop) (h : X E (.seq (.region (ops.take j) false) .skip) st (thenQ M fun _ _ => False)) (k : ∀ st', M st' → X E (.seq (.region (ops.drop j) false) rest) st' Q) : X E (.seq (.region ops false) rest) st Q := by
  have e := List.take_append_drop j ops
  simp only [x_eq, w_seq, w_region, regionA_text] at h k ⊢
  rw [← e, steps_app]
  cases hs : stepsA E (limP E) (limR E) (ops.take j) st with
  | none => rw [hs] at h; cases h
  | some st1 =>
    rw [hs] at h
    exact k st1 (w_skip.1 h)

theorem shape_iff (k b n : Int) (hn : 0 ≤ n) : (n = manyS k n ∧ (k = 2 ∨ b = 0)) ↔ ¬ (((((k < 1 ∨ 7 < k) ∨ (¬ k = 2 ∧ ¬ b = 0)) ∨ (k < 3 ∧ 0 < n)) ∨ (k = 3 ∧ ¬ n = 2)) ∨ (((k = 4 ∨ k = 5) ∨ k = 7) ∧ ¬ n = 1)) := by
  unfold manyS
  split
  · omega
  · split
    · omega
    · split
      · omega
      · split <;> omega
theorem shape_eq (k b n : Int) (hn : 0 ≤ n) : (decide (n = manyS k n) && decide (k = 2 ∨ b = 0)) = !(((((decide (k < 1) || decide (7 < k)) || (!decide (k = 2) && !decide (b = 0))) || (decide (k < 3) && decide (0 < n))) || (decide (k = 3) && !decide (n = 2))) || (((decide (k = 4) || decide (k = 5)) || decide (k = 7)) && !decide (n = 1))) := by
  have := shape_iff k b n hn
  rw [Bool.eq_iff_iff]
  simp only [Bool.and_eq_true, Bool.not_eq_true', decide_eq_true_eq, Bool.or_eq_false_iff, Bool.and_eq_false_iff, decide_eq_false_iff_not, Bool.not_eq_false']
  rw [this]
  simp only [not_or, Classical.not_and_iff_not_or_not, Classical.not_not]

set_option maxHeartbeats 16000000 in
theorem form_ok (H : Has E 72 c72) : ∀ v, FineV v → limP E 72 [encV v] = some [.bool (formR v)] := by
  refine Va.ind fun v ih hf => ?_
  obtain ⟨_, hlen, hk⟩ := fineV hf
  have ih' := fun x hx => ih x hx (hk x hx)
  clear ih
  have ea : (v.l.map encV).length = v.l.length := by simp
  rw [formR_eq, eV]
  refine H.limQ (Nat.le_of_ble_eq_true rfl) ?_; unfold c72
  iterate 7 (first
 | apply X.retS
 | apply X.skipS
 | apply X.skipB
 | apply X.skipL
 | (apply X.exitS; first | apply X.here | (refine X.out (by decide) ?_; apply X.here))
 | apply X.blockS
 | (apply X.condQ rfl; (focus (simp only [SB, reduceIte, Nat.reduceEqDiff]; with_reducible rfl)); all_goals (intro hbr; first | exact absurd hbr (by decide) | ((try rw [hbr]); (try simp at hbr))))
 | apply X.stepZ
 | (apply X.stepQ rfl; (focus (simp only [SB, reduceIte, Nat.reduceEqDiff]; with_reducible rfl)); (focus (simp [-getElem?_pos, ea]; with_reducible (first | rfl | exact ⟨rfl, rfl⟩))))
 | (apply X.stepNQ rfl; (focus (simp only [SB, reduceIte, Nat.reduceEqDiff]; with_reducible rfl)))
 | ((first | apply X.stepGtQ rfl | apply X.stepGfQ rfl); (focus (simp only [SB, reduceIte, Nat.reduceEqDiff]; with_reducible rfl)); all_goals (intro hbr; first | exact absurd hbr (by decide) | ((try rw [hbr]); (try simp at hbr)))))
  refine X.stepZ ?_
  rw [app_seq]
  have hhp : ∀ hh : Heap, hh = [.blk [.pv (.int .i64 v.k), .pv (.int .u8 v.b), .pv (.sl (v.l.map encV))] none] → ent hh 0 = .blk [.pv (.int .i64 v.k), .pv (.int .u8 v.b), .pv (.sl (v.l.map encV))] none := fun hh h => by rw [h]; rfl
  refine X.midQ (fun st => ((decide ((v.l.length : Int) = manyS v.k v.l.length) && decide (v.k = 2 ∨ v.b = 0)) = true) ∧ ∃ (f : Nat → V), (fk (Fk.mk (f := f)) 1 = .ptr 0 0 ∧ fk (Fk.mk (f := f)) 3 = .pv (.int .i64 (v.l.length : Int))) ∧ st = ⟨TL 75 f, [.blk [.pv (.int .i64 v.k), .pv (.int .u8 v.b), .pv (.sl (v.l.map encV))] none]⟩) ?_ ?_
  · clear ih' hk hf
    generalize hq : formR.formL v.l = q
    have hN0 : (0 : Int) ≤ (v.l.length : Int) := by omega
    generalize hn : (v.l.length : Int) = n at hN0 ⊢
    clear hlen ea hn hq
    generalize hH : ([.blk [.pv (.int .i64 v.k), .pv (.int .u8 v.b), .pv (.sl (v.l.map encV))] none] : Heap) = H
    have x1 := hhp H hH.symm
    clear hhp hH
    generalize v.k = k at x1 ⊢
    generalize v.b = b at x1 ⊢
    rw [shape_eq k b n hN0]
    have w1 := lssI k 1
    have w2 := gtrI k 7
    have w3 := neI k 2
    have w4 := neU b 0
    have w5 := lssI k 3
    have w6 := gtrI n 0
    have w7 := eqlI k 3
    have w8 := neI n 2
    have w9 := eqlI k 4
    have w10 := eqlI k 5
    have w11 := eqlI k 7
    have w12 := neI n 1
    generalize decide (k < 1) = c1 at w1 ⊢
    generalize decide (7 < k) = c2 at w2 ⊢
    generalize (!decide (k = 2)) = c3 at w3 ⊢
    generalize (!decide (b = 0)) = c4 at w4 ⊢
    generalize decide (k < 3) = c5 at w5 ⊢
    generalize decide (0 < n) = c6 at w6 ⊢
    generalize decide (k = 3) = c7 at w7 ⊢
    generalize (!decide (n = 2)) = c8 at w8 ⊢
    generalize decide (k = 4) = c9 at w9 ⊢
    generalize decide (k = 5) = c10 at w10 ⊢
    generalize decide (k = 7) = c11 at w11 ⊢
    generalize (!decide (n = 1)) = c12 at w12 ⊢
    refine X.midR 9 (fun st => ∃ (f : Nat → V), (fk (Fk.mk (f := f)) 1 = .ptr 0 0 ∧ fk (Fk.mk (f := f)) 3 = .pv (.int .i64 n) ∧ fk (Fk.mk (f := f)) 16 = .pv (.bool (c1 || c2))) ∧ st = ⟨TL 75 f, H⟩) ?_ ?_
    · simp only [List.take_succ_cons, List.take_zero, List.drop_succ_cons, List.drop_zero]
      cases c1
      all_goals (repeat' first
    | apply X.skipL
    | apply X.stepZ
    | (apply X.stepQ rfl; (focus (simp only [SB, reduceIte, Nat.reduceEqDiff]; with_reducible rfl)); (focus (simp [-getElem?_pos, -binA, x1, w1, w2]; with_reducible (first | rfl | exact ⟨rfl, rfl⟩))))
    | ((first | apply X.stepGtQ rfl | apply X.stepGfQ rfl); (focus (simp only [SB, reduceIte, Nat.reduceEqDiff]; with_reducible rfl)); all_goals (intro hbr; first | exact absurd hbr (by decide) | ((try rw [hbr]); (try simp at hbr))))
    | fail)
      all_goals exact ⟨_, by simp, rfl⟩
    simp only [List.take_succ_cons, List.take_zero, List.drop_succ_cons, List.drop_zero]
    rintro st ⟨f, ⟨f1, f3, f16⟩, rfl⟩
    generalize (c1 || c2) = p1 at f16 ⊢
    refine X.midR 10 (fun st => ∃ (f : Nat → V), (fk (Fk.mk (f := f)) 1 = .ptr 0 0 ∧ fk (Fk.mk (f := f)) 3 = .pv (.int .i64 n) ∧ fk (Fk.mk (f := f)) 26 = .pv (.bool (p1 || (c3 && c4)))) ∧ st = ⟨TL 75 f, H⟩) ?_ ?_
    · simp only [List.take_succ_cons, List.take_zero, List.drop_succ_cons, List.drop_zero]
      cases p1; cases c3
      all_goals (repeat' first
    | apply X.skipL
    | apply X.stepZ
    | (apply X.stepQ rfl; (focus (simp only [SB, reduceIte, Nat.reduceEqDiff, f1, f3, f16]; with_reducible rfl)); (focus (simp [-getElem?_pos, -binA, x1, w3, w4]; with_reducible (first | rfl | exact ⟨rfl, rfl⟩))))
    | (apply X.stepNQ rfl; (focus (simp only [SB, reduceIte, Nat.reduceEqDiff, f1, f3, f16]; with_reducible rfl)))
    | ((first | apply X.stepGtQ rfl | apply X.stepGfQ rfl); (focus (simp only [SB, reduceIte, Nat.reduceEqDiff, f1, f3, f16]; with_reducible rfl)); all_goals (intro hbr; first | exact absurd hbr (by decide) | ((try rw [hbr]); (try simp at hbr))))
    | fail)
      all_goals exact ⟨_, by simp [f1, f3], rfl⟩
    clear f1 f3 f16 f
    simp only [List.take_succ_cons, List.take_zero, List.drop_succ_cons, List.drop_zero]
    rintro st ⟨f, ⟨f1, f3, f26⟩, rfl⟩
    generalize (p1 || (c3 && c4)) = p2 at f26 ⊢
    refine X.midR 9 (fun st => ∃ (f : Nat → V), (fk (Fk.mk (f := f)) 1 = .ptr 0 0 ∧ fk (Fk.mk (f := f)) 3 = .pv (.int .i64 n) ∧ fk (Fk.mk (f := f)) 35 = .pv (.bool (p2 || (c5 && c6)))) ∧ st = ⟨TL 75 f, H⟩) ?_ ?_
    · simp only [List.take_succ_cons, List.take_zero, List.drop_succ_cons, List.drop_zero]
      cases p2; cases c5
      all_goals (repeat' first
    | apply X.skipL
    | apply X.stepZ
    | (apply X.stepQ rfl; (focus (simp only [SB, reduceIte, Nat.reduceEqDiff, f1, f3, f26]; with_reducible rfl)); (focus (simp [-getElem?_pos, -binA, x1, w5, w6]; with_reducible (first | rfl | exact ⟨rfl, rfl⟩))))
    | (apply X.stepNQ rfl; (focus (simp only [SB, reduceIte, Nat.reduceEqDiff, f1, f3, f26]; with_reducible rfl)))
    | ((first | apply X.stepGtQ rfl | apply X.stepGfQ rfl); (focus (simp only [SB, reduceIte, Nat.reduceEqDiff, f1, f3, f26]; with_reducible rfl)); all_goals (intro hbr; first | exact absurd hbr (by decide) | ((try rw [hbr]); (try simp at hbr))))
    | fail)
      all_goals exact ⟨_, by simp [f1, f3], rfl⟩
    clear f1 f3 f26 f
    simp only [List.take_succ_cons, List.take_zero, List.drop_succ_cons, List.drop_zero]
    rintro st ⟨f, ⟨f1, f3, f35⟩, rfl⟩
    generalize (p2 || (c5 && c6)) = p3 at f35 ⊢
    refine X.midR 9 (fun st => ∃ (f : Nat → V), (fk (Fk.mk (f := f)) 1 = .ptr 0 0 ∧ fk (Fk.mk (f := f)) 3 = .pv (.int .i64 n) ∧ fk (Fk.mk (f := f)) 44 = .pv (.bool (p3 || (c7 && c8)))) ∧ st = ⟨TL 75 f, H⟩) ?_ ?_
    · simp only [List.take_succ_cons, List.take_zero, List.drop_succ_cons, List.drop_zero]
      cases p3; cases c7
      all_goals (repeat' first
    | apply X.skipL
    | apply X.stepZ
    | (apply X.stepQ rfl; (focus (simp only [SB, reduceIte, Nat.reduceEqDiff, f1, f3, f35]; with_reducible rfl)); (focus (simp [-getElem?_pos, -binA, x1, w7, w8]; with_reducible (first | rfl | exact ⟨rfl, rfl⟩))))
    | (apply X.stepNQ rfl; (focus (simp only [SB, reduceIte, Nat.reduceEqDiff, f1, f3, f35]; with_reducible rfl)))
    | ((first | apply X.stepGtQ rfl | apply X.stepGfQ rfl); (focus (simp only [SB, reduceIte, Nat.reduceEqDiff, f1, f3, f35]; with_reducible rfl)); all_goals (intro hbr; first | exact absurd hbr (by decide) | ((try rw [hbr]); (try simp at hbr))))
    | fail)
      all_goals exact ⟨_, by simp [f1, f3], rfl⟩
    clear f1 f3 f35 f
    simp only [List.take_succ_cons, List.take_zero, List.drop_succ_cons, List.drop_zero]
    rintro st ⟨f, ⟨f1, f3, f44⟩, rfl⟩
    generalize (p3 || (c7 && c8)) = p4 at f44 ⊢
    refine X.midR 18 (fun st => ∃ (f : Nat → V), (fk (Fk.mk (f := f)) 1 = .ptr 0 0 ∧ fk (Fk.mk (f := f)) 3 = .pv (.int .i64 n) ∧ fk (Fk.mk (f := f)) 62 = .pv (.bool (p4 || (((c9 || c10) || c11) && c12)))) ∧ st = ⟨TL 75 f, H⟩) ?_ ?_
    · simp only [List.take_succ_cons, List.take_zero, List.drop_succ_cons, List.drop_zero]
      cases p4; cases c9; cases c10; cases c11
      all_goals (repeat' first
    | apply X.skipL
    | apply X.stepZ
    | (apply X.stepQ rfl; (focus (simp only [SB, reduceIte, Nat.reduceEqDiff, f1, f3, f44]; with_reducible rfl)); (focus (simp [-getElem?_pos, -binA, x1, w9, w10, w11, w12]; with_reducible (first | rfl | exact ⟨rfl, rfl⟩))))
    | (apply X.stepNQ rfl; (focus (simp only [SB, reduceIte, Nat.reduceEqDiff, f1, f3, f44]; with_reducible rfl)))
    | ((first | apply X.stepGtQ rfl | apply X.stepGfQ rfl); (focus (simp only [SB, reduceIte, Nat.reduceEqDiff, f1, f3, f44]; with_reducible rfl)); all_goals (intro hbr; first | exact absurd hbr (by decide) | ((try rw [hbr]); (try simp at hbr))))
    | fail)
      all_goals exact ⟨_, by simp [f1, f3], rfl⟩
    clear f1 f3 f44 f
    simp only [List.take_succ_cons, List.take_zero, List.drop_succ_cons, List.drop_zero]
    rintro st ⟨f, ⟨f1, f3, f62⟩, rfl⟩
    generalize (p4 || (((c9 || c10) || c11) && c12)) = p5 at f62 ⊢
    cases p5 with
 | true =>
      (repeat' first
    | apply X.retS
    | (apply X.condQ rfl; (focus (simp only [SB, reduceIte, Nat.reduceEqDiff, f1, f3, f62]; with_reducible rfl)); all_goals (intro hbr; first | exact absurd hbr (by decide) | ((try rw [hbr]); (try simp at hbr))))
    | apply X.stepZ
    | (apply X.stepQ rfl; (focus (simp only [SB, reduceIte, Nat.reduceEqDiff, f1, f3, f62]; with_reducible rfl)); (focus (simp [-getElem?_pos]; with_reducible (first | rfl | exact ⟨rfl, rfl⟩))))
    | fail)
      all_goals (refine Fin.mkQ rfl (by simp only [resS, SB, reduceIte, Nat.reduceEqDiff]; with_reducible rfl) (by simp [oneOf, pureRes, snapFuel, snapL]; with_reducible rfl) ?_)
      all_goals rfl
 | false =>
      (repeat' first
    | apply X.skipS
    | apply X.skipL
    | (apply X.condQ rfl; (focus (simp only [SB, reduceIte, Nat.reduceEqDiff, f1, f3, f62]; with_reducible rfl)); all_goals (intro hbr; first | exact absurd hbr (by decide) | ((try rw [hbr]); (try simp at hbr))))
    | apply X.stepZ
    | fail)
      exact ⟨rfl, _, by simp [f1, f3], rfl⟩
  rintro st ⟨hsh, f, ⟨f1, f3⟩, rfl⟩
  rw [hsh, Bool.true_and]
  clear hsh
  (repeat' first
    | apply X.blockS
    | apply X.stepZ
    | (apply X.stepQ rfl; (focus (simp only [SB, reduceIte, Nat.reduceEqDiff, f1, f3]; with_reducible rfl)); (focus (simp [-getElem?_pos]; with_reducible (first | rfl | exact ⟨rfl, rfl⟩))))
    | fail)
  refine X.forS v.l.length (fun j st => formR.formL (v.l.drop j) = formR.formL v.l ∧ ∃ (f : Nat → V), (fk (Fk.mk (f := f)) 1 = .ptr 0 0 ∧ fk (Fk.mk (f := f)) 3 = .pv (.int .i64 (v.l.length : Int)) ∧ fk (Fk.mk (f := f)) 4 = .pv (.int .i64 (j : Int))) ∧ st = ⟨TL 75 f, [.blk [.pv (.int .i64 v.k), .pv (.int .u8 v.b), .pv (.sl (v.l.map encV))] none]⟩) ?_ ?_
  · exact ⟨rfl, _, by simp [f1, f3], rfl⟩
  clear f1 f3 f
  rintro j st hj ⟨hi, f, ⟨f1, f3, f4⟩, rfl⟩
  rcases Nat.lt_or_ge j v.l.length with hj1 | hj1
  · have hww : IntKind.i64.wrap ((j : Int) + 1) = (j : Int) + 1 := wrap_i64 (by omega)
    have w3 : binA .add .no (.pv (.int .i64 (j : Int))) (.pv (.int .i64 1)) = some (.pv (.int .i64 ((j : Int) + 1))) := by simp [binA, intBin, hww]
    have w1 : binA .lss .no (.pv (.int .i64 (j : Int))) (.pv (.int .i64 (v.l.length : Int))) = some (.pv (.bool true)) := by simp [binA, intBin]; omega
    obtain ⟨x, hx⟩ := at_of_lt hj1
    have hx2 : (v.l.map encV)[j]? = some (.agg [.int .i64 x.k, .int .u8 x.b, .sl (x.l.map encV)]) := by simp [hx, eV]
    have hc := ih' x (List.mem_of_getElem? hx)
    rw [eV x] at hc
    rw [drop_at hx] at hi
    simp only [formR.formL] at hi
    clear ih'
    cases hb : formR x with
 | true =>
      rw [hb] at hc hi
      (repeat' first
    | apply X.skipS
    | apply X.skipB
    | apply X.skipL
    | apply X.blockS
    | (apply X.condQ rfl; (focus (simp only [SB, reduceIte, Nat.reduceEqDiff, f1, f3, f4]; with_reducible rfl)); all_goals (intro hbr; first | exact absurd hbr (by decide) | ((try rw [hbr]); (try simp at hbr))))
    | apply X.stepZ
    | (apply X.stepQ rfl; (focus (simp only [SB, reduceIte, Nat.reduceEqDiff, f1, f3, f4]; with_reducible rfl)); (focus (simp [-getElem?_pos, -binA, ea, w1, w3, hx2, H.raw, hc]; with_reducible (first | rfl | exact ⟨rfl, rfl⟩))))
    | fail)
      all_goals exact ⟨hj1, by simpa using hi, _, by simp [f1, f3], rfl⟩
 | false =>
      rw [hb] at hc hi
      simp only [Bool.false_and] at hi
      rw [← hi]
      (repeat' first
    | apply X.retS
    | apply X.skipS
    | apply X.blockS
    | (apply X.condQ rfl; (focus (simp only [SB, reduceIte, Nat.reduceEqDiff, f1, f3, f4]; with_reducible rfl)); all_goals (intro hbr; first | exact absurd hbr (by decide) | ((try rw [hbr]); (try simp at hbr))))
    | apply X.stepZ
    | (apply X.stepQ rfl; (focus (simp only [SB, reduceIte, Nat.reduceEqDiff, f1, f3, f4]; with_reducible rfl)); (focus (simp [-getElem?_pos, -binA, ea, w1, w3, hx2, H.raw, hc]; with_reducible (first | rfl | exact ⟨rfl, rfl⟩))))
    | fail)
      all_goals (refine Fin.mkQ rfl (by simp only [resS, SB, reduceIte, Nat.reduceEqDiff]; with_reducible rfl) (by simp [oneOf, pureRes, snapFuel, snapL]; with_reducible rfl) ?_)
      all_goals rfl
  · have w1 : binA .lss .no (.pv (.int .i64 (j : Int))) (.pv (.int .i64 (v.l.length : Int))) = some (.pv (.bool false)) := by simp [binA, intBin]; omega
    rw [List.drop_eq_nil_of_le hj1] at hi
    simp only [formR.formL] at hi
    rw [← hi]
    clear ih'
    (repeat' first
    | apply X.retS
    | (apply X.exitS; first | apply X.here | (refine X.out (by decide) ?_; apply X.here))
    | (apply X.condQ rfl; (focus (simp only [SB, reduceIte, Nat.reduceEqDiff, f1, f3, f4]; with_reducible rfl)); all_goals (intro hbr; first | exact absurd hbr (by decide) | ((try rw [hbr]); (try simp at hbr))))
    | apply X.stepZ
    | (apply X.stepQ rfl; (focus (simp only [SB, reduceIte, Nat.reduceEqDiff, f1, f3, f4]; with_reducible rfl)); (focus (simp [-getElem?_pos, -binA, ea, w1]; with_reducible (first | rfl | exact ⟨rfl, rfl⟩))))
    | fail)
    all_goals (refine Fin.mkQ rfl (by simp only [resS, SB, reduceIte, Nat.reduceEqDiff]; with_reducible rfl) (by simp [oneOf, pureRes, snapFuel, snapL]; with_reducible rfl) ?_)
    all_goals rfl
end Rp
