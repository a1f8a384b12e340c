/- SyB: steps, walks, laws: see the remarks within. -/
import Derived.Test.YtdacifedlemlmaaSyA
import Derived.Test.YtdacifedlemlmaaAbStep
set_option linter.unusedSimpArgs false
set_option linter.unusedVariables false
-- report.Good: walked.
namespace Rp
open Go Ab Go.Proofs.Ytdacifedlemlmaa.Mach
variable {E : Env}

theorem _root_.Ab.X.mid {c rest : ACode} {st : Ab.St} {Q : AExit → Ab.St → Prop} (M : Ab.St → Prop) (h : X E (.seq c .skip) st (thenQ M fun _ _ => False)) (k : ∀ st', M st' → X E rest st' Q) : X E (.seq c rest) st Q := by
  simp only [x_eq] at h k ⊢
  rw [w_seq] at h ⊢
  refine h.mono fun ex st hq => ?_
  cases ex with
  | normal => exact k st (w_skip.1 hq)
  | ret => exact hq.elim
  | exit i => exact hq.elim

def manyS (k : Int) (n : Int) : Int := if k = 1 ∨ k = 2 then 0 else if k = 3 then 2 else if k = 4 ∨ k = 5 ∨ k = 7 then 1 else if k = 6 then n else -1

structure HasG (E : Env) : Prop where
  good : Has E 16 c16
  between : Has E 45 c45
  spans : Has E 46 c46
  shaped : HasR E 47 c47
  many : Has E 77 c77
  same : Has E 15 c15
  eq : Has E 43 c43
  isnan : Has E 44 c44

set_option maxHeartbeats 4000000 in
theorem many_ok (H : Has E 77 c77) (v : Va) : limP E 77 [encV v] = some [.int .i64 (manyS v.k (v.l.length : Int))] := by
  have hll : (v.l.map encV).length = v.l.length := by simp
  rw [eV]
  refine H.limQ (Nat.le_of_ble_eq_true rfl) ?_; unfold c77
  (repeat' first
 | apply X.retS
 | apply X.skipS
 | apply X.skipB
 | apply X.blockS
 | (apply X.condQ rfl; (focus (simp only [SB, reduceIte, Nat.reduceEqDiff]; with_reducible rfl)); all_goals (intro hbr; first | exact absurd hbr (by decide) | ((try rw [hbr]); (try simp at hbr))))
 | apply X.stepZ
 | (apply X.stepQ rfl; (focus (simp only [SB, reduceIte, Nat.reduceEqDiff]; with_reducible rfl)); (focus (simp [-getElem?_pos, hll]; with_reducible (first | rfl | exact ⟨rfl, rfl⟩))))
 | fail)
  all_goals (refine Fin.mkQ rfl (by simp only [resS, SB, reduceIte, Nat.reduceEqDiff]; with_reducible rfl) (by simp [oneOf, pureRes, snapFuel, snapL]; with_reducible rfl) ?_)
  all_goals simp_all [manyS]

def betweenS (a b : Int) : Bool := decide (0 ≤ a) && (decide (a ≤ b) && decide (b ≤ 1073741824))
set_option maxHeartbeats 2000000 in
theorem between_ok (H : Has E 45 c45) (a b : Int) : limP E 45 [.int .i64 a, .int .i64 b] = some [.bool (betweenS a b)] := by
  unfold betweenS
  by_cases h1 : 0 ≤ a
  · by_cases h2 : a ≤ b
    · refine H.limQ (Nat.le_of_ble_eq_true rfl) ?_; unfold c45
      (repeat' first
 | apply X.retS
 | apply X.stepZ
 | (apply X.stepQ rfl; (focus (simp only [SB, reduceIte, Nat.reduceEqDiff]; with_reducible rfl)); (focus (simp [-getElem?_pos, h1, h2]; with_reducible (first | rfl | exact ⟨rfl, rfl⟩))))
 | ((first | apply X.stepGtQ rfl | apply X.stepGfQ rfl); (focus (simp only [SB, reduceIte, Nat.reduceEqDiff]; with_reducible rfl)); all_goals (intro hbr; first | exact absurd hbr (by decide) | ((try rw [hbr]); (try simp at hbr))))
 | fail)
      all_goals (refine Fin.mkQ rfl (by simp only [resS, SB, reduceIte, Nat.reduceEqDiff]; with_reducible rfl) (by simp [oneOf, pureRes, snapFuel, snapL]; with_reducible rfl) ?_)
      all_goals simp [h1, h2]
    · refine H.limQ (Nat.le_of_ble_eq_true rfl) ?_; unfold c45
      (repeat' first
 | apply X.retS
 | apply X.stepZ
 | (apply X.stepQ rfl; (focus (simp only [SB, reduceIte, Nat.reduceEqDiff]; with_reducible rfl)); (focus (simp [-getElem?_pos, h1, h2]; with_reducible (first | rfl | exact ⟨rfl, rfl⟩))))
 | ((first | apply X.stepGtQ rfl | apply X.stepGfQ rfl); (focus (simp only [SB, reduceIte, Nat.reduceEqDiff]; with_reducible rfl)); all_goals (intro hbr; first | exact absurd hbr (by decide) | ((try rw [hbr]); (try simp at hbr))))
 | fail)
      all_goals (refine Fin.mkQ rfl (by simp only [resS, SB, reduceIte, Nat.reduceEqDiff]; with_reducible rfl) (by simp [oneOf, pureRes, snapFuel, snapL]; with_reducible rfl) ?_)
      all_goals simp [h1, h2]
  · refine H.limQ (Nat.le_of_ble_eq_true rfl) ?_; unfold c45
    (repeat' first
 | apply X.retS
 | apply X.stepZ
 | (apply X.stepQ rfl; (focus (simp only [SB, reduceIte, Nat.reduceEqDiff]; with_reducible rfl)); (focus (simp [-getElem?_pos, h1]; with_reducible (first | rfl | exact ⟨rfl, rfl⟩))))
 | ((first | apply X.stepGtQ rfl | apply X.stepGfQ rfl); (focus (simp only [SB, reduceIte, Nat.reduceEqDiff]; with_reducible rfl)); all_goals (intro hbr; first | exact absurd hbr (by decide) | ((try rw [hbr]); (try simp at hbr))))
 | fail)
    all_goals (refine Fin.mkQ rfl (by simp only [resS, SB, reduceIte, Nat.reduceEqDiff]; with_reducible rfl) (by simp [oneOf, pureRes, snapFuel, snapL]; with_reducible rfl) ?_)
    all_goals simp [h1]

def shS : Va → Int → Int → Bool × Int
  | .mk k b l, d, n => if d < 1 ∨ n - 1 < 0 ∨ (l.length : Int) ≠ manyS k l.length ∨ (k ≠ 2 ∧ b ≠ 0) then (false, n - 1) else shL l (d - 1) (n - 1)
where
  shL : List Va → Int → Int → Bool × Int
  | [], _, n => (true, n)
  | x :: l, d, n => if (shS x d n).1 = true then shL l d (shS x d n).2 else (false, (shS x d n).2)
theorem shS_eq (v : Va) (d n : Int) : shS v d n = if d < 1 ∨ n - 1 < 0 ∨ (v.l.length : Int) ≠ manyS v.k v.l.length ∨ (v.k ≠ 2 ∧ v.b ≠ 0) then (false, n - 1) else shS.shL v.l (d - 1) (n - 1) := by cases v; rw [shS]; rfl
theorem shS_le : ∀ v, ∀ d n : Int, (shS v d n).2 ≤ n - 1 ∧ (0 ≤ n → -1 ≤ (shS v d n).2) ∧ ((shS v d n).1 = true → 0 ≤ (shS v d n).2) := by
  refine Va.ind fun v ih d n => ?_
  have key : ∀ (l : List Va) (n : Int), (∀ y ∈ l, ∀ d n : Int, (shS y d n).2 ≤ n - 1 ∧ (0 ≤ n → -1 ≤ (shS y d n).2) ∧ ((shS y d n).1 = true → 0 ≤ (shS y d n).2)) → 0 ≤ n →
      (shS.shL l (d - 1) n).2 ≤ n ∧ -1 ≤ (shS.shL l (d - 1) n).2 ∧ ((shS.shL l (d - 1) n).1 = true → 0 ≤ (shS.shL l (d - 1) n).2) := by
    intro l
    induction l with
 | nil => intro n _ hn; simp only [shS.shL]; exact ⟨Int.le_refl _, by omega, fun _ => hn⟩
 | cons x l ihl =>
      intro n hh hn
      obtain ⟨h1, h2, h3⟩ := hh x (by simp) (d - 1) n
      simp only [shS.shL]
      by_cases hx : (shS x (d - 1) n).1 = true
      · rw [if_pos hx]
        have := ihl (shS x (d - 1) n).2 (fun y hy => hh y (by simp [hy])) (h3 hx)
        exact ⟨by omega, this.2.1, this.2.2⟩
      · rw [if_neg hx]
        exact ⟨by simp only; omega, by simp only; exact h2 hn, fun h => by cases h⟩
  rw [shS_eq]
  split
  · exact ⟨Int.le_refl _, fun _ => by simp only; omega, fun h => by cases h⟩
  · rename_i hc
    have hn : 0 ≤ n - 1 := by omega
    have := key v.l (n - 1) ih hn
    exact ⟨this.1, fun _ => this.2.1, this.2.2⟩

structure Cnt (h : Heap) (li : Nat) (n : Int) (h' : Heap) : Prop where
  len : h.length ≤ h'.length
  old : ∀ i, i < h.length → i ≠ li → ent h' i = ent h i
  at' : ∃ t, ent h' li = .blk [.pv (.int .i64 n)] t
theorem Cnt.trans {h h1 h2 : Heap} {li : Nat} {n n' : Int} (a : Cnt h li n h1) (b : Cnt h1 li n' h2) : Cnt h li n' h2 :=
  ⟨Nat.le_trans a.len b.len, fun i hi hne => by rw [b.old i (Nat.lt_of_lt_of_le hi a.len) hne, a.old i hi hne], b.at'⟩
theorem Cnt.less {h h1 l : Heap} {li : Nat} {n : Int} (a : Cnt (h ++ l) li n h1) : Cnt h li n h1 :=
  ⟨by have := a.len; simp at this; omega, fun i hi hne => by rw [a.old i (by simp; omega) hne]; simp [ent, List.getElem?_append_left hi], a.at'⟩
theorem ent_lt {h : Heap} {i : Nat} {cs : List V} {t : Option TypeId} (he : ent h i = .blk cs t) : i < h.length := by
  rcases Nat.lt_or_ge i h.length with h1 | h1
  · exact h1
  · simp [ent, List.getElem?_eq_none h1] at he

set_option maxHeartbeats 8000000 in
theorem shaped_ok (HH : HasG E) : ∀ v, FineV v → ∀ (d n : Int) (h : Heap) (li : Nat) (t : Option TypeId), d ≤ 500 → 0 ≤ d → n ≤ 2000 → 0 ≤ n → ent h li = .blk [.pv (.int .i64 n)] t →
    ∃ r h', limR E 47 [.pv (encV v), .pv (.int .i64 d), .ptr li 0] h = some (r, h') ∧ (r = .pv (.bool (shS v d n).1) ∧ Cnt h li (shS v d n).2 h') := by
  refine Va.ind fun v ih hf d n h li t hd hd0 hn hn0 hli => ?_
  obtain ⟨hvb, hf1, hf2⟩ := fineV hf
  have hlt := ent_lt hli
  have hmany := many_ok HH.many v
  have hll : (v.l.map encV).length = v.l.length := by simp
  rw [shS_eq, eV]
  rw [eV] at hmany
  refine HH.shaped.limQE (Nat.le_of_ble_eq_true rfl) ?_; unfold c47
  have hw : IntKind.i64.wrap (n - 1) = n - 1 := wrap_i64 (by omega)
  have w0 : binA .sub .no (.pv (.int .i64 n)) (.pv (.int .i64 1)) = some (.pv (.int .i64 (n - 1))) := by simp [binA, intBin, hw]
  have hst : ∀ l : Heap, (h ++ l).set li (.blk [.pv (.int .i64 (n - 1))] t) = h.set li (.blk [.pv (.int .i64 (n - 1))] t) ++ l := fun l => List.set_append_left _ _ hlt
  have hap : ∀ l : Heap, ent (h ++ l) li = .blk [.pv (.int .i64 n)] t := fun l => ent_app hli (by simp)
  iterate 10 (first
 | apply X.retS
 | apply X.skipS
 | apply X.skipB
 | apply X.skipL
 | (apply X.exitS; first | apply X.here | (refine X.out (by decide) ?_; apply X.here))
 | apply X.blockS
 | (apply X.condQ rfl; (focus (simp only [SB, reduceIte, Nat.reduceEqDiff]; with_reducible rfl)); all_goals (intro hbr; first | exact absurd hbr (by decide) | ((try rw [hbr]); (try simp at hbr))))
 | apply X.stepZ
 | (apply X.stepQ rfl; (focus (simp only [SB, reduceIte, Nat.reduceEqDiff]; with_reducible rfl)); (focus (simp [-getElem?_pos, -binA, w0, hap, hst]; with_reducible (first | rfl | exact ⟨rfl, rfl⟩))))
 | (apply X.stepNQ rfl; (focus (simp only [SB, reduceIte, Nat.reduceEqDiff]; with_reducible rfl)))
 | ((first | apply X.stepGtQ rfl | apply X.stepGfQ rfl); (focus (simp only [SB, reduceIte, Nat.reduceEqDiff]; with_reducible rfl)); all_goals (intro hbr; first | exact absurd hbr (by decide) | ((try rw [hbr]); (try simp at hbr)))))
  refine X.abs2 (fun st => ∃ (hh : Heap) (f : Nat → V), (Cnt h li (n - 1) hh ∧ ent hh li = .blk [.pv (.int .i64 (n - 1))] t ∧ ent hh h.length = .blk [.pv (.int .i64 v.k), .pv (.int .u8 v.b), .pv (.sl (v.l.map encV))] none) ∧ (fk (Fk.mk (f := f)) 1 = .pv (.int .i64 d) ∧ fk (Fk.mk (f := f)) 2 = .ptr li 0 ∧ fk (Fk.mk (f := f)) 3 = .ptr h.length 0) ∧ st = ⟨TL 54 f, hh⟩) ?_ ?_
  · refine ⟨_, _, ⟨⟨by simp, fun i hi hne => ?_, t, ?_⟩, ?_, ?_⟩, by simp, rfl⟩
    · simp only [ent]
      rw [List.getElem?_append_left (by simpa using hi), List.getElem?_set_ne (Ne.symm hne)]
    · exact ent_app (ent_set hlt) (by simp)
    · exact ent_app (ent_set hlt) (by simp)
    · have : h.length = (h.set li (Ent.blk [V.pv (PV.int IntKind.i64 (n - 1))] t)).length := by simp
      rw [this]
      exact ent_at0
  rintro st ⟨hh, f, ⟨hc, hli2, hbx⟩, ⟨f1, f2, f3⟩, rfl⟩
  clear hap hst w0
  refine X.mid (fun st => ∃ (f : Nat → V), (fk (Fk.mk (f := f)) 1 = .pv (.int .i64 d) ∧ fk (Fk.mk (f := f)) 2 = .ptr li 0 ∧ fk (Fk.mk (f := f)) 3 = .ptr h.length 0 ∧ fk (Fk.mk (f := f)) 39 = .pv (.bool (decide (d < 1 ∨ n - 1 < 0 ∨ (v.l.length : Int) ≠ manyS v.k v.l.length ∨ (v.k ≠ 2 ∧ v.b ≠ 0))))) ∧ st = ⟨TL 54 f, hh⟩) ?_ ?_
  · have hP : decide (d < 1 ∨ n - 1 < 0 ∨ (v.l.length : Int) ≠ manyS v.k v.l.length ∨ (v.k ≠ 2 ∧ v.b ≠ 0)) = (decide (d < 1) || decide (n - 1 < 0) || decide ((v.l.length : Int) ≠ manyS v.k v.l.length) || (decide (v.k ≠ 2) && decide (v.b ≠ 0))) := by
      simp only [Bool.decide_or, Bool.decide_and, Bool.or_assoc]
    rw [hP]
    have w1 : binA .lss .no (.pv (.int .i64 d)) (.pv (.int .i64 1)) = some (.pv (.bool (decide (d < 1)))) := by simp [binA, intBin]
    have w2 : binA .lss .no (.pv (.int .i64 (n - 1))) (.pv (.int .i64 0)) = some (.pv (.bool (decide (n - 1 < 0)))) := by simp only [binA, intBin]; rfl
    have w3 : binA .neq .no (.pv (.int .i64 (v.l.length : Int))) (.pv (.int .i64 (manyS v.k v.l.length))) = some (.pv (.bool (decide ((v.l.length : Int) ≠ manyS v.k v.l.length)))) := by
      simp [binA, intBin, bne]
      rfl
    have w4 : binA .neq .no (.pv (.int .i64 v.k)) (.pv (.int .i64 2)) = some (.pv (.bool (decide (v.k ≠ 2)))) := by
      simp [binA, intBin, bne]
      rfl
    have w5 : binA .neq .no (.pv (.int .u8 v.b)) (.pv (.int .u8 0)) = some (.pv (.bool (decide (v.b ≠ 0)))) := by
      simp [binA, intBin, bne]
      rfl
    clear hP ih hf hf1 hf2
    generalize decide (d < 1) = p1 at w1 ⊢
    generalize decide (n - 1 < 0) = p2 at w2 ⊢
    generalize decide ((v.l.length : Int) ≠ manyS v.k v.l.length) = p3 at w3 ⊢
    generalize decide (v.k ≠ 2) = p4 at w4 ⊢
    generalize decide (v.b ≠ 0) = p5 at w5 ⊢
    cases p1 with
 | true =>
      (repeat' first
 | apply X.skipL
 | (apply X.draw0; (focus rfl))
 | apply XD.nil
 | (apply XD.calmQ rfl rfl; (focus (simp only [SB, reduceIte, Nat.reduceEqDiff, f1, f2, f3]; with_reducible rfl)); (focus (simp [-getElem?_pos, -binA, hmany, HH.many.raw, hll, w1, w2, w3, w4, w5, hli2, hbx, ent_app hli2, ent_app hbx]; with_reducible (first | rfl | exact ⟨rfl, rfl⟩))))
 | (apply XD.stepNQ rfl; (focus (simp only [SB, reduceIte, Nat.reduceEqDiff, f1, f2, f3]; with_reducible rfl)))
 | ((first | apply XD.stepGtQ rfl | apply XD.stepGfQ rfl); (focus (simp only [SB, reduceIte, Nat.reduceEqDiff, f1, f2, f3]; with_reducible rfl)); all_goals (intro hbr; first | exact absurd hbr (by decide) | ((try rw [hbr]); (try simp at hbr))))
 | fail)
      all_goals exact ⟨_, by simp [f1, f2, f3], rfl⟩
 | false =>
    cases p2 with
 | true =>
      (repeat' first
 | apply X.skipL
 | (apply X.draw0; (focus rfl))
 | apply XD.nil
 | (apply XD.calmQ rfl rfl; (focus (simp only [SB, reduceIte, Nat.reduceEqDiff, f1, f2, f3]; with_reducible rfl)); (focus (simp [-getElem?_pos, -binA, hmany, HH.many.raw, hll, w1, w2, w3, w4, w5, hli2, hbx, ent_app hli2, ent_app hbx]; with_reducible (first | rfl | exact ⟨rfl, rfl⟩))))
 | (apply XD.stepNQ rfl; (focus (simp only [SB, reduceIte, Nat.reduceEqDiff, f1, f2, f3]; with_reducible rfl)))
 | ((first | apply XD.stepGtQ rfl | apply XD.stepGfQ rfl); (focus (simp only [SB, reduceIte, Nat.reduceEqDiff, f1, f2, f3]; with_reducible rfl)); all_goals (intro hbr; first | exact absurd hbr (by decide) | ((try rw [hbr]); (try simp at hbr))))
 | fail)
      all_goals exact ⟨_, by simp [f1, f2, f3], rfl⟩
 | false =>
    cases p3 with
 | true =>
      (repeat' first
 | apply X.skipL
 | (apply X.draw0; (focus rfl))
 | apply XD.nil
 | (apply XD.calmQ rfl rfl; (focus (simp only [SB, reduceIte, Nat.reduceEqDiff, f1, f2, f3]; with_reducible rfl)); (focus (simp [-getElem?_pos, -binA, hmany, HH.many.raw, hll, w1, w2, w3, w4, w5, hli2, hbx, ent_app hli2, ent_app hbx]; with_reducible (first | rfl | exact ⟨rfl, rfl⟩))))
 | (apply XD.callQ rfl; (focus (simp only [SB, reduceIte, Nat.reduceEqDiff, f1, f2, f3]; simp; with_reducible rfl)); (focus (simp; with_reducible rfl)); (focus (simp [-getElem?_pos, -binA, hmany, HH.many.raw, hll, w1, w2, w3, w4, w5, hli2, hbx, ent_app hli2, ent_app hbx]; done)); (focus (simp [-getElem?_pos, -binA, hmany, HH.many.raw, hll, w1, w2, w3, w4, w5, hli2, hbx, ent_app hli2, ent_app hbx]; with_reducible rfl)))
 | (apply XD.stepNQ rfl; (focus (simp only [SB, reduceIte, Nat.reduceEqDiff, f1, f2, f3]; with_reducible rfl)))
 | ((first | apply XD.stepGtQ rfl | apply XD.stepGfQ rfl); (focus (simp only [SB, reduceIte, Nat.reduceEqDiff, f1, f2, f3]; with_reducible rfl)); all_goals (intro hbr; first | exact absurd hbr (by decide) | ((try rw [hbr]); (try simp at hbr))))
 | fail)
      all_goals exact ⟨_, by simp [f1, f2, f3], rfl⟩
 | false =>
    cases p4 with
 | true =>
      (repeat' first
 | apply X.skipL
 | (apply X.draw0; (focus rfl))
 | apply XD.nil
 | (apply XD.calmQ rfl rfl; (focus (simp only [SB, reduceIte, Nat.reduceEqDiff, f1, f2, f3]; with_reducible rfl)); (focus (simp [-getElem?_pos, -binA, hmany, HH.many.raw, hll, w1, w2, w3, w4, w5, hli2, hbx, ent_app hli2, ent_app hbx]; with_reducible (first | rfl | exact ⟨rfl, rfl⟩))))
 | (apply XD.callQ rfl; (focus (simp only [SB, reduceIte, Nat.reduceEqDiff, f1, f2, f3]; simp; with_reducible rfl)); (focus (simp; with_reducible rfl)); (focus (simp [-getElem?_pos, -binA, hmany, HH.many.raw, hll, w1, w2, w3, w4, w5, hli2, hbx, ent_app hli2, ent_app hbx]; done)); (focus (simp [-getElem?_pos, -binA, hmany, HH.many.raw, hll, w1, w2, w3, w4, w5, hli2, hbx, ent_app hli2, ent_app hbx]; with_reducible rfl)))
 | ((first | apply XD.stepGtQ rfl | apply XD.stepGfQ rfl); (focus (simp only [SB, reduceIte, Nat.reduceEqDiff, f1, f2, f3]; with_reducible rfl)); all_goals (intro hbr; first | exact absurd hbr (by decide) | ((try rw [hbr]); (try simp at hbr))))
 | fail)
      all_goals exact ⟨_, by simp [f1, f2, f3], rfl⟩
 | false =>
      (repeat' first
 | apply X.skipL
 | (apply X.draw0; (focus rfl))
 | apply XD.nil
 | (apply XD.calmQ rfl rfl; (focus (simp only [SB, reduceIte, Nat.reduceEqDiff, f1, f2, f3]; with_reducible rfl)); (focus (simp [-getElem?_pos, -binA, hmany, HH.many.raw, hll, w1, w2, w3, w4, w5, hli2, hbx, ent_app hli2, ent_app hbx]; with_reducible (first | rfl | exact ⟨rfl, rfl⟩))))
 | (apply XD.callQ rfl; (focus (simp only [SB, reduceIte, Nat.reduceEqDiff, f1, f2, f3]; simp; with_reducible rfl)); (focus (simp; with_reducible rfl)); (focus (simp [-getElem?_pos, -binA, hmany, HH.many.raw, hll, w1, w2, w3, w4, w5, hli2, hbx, ent_app hli2, ent_app hbx]; done)); (focus (simp [-getElem?_pos, -binA, hmany, HH.many.raw, hll, w1, w2, w3, w4, w5, hli2, hbx, ent_app hli2, ent_app hbx]; with_reducible rfl)))
 | ((first | apply XD.stepGtQ rfl | apply XD.stepGfQ rfl); (focus (simp only [SB, reduceIte, Nat.reduceEqDiff, f1, f2, f3]; with_reducible rfl)); all_goals (intro hbr; first | exact absurd hbr (by decide) | ((try rw [hbr]); (try simp at hbr))))
 | fail)
      all_goals exact ⟨_, by simp [f1, f2, f3], rfl⟩
  rintro st ⟨f, ⟨f1, f2, f3, f39⟩, rfl⟩
  by_cases hP : d < 1 ∨ n - 1 < 0 ∨ (v.l.length : Int) ≠ manyS v.k v.l.length ∨ (v.k ≠ 2 ∧ v.b ≠ 0)
  · rw [decide_eq_true hP] at f39
    rw [if_pos hP]
    (repeat' first
 | apply X.retS
 | (apply X.condQ rfl; (focus (simp only [SB, reduceIte, Nat.reduceEqDiff, f39]; with_reducible rfl)); all_goals (intro hbr; first | exact absurd hbr (by decide) | ((try rw [hbr]); (try simp at hbr))))
 | apply X.stepZ
 | (apply X.stepQ rfl; (focus (simp only [SB, reduceIte, Nat.reduceEqDiff, f39]; with_reducible rfl)); (focus (simp [-getElem?_pos]; with_reducible (first | rfl | exact ⟨rfl, rfl⟩))))
 | fail)
    all_goals exact FinE.retQ (us := [.pv (.bool false)]) rfl (by simp [resS]) ⟨rfl, hc⟩
  · rw [decide_eq_false hP] at f39
    rw [if_neg hP]
    have hd1 : IntKind.i64.wrap (d - 1) = d - 1 := wrap_i64 (by omega)
    (repeat' first
 | apply X.skipS
 | apply X.blockS
 | (apply X.condQ rfl; (focus (simp only [SB, reduceIte, Nat.reduceEqDiff, f1, f2, f3, f39]; with_reducible rfl)); all_goals (intro hbr; first | exact absurd hbr (by decide) | ((try rw [hbr]); (try simp at hbr))))
 | apply X.stepZ
 | (apply X.stepQ rfl; (focus (simp only [SB, reduceIte, Nat.reduceEqDiff, f1, f2, f3, f39]; with_reducible rfl)); (focus (simp [-getElem?_pos, hll, hbx, ent_app hbx]; with_reducible (first | rfl | exact ⟨rfl, rfl⟩))))
 | fail)
    refine X.forS v.l.length (fun j st => ∃ (hh : Heap) (m : Int) (f : Nat → V), (Cnt h li m hh ∧ 0 ≤ m ∧ m ≤ 2000 ∧ shS.shL (v.l.drop j) (d - 1) m = shS.shL v.l (d - 1) (n - 1)) ∧ (fk (Fk.mk (f := f)) 1 = .pv (.int .i64 d) ∧ fk (Fk.mk (f := f)) 2 = .ptr li 0 ∧ fk (Fk.mk (f := f)) 41 = .pv (.sl (v.l.map encV)) ∧ fk (Fk.mk (f := f)) 42 = .pv (.int .i64 (v.l.length : Int)) ∧ fk (Fk.mk (f := f)) 43 = .pv (.int .i64 (j : Int))) ∧ st = ⟨TL 54 f, hh⟩) ?_ ?_
    · exact ⟨_, n - 1, _, ⟨hc, by omega, by omega, rfl⟩, by simp [f1, f2], rfl⟩
    clear hc hli2 hbx f1 f2 f3 f39
    rintro j st hj ⟨hh, m, f, ⟨hc, hm0, hm1, hi⟩, ⟨f1, f2, f41, f42, f43⟩, rfl⟩
    rcases Nat.lt_or_ge j v.l.length with hj1 | hj1
    · have hj2 : (j : Int) < (v.l.length : Int) := by omega
      have hww : IntKind.i64.wrap ((j : Int) + 1) = (j : Int) + 1 := wrap_i64 (by omega)
      obtain ⟨x, hx⟩ := at_of_lt hj1
      have hxm := List.mem_of_getElem? hx
      rw [drop_at hx] at hi
      simp only [shS.shL] at hi
      obtain ⟨t2, hat⟩ := hc.at'
      have hr := ih x hxm (hf2 x hxm) (d - 1) m (hh ++ [.blk [.pv (.int .i64 x.k), .pv (.int .u8 x.b), .pv (.sl (x.l.map encV))] (some 24)]) li t2 (by omega) (by omega) (by omega) hm0 (ent_app hat (by simp))
      have hle := shS_le x (d - 1) m
      clear ih
      rw [eV x] at hr
      (repeat' first
 | apply X.skipS
 | apply X.blockS
 | (apply X.condQ rfl; (focus (simp only [SB, reduceIte, Nat.reduceEqDiff, f1, f2, f41, f42, f43]; with_reducible rfl)); all_goals (intro hbr; first | exact absurd hbr (by decide) | ((try rw [hbr]); (try simp at hbr))))
 | apply X.stepZ
 | (apply X.stepQ rfl; (focus (simp only [SB, reduceIte, Nat.reduceEqDiff, f1, f2, f41, f42, f43]; with_reducible rfl)); (focus (simp [-getElem?_pos, hj1, hj2, hx, eV x, hd1]; with_reducible (first | rfl | exact ⟨rfl, rfl⟩))))
 | fail)
      refine X.callRQ (P := _) rfl (by simp only [SB, reduceIte, Nat.reduceEqDiff, f1, f2]; all_goals (first | with_reducible rfl | (simp <;> with_reducible rfl))) HH.shaped.raw (by simp [pures]) (hr) ?_
      rintro r h3 ⟨rfl, hc3⟩
      cases hsx : (shS x (d - 1) m).1 with
      | true =>
        rw [if_pos hsx] at hi
        have h0 := hle.2.2 hsx
        (repeat' first
 | apply X.skipS
 | apply X.skipB
 | apply X.skipL
 | (apply X.condQ rfl; (focus (simp only [SB, reduceIte, Nat.reduceEqDiff, f1, f2, f41, f42, f43]; with_reducible rfl)); all_goals (intro hbr; first | exact absurd hbr (by decide) | ((try rw [hbr]); (try simp at hbr))))
 | apply X.stepZ
 | (apply X.stepQ rfl; (focus (simp only [SB, reduceIte, Nat.reduceEqDiff, f1, f2, f41, f42, f43]; with_reducible rfl)); (focus (simp [-getElem?_pos, hww]; with_reducible (first | rfl | exact ⟨rfl, rfl⟩))))
 | fail)
        all_goals exact ⟨hj1, h3, _, _, ⟨hc.trans hc3.less, h0, by omega, hi⟩, by simp [f1, f2, f41, f42], rfl⟩
      | false =>
        rw [if_neg (by rw [hsx]; simp)] at hi
        (repeat' first
 | apply X.retS
 | (apply X.condQ rfl; (focus (simp only [SB, reduceIte, Nat.reduceEqDiff, f1, f2, f41, f42, f43]; with_reducible rfl)); all_goals (intro hbr; first | exact absurd hbr (by decide) | ((try rw [hbr]); (try simp at hbr))))
 | apply X.stepZ
 | (apply X.stepQ rfl; (focus (simp only [SB, reduceIte, Nat.reduceEqDiff, f1, f2, f41, f42, f43]; with_reducible rfl)); (focus (simp [-getElem?_pos, hww]; with_reducible (first | rfl | exact ⟨rfl, rfl⟩))))
 | fail)
        all_goals exact FinE.retQ (us := [.pv (.bool false)]) rfl (by simp [resS]) ⟨by rw [← hi]; rfl, by rw [← hi]; exact hc.trans hc3.less⟩
    · have hj2 : ¬ (j : Int) < (v.l.length : Int) := by omega
      have hj3 : ¬ j < v.l.length := by omega
      rw [List.drop_eq_nil_of_le hj1] at hi
      simp only [shS.shL] at hi
      clear ih
      (repeat' first
 | apply X.retS
 | (apply X.exitS; first | apply X.here | (refine X.out (by decide) ?_; apply X.here))
 | (apply X.condQ rfl; (focus (simp only [SB, reduceIte, Nat.reduceEqDiff, f1, f2, f41, f42, f43]; with_reducible rfl)); all_goals (intro hbr; first | exact absurd hbr (by decide) | ((try rw [hbr]); (try simp at hbr))))
 | apply X.stepZ
 | (apply X.stepQ rfl; (focus (simp only [SB, reduceIte, Nat.reduceEqDiff, f1, f2, f41, f42, f43]; with_reducible rfl)); (focus (simp [-getElem?_pos, hj3, hj2]; with_reducible (first | rfl | exact ⟨rfl, rfl⟩))))
 | fail)
      all_goals exact FinE.retQ (us := [.pv (.bool true)]) rfl (by simp [resS]) ⟨by rw [← hi]; rfl, by rw [← hi]; exact hc⟩

def spanOk (s : Sp) : Bool := (decide (s.1 = -1) && decide (s.2 = -1)) || betweenS s.1 s.2
def spansS (a b : Int) (sp : List Sp) : Bool := match sp with
  | [] => false
  | s :: r => decide (sp.length ≤ 33) && (decide (s.1 = a) && decide (s.2 = b)) && r.all spanOk

theorem strideS (sp : List Sp) : strideOk 2 (sp.map encS) = true := strideOk_of fun e he => by
  obtain ⟨x, _, rfl⟩ := List.mem_map.1 he
  rfl

theorem neS (x y a b : Int) : binA .neq (.cells [.int .i64, .int .i64]) (.pv (.agg [.int .i64 x, .int .i64 y])) (.pv (.agg [.int .i64 a, .int .i64 b])) = some (.pv (.bool (!(decide (x = a) && decide (y = b))))) := by
  simp [binA, eqCells, eqCell, eqRes]
  rfl
theorem slice_tl (s : Sp) (r : List Sp) : sliceSlA 2 (.pv (.sl ((s :: r).map encS))) (some (.pv (.int .i64 1))) none = some (.pv (.sl (r.map encS))) := by
  have hst := strideS (s :: r)
  rw [List.map_cons] at hst ⊢
  have hb : bounds (encS s :: r.map encS).length (some (.pv (.int .i64 1))) none = some (1, r.length + 1) := by simp [bounds, natOf?]
  simp only [sliceSlA, hb, hst, if_true, List.drop_succ_cons, List.drop_zero, Nat.add_sub_cancel]
  rw [List.take_of_length_le (by simp)]
set_option maxHeartbeats 8000000 in
theorem spans_ok (HH : HasG E) (e a b : Int) (sp : List Sp) (v : Va) (q : Nat) (hl : sp.length ≤ 9223372036854775807) : limP E 46 [encR e a b sp v q] = some [.bool (spansS a b sp)] := by
  have H := HH.spans
  have hll : (sp.map encS).length = sp.length := by simp
  simp only [encR]
  cases sp with
  | nil =>
    have w1 : binA .lss .no (.pv (.int .i64 0)) (.pv (.int .i64 1)) = some (.pv (.bool true)) := by simp [binA, intBin]
    refine H.limQ (Nat.le_of_ble_eq_true rfl) ?_; unfold c46
    (repeat' first
 | apply X.retS
 | (apply X.condQ rfl; (focus (simp only [SB, reduceIte, Nat.reduceEqDiff]; with_reducible rfl)); all_goals (intro hbr; first | exact absurd hbr (by decide) | ((try rw [hbr]); (try simp at hbr))))
 | apply X.stepZ
 | (apply X.stepQ rfl; (focus (simp only [SB, reduceIte, Nat.reduceEqDiff]; with_reducible rfl)); (focus (simp [-getElem?_pos, -binA, w1]; with_reducible (first | rfl | exact ⟨rfl, rfl⟩))))
 | (apply X.draw0; (focus rfl))
 | apply XD.nil
 | (apply XD.calmQ rfl rfl; (focus (simp only [SB, reduceIte, Nat.reduceEqDiff]; with_reducible rfl)); (focus (simp [-getElem?_pos, -binA, w1]; with_reducible (first | rfl | exact ⟨rfl, rfl⟩))))
 | ((first | apply XD.stepGtQ rfl | apply XD.stepGfQ rfl); (focus (simp only [SB, reduceIte, Nat.reduceEqDiff]; with_reducible rfl)); all_goals (intro hbr; first | exact absurd hbr (by decide) | ((try rw [hbr]); (try simp at hbr))))
 | fail)
    all_goals (refine Fin.mkQ rfl (by simp only [resS, SB, reduceIte, Nat.reduceEqDiff]; with_reducible rfl) (by simp [oneOf, pureRes, snapFuel, snapL]; with_reducible rfl) ?_)
    all_goals rfl
  | cons s r =>
  have hst := strideS (s :: r)
  have hlr : (r.map encS).length = r.length := by simp
  by_cases h33 : 33 < (s :: r).length
  · have w1 : binA .lss .no (.pv (.int .i64 ((s :: r).length : Int))) (.pv (.int .i64 1)) = some (.pv (.bool false)) := by simp [binA, intBin]; omega
    have w2 : binA .gtr .no (.pv (.int .i64 ((s :: r).length : Int))) (.pv (.int .i64 33)) = some (.pv (.bool true)) := by simp [binA, intBin]; simp at h33; omega
    have e0 : spansS a b (s :: r) = false := by
      have : decide ((s :: r).length ≤ 33) = false := decide_eq_false (by omega)
      simp only [spansS, this, Bool.false_and]
    rw [e0]
    generalize hn : ((s :: r).length : Int) = n at w1 w2
    have hll2 : (((s :: r).map encS).length : Int) = n := by rw [hll, hn]
    generalize (s :: r).map encS = L at hll2
    refine H.limQ (Nat.le_of_ble_eq_true rfl) ?_; unfold c46
    (repeat' first
 | apply X.retS
 | (apply X.condQ rfl; (focus (simp only [SB, reduceIte, Nat.reduceEqDiff]; with_reducible rfl)); all_goals (intro hbr; first | exact absurd hbr (by decide) | ((try rw [hbr]); (try simp at hbr))))
 | apply X.stepZ
 | (apply X.stepQ rfl; (focus (simp only [SB, reduceIte, Nat.reduceEqDiff]; with_reducible rfl)); (focus (simp [-getElem?_pos, -binA, hll2, w1, w2]; with_reducible (first | rfl | exact ⟨rfl, rfl⟩))))
 | (apply X.draw0; (focus rfl))
 | apply XD.nil
 | (apply XD.calmQ rfl rfl; (focus (simp only [SB, reduceIte, Nat.reduceEqDiff]; with_reducible rfl)); (focus (simp [-getElem?_pos, -binA, hll2, w1, w2]; with_reducible (first | rfl | exact ⟨rfl, rfl⟩))))
 | ((first | apply XD.stepGtQ rfl | apply XD.stepGfQ rfl); (focus (simp only [SB, reduceIte, Nat.reduceEqDiff]; with_reducible rfl)); all_goals (intro hbr; first | exact absurd hbr (by decide) | ((try rw [hbr]); (try simp at hbr))))
 | fail)
    all_goals (refine Fin.mkQ rfl (by simp only [resS, SB, reduceIte, Nat.reduceEqDiff]; with_reducible rfl) (by simp [oneOf, pureRes, snapFuel, snapL]; with_reducible rfl) ?_)
    all_goals rfl
  have w1 : binA .lss .no (.pv (.int .i64 ((s :: r).length : Int))) (.pv (.int .i64 1)) = some (.pv (.bool false)) := by simp [binA, intBin]; omega
  have w2 : binA .gtr .no (.pv (.int .i64 ((s :: r).length : Int))) (.pv (.int .i64 33)) = some (.pv (.bool false)) := by simp [binA, intBin]; simp at h33; omega
  have w3 := neS s.1 s.2 a b
  have e0 : spansS a b (s :: r) = ((decide (s.1 = a) && decide (s.2 = b)) && r.all spanOk) := by
    have : decide ((s :: r).length ≤ 33) = true := decide_eq_true (by omega)
    simp only [spansS, this, Bool.true_and]
  rw [e0]
  have hll2 : (((s :: r).map encS).length : Int) = ((s :: r).length : Int) := by rw [hll]
  have htl := slice_tl s r
  have h0 : ((s :: r).map encS)[0]? = some (.agg [.int .i64 s.1, .int .i64 s.2]) := rfl
  generalize ((s :: r).length : Int) = n at w1 w2 hll2
  clear hll hst h33 e0
  generalize (s :: r).map encS = L at hll2 htl h0
  generalize (decide (s.1 = a) && decide (s.2 = b)) = p at w3 ⊢
  cases p with
  | false =>
    refine H.limQ (Nat.le_of_ble_eq_true rfl) ?_; unfold c46
    (repeat' first
 | apply X.retS
 | (apply X.condQ rfl; (focus (simp only [SB, reduceIte, Nat.reduceEqDiff]; with_reducible rfl)); all_goals (intro hbr; first | exact absurd hbr (by decide) | ((try rw [hbr]); (try simp at hbr))))
 | apply X.stepZ
 | (apply X.stepQ rfl; (focus (simp only [SB, reduceIte, Nat.reduceEqDiff]; with_reducible rfl)); (focus (simp [-getElem?_pos, -binA, hll2, w1, w2, w3, h0]; with_reducible (first | rfl | exact ⟨rfl, rfl⟩))))
 | (apply X.draw0; (focus rfl))
 | apply XD.nil
 | (apply XD.calmQ rfl rfl; (focus (simp only [SB, reduceIte, Nat.reduceEqDiff]; with_reducible rfl)); (focus (simp [-getElem?_pos, -binA, hll2, w1, w2, w3, h0]; with_reducible (first | rfl | exact ⟨rfl, rfl⟩))))
 | ((first | apply XD.stepGtQ rfl | apply XD.stepGfQ rfl); (focus (simp only [SB, reduceIte, Nat.reduceEqDiff]; with_reducible rfl)); all_goals (intro hbr; first | exact absurd hbr (by decide) | ((try rw [hbr]); (try simp at hbr))))
 | fail)
    all_goals (refine Fin.mkQ rfl (by simp only [resS, SB, reduceIte, Nat.reduceEqDiff]; with_reducible rfl) (by simp [oneOf, pureRes, snapFuel, snapL]; with_reducible rfl) ?_)
    all_goals rfl
  | true =>
    refine H.limQ (Nat.le_of_ble_eq_true rfl) ?_; unfold c46
    (repeat' first
 | apply X.skipS
 | apply X.blockS
 | (apply X.condQ rfl; (focus (simp only [SB, reduceIte, Nat.reduceEqDiff]; with_reducible rfl)); all_goals (intro hbr; first | exact absurd hbr (by decide) | ((try rw [hbr]); (try simp at hbr))))
 | apply X.stepZ
 | (apply X.stepQ rfl; (focus (simp only [SB, reduceIte, Nat.reduceEqDiff]; with_reducible rfl)); (focus (simp [-getElem?_pos, -binA, hll2, w1, w2, w3, h0, -sliceSlA, htl, hlr]; with_reducible (first | rfl | exact ⟨rfl, rfl⟩))))
 | (apply X.draw0; (focus rfl))
 | apply XD.nil
 | (apply XD.calmQ rfl rfl; (focus (simp only [SB, reduceIte, Nat.reduceEqDiff]; with_reducible rfl)); (focus (simp [-getElem?_pos, -binA, hll2, w1, w2, w3, h0, -sliceSlA, htl, hlr]; with_reducible (first | rfl | exact ⟨rfl, rfl⟩))))
 | ((first | apply XD.stepGtQ rfl | apply XD.stepGfQ rfl); (focus (simp only [SB, reduceIte, Nat.reduceEqDiff]; with_reducible rfl)); all_goals (intro hbr; first | exact absurd hbr (by decide) | ((try rw [hbr]); (try simp at hbr))))
 | fail)
    refine X.forS r.length (fun j st => (r.drop j).all spanOk = r.all spanOk ∧ ∃ (hh : Heap) (f : Nat → V), (fk (Fk.mk (f := f)) 29 = .pv (.sl (r.map encS)) ∧ fk (Fk.mk (f := f)) 30 = .pv (.int .i64 (r.length : Int)) ∧ fk (Fk.mk (f := f)) 31 = .pv (.int .i64 (j : Int))) ∧ st = ⟨TL 47 f, hh⟩) ?_ ?_
    · exact ⟨rfl, _, _, by simp, rfl⟩
    rintro j st hj ⟨hi, hh, f, ⟨f29, f30, f31⟩, rfl⟩
    have hrl : r.length ≤ 9223372036854775807 := by simp at hl; omega
    rcases Nat.lt_or_ge j r.length with hj1 | hj1
    · have hj2 : binA .lss .no (.pv (.int .i64 (j : Int))) (.pv (.int .i64 (r.length : Int))) = some (.pv (.bool true)) := by simp [binA, intBin]; omega
      have hww : IntKind.i64.wrap ((j : Int) + 1) = (j : Int) + 1 := wrap_i64 (by omega)
      have hadd : binA .add .no (.pv (.int .i64 (j : Int))) (.pv (.int .i64 1)) = some (.pv (.int .i64 ((j : Int) + 1))) := by simp [binA, intBin, hww]
      obtain ⟨x, hx⟩ := at_of_lt hj1
      have hx2 : (r.map encS)[j]? = some (.agg [.int .i64 x.1, .int .i64 x.2]) := by simp [hx, encS]
      have hne := neS x.1 x.2 (-1) (-1)
      have hbt := between_ok HH.between x.1 x.2
      rw [drop_at hx, List.all_cons] at hi
      have hsp : spanOk x = ((decide (x.1 = -1) && decide (x.2 = -1)) || betweenS x.1 x.2) := rfl
      rw [hsp] at hi
      clear hsp
      generalize (decide (x.1 = -1) && decide (x.2 = -1)) = p1 at hne hi
      generalize betweenS x.1 x.2 = p2 at hbt hi
      cases p1 with
      | true =>
        (repeat' first
 | apply X.skipS
 | apply X.skipB
 | apply X.skipL
 | apply X.blockS
 | (apply X.condQ rfl; (focus (simp only [SB, reduceIte, Nat.reduceEqDiff, f29, f30, f31]; with_reducible rfl)); all_goals (intro hbr; first | exact absurd hbr (by decide) | ((try rw [hbr]); (try simp at hbr))))
 | apply X.stepZ
 | (apply X.stepQ rfl; (focus (simp only [SB, reduceIte, Nat.reduceEqDiff, f29, f30, f31]; with_reducible rfl)); (focus (simp [-getElem?_pos, -binA, hj2, hj1, hx, hx2, encS, hne, hadd]; with_reducible (first | rfl | exact ⟨rfl, rfl⟩))))
 | ((first | apply X.stepGtQ rfl | apply X.stepGfQ rfl); (focus (simp only [SB, reduceIte, Nat.reduceEqDiff, f29, f30, f31]; with_reducible rfl)); all_goals (intro hbr; first | exact absurd hbr (by decide) | ((try rw [hbr]); (try simp at hbr))))
 | fail)
        all_goals exact ⟨hj1, by simpa using hi, _, _, by simp [f29, f30], rfl⟩
      | false =>
        cases p2 with
        | true =>
          (repeat' first
 | apply X.skipS
 | apply X.skipB
 | apply X.skipL
 | apply X.blockS
 | (apply X.condQ rfl; (focus (simp only [SB, reduceIte, Nat.reduceEqDiff, f29, f30, f31]; with_reducible rfl)); all_goals (intro hbr; first | exact absurd hbr (by decide) | ((try rw [hbr]); (try simp at hbr))))
 | apply X.stepZ
 | (apply X.stepQ rfl; (focus (simp only [SB, reduceIte, Nat.reduceEqDiff, f29, f30, f31]; with_reducible rfl)); (focus (simp [-getElem?_pos, -binA, hj2, hj1, hx, hx2, encS, hne, hadd, HH.between.raw, hbt]; with_reducible (first | rfl | exact ⟨rfl, rfl⟩))))
 | ((first | apply X.stepGtQ rfl | apply X.stepGfQ rfl); (focus (simp only [SB, reduceIte, Nat.reduceEqDiff, f29, f30, f31]; with_reducible rfl)); all_goals (intro hbr; first | exact absurd hbr (by decide) | ((try rw [hbr]); (try simp at hbr))))
 | fail)
          all_goals exact ⟨hj1, by simpa using hi, _, _, by simp [f29, f30], rfl⟩
        | false =>
          (repeat' first
 | apply X.retS
 | apply X.skipS
 | apply X.blockS
 | (apply X.condQ rfl; (focus (simp only [SB, reduceIte, Nat.reduceEqDiff, f29, f30, f31]; with_reducible rfl)); all_goals (intro hbr; first | exact absurd hbr (by decide) | ((try rw [hbr]); (try simp at hbr))))
 | apply X.stepZ
 | (apply X.stepQ rfl; (focus (simp only [SB, reduceIte, Nat.reduceEqDiff, f29, f30, f31]; with_reducible rfl)); (focus (simp [-getElem?_pos, -binA, hj2, hj1, hx, hx2, encS, hne, hadd, HH.between.raw, hbt]; with_reducible (first | rfl | exact ⟨rfl, rfl⟩))))
 | ((first | apply X.stepGtQ rfl | apply X.stepGfQ rfl); (focus (simp only [SB, reduceIte, Nat.reduceEqDiff, f29, f30, f31]; with_reducible rfl)); all_goals (intro hbr; first | exact absurd hbr (by decide) | ((try rw [hbr]); (try simp at hbr))))
 | fail)
          all_goals (refine Fin.mkQ rfl (by simp only [resS, SB, reduceIte, Nat.reduceEqDiff]; with_reducible rfl) (by simp [oneOf, pureRes, snapFuel, snapL]; with_reducible rfl) ?_)
          all_goals simp [← hi]
    · have hj2 : binA .lss .no (.pv (.int .i64 (j : Int))) (.pv (.int .i64 (r.length : Int))) = some (.pv (.bool false)) := by simp [binA, intBin]; omega
      rw [List.drop_eq_nil_of_le hj1, List.all_nil] at hi
      (repeat' first
 | apply X.retS
 | (apply X.exitS; first | apply X.here | (refine X.out (by decide) ?_; apply X.here))
 | (apply X.condQ rfl; (focus (simp only [SB, reduceIte, Nat.reduceEqDiff, f29, f30, f31]; with_reducible rfl)); all_goals (intro hbr; first | exact absurd hbr (by decide) | ((try rw [hbr]); (try simp at hbr))))
 | apply X.stepZ
 | (apply X.stepQ rfl; (focus (simp only [SB, reduceIte, Nat.reduceEqDiff, f29, f30, f31]; with_reducible rfl)); (focus (simp [-getElem?_pos, -binA, hj2]; with_reducible (first | rfl | exact ⟨rfl, rfl⟩))))
 | fail)
      all_goals (refine Fin.mkQ rfl (by simp only [resS, SB, reduceIte, Nat.reduceEqDiff]; with_reducible rfl) (by simp [oneOf, pureRes, snapFuel, snapL]; with_reducible rfl) ?_)
      all_goals simp [← hi]
end Rp

-- report.Good: joined.
namespace Rp
open Go Ab Go.Proofs.Ytdacifedlemlmaa.Mach
variable {E : Env}

def isZ (v : Va) : Bool := decide (v.k = 0) && (decide (v.b = 0) && decide (v.l.length = 0))

set_option maxHeartbeats 2000000 in
theorem same0_ok (H : Has E 15 c15) (H2 : Has E 43 c43) (v : Va) : limP E 15 [encV v, .agg [.int .i64 0, .int .u8 0, .sl []]] = some [.bool (isZ v)] := by
  have hll : (v.l.map encV).length = v.l.length := by simp
  have he : limP E 43 [.sl (v.l.map encV), .sl [], .fn 15 []] = some [.bool (decide (v.l.length = 0))] := by
    cases hl : v.l with
 | nil => exact eqfun_ok H2 H.raw [] (by simp) (by simp)
 | cons x l =>
      have H := H2
      have hll2 : ((x :: l).map encV).length = l.length + 1 := by simp
      have w1 : binA .neq .no (.pv (.int .i64 ((l.length : Int) + 1))) (.pv (.int .i64 0)) = some (.pv (.bool true)) := by simp [binA, intBin]; omega
      have e0 : decide ((x :: l).length = 0) = false := by simp
      rw [e0]
      generalize (x :: l).map encV = L at hll2
      refine H.limQ (Nat.le_of_ble_eq_true rfl) ?_; unfold c43
      (repeat' first
 | apply X.retS
 | (apply X.condQ rfl; (focus (simp only [SB, reduceIte, Nat.reduceEqDiff]; with_reducible rfl)); all_goals (intro hbr; first | exact absurd hbr (by decide) | ((try rw [hbr]); (try simp at hbr))))
 | apply X.stepZ
 | (apply X.stepQ rfl; (focus (simp only [SB, reduceIte, Nat.reduceEqDiff]; with_reducible rfl)); (focus (simp [-getElem?_pos, -binA, hll2, w1]; with_reducible (first | rfl | exact ⟨rfl, rfl⟩))))
 | fail)
      all_goals (refine Fin.mkQ rfl (by simp only [resS, SB, reduceIte, Nat.reduceEqDiff]; with_reducible rfl) (by simp [oneOf, pureRes, snapFuel, snapL]; with_reducible rfl) ?_)
      all_goals rfl
  unfold isZ
  have w1 : binA .eql .no (.pv (.int .i64 v.k)) (.pv (.int .i64 0)) = some (.pv (.bool (decide (v.k = 0)))) := by
    simp [binA, intBin]
    rfl
  have w2 : binA .eql .no (.pv (.int .u8 v.b)) (.pv (.int .u8 0)) = some (.pv (.bool (decide (v.b = 0)))) := by
    simp [binA, intBin]
    rfl
  rw [eV]
  generalize decide (v.k = 0) = p1 at w1 ⊢
  generalize decide (v.b = 0) = p2 at w2 ⊢
  generalize decide (v.l.length = 0) = p3 at he ⊢
  cases p1 with
  | false =>
    refine H.limQ (Nat.le_of_ble_eq_true rfl) ?_; unfold c15
    (repeat' first
 | apply X.retS
 | apply X.stepZ
 | (apply X.stepQ rfl; (focus (simp only [SB, reduceIte, Nat.reduceEqDiff]; with_reducible rfl)); (focus (simp [-getElem?_pos, -binA, w1, w2, H2.raw, he]; with_reducible (first | rfl | exact ⟨rfl, rfl⟩))))
 | ((first | apply X.stepGtQ rfl | apply X.stepGfQ rfl); (focus (simp only [SB, reduceIte, Nat.reduceEqDiff]; with_reducible rfl)); all_goals (intro hbr; first | exact absurd hbr (by decide) | ((try rw [hbr]); (try simp at hbr))))
 | fail)
    all_goals (refine Fin.mkQ rfl (by simp only [resS, SB, reduceIte, Nat.reduceEqDiff]; with_reducible rfl) (by simp [oneOf, pureRes, snapFuel, snapL]; with_reducible rfl) ?_)
    all_goals rfl
  | true =>
    cases p2 with
 | false =>
      refine H.limQ (Nat.le_of_ble_eq_true rfl) ?_; unfold c15
      (repeat' first
 | apply X.retS
 | apply X.stepZ
 | (apply X.stepQ rfl; (focus (simp only [SB, reduceIte, Nat.reduceEqDiff]; with_reducible rfl)); (focus (simp [-getElem?_pos, -binA, w1, w2, H2.raw, he]; with_reducible (first | rfl | exact ⟨rfl, rfl⟩))))
 | ((first | apply X.stepGtQ rfl | apply X.stepGfQ rfl); (focus (simp only [SB, reduceIte, Nat.reduceEqDiff]; with_reducible rfl)); all_goals (intro hbr; first | exact absurd hbr (by decide) | ((try rw [hbr]); (try simp at hbr))))
 | fail)
      all_goals (refine Fin.mkQ rfl (by simp only [resS, SB, reduceIte, Nat.reduceEqDiff]; with_reducible rfl) (by simp [oneOf, pureRes, snapFuel, snapL]; with_reducible rfl) ?_)
      all_goals rfl
 | true =>
      refine H.limQ (Nat.le_of_ble_eq_true rfl) ?_; unfold c15
      (repeat' first
 | apply X.retS
 | apply X.stepZ
 | (apply X.stepQ rfl; (focus (simp only [SB, reduceIte, Nat.reduceEqDiff]; with_reducible rfl)); (focus (simp [-getElem?_pos, -binA, w1, w2, H2.raw, he]; with_reducible (first | rfl | exact ⟨rfl, rfl⟩))))
 | ((first | apply X.stepGtQ rfl | apply X.stepGfQ rfl); (focus (simp only [SB, reduceIte, Nat.reduceEqDiff]; with_reducible rfl)); all_goals (intro hbr; first | exact absurd hbr (by decide) | ((try rw [hbr]); (try simp at hbr))))
 | fail)
      all_goals (refine Fin.mkQ rfl (by simp only [resS, SB, reduceIte, Nat.reduceEqDiff]; with_reducible rfl) (by simp [oneOf, pureRes, snapFuel, snapL]; with_reducible rfl) ?_)
      all_goals rfl

def goodS (e a b : Int) (sp : List Sp) (v : Va) (q : Nat) : Bool :=
  if e < 0 ∨ 7 < e then false else
  if e ≠ 0 then decide (a = 0) && (decide (b = 0) && (decide (sp.length = 0) && (isZ v && nanB .f64 q))) else
  betweenS a b && (spansS a b sp && (shS v 500 2000).1)

theorem isnan3_ok (HH : HasG E) (q : Nat) : limP E 44 [.flt .f64 q] = some [.bool (nanB .f64 q)] := by
  have H := HH.isnan
  have h1 : binA .neq .no (.pv (.flt .f64 q)) (.pv (.flt .f64 q)) = some (.pv (.bool (nanB .f64 q))) := by
    cases h : nanB .f64 q with
 | true => exact ne_nan h
 | false => simp [binA, fltBin, ord_self h]
  generalize nanB .f64 q = p at h1 ⊢
  refine H.limQ (Nat.le_of_ble_eq_true rfl) ?_; unfold c44
  (repeat' first
 | apply X.retS
 | apply X.stepZ
 | (apply X.stepQ rfl; (focus (simp only [SB, reduceIte, Nat.reduceEqDiff]; with_reducible rfl)); (focus (simp [-getElem?_pos, -binA, h1]; with_reducible (first | rfl | exact ⟨rfl, rfl⟩))))
 | fail)
  all_goals (refine Fin.mkQ rfl (by simp only [resS, SB, reduceIte, Nat.reduceEqDiff]; with_reducible rfl) (by simp [oneOf, pureRes, snapFuel, snapL]; with_reducible rfl) ?_)
  all_goals rfl

set_option maxHeartbeats 16000000 in
theorem good_ok (HH : HasG E) (e a b : Int) (sp : List Sp) (v : Va) (q : Nat) (hl : sp.length ≤ 9223372036854775807) (hf : FineV v) : limP E 16 [encR e a b sp v q] = some [.bool (goodS e a b sp v q)] := by
  have H := HH.good
  have hz := same0_ok HH.same HH.eq v
  have hn := isnan3_ok HH q
  have hll : (sp.map encS).length = sp.length := by simp
  have w1 : binA .lss .no (.pv (.int .i64 e)) (.pv (.int .i64 0)) = some (.pv (.bool (decide (e < 0)))) := by simp [binA, intBin]
  have w2 : binA .gtr .no (.pv (.int .i64 e)) (.pv (.int .i64 7)) = some (.pv (.bool (decide (7 < e)))) := by simp [binA, intBin]
  have w3 : binA .neq .no (.pv (.int .i64 e)) (.pv (.int .i64 0)) = some (.pv (.bool (decide (e ≠ 0)))) := by
    simp [binA, intBin, bne]
    rfl
  unfold goodS
  rw [eV] at hz
  have h45 := between_ok HH.between a b
  have h46 := spans_ok HH e a b sp v q hl
  simp only [encR] at h46 ⊢
  by_cases h1 : e < 0
  · rw [decide_eq_true h1] at w1
    rw [if_pos (.inl h1)]
    refine H.limQ (Nat.le_of_ble_eq_true rfl) ?_; unfold c16
    (repeat' first
 | apply X.retS
 | (apply X.condQ rfl; (focus (simp only [SB, reduceIte, Nat.reduceEqDiff]; with_reducible rfl)); all_goals (intro hbr; first | exact absurd hbr (by decide) | ((try rw [hbr]); (try simp at hbr))))
 | apply X.stepZ
 | (apply X.stepQ rfl; (focus (simp only [SB, reduceIte, Nat.reduceEqDiff]; with_reducible rfl)); (focus (simp [-getElem?_pos, -binA, w1, w2]; with_reducible (first | rfl | exact ⟨rfl, rfl⟩))))
 | ((first | apply X.stepGtQ rfl | apply X.stepGfQ rfl); (focus (simp only [SB, reduceIte, Nat.reduceEqDiff]; with_reducible rfl)); all_goals (intro hbr; first | exact absurd hbr (by decide) | ((try rw [hbr]); (try simp at hbr))))
 | fail)
    all_goals (refine Fin.mkQ rfl (by simp only [resS, SB, reduceIte, Nat.reduceEqDiff]; with_reducible rfl) (by simp [oneOf, pureRes, snapFuel, snapL]; with_reducible rfl) ?_)
    all_goals rfl
  rw [decide_eq_false h1] at w1
  by_cases h2 : 7 < e
  · rw [decide_eq_true h2] at w2
    rw [if_pos (.inr h2)]
    refine H.limQ (Nat.le_of_ble_eq_true rfl) ?_; unfold c16
    (repeat' first
 | apply X.retS
 | (apply X.condQ rfl; (focus (simp only [SB, reduceIte, Nat.reduceEqDiff]; with_reducible rfl)); all_goals (intro hbr; first | exact absurd hbr (by decide) | ((try rw [hbr]); (try simp at hbr))))
 | apply X.stepZ
 | (apply X.stepQ rfl; (focus (simp only [SB, reduceIte, Nat.reduceEqDiff]; with_reducible rfl)); (focus (simp [-getElem?_pos, -binA, w1, w2]; with_reducible (first | rfl | exact ⟨rfl, rfl⟩))))
 | ((first | apply X.stepGtQ rfl | apply X.stepGfQ rfl); (focus (simp only [SB, reduceIte, Nat.reduceEqDiff]; with_reducible rfl)); all_goals (intro hbr; first | exact absurd hbr (by decide) | ((try rw [hbr]); (try simp at hbr))))
 | fail)
    all_goals (refine Fin.mkQ rfl (by simp only [resS, SB, reduceIte, Nat.reduceEqDiff]; with_reducible rfl) (by simp [oneOf, pureRes, snapFuel, snapL]; with_reducible rfl) ?_)
    all_goals rfl
  rw [decide_eq_false h2] at w2
  rw [if_neg (by omega)]
  by_cases h3 : e ≠ 0
  · rw [decide_eq_true h3] at w3
    rw [if_pos h3]
    have w4 : binA .eql .no (.pv (.int .i64 a)) (.pv (.int .i64 0)) = some (.pv (.bool (decide (a = 0)))) := by
      simp [binA, intBin]
      rfl
    have w5 : binA .eql .no (.pv (.int .i64 b)) (.pv (.int .i64 0)) = some (.pv (.bool (decide (b = 0)))) := by
      simp [binA, intBin]
      rfl
    have w6 : binA .eql .no (.pv (.int .i64 (sp.length : Int))) (.pv (.int .i64 0)) = some (.pv (.bool (decide (sp.length = 0)))) := by
      have : decide (sp.length = 0) = decide ((sp.length : Int) = 0) := by simp
      rw [this]
      simp only [binA, intBin]
      rfl
    have w7 := w6
    clear h45 h46
    generalize decide (a = 0) = p4 at w4 ⊢
    generalize decide (b = 0) = p5 at w5 ⊢
    generalize decide (sp.length = 0) = p6 at w6 w7 ⊢
    generalize isZ v = p7 at hz ⊢
    generalize nanB .f64 q = p8 at hn ⊢
    cases p4 with
 | false =>
      refine H.limQ (Nat.le_of_ble_eq_true rfl) ?_; unfold c16
      (repeat' first
 | apply X.retS
 | apply X.skipS
 | (apply X.condQ rfl; (focus (simp only [SB, reduceIte, Nat.reduceEqDiff]; with_reducible rfl)); all_goals (intro hbr; first | exact absurd hbr (by decide) | ((try rw [hbr]); (try simp at hbr))))
 | apply X.stepZ
 | (apply X.stepQ rfl; (focus (simp only [SB, reduceIte, Nat.reduceEqDiff]; with_reducible rfl)); (focus (simp [-getElem?_pos, -binA, w1, w2, w3, w4, w5, w6, w7, HH.same.raw, hz, HH.isnan.raw, hn, hll]; with_reducible (first | rfl | exact ⟨rfl, rfl⟩))))
 | ((first | apply X.stepGtQ rfl | apply X.stepGfQ rfl); (focus (simp only [SB, reduceIte, Nat.reduceEqDiff]; with_reducible rfl)); all_goals (intro hbr; first | exact absurd hbr (by decide) | ((try rw [hbr]); (try simp at hbr))))
 | fail)
      all_goals (refine Fin.mkQ rfl (by simp only [resS, SB, reduceIte, Nat.reduceEqDiff]; with_reducible rfl) (by simp [oneOf, pureRes, snapFuel, snapL]; with_reducible rfl) ?_)
      all_goals rfl
 | true =>
    cases p5 with
 | false =>
      refine H.limQ (Nat.le_of_ble_eq_true rfl) ?_; unfold c16
      (repeat' first
 | apply X.retS
 | apply X.skipS
 | (apply X.condQ rfl; (focus (simp only [SB, reduceIte, Nat.reduceEqDiff]; with_reducible rfl)); all_goals (intro hbr; first | exact absurd hbr (by decide) | ((try rw [hbr]); (try simp at hbr))))
 | apply X.stepZ
 | (apply X.stepQ rfl; (focus (simp only [SB, reduceIte, Nat.reduceEqDiff]; with_reducible rfl)); (focus (simp [-getElem?_pos, -binA, w1, w2, w3, w4, w5, w6, w7, HH.same.raw, hz, HH.isnan.raw, hn, hll]; with_reducible (first | rfl | exact ⟨rfl, rfl⟩))))
 | ((first | apply X.stepGtQ rfl | apply X.stepGfQ rfl); (focus (simp only [SB, reduceIte, Nat.reduceEqDiff]; with_reducible rfl)); all_goals (intro hbr; first | exact absurd hbr (by decide) | ((try rw [hbr]); (try simp at hbr))))
 | fail)
      all_goals (refine Fin.mkQ rfl (by simp only [resS, SB, reduceIte, Nat.reduceEqDiff]; with_reducible rfl) (by simp [oneOf, pureRes, snapFuel, snapL]; with_reducible rfl) ?_)
      all_goals rfl
 | true =>
    cases p6 with
 | false =>
      refine H.limQ (Nat.le_of_ble_eq_true rfl) ?_; unfold c16
      (repeat' first
 | apply X.retS
 | apply X.skipS
 | (apply X.condQ rfl; (focus (simp only [SB, reduceIte, Nat.reduceEqDiff]; with_reducible rfl)); all_goals (intro hbr; first | exact absurd hbr (by decide) | ((try rw [hbr]); (try simp at hbr))))
 | apply X.stepZ
 | (apply X.stepQ rfl; (focus (simp only [SB, reduceIte, Nat.reduceEqDiff]; with_reducible rfl)); (focus (simp [-getElem?_pos, -binA, w1, w2, w3, w4, w5, w6, w7, HH.same.raw, hz, HH.isnan.raw, hn, hll]; with_reducible (first | rfl | exact ⟨rfl, rfl⟩))))
 | ((first | apply X.stepGtQ rfl | apply X.stepGfQ rfl); (focus (simp only [SB, reduceIte, Nat.reduceEqDiff]; with_reducible rfl)); all_goals (intro hbr; first | exact absurd hbr (by decide) | ((try rw [hbr]); (try simp at hbr))))
 | fail)
      all_goals (refine Fin.mkQ rfl (by simp only [resS, SB, reduceIte, Nat.reduceEqDiff]; with_reducible rfl) (by simp [oneOf, pureRes, snapFuel, snapL]; with_reducible rfl) ?_)
      all_goals rfl
 | true =>
    cases p7 with
 | false =>
      refine H.limQ (Nat.le_of_ble_eq_true rfl) ?_; unfold c16
      (repeat' first
 | apply X.retS
 | apply X.skipS
 | (apply X.condQ rfl; (focus (simp only [SB, reduceIte, Nat.reduceEqDiff]; with_reducible rfl)); all_goals (intro hbr; first | exact absurd hbr (by decide) | ((try rw [hbr]); (try simp at hbr))))
 | apply X.stepZ
 | (apply X.stepQ rfl; (focus (simp only [SB, reduceIte, Nat.reduceEqDiff]; with_reducible rfl)); (focus (simp [-getElem?_pos, -binA, w1, w2, w3, w4, w5, w6, w7, HH.same.raw, hz, HH.isnan.raw, hn, hll]; with_reducible (first | rfl | exact ⟨rfl, rfl⟩))))
 | ((first | apply X.stepGtQ rfl | apply X.stepGfQ rfl); (focus (simp only [SB, reduceIte, Nat.reduceEqDiff]; with_reducible rfl)); all_goals (intro hbr; first | exact absurd hbr (by decide) | ((try rw [hbr]); (try simp at hbr))))
 | fail)
      all_goals (refine Fin.mkQ rfl (by simp only [resS, SB, reduceIte, Nat.reduceEqDiff]; with_reducible rfl) (by simp [oneOf, pureRes, snapFuel, snapL]; with_reducible rfl) ?_)
      all_goals rfl
 | true =>
    cases p8 with
 | false =>
      refine H.limQ (Nat.le_of_ble_eq_true rfl) ?_; unfold c16
      (repeat' first
 | apply X.retS
 | apply X.skipS
 | (apply X.condQ rfl; (focus (simp only [SB, reduceIte, Nat.reduceEqDiff]; with_reducible rfl)); all_goals (intro hbr; first | exact absurd hbr (by decide) | ((try rw [hbr]); (try simp at hbr))))
 | apply X.stepZ
 | (apply X.stepQ rfl; (focus (simp only [SB, reduceIte, Nat.reduceEqDiff]; with_reducible rfl)); (focus (simp [-getElem?_pos, -binA, w1, w2, w3, w4, w5, w6, w7, HH.same.raw, hz, HH.isnan.raw, hn, hll]; with_reducible (first | rfl | exact ⟨rfl, rfl⟩))))
 | ((first | apply X.stepGtQ rfl | apply X.stepGfQ rfl); (focus (simp only [SB, reduceIte, Nat.reduceEqDiff]; with_reducible rfl)); all_goals (intro hbr; first | exact absurd hbr (by decide) | ((try rw [hbr]); (try simp at hbr))))
 | fail)
      all_goals (refine Fin.mkQ rfl (by simp only [resS, SB, reduceIte, Nat.reduceEqDiff]; with_reducible rfl) (by simp [oneOf, pureRes, snapFuel, snapL]; with_reducible rfl) ?_)
      all_goals rfl
 | true =>
    refine H.limQ (Nat.le_of_ble_eq_true rfl) ?_; unfold c16
    (repeat' first
 | apply X.retS
 | apply X.skipS
 | (apply X.condQ rfl; (focus (simp only [SB, reduceIte, Nat.reduceEqDiff]; with_reducible rfl)); all_goals (intro hbr; first | exact absurd hbr (by decide) | ((try rw [hbr]); (try simp at hbr))))
 | apply X.stepZ
 | (apply X.stepQ rfl; (focus (simp only [SB, reduceIte, Nat.reduceEqDiff]; with_reducible rfl)); (focus (simp [-getElem?_pos, -binA, w1, w2, w3, w4, w5, w6, w7, HH.same.raw, hz, HH.isnan.raw, hn, hll]; with_reducible (first | rfl | exact ⟨rfl, rfl⟩))))
 | ((first | apply X.stepGtQ rfl | apply X.stepGfQ rfl); (focus (simp only [SB, reduceIte, Nat.reduceEqDiff]; with_reducible rfl)); all_goals (intro hbr; first | exact absurd hbr (by decide) | ((try rw [hbr]); (try simp at hbr))))
 | fail)
    all_goals (refine Fin.mkQ rfl (by simp only [resS, SB, reduceIte, Nat.reduceEqDiff]; with_reducible rfl) (by simp [oneOf, pureRes, snapFuel, snapL]; with_reducible rfl) ?_)
    all_goals rfl
  · rw [decide_eq_false h3] at w3
    rw [if_neg h3]
    clear hz hn
    have hlo : ∀ l : Heap, ent (l ++ [Ent.blk [.pv (.int .i64 2000)] (some 3)]) l.length = Ent.blk [.pv (.int .i64 2000)] (some 3) := fun l => ent_at0
    have hsh := fun (h : Heap) (li : Nat) (he : ent h li = .blk [.pv (.int .i64 2000)] (some 3)) => shaped_ok HH v hf 500 2000 h li (some 3) (by omega) (by omega) (by omega) (by omega) he
    generalize betweenS a b = p1 at h45 ⊢
    generalize spansS a b sp = p2 at h46 ⊢
    rw [eV] at hsh
    cases p1 with
 | false =>
      refine H.limQ (Nat.le_of_ble_eq_true rfl) ?_; unfold c16
      (repeat' first
 | apply X.retS
 | apply X.skipS
 | (apply X.condQ rfl; (focus (simp only [SB, reduceIte, Nat.reduceEqDiff]; with_reducible rfl)); all_goals (intro hbr; first | exact absurd hbr (by decide) | ((try rw [hbr]); (try simp at hbr))))
 | apply X.stepZ
 | (apply X.stepQ rfl; (focus (simp only [SB, reduceIte, Nat.reduceEqDiff]; with_reducible rfl)); (focus (simp [-getElem?_pos, -binA, w1, w2, w3, HH.between.raw, h45, HH.spans.raw, h46]; with_reducible (first | rfl | exact ⟨rfl, rfl⟩))))
 | ((first | apply X.stepGtQ rfl | apply X.stepGfQ rfl); (focus (simp only [SB, reduceIte, Nat.reduceEqDiff]; with_reducible rfl)); all_goals (intro hbr; first | exact absurd hbr (by decide) | ((try rw [hbr]); (try simp at hbr))))
 | fail)
      all_goals (refine Fin.mkQ rfl (by simp only [resS, SB, reduceIte, Nat.reduceEqDiff]; with_reducible rfl) (by simp [oneOf, pureRes, snapFuel, snapL]; with_reducible rfl) ?_)
      all_goals rfl
 | true =>
      cases p2 with
      | false =>
        refine H.limQ (Nat.le_of_ble_eq_true rfl) ?_; unfold c16
        (repeat' first
 | apply X.retS
 | apply X.skipS
 | (apply X.condQ rfl; (focus (simp only [SB, reduceIte, Nat.reduceEqDiff]; with_reducible rfl)); all_goals (intro hbr; first | exact absurd hbr (by decide) | ((try rw [hbr]); (try simp at hbr))))
 | apply X.stepZ
 | (apply X.stepQ rfl; (focus (simp only [SB, reduceIte, Nat.reduceEqDiff]; with_reducible rfl)); (focus (simp [-getElem?_pos, -binA, w1, w2, w3, HH.between.raw, h45, HH.spans.raw, h46]; with_reducible (first | rfl | exact ⟨rfl, rfl⟩))))
 | ((first | apply X.stepGtQ rfl | apply X.stepGfQ rfl); (focus (simp only [SB, reduceIte, Nat.reduceEqDiff]; with_reducible rfl)); all_goals (intro hbr; first | exact absurd hbr (by decide) | ((try rw [hbr]); (try simp at hbr))))
 | fail)
        all_goals (refine Fin.mkQ rfl (by simp only [resS, SB, reduceIte, Nat.reduceEqDiff]; with_reducible rfl) (by simp [oneOf, pureRes, snapFuel, snapL]; with_reducible rfl) ?_)
        all_goals rfl
      | true =>
        refine H.limQ (Nat.le_of_ble_eq_true rfl) ?_; unfold c16
        (repeat' first
 | apply X.skipS
 | (apply X.condQ rfl; (focus (simp only [SB, reduceIte, Nat.reduceEqDiff]; with_reducible rfl)); all_goals (intro hbr; first | exact absurd hbr (by decide) | ((try rw [hbr]); (try simp at hbr))))
 | apply X.stepZ
 | (apply X.stepQ rfl; (focus (simp only [SB, reduceIte, Nat.reduceEqDiff]; with_reducible rfl)); (focus (simp [-getElem?_pos, -binA, w1, w2, w3, HH.between.raw, h45, HH.spans.raw, h46]; with_reducible (first | rfl | exact ⟨rfl, rfl⟩))))
 | ((first | apply X.stepGtQ rfl | apply X.stepGfQ rfl); (focus (simp only [SB, reduceIte, Nat.reduceEqDiff]; with_reducible rfl)); all_goals (intro hbr; first | exact absurd hbr (by decide) | ((try rw [hbr]); (try simp at hbr))))
 | fail)
        refine X.callRQ (P := _) rfl (by simp only [SB, reduceIte, Nat.reduceEqDiff]; all_goals (first | with_reducible rfl | (simp <;> with_reducible rfl))) HH.shaped.raw (by simp [pures]) (hsh _ _ rfl) ?_
        rintro r h2 ⟨rfl, _⟩
        (repeat' first
 | apply X.retS
 | apply X.stepZ
 | (apply X.stepQ rfl; (focus (simp only [SB, reduceIte, Nat.reduceEqDiff]; with_reducible rfl)); (focus (simp [-getElem?_pos]; with_reducible (first | rfl | exact ⟨rfl, rfl⟩))))
 | fail)
        all_goals (refine Fin.mkQ rfl (by simp only [resS, SB, reduceIte, Nat.reduceEqDiff]; with_reducible rfl) (by simp [oneOf, pureRes, snapFuel, snapL]; with_reducible rfl) ?_)
        all_goals simp
end Rp

-- Calls that make a slice of bytes longer, on masked heaps.
namespace Rp
open Go Ab Go.Proofs.Ytdacifedlemlmaa.Mach
variable {E : Env}

def FB (b : V) : List Nat := match idOf b with
  | some i => [i]
  | none => []
theorem Buf.ids {h : Heap} {t : TypeId} {b : V} {es : List PV} (hb : Buf h t b es) : V.ids b = FB b := by
  rcases hb with ⟨_, rfl⟩ | ⟨_, id, rfl, _⟩ <;> simp [V.ids, FB, idOf]
theorem idsL_pv : ∀ es : List PV, V.ids.idsL (es.map V.pv) = []
  | [] => rfl
  | p :: es => by simp [V.ids.idsL, V.ids, idsL_pv es]
theorem reach_buf {h : Heap} {t : TypeId} {b : V} {es : List PV} (hb : Buf h t b es) {vs : List V} (hv : vs.flatMap V.ids = V.ids b) : reach h h.length (addNew [] (vs.flatMap V.ids)) = FB b := by
  rw [hv, hb.ids]
  rcases hb with ⟨_, rfl⟩ | ⟨_, id, rfl, ty, h3⟩
  · simp [FB, idOf, addNew, reach_nil]
  · have hlt : id < h.length := by
      rcases Nat.lt_or_ge id h.length with h1 | h1
      · exact h1
      · simp [ent, List.getElem?_eq_none h1] at h3
    obtain ⟨n, hn⟩ : ∃ n, h.length = n + 1 := ⟨h.length - 1, by omega⟩
    rw [hn]
    simp [FB, idOf, addNew, reach, h3, entIds, idsL_pv]
theorem ent_mask_in {F : List Nat} {h : Heap} {i : Nat} (hi : i ∈ F) : ent (mask F h) i = ent h i := by
  simp only [ent, mask, List.getElem?_mapIdx]
  cases h[i]? <;> simp [hi]
theorem Buf.masked {h : Heap} {t : TypeId} {b : V} {es : List PV} (hb : Buf h t b es) : Buf (mask (FB b) h) t b es := by
  rcases hb with ⟨h1, rfl⟩ | ⟨h1, id, rfl, ty, h3⟩
  · exact .inl ⟨h1, rfl⟩
  · exact .inr ⟨h1, id, rfl, ty, by rw [ent_mask_in (by simp [FB, idOf])]; exact h3⟩
theorem ent_merge_in {F : List Nat} {h h1 : Heap} {i : Nat} (hi : i ∈ F ∨ h.length ≤ i) : ent (merge F h h1) i = ent h1 i := by
  simp only [ent, merge, List.getElem?_mapIdx]
  cases h1[i]? with
  | none => rfl
  | some e => rcases hi with hi | hi <;> simp [hi]
theorem ent_merge_out {F : List Nat} {h h1 : Heap} {i : Nat} (hi : i ∉ F) (hl : i < h.length) (hle : h.length ≤ h1.length) : ent (merge F h h1) i = ent h i := by
  have h2 : i < h1.length := by omega
  simp only [ent, merge, List.getElem?_mapIdx, List.getElem?_eq_getElem h2, Option.map_some, Option.getD_some]
  have : ¬ h.length ≤ i := by omega
  simp [hi, this]
theorem merge_len {F : List Nat} {h h1 : Heap} : (merge F h h1).length = h1.length := by simp [merge]
theorem Buf.call_masked {h : Heap} {t : TypeId} {b : V} {es es' : List PV} {g : FuncId} {vs : List V} (hb : Buf h t b es) (hc : ∀ h : Heap, Buf h t b es → ∃ b' h', limR E g vs h = some (b', h') ∧ (Buf h' t b' es' ∧ Fr h b h' b')) :
    ∃ b' h1, limR E g vs (mask (FB b) h) = some (b', h1) ∧ h.length ≤ h1.length ∧ (Buf (merge (FB b) h h1) t b' es' ∧ Fr h b (merge (FB b) h h1) b') := by
  obtain ⟨b', h1, e1, e2, e3⟩ := hc _ hb.masked
  have hlen := e3.len
  rw [length_mask] at hlen
  have hidF : ∀ i, idOf b = some i → i ∈ FB b := fun i hi => by simp [FB, hi]
  have hFid : ∀ i, i ∈ FB b → idOf b = some i := fun i hi => by
    unfold FB at hi
    split at hi
    · rename_i j hj
      simp only [List.mem_singleton] at hi
      rw [hj, hi]
    · cases hi
  refine ⟨b', h1, e1, hlen, ?_, ⟨by rw [merge_len]; exact hlen, fun i hi hv => ent_merge_out (fun hh => hv (hFid i hh)) hi hlen, fun i hi => ?_⟩⟩
  · rcases e2 with ⟨h2, rfl⟩ | ⟨h2, id, rfl, ty, h3⟩
    · exact .inl ⟨h2, rfl⟩
    · refine .inr ⟨h2, id, rfl, ty, ?_⟩
      rw [ent_merge_in]
      · exact h3
      · rcases e3.id id rfl with h4 | h4
        · exact .inl (hidF id h4)
        · rw [length_mask] at h4; exact .inr h4
  · have := e3.id i hi
    rwa [length_mask] at this

theorem killB_mask {F : List Nat} {G : Heap} {b : V} {l : Heap} (hF : ∀ i, idOf b = some i → i ∈ F) : merge F G (killB (mask F G) b ++ l) = killB G b ++ l := by
  unfold killB
  cases hi : idOf b with
  | none => exact merge_mask_app
  | some i => exact merge_mask_set_app (by simpa using hF i hi)
theorem Buf.maskedF {h : Heap} {t : TypeId} {b : V} {es : List PV} (hb : Buf h t b es) {F : List Nat} (hF : ∀ i, idOf b = some i → i ∈ F) : Buf (mask F h) t b es := by
  rcases hb with ⟨h1, rfl⟩ | ⟨h1, id, rfl, ty, h3⟩
  · exact .inl ⟨h1, rfl⟩
  · exact .inr ⟨h1, id, rfl, ty, by rw [ent_mask_in (hF id rfl)]; exact h3⟩
theorem cut_all (l : List V) : cut l 0 (l.length * 1) = some l := by simp [cut]
theorem Buf.append_masked {hh : Heap} {b : V} {es : List PV} (hb : Buf hh 5 b es) (l : List Int) (hl : l ≠ []) (hle : es.length + l.length ≤ 35184372088832) {F : List Nat} (hF : F = FB b ++ [hh.length]) {p : FuncId → List PV → Option (List PV)} {r : FuncId → List V → Heap → Option (V × Heap)} :
    ∃ ty h1, opA E p r [] (mask F (hh ++ [.blk (l.map fun x => V.pv (.int .u8 x)) none])) (.append false true 1 1 5 (.val b) (.val (.sln hh.length 0 l.length 1 false))) = some (.sln (hh.length + 1) 0 (es.length + l.length) 1 false, h1) ∧ (hh ++ [Ent.blk (l.map fun x => V.pv (.int .u8 x)) none]).length ≤ h1.length ∧
      merge F (hh ++ [.blk (l.map fun x => V.pv (.int .u8 x)) none]) h1 = killB hh b ++ ([.blk (l.map fun x => V.pv (.int .u8 x)) none] ++ [.blk ((es ++ encB l).map .pv) ty]) := by
  have hid : ∀ i, idOf b = some i → i ∈ F := fun i hi => by rw [hF]; simp [FB, hi]
  have hbm : Buf (mask F (hh ++ [.blk (l.map fun x => V.pv (.int .u8 x)) none])) 5 b es := (hb.more).maskedF hid
  obtain ⟨ty, h1⟩ := hbm.appB l hl (bytes := 1) (by omega)
  have h2 := h1 []
  simp only [List.append_nil, List.length_nil, Nat.add_zero, List.nil_append, length_mask] at h2
  have he : ent (mask F (hh ++ [.blk (l.map fun x => V.pv (.int .u8 x)) none])) hh.length = .blk (l.map fun x => V.pv (.int .u8 x)) none := by
    rw [ent_mask_in (by rw [hF]; simp), ent_at0]; rfl
  have hsc : srcCells (mask F (hh ++ [.blk (l.map fun x => V.pv (.int .u8 x)) none])) 1 (.sln hh.length 0 l.length 1 false) = some (l.map fun x => V.pv (.int .u8 x)) := by
    have := cut_all (l.map fun x => V.pv (.int .u8 x))
    rw [List.length_map] at this
    simp only [srcCells, he, if_true, this]
  refine ⟨ty, killB (mask F (hh ++ [.blk (l.map fun x => V.pv (.int .u8 x)) none])) b ++ [.blk ((es ++ encB l).map .pv) ty], ?_, ?_, ?_⟩
  · simp only [opA, St.eval, Ab.lenA, hsc]
    rw [h2]
    simp
  · simp [killB_len, length_mask]
  · rw [killB_mask hid, killB_app hb, List.append_assoc]
theorem cellsB : ∀ l : List Int, ((l.map (PV.int .u8)).flatMap PV.cells).map V.pv = l.map fun x => V.pv (.int .u8 x)
  | [] => rfl
  | x :: l => by simp only [List.map_cons, List.flatMap_cons, List.map_append, cellsB l]; rfl
theorem Buf.append_pure {hh : Heap} {b : V} {es : List PV} (hb : Buf hh 5 b es) (l : List Int) (hl : l ≠ []) (hle : es.length + l.length ≤ 35184372088832) {F : List Nat} (hF : F = FB b) {p : FuncId → List PV → Option (List PV)} {r : FuncId → List V → Heap → Option (V × Heap)} :
    ∃ ty h1, opA E p r [] (mask F hh) (.append false true 1 1 5 (.val b) (.val (.pv (.sl (encB l))))) = some (.sln hh.length 0 (es.length + l.length) 1 false, h1) ∧ hh.length ≤ h1.length ∧
      merge F hh h1 = killB hh b ++ ([] ++ [.blk ((es ++ encB l).map .pv) ty]) := by
  have hid : ∀ i, idOf b = some i → i ∈ F := fun i hi => by rw [hF]; simp [FB, hi]
  have hbm : Buf (mask F hh) 5 b es := hb.maskedF hid
  obtain ⟨ty, h1⟩ := hbm.appB l hl (bytes := 1) (by omega)
  have h2 := h1 []
  simp only [List.append_nil, List.length_nil, Nat.add_zero, List.nil_append, length_mask] at h2
  have hst : strideOk 1 (encB l) = true := strideOk_of fun e he => by
    simp [encB] at he
    obtain ⟨x, _, rfl⟩ := he
    rfl
  have hsc : srcCells (mask F hh) 1 (.pv (.sl (encB l))) = some (l.map fun x => V.pv (.int .u8 x)) := by
    simp only [srcCells, hst, if_true]
    simp only [encB, cellsB]
  refine ⟨ty, killB (mask F hh) b ++ [.blk ((es ++ encB l).map .pv) ty], ?_, ?_, ?_⟩
  · simp only [opA, St.eval, Ab.lenA, hsc, encB_len]
    exact h2
  · simp [killB_len, length_mask]
  · rw [killB_mask hid]; rfl
end Rp
