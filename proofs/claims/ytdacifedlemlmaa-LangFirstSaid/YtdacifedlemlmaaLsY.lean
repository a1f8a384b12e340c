/- LsY: steps, walks, laws: see the remarks within. -/
import Derived.Test.YtdacifedlemlmaaAbStep
import Derived.Test.YtdacifedlemlmaaLsC
import Derived.Test.YtdacifedlemlmaaLsW
set_option linter.unusedSimpArgs false
set_option linter.unusedVariables false
-- Big ones, told.
namespace Lng
open Go Ab Cps Go.Proofs.Ytdacifedlemlmaa.Mach
variable {E : Env}
/-- More than is asked of. -/
def bigS : Co → Int → Bool
  | .mk _ _ _ _ _ _ l, d => decide (d < 1) || (decide (3 < l.length) || bigL l (d - 1))
where
  bigL : List Co → Int → Bool
  | [], _ => false
  | x :: l, d => bigS x d || bigL l d
theorem bigS_eq (c : Co) (d : Int) : bigS c d = (decide (d < 1) || (decide (3 < c.l.length) || bigS.bigL c.l (d - 1))) := by cases c; rfl
set_option maxHeartbeats 4000000 in
theorem big_ok (H : Has E 18 c18) : ∀ c (d : Int), -9223372036854775808 ≤ d → d ≤ 9223372036854775807 → limP E 18 [encC c, .int .i64 d] = some [.bool (bigS c d)] := by
  refine Co.ind fun c ih d hd0 hd => ?_
  rw [bigS_eq, eC]
  by_cases h0 : d < 1
  · refine H.lim (Nat.le_of_ble_eq_true rfl) (by simp; with_reducible rfl) ?_; unfold c18
    (repeat' first
    | apply X.retS
    | apply X.skipS
    | apply X.skipB
    | apply X.skipL
    | (apply X.exitS; first | apply X.here | (refine X.out (by decide) ?_; apply X.here))
    | apply X.blockS
    | (apply X.condS rfl <;> intro hp <;> first | exact absurd hp (by decide) | ((try rw [hp]); (try simp at hp)))
    | apply X.stepZ
    | (apply X.step; (focus (simp [-getElem?_pos, h0]; with_reducible (first | rfl | exact ⟨rfl, rfl⟩))); (focus (simp; with_reducible rfl)))
    | (apply X.stepN rfl; (focus (simp; with_reducible rfl)))
    | ((first | apply X.stepGt rfl | apply X.stepGf rfl); (focus (simp; with_reducible rfl)); all_goals (intro hp; first | exact absurd hp (by decide) | ((try rw [hp]); (try simp at hp))))
    | (apply X.draw0; (focus rfl))
    | apply XD.nil
    | (apply XD.calm rfl; (focus (simp [-getElem?_pos, h0]; with_reducible (first | rfl | exact ⟨rfl, rfl⟩))); (focus (simp; with_reducible rfl)))
    | (apply XD.call; (focus (simp; with_reducible rfl)); (focus (simp; with_reducible rfl)); (focus (simp [-getElem?_pos, h0]; done)); (focus (simp [-getElem?_pos, h0]; with_reducible rfl)); (focus (simp; with_reducible rfl)))
    | (apply XD.stepN rfl; (focus (simp; with_reducible rfl)))
    | ((first | apply XD.stepGt rfl | apply XD.stepGf rfl); (focus (simp; with_reducible rfl)); all_goals (intro hp; first | exact absurd hp (by decide) | ((try rw [hp]); (try simp at hp))))
    | (apply XD.loud; (focus (simp [-getElem?_pos, h0]; with_reducible (first | rfl | exact ⟨rfl, rfl⟩))); (focus (simp; done)); (focus (simp; with_reducible rfl)); (focus (simp; with_reducible rfl))))
    all_goals ((refine Fin.mk' (by simp [resA]; with_reducible rfl) (by simp [oneOf, pureRes, snapFuel, snapL]; with_reducible rfl) ?_); simp [h0])
  · have hw : IntKind.i64.wrap (d - 1) = d - 1 := wrap_i64 (by omega)
    by_cases hl : 3 < c.l.length
    · have hl2 : (3 : Int) < (c.l.length : Int) := by omega
      refine H.lim (Nat.le_of_ble_eq_true rfl) (by simp; with_reducible rfl) ?_; unfold c18
      (repeat' first
    | apply X.retS
    | apply X.skipS
    | apply X.skipB
    | apply X.skipL
    | (apply X.exitS; first | apply X.here | (refine X.out (by decide) ?_; apply X.here))
    | apply X.blockS
    | (apply X.condS rfl <;> intro hp <;> first | exact absurd hp (by decide) | ((try rw [hp]); (try simp at hp)))
    | apply X.stepZ
    | (apply X.step; (focus (simp [-getElem?_pos, h0, hl, hl2]; with_reducible (first | rfl | exact ⟨rfl, rfl⟩))); (focus (simp; with_reducible rfl)))
    | (apply X.stepN rfl; (focus (simp; with_reducible rfl)))
    | ((first | apply X.stepGt rfl | apply X.stepGf rfl); (focus (simp; with_reducible rfl)); all_goals (intro hp; first | exact absurd hp (by decide) | ((try rw [hp]); (try simp at hp))))
    | (apply X.draw0; (focus rfl))
    | apply XD.nil
    | (apply XD.calm rfl; (focus (simp [-getElem?_pos, h0, hl, hl2]; with_reducible (first | rfl | exact ⟨rfl, rfl⟩))); (focus (simp; with_reducible rfl)))
    | (apply XD.call; (focus (simp; with_reducible rfl)); (focus (simp; with_reducible rfl)); (focus (simp [-getElem?_pos, h0, hl, hl2]; done)); (focus (simp [-getElem?_pos, h0, hl, hl2]; with_reducible rfl)); (focus (simp; with_reducible rfl)))
    | (apply XD.stepN rfl; (focus (simp; with_reducible rfl)))
    | ((first | apply XD.stepGt rfl | apply XD.stepGf rfl); (focus (simp; with_reducible rfl)); all_goals (intro hp; first | exact absurd hp (by decide) | ((try rw [hp]); (try simp at hp))))
    | (apply XD.loud; (focus (simp [-getElem?_pos, h0, hl, hl2]; with_reducible (first | rfl | exact ⟨rfl, rfl⟩))); (focus (simp; done)); (focus (simp; with_reducible rfl)); (focus (simp; with_reducible rfl))))
      all_goals ((refine Fin.mk' (by simp [resA]; with_reducible rfl) (by simp [oneOf, pureRes, snapFuel, snapL]; with_reducible rfl) ?_); simp [h0, hl])
    · have hl2 : ¬ (3 : Int) < (c.l.length : Int) := by omega
      refine H.lim (Nat.le_of_ble_eq_true rfl) (by simp; with_reducible rfl) ?_; unfold c18
      (repeat' first
    | apply X.retS
    | apply X.skipS
    | apply X.skipB
    | apply X.skipL
    | (apply X.exitS; first | apply X.here | (refine X.out (by decide) ?_; apply X.here))
    | apply X.blockS
    | (apply X.condS rfl <;> intro hp <;> first | exact absurd hp (by decide) | ((try rw [hp]); (try simp at hp)))
    | apply X.stepZ
    | (apply X.step; (focus (simp [-getElem?_pos, h0, hl, hl2]; with_reducible (first | rfl | exact ⟨rfl, rfl⟩))); (focus (simp; with_reducible rfl)))
    | (apply X.stepN rfl; (focus (simp; with_reducible rfl)))
    | ((first | apply X.stepGt rfl | apply X.stepGf rfl); (focus (simp; with_reducible rfl)); all_goals (intro hp; first | exact absurd hp (by decide) | ((try rw [hp]); (try simp at hp))))
    | (apply X.draw0; (focus rfl))
    | apply XD.nil
    | (apply XD.calm rfl; (focus (simp [-getElem?_pos, h0, hl, hl2]; with_reducible (first | rfl | exact ⟨rfl, rfl⟩))); (focus (simp; with_reducible rfl)))
    | (apply XD.call; (focus (simp; with_reducible rfl)); (focus (simp; with_reducible rfl)); (focus (simp [-getElem?_pos, h0, hl, hl2]; done)); (focus (simp [-getElem?_pos, h0, hl, hl2]; with_reducible rfl)); (focus (simp; with_reducible rfl)))
    | (apply XD.stepN rfl; (focus (simp; with_reducible rfl)))
    | ((first | apply XD.stepGt rfl | apply XD.stepGf rfl); (focus (simp; with_reducible rfl)); all_goals (intro hp; first | exact absurd hp (by decide) | ((try rw [hp]); (try simp at hp))))
    | (apply XD.loud; (focus (simp [-getElem?_pos, h0, hl, hl2]; with_reducible (first | rfl | exact ⟨rfl, rfl⟩))); (focus (simp; done)); (focus (simp; with_reducible rfl)); (focus (simp; with_reducible rfl))))
      refine X.forS c.l.length (fun j st => bigS.bigL (c.l.drop j) (d - 1) = bigS.bigL c.l (d - 1) ∧ ∃ ts, Pat [none, some (.pv (.int .i64 d)), some (.ptr 0 0), none, none, some (.pv (.int .i64 j)), none, none, none, none, none, none, none, none, none, none, none, none, none, none, none, none, none, none, none, none, none, none, none] ts ∧
        st = ⟨ts, [.blk [.pv (.int .i64 c.k), .pv (.int .u64 c.s0), .pv (.int .u64 c.s1), .pv (.int .u64 c.s2), .pv (.int .u64 c.s3), .pv (.int .i64 c.n), .pv (.sl (c.l.map encC))] none]⟩) ?_ ?_
      · exact ⟨rfl, _, by simp [Pat], rfl⟩
      rintro j st hj ⟨hi, ts, hts, rfl⟩
      obtain ⟨f, rfl⟩ := hts.fill
      simp only [Ab.fill, Nat.reduceAdd]
      clear hts
      rcases Nat.lt_or_ge j c.l.length with hj1 | hj1
      · obtain ⟨x, hx⟩ := at_of_lt hj1
        have hc := ih x (List.mem_of_getElem? hx) (d - 1) (by omega) (by omega)
        have hww : IntKind.i64.wrap ((j : Int) + 1) = (j : Int) + 1 := wrap_i64 (by omega)
        rw [drop_at hx] at hi
        simp only [bigS.bigL] at hi
        rw [eC] at hc
        clear ih
        cases hb : bigS x (d - 1) with
        | true =>
          rw [hb] at hc hi
          (repeat' first
    | apply X.retS
    | apply X.skipS
    | apply X.skipB
    | apply X.skipL
    | (apply X.exitS; first | apply X.here | (refine X.out (by decide) ?_; apply X.here))
    | apply X.blockS
    | (apply X.condS rfl <;> intro hp <;> first | exact absurd hp (by decide) | ((try rw [hp]); (try simp at hp)))
    | apply X.stepZ
    | (apply X.step; (focus (simp [-getElem?_pos, hj1, hx, eC, hw, H.raw, hc]; with_reducible (first | rfl | exact ⟨rfl, rfl⟩))); (focus (simp; with_reducible rfl)))
    | (apply X.stepN rfl; (focus (simp; with_reducible rfl)))
    | ((first | apply X.stepGt rfl | apply X.stepGf rfl); (focus (simp; with_reducible rfl)); all_goals (intro hp; first | exact absurd hp (by decide) | ((try rw [hp]); (try simp at hp))))
    | (apply X.draw0; (focus rfl))
    | apply XD.nil
    | (apply XD.calm rfl; (focus (simp [-getElem?_pos, hj1, hx, eC, hw, H.raw, hc]; with_reducible (first | rfl | exact ⟨rfl, rfl⟩))); (focus (simp; with_reducible rfl)))
    | (apply XD.call; (focus (simp; with_reducible rfl)); (focus (simp; with_reducible rfl)); (focus (simp [-getElem?_pos, hj1, hx, eC, hw, H.raw, hc]; done)); (focus (simp [-getElem?_pos, hj1, hx, eC, hw, H.raw, hc]; with_reducible rfl)); (focus (simp; with_reducible rfl)))
    | (apply XD.stepN rfl; (focus (simp; with_reducible rfl)))
    | ((first | apply XD.stepGt rfl | apply XD.stepGf rfl); (focus (simp; with_reducible rfl)); all_goals (intro hp; first | exact absurd hp (by decide) | ((try rw [hp]); (try simp at hp))))
    | (apply XD.loud; (focus (simp [-getElem?_pos, hj1, hx, eC, hw, H.raw, hc]; with_reducible (first | rfl | exact ⟨rfl, rfl⟩))); (focus (simp; done)); (focus (simp; with_reducible rfl)); (focus (simp; with_reducible rfl))))
          all_goals ((refine Fin.mk' (by simp [resA]; with_reducible rfl) (by simp [oneOf, pureRes, snapFuel, snapL]; with_reducible rfl) ?_); simp [← hi, h0, hl])
        | false =>
          rw [hb] at hc hi
          (repeat' first
    | apply X.retS
    | apply X.skipS
    | apply X.skipB
    | apply X.skipL
    | (apply X.exitS; first | apply X.here | (refine X.out (by decide) ?_; apply X.here))
    | apply X.blockS
    | (apply X.condS rfl <;> intro hp <;> first | exact absurd hp (by decide) | ((try rw [hp]); (try simp at hp)))
    | apply X.stepZ
    | (apply X.step; (focus (simp [-getElem?_pos, hj1, hx, eC, hw, H.raw, hc, hww]; with_reducible (first | rfl | exact ⟨rfl, rfl⟩))); (focus (simp; with_reducible rfl)))
    | (apply X.stepN rfl; (focus (simp; with_reducible rfl)))
    | ((first | apply X.stepGt rfl | apply X.stepGf rfl); (focus (simp; with_reducible rfl)); all_goals (intro hp; first | exact absurd hp (by decide) | ((try rw [hp]); (try simp at hp))))
    | (apply X.draw0; (focus rfl))
    | apply XD.nil
    | (apply XD.calm rfl; (focus (simp [-getElem?_pos, hj1, hx, eC, hw, H.raw, hc, hww]; with_reducible (first | rfl | exact ⟨rfl, rfl⟩))); (focus (simp; with_reducible rfl)))
    | (apply XD.call; (focus (simp; with_reducible rfl)); (focus (simp; with_reducible rfl)); (focus (simp [-getElem?_pos, hj1, hx, eC, hw, H.raw, hc, hww]; done)); (focus (simp [-getElem?_pos, hj1, hx, eC, hw, H.raw, hc, hww]; with_reducible rfl)); (focus (simp; with_reducible rfl)))
    | (apply XD.stepN rfl; (focus (simp; with_reducible rfl)))
    | ((first | apply XD.stepGt rfl | apply XD.stepGf rfl); (focus (simp; with_reducible rfl)); all_goals (intro hp; first | exact absurd hp (by decide) | ((try rw [hp]); (try simp at hp))))
    | (apply XD.loud; (focus (simp [-getElem?_pos, hj1, hx, eC, hw, H.raw, hc, hww]; with_reducible (first | rfl | exact ⟨rfl, rfl⟩))); (focus (simp; done)); (focus (simp; with_reducible rfl)); (focus (simp; with_reducible rfl))))
          exact ⟨hj1, by simpa using hi, _, by simp [Pat], rfl⟩
      · have hj2 : ¬ j < c.l.length := by omega
        rw [List.drop_eq_nil_of_le hj1] at hi
        simp only [bigS.bigL] at hi
        clear ih
        (repeat' first
    | apply X.retS
    | apply X.skipS
    | apply X.skipB
    | apply X.skipL
    | (apply X.exitS; first | apply X.here | (refine X.out (by decide) ?_; apply X.here))
    | apply X.blockS
    | (apply X.condS rfl <;> intro hp <;> first | exact absurd hp (by decide) | ((try rw [hp]); (try simp at hp)))
    | apply X.stepZ
    | (apply X.step; (focus (simp [-getElem?_pos, hj2]; with_reducible (first | rfl | exact ⟨rfl, rfl⟩))); (focus (simp; with_reducible rfl)))
    | (apply X.stepN rfl; (focus (simp; with_reducible rfl)))
    | ((first | apply X.stepGt rfl | apply X.stepGf rfl); (focus (simp; with_reducible rfl)); all_goals (intro hp; first | exact absurd hp (by decide) | ((try rw [hp]); (try simp at hp))))
    | (apply X.draw0; (focus rfl))
    | apply XD.nil
    | (apply XD.calm rfl; (focus (simp [-getElem?_pos, hj2]; with_reducible (first | rfl | exact ⟨rfl, rfl⟩))); (focus (simp; with_reducible rfl)))
    | (apply XD.call; (focus (simp; with_reducible rfl)); (focus (simp; with_reducible rfl)); (focus (simp [-getElem?_pos, hj2]; done)); (focus (simp [-getElem?_pos, hj2]; with_reducible rfl)); (focus (simp; with_reducible rfl)))
    | (apply XD.stepN rfl; (focus (simp; with_reducible rfl)))
    | ((first | apply XD.stepGt rfl | apply XD.stepGf rfl); (focus (simp; with_reducible rfl)); all_goals (intro hp; first | exact absurd hp (by decide) | ((try rw [hp]); (try simp at hp))))
    | (apply XD.loud; (focus (simp [-getElem?_pos, hj2]; with_reducible (first | rfl | exact ⟨rfl, rfl⟩))); (focus (simp; done)); (focus (simp; with_reducible rfl)); (focus (simp; with_reducible rfl))))
        all_goals ((refine Fin.mk' (by simp [resA]; with_reducible rfl) (by simp [oneOf, pureRes, snapFuel, snapL]; with_reducible rfl) ?_); simp [← hi, h0, hl])


theorem szL_ge : ∀ (l : List Co) (n : Int), n ≤ szS.szL n l
  | [], n => Int.le_refl _
  | x :: l, n => by
    simp only [szS.szL]; split
    · exact Int.le_refl _
    · have := szL_ge l (n + szS x)
      have := (szS_pos x).1
      omega
theorem nodes_sz : ∀ c, szS c < 100000 → (nodes c : Int) = szS c := by
  refine Co.ind fun c ih h => ?_
  have key : ∀ (l : List Co) (n : Int), (∀ y ∈ l, szS y < 100000 → (nodes y : Int) = szS y) → 1 ≤ n → szS.szL n l < 100000 → szS.szL n l = n + (nodes.nodesL l : Int) := by
    intro l
    induction l with
    | nil => intro n _ _ _; simp [szS.szL, nodes.nodesL]
    | cons x l ihl =>
      intro n hh hn hlt
      simp only [szS.szL, nodes.nodesL] at hlt ⊢
      split at hlt
      · omega
      · rename_i hn2
        rw [if_neg hn2]
        have h1 := szL_ge l (n + szS x)
        have h2 := (szS_pos x).1
        have h3 := hh x (by simp) (by omega)
        rw [ihl (n + szS x) (fun y hy => hh y (by simp [hy])) (by omega) hlt]
        omega
  rw [szS_eq] at h ⊢
  split at h
  · omega
  · rename_i h'
    rw [if_neg h', nodes_eq', key c.l 1 ih (by omega) h]
    omega

theorem gcS_iff {c : Co} {d : Int} : gcS c d = true ↔ ¬ d < 1 ∧ (c.l.length : Int) = kidsS c.k ∧ ¬ (¬ c.k = 2 ∧ ¬ (c.s0 = 0 ∧ c.s1 = 0 ∧ c.s2 = 0 ∧ c.s3 = 0)) ∧ ¬ (c.k = 6 ∧ (c.n < 1 ∨ 32 < c.n)) ∧ ¬ (¬ c.k = 6 ∧ ¬ c.n = 0) ∧ ∀ y ∈ c.l, gcS y (d - 1) = true := by
  have key : (!(c.l.any fun y => !gcS y (d - 1))) = true ↔ ∀ y ∈ c.l, gcS y (d - 1) = true := by simp
  rw [gcS_eq]
  by_cases h1 : d < 1
  · rw [if_pos h1]; exact ⟨fun h => (by cases h), fun ⟨g, _⟩ => absurd h1 g⟩
  rw [if_neg h1]
  by_cases h2 : (c.l.length : Int) = kidsS c.k
  · rw [if_neg (not_not_intro h2)]
    by_cases h3 : ¬ c.k = 2 ∧ ¬ (c.s0 = 0 ∧ c.s1 = 0 ∧ c.s2 = 0 ∧ c.s3 = 0)
    · rw [if_pos h3]; exact ⟨fun h => (by cases h), fun ⟨_, _, g, _⟩ => absurd h3 g⟩
    rw [if_neg h3]
    by_cases h4 : c.k = 6 ∧ (c.n < 1 ∨ 32 < c.n)
    · rw [if_pos h4]; exact ⟨fun h => (by cases h), fun ⟨_, _, _, g, _⟩ => absurd h4 g⟩
    rw [if_neg h4]
    by_cases h5 : ¬ c.k = 6 ∧ ¬ c.n = 0
    · rw [if_pos h5]; exact ⟨fun h => (by cases h), fun ⟨_, _, _, _, g, _⟩ => absurd h5 g⟩
    rw [if_neg h5, key]
    exact ⟨fun h => ⟨h1, h2, h3, h4, h5, h⟩, fun h => h.2.2.2.2.2⟩
  · rw [if_pos h2]; exact ⟨fun h => (by cases h), fun ⟨_, g, _⟩ => absurd g h2⟩

theorem bigL_mem {d : Int} : ∀ {l : List Co}, bigS.bigL l d = false → ∀ y ∈ l, bigS y d = false
  | [], _, y, hy => by cases hy
  | x :: l, h, y, hy => by
    simp only [bigS.bigL, Bool.or_eq_false_iff] at h
    rcases List.mem_cons.1 hy with g | g
    · rw [g]; exact h.1
    · exact bigL_mem h.2 y g
/-- What is no deeper is good within a less depth. -/
theorem gcS_big : ∀ c (d d' b : Int), gcS c d = true → bigS c b = false → b ≤ d' → gcS c d' = true := by
  refine Co.ind fun c ih d d' b hg hb hle => ?_
  rw [bigS_eq] at hb
  simp only [Bool.or_eq_false_iff, decide_eq_false_iff_not] at hb
  obtain ⟨b1, _, b3⟩ := hb
  obtain ⟨g1, g2, g3, g4, g5, g6⟩ := gcS_iff.1 hg
  exact gcS_iff.2 ⟨by omega, g2, g3, g4, g5, fun y hy => ih y hy (d - 1) (d' - 1) (b - 1) (g6 y hy) (bigL_mem b3 y hy) (by omega)⟩
theorem goodC_iff {c : Co} : GoodC c = true ↔ szS c ≤ 2000 ∧ gcS c 8000 = true := by
  unfold GoodC
  by_cases h : szS c ≤ 2000 <;> simp [h]

def starC (c : Co) : Co := .mk 5 0 0 0 0 0 [c]
def seqC (a b : Co) : Co := .mk 3 0 0 0 0 0 [a, b]
theorem gc_star {c : Co} {d : Int} (h : gcS c (d - 1) = true) (hd : 1 ≤ d) : gcS (starC c) d = true :=
  gcS_iff.2 ⟨by omega, by simp [starC, Co.l, Co.k, kidsS], by simp [starC, Co.s0, Co.s1, Co.s2, Co.s3], by simp [starC, Co.k], by simp [starC, Co.n], by simpa [starC, Co.l] using h⟩
theorem gc_seq {a b : Co} {d : Int} (h : gcS a (d - 1) = true) (h' : gcS b (d - 1) = true) (hd : 1 ≤ d) : gcS (seqC a b) d = true :=
  gcS_iff.2 ⟨by omega, by simp [seqC, Co.l, Co.k, kidsS], by simp [seqC, Co.s0, Co.s1, Co.s2, Co.s3], by simp [seqC, Co.k], by simp [seqC, Co.n], by simpa [seqC, Co.l] using ⟨h, h'⟩⟩
theorem sz_star {c : Co} (h : szS c ≤ 1000) : szS (starC c) = 1 + szS c := by
  rw [szS_eq]; simp [starC, Co.l, szS.szL]; omega
theorem sz_seq {a b : Co} (h : szS a ≤ 1000) (h' : szS b ≤ 1000) : szS (seqC a b) = 1 + szS a + szS b := by
  rw [szS_eq]
  simp only [seqC, Co.l, szS.szL]
  rw [if_neg (show ¬ (100000 : Int) ≤ 1 by omega), if_neg (show ¬ (100000 : Int) ≤ 1 + szS a by omega), if_neg (by omega)]
theorem fine_star {c : Co} (h : FineC c) : FineC (starC c) := ⟨by simp, fineCL.2 (by simpa using h)⟩
theorem fine_seq {a b : Co} (h : FineC a) (h' : FineC b) : FineC (seqC a b) := ⟨by simp, fineCL.2 (by simpa using ⟨h, h'⟩)⟩
theorem lg_star {c : Co} {t : List Int} : Lg (starC c) t ↔ St (Lg c) t := by rw [Lg_eq]; simp [starC, Co.k, Co.l]; rfl
theorem lg_seq {a b : Co} {t : List Int} : Lg (seqC a b) t ↔ ∃ u v, t = u ++ v ∧ Lg a u ∧ Lg b v := by rw [Lg_eq]; simp [seqC, Co.k, Co.l]; rfl
theorem row_same {x y : Co} {s : List Int} (h : ∀ t, Lg x t ↔ Lg y t) (j : Nat) : rowS s x 0 j = rowS s y 0 j := by
  rw [Bool.eq_iff_iff, row_iff _ _ _ (Nat.zero_le _), row_iff _ _ _ (Nat.zero_le _), h]
theorem star_star {c : Co} (t : List Int) : Lg (starC c) t ↔ Lg (starC (starC c)) t := by
  rw [lg_star, lg_star]
  constructor
  · intro h; exact St.single (lg_star.2 h)
  · intro h
    have : St (St (Lg c)) t := h.mono fun u hu => lg_star.1 hu
    exact St.star.1 this
theorem star_seq {c : Co} (t : List Int) : Lg (starC c) t ↔ Lg (seqC (starC c) (starC c)) t := by
  rw [lg_seq]
  constructor
  · intro h; exact ⟨[], t, rfl, lg_star.2 St.nil, h⟩
  · rintro ⟨u, v, rfl, h1, h2⟩
    exact lg_star.2 ((lg_star.1 h1).app (lg_star.1 h2))
end Lng

-- Says, Ends, Null: walked.
namespace Lng
open Go Ab Cps Go.Proofs.Ytdacifedlemlmaa.Mach
variable {E : Env}

structure HasY (E : Env) : Prop where
  w : HasW E
  t : HasT E
  c : HasC E
  tsays : HasR E 50 c50
  says : Has E 22 c22
  ends : Has E 27 c27
  null : Has E 51 c51
  Null : Has E 25 c25
  ints : Has E 26 c26
  star : Has E 23 c23
  seq : Has E 20 c20

section
variable {B tid pid eid : Nat} {P : List Pt} {kvs : List V} {s : List Int} {h h' : Heap} {es es' : List V}
theorem row_keep (T : Tbl B h tid pid eid P kvs s es) (F : FrW s.length eid h es h' es') {v : V} {xs : List PV} (r : Row h v xs) : Row h' v xs := by
  rcases r with ⟨h1, h2⟩ | ⟨h1, tok, h2, h3⟩
  · exact .inl ⟨h1, h2⟩
  · refine .inr ⟨h1, tok, h2, ?_⟩
    rw [F.old tok (lt_of_ent' (by rw [h3]; simp)) ?_ ?_]
    · exact h3
    · rintro rfl
      obtain ⟨te, he⟩ := T.e
      rw [h3] at he; cases he
    · rintro a rid hv rfl
      obtain ⟨_, rs, tr, e1, _⟩ := T.rid hv
      rw [h3] at e1; cases e1
theorem Tbl.of_blk (T : Tbl B h tid pid eid P kvs s es) (hh : ∀ k cs t, ent h k = .blk cs t → ent h' k = .blk cs t) : Tbl B h' tid pid eid P kvs s es := by
  obtain ⟨tt, ht⟩ := T.t
  obtain ⟨tp, hp⟩ := T.p
  obtain ⟨te, he⟩ := T.e
  refine ⟨T.b1, T.b2, T.b3, ⟨tt, hh _ _ _ ht⟩, ⟨tp, hh _ _ _ hp⟩, ⟨te, hh _ _ _ he⟩, T.klen, T.elen, T.kids, fun a v hv => ?_, T.inj⟩
  rcases T.rows a v hv with h1 | ⟨rid, h1, hB, rs, tr, h2, h3, h4⟩
  · exact .inl h1
  · refine .inr ⟨rid, h1, hB, rs, tr, hh _ _ _ h2, h3, fun i w hw => ?_⟩
    rcases h4 i w hw with h5 | ⟨q, h5, ws, tq, h6, h7⟩
    · exact .inl h5
    · exact .inr ⟨q, h5, ws, tq, hh _ _ _ h6, h7⟩

theorem tsays_ok (HH : HasY E) (hs : s.length ≤ 256) (hb : ∀ x ∈ s, 0 ≤ x ∧ x < 256) {c : Co} (hsh : Sh c) {a i j : Nat} (T : Tbl B h tid pid eid P kvs s es) (hB : B ≤ h.length) (htr : Tree P c a) (hi : i ≤ s.length) (hj : j < 320) :
    ∃ v h', limR E 50 [.ptr tid 0, .pv (.int .i64 (a : Int)), .pv (.int .i64 (i : Int)), .pv (.int .i64 (j : Int))] h = some (v, h') ∧
      (v = .pv (.bool (rowS s c i j)) ∧ ∃ es', Tbl B h' tid pid eid P kvs s es' ∧ B ≤ h'.length ∧ FrW s.length eid h es h' es') := by
  have hrow := row_ok HH.w s hs hb c hsh B h tid pid eid P kvs es a i T hB htr hi
  refine HH.tsays.limQE (Nat.le_of_ble_eq_true rfl) ?_; unfold c50
  (repeat' first
    | apply X.retS
    | apply X.skipS
    | apply X.skipB
    | apply X.skipL
    | (apply X.exitS; first | apply X.here | (refine X.out (by decide) ?_; apply X.here))
    | apply X.blockS
    | (apply X.condQ rfl; (focus (simp only [sub, subO, subL, subM, sub3, sub2, fk_some, fk_none, fk_arg0, fk_argS, fk_argN, fk_map0, fk_mapS, fk_mapN, reduceIte, Nat.reduceEqDiff, Nat.reduceAdd]; with_reducible rfl)); all_goals (intro hbr; first | exact absurd hbr (by decide) | ((try rw [hbr]); (try simp at hbr))))
    | apply X.stepZ
    | (apply X.stepQ rfl; (focus (simp only [sub, subO, subL, subM, sub3, sub2, fk_some, fk_none, fk_arg0, fk_argS, fk_argN, fk_map0, fk_mapS, fk_mapN, reduceIte, Nat.reduceEqDiff, Nat.reduceAdd]; with_reducible rfl)); (focus (simp [-getElem?_pos]; with_reducible (first | rfl | exact ⟨rfl, rfl⟩))))
    | (apply X.stepNQ rfl; (focus (simp only [sub, subO, subL, subM, sub3, sub2, fk_some, fk_none, fk_arg0, fk_argS, fk_argN, fk_map0, fk_mapS, fk_mapN, reduceIte, Nat.reduceEqDiff, Nat.reduceAdd]; with_reducible rfl)))
    | ((first | apply X.stepGtQ rfl | apply X.stepGfQ rfl); (focus (simp only [sub, subO, subL, subM, sub3, sub2, fk_some, fk_none, fk_arg0, fk_argS, fk_argN, fk_map0, fk_mapS, fk_mapN, reduceIte, Nat.reduceEqDiff, Nat.reduceAdd]; with_reducible rfl)); all_goals (intro hbr; first | exact absurd hbr (by decide) | ((try rw [hbr]); (try simp at hbr)))))
  refine X.callRQ (P := _) rfl (by simp only [sub, subO, subL, subM, sub3, sub2, fk_some, fk_none, fk_arg0, fk_argS, fk_argN, fk_map0, fk_mapS, fk_mapN, reduceIte, Nat.reduceEqDiff, Nat.reduceAdd]; all_goals (first | with_reducible rfl | (simp <;> with_reducible rfl))) HH.w.row.raw (by simp [pures]) (hrow) ?_
  rintro v h2 ⟨q, es', ws, tq, rfl, e1, e2, T2, F2, _⟩
  (repeat' first
    | apply X.retS
    | apply X.skipS
    | apply X.skipB
    | apply X.skipL
    | (apply X.exitS; first | apply X.here | (refine X.out (by decide) ?_; apply X.here))
    | apply X.blockS
    | (apply X.condQ rfl; (focus (simp only [sub, subO, subL, subM, sub3, sub2, fk_some, fk_none, fk_arg0, fk_argS, fk_argN, fk_map0, fk_mapS, fk_mapN, reduceIte, Nat.reduceEqDiff, Nat.reduceAdd]; with_reducible rfl)); all_goals (intro hbr; first | exact absurd hbr (by decide) | ((try rw [hbr]); (try simp at hbr))))
    | apply X.stepZ
    | (apply X.stepQ rfl; (focus (simp only [sub, subO, subL, subM, sub3, sub2, fk_some, fk_none, fk_arg0, fk_argS, fk_argN, fk_map0, fk_mapS, fk_mapN, reduceIte, Nat.reduceEqDiff, Nat.reduceAdd]; with_reducible rfl)); (focus (simp [-getElem?_pos]; with_reducible (first | rfl | exact ⟨rfl, rfl⟩))))
    | (apply X.stepNQ rfl; (focus (simp only [sub, subO, subL, subM, sub3, sub2, fk_some, fk_none, fk_arg0, fk_argS, fk_argN, fk_map0, fk_mapS, fk_mapN, reduceIte, Nat.reduceEqDiff, Nat.reduceAdd]; with_reducible rfl)))
    | ((first | apply X.stepGtQ rfl | apply X.stepGfQ rfl); (focus (simp only [sub, subO, subL, subM, sub3, sub2, fk_some, fk_none, fk_arg0, fk_argS, fk_argN, fk_map0, fk_mapS, fk_mapN, reduceIte, Nat.reduceEqDiff, Nat.reduceAdd]; with_reducible rfl)); all_goals (intro hbr; first | exact absurd hbr (by decide) | ((try rw [hbr]); (try simp at hbr)))))
  refine X.callRQ (P := _) rfl (by simp only [sub, subO, subL, subM, sub3, sub2, fk_some, fk_none, fk_arg0, fk_argS, fk_argN, fk_map0, fk_mapS, fk_mapN, reduceIte, Nat.reduceEqDiff, Nat.reduceAdd]; all_goals (first | with_reducible rfl | (simp <;> with_reducible rfl))) HH.w.p.has.raw (by simp [pures]) (has_ok HH.w.p e1 e2 hj) ?_
  rintro v h3 ⟨rfl, rfl⟩
  (repeat' first
    | apply X.retS
    | apply X.skipS
    | apply X.skipB
    | apply X.skipL
    | (apply X.exitS; first | apply X.here | (refine X.out (by decide) ?_; apply X.here))
    | apply X.blockS
    | (apply X.condQ rfl; (focus (simp only [sub, subO, subL, subM, sub3, sub2, fk_some, fk_none, fk_arg0, fk_argS, fk_argN, fk_map0, fk_mapS, fk_mapN, reduceIte, Nat.reduceEqDiff, Nat.reduceAdd]; with_reducible rfl)); all_goals (intro hbr; first | exact absurd hbr (by decide) | ((try rw [hbr]); (try simp at hbr))))
    | apply X.stepZ
    | (apply X.stepQ rfl; (focus (simp only [sub, subO, subL, subM, sub3, sub2, fk_some, fk_none, fk_arg0, fk_argS, fk_argN, fk_map0, fk_mapS, fk_mapN, reduceIte, Nat.reduceEqDiff, Nat.reduceAdd]; with_reducible rfl)); (focus (simp [-getElem?_pos]; with_reducible (first | rfl | exact ⟨rfl, rfl⟩))))
    | (apply X.stepNQ rfl; (focus (simp only [sub, subO, subL, subM, sub3, sub2, fk_some, fk_none, fk_arg0, fk_argS, fk_argN, fk_map0, fk_mapS, fk_mapN, reduceIte, Nat.reduceEqDiff, Nat.reduceAdd]; with_reducible rfl)))
    | ((first | apply X.stepGtQ rfl | apply X.stepGfQ rfl); (focus (simp only [sub, subO, subL, subM, sub3, sub2, fk_some, fk_none, fk_arg0, fk_argS, fk_argN, fk_map0, fk_mapS, fk_mapN, reduceIte, Nat.reduceEqDiff, Nat.reduceAdd]; with_reducible rfl)); all_goals (intro hbr; first | exact absurd hbr (by decide) | ((try rw [hbr]); (try simp at hbr)))))
  all_goals exact FinE.retQ rfl (by simp only [resS, sub, subO, subL, subM, sub3, sub2, fk_some, fk_none, fk_arg0, fk_argS, fk_argN, fk_map0, fk_mapS, fk_mapN, reduceIte, Nat.reduceEqDiff, Nat.reduceAdd]; with_reducible rfl) ⟨rfl, es', T2, Nat.le_trans hB F2.len, F2⟩
end

theorem up_nil : Up [] := fun i x ks k h => by simp at h
theorem nodes_good {c : Co} (h : GoodC c = true) : nodes c ≤ 1000000 := by
  have := (goodC_iff.1 h).1
  have := nodes_sz c (by omega)
  omega

set_option maxHeartbeats 2000000 in
theorem says_ok (HH : HasY E) {c : Co} (hf : FineC c) (hg : GoodC c = true) {s : List Int} (hs : s.length ≤ 256) (hb : ∀ x ∈ s, 0 ≤ x ∧ x < 256) : limP E 22 [encC c, .sl (encB s)] = some [.bool (rowS s c 0 s.length)] := by
  have hG := CGood_ok HH.c c hf
  have hnew := new_ok HH.t c hf (nodes_good hg) s
  have htr := (addP_tree c [] up_nil).2
  have hls := encB_len s
  have hle : (s.length : Int) ≤ 256 := by omega
  rw [hg] at hG
  rw [eC] at hG hnew ⊢
  have H := HH.says
  refine H.limQ (Nat.le_of_ble_eq_true rfl) ?_; unfold c22
  (repeat' first
    | apply X.retS
    | apply X.skipS
    | apply X.skipB
    | apply X.skipL
    | (apply X.exitS; first | apply X.here | (refine X.out (by decide) ?_; apply X.here))
    | apply X.blockS
    | (apply X.condQ rfl; (focus (simp only [sub, subO, subL, subM, sub3, sub2, fk_some, fk_none, fk_arg0, fk_argS, fk_argN, fk_map0, fk_mapS, fk_mapN, reduceIte, Nat.reduceEqDiff, Nat.reduceAdd]; with_reducible rfl)); all_goals (intro hbr; first | exact absurd hbr (by decide) | ((try rw [hbr]); (try simp at hbr))))
    | apply X.stepZ
    | (apply X.stepQ rfl; (focus (simp only [sub, subO, subL, subM, sub3, sub2, fk_some, fk_none, fk_arg0, fk_argS, fk_argN, fk_map0, fk_mapS, fk_mapN, reduceIte, Nat.reduceEqDiff, Nat.reduceAdd]; with_reducible rfl)); (focus (simp [-getElem?_pos, HH.c.Good.raw, hG, hls, hs, hle]; with_reducible (first | rfl | exact ⟨rfl, rfl⟩))))
    | (apply X.stepNQ rfl; (focus (simp only [sub, subO, subL, subM, sub3, sub2, fk_some, fk_none, fk_arg0, fk_argS, fk_argN, fk_map0, fk_mapS, fk_mapN, reduceIte, Nat.reduceEqDiff, Nat.reduceAdd]; with_reducible rfl)))
    | ((first | apply X.stepGtQ rfl | apply X.stepGfQ rfl); (focus (simp only [sub, subO, subL, subM, sub3, sub2, fk_some, fk_none, fk_arg0, fk_argS, fk_argN, fk_map0, fk_mapS, fk_mapN, reduceIte, Nat.reduceEqDiff, Nat.reduceAdd]; with_reducible rfl)); all_goals (intro hbr; first | exact absurd hbr (by decide) | ((try rw [hbr]); (try simp at hbr)))))
  refine X.callQX (P := _) rfl (by simp only [sub, subO, subL, subM, sub3, sub2, fk_some, fk_none, fk_arg0, fk_argS, fk_argN, fk_map0, fk_mapS, fk_mapN, reduceIte, Nat.reduceEqDiff, Nat.reduceAdd]; all_goals (first | with_reducible rfl | (simp <;> with_reducible rfl))) HH.t.new.raw HH.t.new.ext (hnew _) ?_
  rintro v h2 ⟨tid, pid, eid, kvs, rfl, T, F⟩
  have hts := tsays_ok HH hs hb (sh_GoodC hg) (a := 0) (i := 0) (j := s.length) T F.len htr (Nat.zero_le _) (by omega)
  have e0 : ((0 : Nat) : Int) = 0 := rfl
  rw [e0] at hts
  (repeat' first
    | apply X.retS
    | apply X.skipS
    | apply X.skipB
    | apply X.skipL
    | (apply X.exitS; first | apply X.here | (refine X.out (by decide) ?_; apply X.here))
    | apply X.blockS
    | (apply X.condQ rfl; (focus (simp only [sub, subO, subL, subM, sub3, sub2, fk_some, fk_none, fk_arg0, fk_argS, fk_argN, fk_map0, fk_mapS, fk_mapN, reduceIte, Nat.reduceEqDiff, Nat.reduceAdd]; with_reducible rfl)); all_goals (intro hbr; first | exact absurd hbr (by decide) | ((try rw [hbr]); (try simp at hbr))))
    | apply X.stepZ
    | (apply X.stepQ rfl; (focus (simp only [sub, subO, subL, subM, sub3, sub2, fk_some, fk_none, fk_arg0, fk_argS, fk_argN, fk_map0, fk_mapS, fk_mapN, reduceIte, Nat.reduceEqDiff, Nat.reduceAdd]; with_reducible rfl)); (focus (simp [-getElem?_pos, hls]; with_reducible (first | rfl | exact ⟨rfl, rfl⟩))))
    | (apply X.stepNQ rfl; (focus (simp only [sub, subO, subL, subM, sub3, sub2, fk_some, fk_none, fk_arg0, fk_argS, fk_argN, fk_map0, fk_mapS, fk_mapN, reduceIte, Nat.reduceEqDiff, Nat.reduceAdd]; with_reducible rfl)))
    | ((first | apply X.stepGtQ rfl | apply X.stepGfQ rfl); (focus (simp only [sub, subO, subL, subM, sub3, sub2, fk_some, fk_none, fk_arg0, fk_argS, fk_argN, fk_map0, fk_mapS, fk_mapN, reduceIte, Nat.reduceEqDiff, Nat.reduceAdd]; with_reducible rfl)); all_goals (intro hbr; first | exact absurd hbr (by decide) | ((try rw [hbr]); (try simp at hbr)))))
  refine X.callRQ (P := _) rfl (by simp only [sub, subO, subL, subM, sub3, sub2, fk_some, fk_none, fk_arg0, fk_argS, fk_argN, fk_map0, fk_mapS, fk_mapN, reduceIte, Nat.reduceEqDiff, Nat.reduceAdd]; all_goals (first | with_reducible rfl | (simp <;> with_reducible rfl))) HH.tsays.raw (by simp [pures]) (hts) ?_
  rintro v h3 ⟨rfl, es', T2, _, _⟩
  (repeat' first
    | apply X.retS
    | apply X.skipS
    | apply X.skipB
    | apply X.skipL
    | (apply X.exitS; first | apply X.here | (refine X.out (by decide) ?_; apply X.here))
    | apply X.blockS
    | (apply X.condQ rfl; (focus (simp only [sub, subO, subL, subM, sub3, sub2, fk_some, fk_none, fk_arg0, fk_argS, fk_argN, fk_map0, fk_mapS, fk_mapN, reduceIte, Nat.reduceEqDiff, Nat.reduceAdd]; with_reducible rfl)); all_goals (intro hbr; first | exact absurd hbr (by decide) | ((try rw [hbr]); (try simp at hbr))))
    | apply X.stepZ
    | (apply X.stepQ rfl; (focus (simp only [sub, subO, subL, subM, sub3, sub2, fk_some, fk_none, fk_arg0, fk_argS, fk_argN, fk_map0, fk_mapS, fk_mapN, reduceIte, Nat.reduceEqDiff, Nat.reduceAdd]; with_reducible rfl)); (focus (simp [-getElem?_pos]; with_reducible (first | rfl | exact ⟨rfl, rfl⟩))))
    | (apply X.stepNQ rfl; (focus (simp only [sub, subO, subL, subM, sub3, sub2, fk_some, fk_none, fk_arg0, fk_argS, fk_argN, fk_map0, fk_mapS, fk_mapN, reduceIte, Nat.reduceEqDiff, Nat.reduceAdd]; with_reducible rfl)))
    | ((first | apply X.stepGtQ rfl | apply X.stepGfQ rfl); (focus (simp only [sub, subO, subL, subM, sub3, sub2, fk_some, fk_none, fk_arg0, fk_argS, fk_argN, fk_map0, fk_mapS, fk_mapN, reduceIte, Nat.reduceEqDiff, Nat.reduceAdd]; with_reducible rfl)); all_goals (intro hbr; first | exact absurd hbr (by decide) | ((try rw [hbr]); (try simp at hbr)))))
  all_goals (refine Fin.mkQ rfl (by simp only [resS, sub, subO, subL, subM, sub3, sub2, fk_some, fk_none, fk_arg0, fk_argS, fk_argN, fk_map0, fk_mapS, fk_mapN, reduceIte, Nat.reduceEqDiff, Nat.reduceAdd]; with_reducible rfl) (by simp [oneOf, pureRes, snapFuel, snapL]; with_reducible rfl) ?_)
  all_goals rfl

/-- The ends, in order. -/
def endsL (p : Pl) : Nat → Nat → List Nat
  | 0, _ => []
  | m + 1, k => (if p k then [k] else []) ++ endsL p m (k + 1)
theorem endsL_eq {p p' : Pl} (h : ∀ j, p j = p' j) : ∀ m k, endsL p m k = endsL p' m k
  | 0, _ => rfl
  | m + 1, k => by simp [endsL, h, endsL_eq h m (k + 1)]
theorem endsL_len {p : Pl} : ∀ m k, (endsL p m k).length ≤ m
  | 0, _ => Nat.le_refl _
  | m + 1, k => by
    have := endsL_len (p := p) m (k + 1)
    simp only [endsL, List.length_append]
    split <;> simp <;> omega

set_option maxHeartbeats 4000000 in
theorem ends_ok (HH : HasY E) {c : Co} (hf : FineC c) (hg : GoodC c = true) {s : List Int} (hs : s.length ≤ 256) (hb : ∀ x ∈ s, 0 ≤ x ∧ x < 256) : limP E 27 [encC c, .sl (encB s), .int .i64 0] = some [.sl (encN (endsL (rowS s c 0) (s.length + 1) 0))] := by
  have hG := CGood_ok HH.c c hf
  have hnew := new_ok HH.t c hf (nodes_good hg) s
  have htr := (addP_tree c [] up_nil).2
  have hls := encB_len s
  have hle : ¬ (256 : Int) < (s.length : Int) := by omega
  have hle2 : ¬ 256 < s.length := by omega
  have hle3 : ¬ (s.length : Int) < 0 := by omega
  rw [hg] at hG
  rw [eC] at hG hnew ⊢
  have H := HH.ends
  refine H.limQ (Nat.le_of_ble_eq_true rfl) ?_; unfold c27
  (repeat' first
    | apply X.retS
    | apply X.skipS
    | apply X.skipB
    | apply X.skipL
    | (apply X.exitS; first | apply X.here | (refine X.out (by decide) ?_; apply X.here))
    | apply X.blockS
    | (apply X.condQ rfl; (focus (simp only [sub, subO, subL, subM, sub3, sub2, fk_some, fk_none, fk_arg0, fk_argS, fk_argN, fk_map0, fk_mapS, fk_mapN, reduceIte, Nat.reduceEqDiff, Nat.reduceAdd]; with_reducible rfl)); all_goals (intro hbr; first | exact absurd hbr (by decide) | ((try rw [hbr]); (try simp at hbr))))
    | apply X.stepZ
    | (apply X.stepQ rfl; (focus (simp only [sub, subO, subL, subM, sub3, sub2, fk_some, fk_none, fk_arg0, fk_argS, fk_argN, fk_map0, fk_mapS, fk_mapN, reduceIte, Nat.reduceEqDiff, Nat.reduceAdd]; with_reducible rfl)); (focus (simp [-getElem?_pos, HH.c.Good.raw, hG, hls, hs, hle, hle2, hle3]; with_reducible (first | rfl | exact ⟨rfl, rfl⟩))))
    | (apply X.stepNQ rfl; (focus (simp only [sub, subO, subL, subM, sub3, sub2, fk_some, fk_none, fk_arg0, fk_argS, fk_argN, fk_map0, fk_mapS, fk_mapN, reduceIte, Nat.reduceEqDiff, Nat.reduceAdd]; with_reducible rfl)))
    | ((first | apply X.stepGtQ rfl | apply X.stepGfQ rfl); (focus (simp only [sub, subO, subL, subM, sub3, sub2, fk_some, fk_none, fk_arg0, fk_argS, fk_argN, fk_map0, fk_mapS, fk_mapN, reduceIte, Nat.reduceEqDiff, Nat.reduceAdd]; with_reducible rfl)); all_goals (intro hbr; first | exact absurd hbr (by decide) | ((try rw [hbr]); (try simp at hbr)))))
  refine X.callQX (P := _) rfl (by simp only [sub, subO, subL, subM, sub3, sub2, fk_some, fk_none, fk_arg0, fk_argS, fk_argN, fk_map0, fk_mapS, fk_mapN, reduceIte, Nat.reduceEqDiff, Nat.reduceAdd]; all_goals (first | with_reducible rfl | (simp <;> with_reducible rfl))) HH.t.new.raw HH.t.new.ext (hnew _) ?_
  rintro v h2 ⟨tid, pid, eid, kvs, rfl, T, F⟩
  (repeat' first
    | apply X.retS
    | apply X.skipS
    | apply X.skipB
    | apply X.skipL
    | (apply X.exitS; first | apply X.here | (refine X.out (by decide) ?_; apply X.here))
    | apply X.blockS
    | (apply X.condQ rfl; (focus (simp only [sub, subO, subL, subM, sub3, sub2, fk_some, fk_none, fk_arg0, fk_argS, fk_argN, fk_map0, fk_mapS, fk_mapN, reduceIte, Nat.reduceEqDiff, Nat.reduceAdd]; with_reducible rfl)); all_goals (intro hbr; first | exact absurd hbr (by decide) | ((try rw [hbr]); (try simp at hbr))))
    | apply X.stepZ
    | (apply X.stepQ rfl; (focus (simp only [sub, subO, subL, subM, sub3, sub2, fk_some, fk_none, fk_arg0, fk_argS, fk_argN, fk_map0, fk_mapS, fk_mapN, reduceIte, Nat.reduceEqDiff, Nat.reduceAdd]; with_reducible rfl)); (focus (simp [-getElem?_pos, hls]; with_reducible (first | rfl | exact ⟨rfl, rfl⟩))))
    | (apply X.stepNQ rfl; (focus (simp only [sub, subO, subL, subM, sub3, sub2, fk_some, fk_none, fk_arg0, fk_argS, fk_argN, fk_map0, fk_mapS, fk_mapN, reduceIte, Nat.reduceEqDiff, Nat.reduceAdd]; with_reducible rfl)))
    | ((first | apply X.stepGtQ rfl | apply X.stepGfQ rfl); (focus (simp only [sub, subO, subL, subM, sub3, sub2, fk_some, fk_none, fk_arg0, fk_argS, fk_argN, fk_map0, fk_mapS, fk_mapN, reduceIte, Nat.reduceEqDiff, Nat.reduceAdd]; with_reducible rfl)); all_goals (intro hbr; first | exact absurd hbr (by decide) | ((try rw [hbr]); (try simp at hbr)))))
  refine X.forS (s.length + 1) (fun j st => ∃ (hh : Heap) (es : List V) (v : V) (xs : List Nat) (B : Nat) (f : Nat → V), (Tbl B hh tid pid eid (addP c []) kvs s es ∧ B ≤ hh.length ∧ Row hh v (encN xs) ∧ xs.length ≤ j ∧ xs ++ endsL (rowS s c 0) (s.length + 1 - j) j = endsL (rowS s c 0) (s.length + 1) 0) ∧
    (fk (Fk.mk (f := f)) 1 = .pv (.sl (encB s)) ∧ fk (Fk.mk (f := f)) 2 = .pv (.int .i64 0) ∧ fk (Fk.mk (f := f)) 7 = v ∧ fk (Fk.mk (f := f)) 8 = .ptr tid 0 ∧ fk (Fk.mk (f := f)) 9 = .pv (.int .i64 (j : Int))) ∧ st = ⟨TL 47 f, hh⟩) ?_ ?_
  · exact ⟨_, _, .nils, [], _, _, ⟨T, F.len, Row.nil, Nat.le_refl _, rfl⟩, by simp, rfl⟩
  rintro j st hj ⟨hh, es, w0, xs, B, f, ⟨T1, hB, hr, hxl, hxs⟩, ⟨f1, f2, f7, f8, f9⟩, rfl⟩
  have hww : IntKind.i64.wrap ((j : Int) + 1) = (j : Int) + 1 := wrap_i64 (by omega)
  rcases Nat.lt_or_ge j (s.length + 1) with hj1 | hj1
  · have hjle : (j : Int) ≤ (s.length : Int) := by omega
    have hjle' : j ≤ s.length := by omega
    have hn : s.length + 1 - j = (s.length + 1 - (j + 1)) + 1 := by omega
    rw [hn, endsL] at hxs
    have hts := tsays_ok HH hs hb (sh_GoodC hg) (a := 0) (i := 0) (j := j) T1 hB htr (Nat.zero_le _) (by omega)
    have e0 : ((0 : Nat) : Int) = 0 := rfl
    rw [e0] at hts
    cases hp : rowS s c 0 j with
    | false =>
      rw [hp] at hts hxs
      (repeat' first
    | apply X.retS
    | apply X.skipS
    | apply X.skipB
    | apply X.skipL
    | (apply X.exitS; first | apply X.here | (refine X.out (by decide) ?_; apply X.here))
    | apply X.blockS
    | (apply X.condQ rfl; (focus (simp only [sub, subO, subL, subM, sub3, sub2, fk_some, fk_none, fk_arg0, fk_argS, fk_argN, fk_map0, fk_mapS, fk_mapN, reduceIte, Nat.reduceEqDiff, Nat.reduceAdd, f1, f2, f7, f8, f9]; with_reducible rfl)); all_goals (intro hbr; first | exact absurd hbr (by decide) | ((try rw [hbr]); (try simp at hbr))))
    | apply X.stepZ
    | (apply X.stepQ rfl; (focus (simp only [sub, subO, subL, subM, sub3, sub2, fk_some, fk_none, fk_arg0, fk_argS, fk_argN, fk_map0, fk_mapS, fk_mapN, reduceIte, Nat.reduceEqDiff, Nat.reduceAdd, f1, f2, f7, f8, f9]; with_reducible rfl)); (focus (simp [-getElem?_pos, hls, hjle, hjle']; with_reducible (first | rfl | exact ⟨rfl, rfl⟩))))
    | (apply X.stepNQ rfl; (focus (simp only [sub, subO, subL, subM, sub3, sub2, fk_some, fk_none, fk_arg0, fk_argS, fk_argN, fk_map0, fk_mapS, fk_mapN, reduceIte, Nat.reduceEqDiff, Nat.reduceAdd, f1, f2, f7, f8, f9]; with_reducible rfl)))
    | ((first | apply X.stepGtQ rfl | apply X.stepGfQ rfl); (focus (simp only [sub, subO, subL, subM, sub3, sub2, fk_some, fk_none, fk_arg0, fk_argS, fk_argN, fk_map0, fk_mapS, fk_mapN, reduceIte, Nat.reduceEqDiff, Nat.reduceAdd, f1, f2, f7, f8, f9]; with_reducible rfl)); all_goals (intro hbr; first | exact absurd hbr (by decide) | ((try rw [hbr]); (try simp at hbr)))))
      refine X.callRQ (P := _) rfl (by simp only [sub, subO, subL, subM, sub3, sub2, fk_some, fk_none, fk_arg0, fk_argS, fk_argN, fk_map0, fk_mapS, fk_mapN, reduceIte, Nat.reduceEqDiff, Nat.reduceAdd, f1, f2, f7, f8, f9]; all_goals (first | with_reducible rfl | (simp <;> with_reducible rfl))) HH.tsays.raw (by simp [pures]) (hts) ?_
      rintro v h3 ⟨rfl, es', T2, hB2, F2⟩
      (repeat' first
    | apply X.retS
    | apply X.skipS
    | apply X.skipB
    | apply X.skipL
    | (apply X.exitS; first | apply X.here | (refine X.out (by decide) ?_; apply X.here))
    | apply X.blockS
    | (apply X.condQ rfl; (focus (simp only [sub, subO, subL, subM, sub3, sub2, fk_some, fk_none, fk_arg0, fk_argS, fk_argN, fk_map0, fk_mapS, fk_mapN, reduceIte, Nat.reduceEqDiff, Nat.reduceAdd, f1, f2, f7, f8, f9]; with_reducible rfl)); all_goals (intro hbr; first | exact absurd hbr (by decide) | ((try rw [hbr]); (try simp at hbr))))
    | apply X.stepZ
    | (apply X.stepQ rfl; (focus (simp only [sub, subO, subL, subM, sub3, sub2, fk_some, fk_none, fk_arg0, fk_argS, fk_argN, fk_map0, fk_mapS, fk_mapN, reduceIte, Nat.reduceEqDiff, Nat.reduceAdd, f1, f2, f7, f8, f9]; with_reducible rfl)); (focus (simp [-getElem?_pos, hww]; with_reducible (first | rfl | exact ⟨rfl, rfl⟩))))
    | (apply X.stepNQ rfl; (focus (simp only [sub, subO, subL, subM, sub3, sub2, fk_some, fk_none, fk_arg0, fk_argS, fk_argN, fk_map0, fk_mapS, fk_mapN, reduceIte, Nat.reduceEqDiff, Nat.reduceAdd, f1, f2, f7, f8, f9]; with_reducible rfl)))
    | ((first | apply X.stepGtQ rfl | apply X.stepGfQ rfl); (focus (simp only [sub, subO, subL, subM, sub3, sub2, fk_some, fk_none, fk_arg0, fk_argS, fk_argN, fk_map0, fk_mapS, fk_mapN, reduceIte, Nat.reduceEqDiff, Nat.reduceAdd, f1, f2, f7, f8, f9]; with_reducible rfl)); all_goals (intro hbr; first | exact absurd hbr (by decide) | ((try rw [hbr]); (try simp at hbr)))))
      all_goals exact ⟨hj1, _, es', _, xs, B, _, ⟨T2, hB2, row_keep T1 F2 hr, by omega, by simpa using hxs⟩, by simp [f1, f2, f7, f8], rfl⟩
    | true =>
      rw [hp] at hts hxs
      (repeat' first
    | apply X.retS
    | apply X.skipS
    | apply X.skipB
    | apply X.skipL
    | (apply X.exitS; first | apply X.here | (refine X.out (by decide) ?_; apply X.here))
    | apply X.blockS
    | (apply X.condQ rfl; (focus (simp only [sub, subO, subL, subM, sub3, sub2, fk_some, fk_none, fk_arg0, fk_argS, fk_argN, fk_map0, fk_mapS, fk_mapN, reduceIte, Nat.reduceEqDiff, Nat.reduceAdd, f1, f2, f7, f8, f9]; with_reducible rfl)); all_goals (intro hbr; first | exact absurd hbr (by decide) | ((try rw [hbr]); (try simp at hbr))))
    | apply X.stepZ
    | (apply X.stepQ rfl; (focus (simp only [sub, subO, subL, subM, sub3, sub2, fk_some, fk_none, fk_arg0, fk_argS, fk_argN, fk_map0, fk_mapS, fk_mapN, reduceIte, Nat.reduceEqDiff, Nat.reduceAdd, f1, f2, f7, f8, f9]; with_reducible rfl)); (focus (simp [-getElem?_pos, hls, hjle, hjle']; with_reducible (first | rfl | exact ⟨rfl, rfl⟩))))
    | (apply X.stepNQ rfl; (focus (simp only [sub, subO, subL, subM, sub3, sub2, fk_some, fk_none, fk_arg0, fk_argS, fk_argN, fk_map0, fk_mapS, fk_mapN, reduceIte, Nat.reduceEqDiff, Nat.reduceAdd, f1, f2, f7, f8, f9]; with_reducible rfl)))
    | ((first | apply X.stepGtQ rfl | apply X.stepGfQ rfl); (focus (simp only [sub, subO, subL, subM, sub3, sub2, fk_some, fk_none, fk_arg0, fk_argS, fk_argN, fk_map0, fk_mapS, fk_mapN, reduceIte, Nat.reduceEqDiff, Nat.reduceAdd, f1, f2, f7, f8, f9]; with_reducible rfl)); all_goals (intro hbr; first | exact absurd hbr (by decide) | ((try rw [hbr]); (try simp at hbr)))))
      refine X.callRQ (P := _) rfl (by simp only [sub, subO, subL, subM, sub3, sub2, fk_some, fk_none, fk_arg0, fk_argS, fk_argN, fk_map0, fk_mapS, fk_mapN, reduceIte, Nat.reduceEqDiff, Nat.reduceAdd, f1, f2, f7, f8, f9]; all_goals (first | with_reducible rfl | (simp <;> with_reducible rfl))) HH.tsays.raw (by simp [pures]) (hts) ?_
      rintro v h3 ⟨rfl, es', T2, hB2, F2⟩
      have hr2 := row_keep T1 F2 hr
      have happ : ∀ (l : Heap) (te : TypeId), appendA (h3 ++ l) false false 1 8 te w0 1 [.pv (.int .i64 (j : Int))] = some (.slt (encN xs ++ [.int .i64 (j : Int)]) (h3 ++ l).length, kill (h3 ++ l) w0 ++ [.tok]) := fun l te => by
        rw [(hr2.mono (l := l)).app (by omega) (strideN xs) rfl (by simp [encN]; omega) rfl rfl]
        simp [chunks, mkPV]
      have happ0 := fun te => happ [] te
      simp only [List.append_nil] at happ0
      (repeat' first
    | apply X.retS
    | apply X.skipS
    | apply X.skipB
    | apply X.skipL
    | (apply X.exitS; first | apply X.here | (refine X.out (by decide) ?_; apply X.here))
    | apply X.blockS
    | (apply X.condQ rfl; (focus (simp only [sub, subO, subL, subM, sub3, sub2, fk_some, fk_none, fk_arg0, fk_argS, fk_argN, fk_map0, fk_mapS, fk_mapN, reduceIte, Nat.reduceEqDiff, Nat.reduceAdd, f1, f2, f7, f8, f9]; with_reducible rfl)); all_goals (intro hbr; first | exact absurd hbr (by decide) | ((try rw [hbr]); (try simp at hbr))))
    | apply X.stepZ
    | (apply X.stepQ rfl; (focus (simp only [sub, subO, subL, subM, sub3, sub2, fk_some, fk_none, fk_arg0, fk_argS, fk_argN, fk_map0, fk_mapS, fk_mapN, reduceIte, Nat.reduceEqDiff, Nat.reduceAdd, f1, f2, f7, f8, f9]; with_reducible rfl)); (focus (simp [-getElem?_pos, hww, happ, happ0]; with_reducible (first | rfl | exact ⟨rfl, rfl⟩))))
    | (apply X.stepNQ rfl; (focus (simp only [sub, subO, subL, subM, sub3, sub2, fk_some, fk_none, fk_arg0, fk_argS, fk_argN, fk_map0, fk_mapS, fk_mapN, reduceIte, Nat.reduceEqDiff, Nat.reduceAdd, f1, f2, f7, f8, f9]; with_reducible rfl)))
    | ((first | apply X.stepGtQ rfl | apply X.stepGfQ rfl); (focus (simp only [sub, subO, subL, subM, sub3, sub2, fk_some, fk_none, fk_arg0, fk_argS, fk_argN, fk_map0, fk_mapS, fk_mapN, reduceIte, Nat.reduceEqDiff, Nat.reduceAdd, f1, f2, f7, f8, f9]; with_reducible rfl)); all_goals (intro hbr; first | exact absurd hbr (by decide) | ((try rw [hbr]); (try simp at hbr)))))
      all_goals exact ⟨hj1, _, es', _, xs ++ [j], B, _, ⟨T2.of_blk (fun k cs t hk => hr2.keep hk (by simp) (by simp)), by simp [length_kill]; omega, by rw [show encN (xs ++ [j]) = encN xs ++ [.int .i64 (j : Int)] by simp [encN]]; exact Row.done (by simp) rfl, by simp; omega, by simpa using hxs⟩, by simp [f1, f2, f8], rfl⟩
  · have hjle : ¬ (j : Int) ≤ (s.length : Int) := by omega
    have hjle' : ¬ j ≤ s.length := by omega
    have hn : s.length + 1 - j = 0 := by omega
    rw [hn, endsL, List.append_nil] at hxs
    (repeat' first
    | apply X.retS
    | apply X.skipS
    | apply X.skipB
    | apply X.skipL
    | (apply X.exitS; first | apply X.here | (refine X.out (by decide) ?_; apply X.here))
    | apply X.blockS
    | (apply X.condQ rfl; (focus (simp only [sub, subO, subL, subM, sub3, sub2, fk_some, fk_none, fk_arg0, fk_argS, fk_argN, fk_map0, fk_mapS, fk_mapN, reduceIte, Nat.reduceEqDiff, Nat.reduceAdd, f1, f2, f7, f8, f9]; with_reducible rfl)); all_goals (intro hbr; first | exact absurd hbr (by decide) | ((try rw [hbr]); (try simp at hbr))))
    | apply X.stepZ
    | (apply X.stepQ rfl; (focus (simp only [sub, subO, subL, subM, sub3, sub2, fk_some, fk_none, fk_arg0, fk_argS, fk_argN, fk_map0, fk_mapS, fk_mapN, reduceIte, Nat.reduceEqDiff, Nat.reduceAdd, f1, f2, f7, f8, f9]; with_reducible rfl)); (focus (simp [-getElem?_pos, hls, hjle, hjle']; with_reducible (first | rfl | exact ⟨rfl, rfl⟩))))
    | (apply X.stepNQ rfl; (focus (simp only [sub, subO, subL, subM, sub3, sub2, fk_some, fk_none, fk_arg0, fk_argS, fk_argN, fk_map0, fk_mapS, fk_mapN, reduceIte, Nat.reduceEqDiff, Nat.reduceAdd, f1, f2, f7, f8, f9]; with_reducible rfl)))
    | ((first | apply X.stepGtQ rfl | apply X.stepGfQ rfl); (focus (simp only [sub, subO, subL, subM, sub3, sub2, fk_some, fk_none, fk_arg0, fk_argS, fk_argN, fk_map0, fk_mapS, fk_mapN, reduceIte, Nat.reduceEqDiff, Nat.reduceAdd, f1, f2, f7, f8, f9]; with_reducible rfl)); all_goals (intro hbr; first | exact absurd hbr (by decide) | ((try rw [hbr]); (try simp at hbr)))))
    all_goals (refine Fin.mkQ rfl (by simp only [resS, sub, subO, subL, subM, sub3, sub2, fk_some, fk_none, fk_arg0, fk_argS, fk_argN, fk_map0, fk_mapS, fk_mapN, reduceIte, Nat.reduceEqDiff, Nat.reduceAdd, f7]; with_reducible rfl) (rs' := [.sl (encN xs)]) ?_ (by rw [hxs]))
    all_goals (rcases hr with ⟨h0, rfl⟩ | ⟨_, tok, rfl, _⟩ <;> simp [pureRes, oneOf, snapFuel, snap_nils, snap_slt])
    all_goals simp [h0]

set_option maxHeartbeats 1000000 in
theorem star_ok (HH : HasY E) (c : Co) : limP E 23 [encC c] = some [encC (starC c)] := by
  have H := HH.star
  have e2 : encC (starC c) = .agg [.int .i64 5, .int .u64 0, .int .u64 0, .int .u64 0, .int .u64 0, .int .i64 0, .sl [encC c]] := by rw [eC]; rfl
  rw [e2]
  rw [eC c]
  refine H.limQ (Nat.le_of_ble_eq_true rfl) ?_; unfold c23
  (repeat' first
    | apply X.retS
    | apply X.skipS
    | apply X.skipB
    | apply X.skipL
    | (apply X.exitS; first | apply X.here | (refine X.out (by decide) ?_; apply X.here))
    | apply X.blockS
    | (apply X.condQ rfl; (focus (simp only [sub, subO, subL, subM, sub3, sub2, fk_some, fk_none, fk_arg0, fk_argS, fk_argN, fk_map0, fk_mapS, fk_mapN, reduceIte, Nat.reduceEqDiff, Nat.reduceAdd]; with_reducible rfl)); all_goals (intro hbr; first | exact absurd hbr (by decide) | ((try rw [hbr]); (try simp at hbr))))
    | apply X.stepZ
    | (apply X.stepQ rfl; (focus (simp only [sub, subO, subL, subM, sub3, sub2, fk_some, fk_none, fk_arg0, fk_argS, fk_argN, fk_map0, fk_mapS, fk_mapN, reduceIte, Nat.reduceEqDiff, Nat.reduceAdd]; with_reducible rfl)); (focus (simp [-getElem?_pos]; with_reducible (first | rfl | exact ⟨rfl, rfl⟩))))
    | (apply X.stepNQ rfl; (focus (simp only [sub, subO, subL, subM, sub3, sub2, fk_some, fk_none, fk_arg0, fk_argS, fk_argN, fk_map0, fk_mapS, fk_mapN, reduceIte, Nat.reduceEqDiff, Nat.reduceAdd]; with_reducible rfl)))
    | ((first | apply X.stepGtQ rfl | apply X.stepGfQ rfl); (focus (simp only [sub, subO, subL, subM, sub3, sub2, fk_some, fk_none, fk_arg0, fk_argS, fk_argN, fk_map0, fk_mapS, fk_mapN, reduceIte, Nat.reduceEqDiff, Nat.reduceAdd]; with_reducible rfl)); all_goals (intro hbr; first | exact absurd hbr (by decide) | ((try rw [hbr]); (try simp at hbr)))))
  all_goals (refine Fin.mkQ rfl (by simp [resS]; with_reducible rfl) (by simp [oneOf, pureRes, snapFuel, snapL]; with_reducible rfl) ?_)
  all_goals rfl
set_option maxHeartbeats 1000000 in
theorem seq_ok (HH : HasY E) (a b : Co) : limP E 20 [encC a, encC b] = some [encC (seqC a b)] := by
  have H := HH.seq
  have e2 : encC (seqC a b) = .agg [.int .i64 3, .int .u64 0, .int .u64 0, .int .u64 0, .int .u64 0, .int .i64 0, .sl [encC a, encC b]] := by rw [eC]; rfl
  rw [e2]
  rw [eC a, eC b]
  refine H.limQ (Nat.le_of_ble_eq_true rfl) ?_; unfold c20
  (repeat' first
    | apply X.retS
    | apply X.skipS
    | apply X.skipB
    | apply X.skipL
    | (apply X.exitS; first | apply X.here | (refine X.out (by decide) ?_; apply X.here))
    | apply X.blockS
    | (apply X.condQ rfl; (focus (simp only [sub, subO, subL, subM, sub3, sub2, fk_some, fk_none, fk_arg0, fk_argS, fk_argN, fk_map0, fk_mapS, fk_mapN, reduceIte, Nat.reduceEqDiff, Nat.reduceAdd]; with_reducible rfl)); all_goals (intro hbr; first | exact absurd hbr (by decide) | ((try rw [hbr]); (try simp at hbr))))
    | apply X.stepZ
    | (apply X.stepQ rfl; (focus (simp only [sub, subO, subL, subM, sub3, sub2, fk_some, fk_none, fk_arg0, fk_argS, fk_argN, fk_map0, fk_mapS, fk_mapN, reduceIte, Nat.reduceEqDiff, Nat.reduceAdd]; with_reducible rfl)); (focus (simp [-getElem?_pos]; with_reducible (first | rfl | exact ⟨rfl, rfl⟩))))
    | (apply X.stepNQ rfl; (focus (simp only [sub, subO, subL, subM, sub3, sub2, fk_some, fk_none, fk_arg0, fk_argS, fk_argN, fk_map0, fk_mapS, fk_mapN, reduceIte, Nat.reduceEqDiff, Nat.reduceAdd]; with_reducible rfl)))
    | ((first | apply X.stepGtQ rfl | apply X.stepGfQ rfl); (focus (simp only [sub, subO, subL, subM, sub3, sub2, fk_some, fk_none, fk_arg0, fk_argS, fk_argN, fk_map0, fk_mapS, fk_mapN, reduceIte, Nat.reduceEqDiff, Nat.reduceAdd]; with_reducible rfl)); all_goals (intro hbr; first | exact absurd hbr (by decide) | ((try rw [hbr]); (try simp at hbr)))))
  all_goals (refine Fin.mkQ rfl (by simp [resS]; with_reducible rfl) (by simp [oneOf, pureRes, snapFuel, snapL]; with_reducible rfl) ?_)
  all_goals rfl
set_option maxHeartbeats 1000000 in
theorem ints_ok (HH : HasY E) (L : List Nat) (hL : L.length ≤ 1000000) : limP E 26 [.sl (encN L), .sl (encN L)] = some [.bool true] := by
  have H := HH.ints
  have hlen : (encN L).length = L.length := by simp [encN]
  refine H.limQ (Nat.le_of_ble_eq_true rfl) ?_; unfold c26
  (repeat' first
    | apply X.retS
    | apply X.skipS
    | apply X.skipB
    | apply X.skipL
    | (apply X.exitS; first | apply X.here | (refine X.out (by decide) ?_; apply X.here))
    | apply X.blockS
    | (apply X.condQ rfl; (focus (simp only [sub, subO, subL, subM, sub3, sub2, fk_some, fk_none, fk_arg0, fk_argS, fk_argN, fk_map0, fk_mapS, fk_mapN, reduceIte, Nat.reduceEqDiff, Nat.reduceAdd]; with_reducible rfl)); all_goals (intro hbr; first | exact absurd hbr (by decide) | ((try rw [hbr]); (try simp at hbr))))
    | apply X.stepZ
    | (apply X.stepQ rfl; (focus (simp only [sub, subO, subL, subM, sub3, sub2, fk_some, fk_none, fk_arg0, fk_argS, fk_argN, fk_map0, fk_mapS, fk_mapN, reduceIte, Nat.reduceEqDiff, Nat.reduceAdd]; with_reducible rfl)); (focus (simp [-getElem?_pos, hlen]; with_reducible (first | rfl | exact ⟨rfl, rfl⟩))))
    | (apply X.stepNQ rfl; (focus (simp only [sub, subO, subL, subM, sub3, sub2, fk_some, fk_none, fk_arg0, fk_argS, fk_argN, fk_map0, fk_mapS, fk_mapN, reduceIte, Nat.reduceEqDiff, Nat.reduceAdd]; with_reducible rfl)))
    | ((first | apply X.stepGtQ rfl | apply X.stepGfQ rfl); (focus (simp only [sub, subO, subL, subM, sub3, sub2, fk_some, fk_none, fk_arg0, fk_argS, fk_argN, fk_map0, fk_mapS, fk_mapN, reduceIte, Nat.reduceEqDiff, Nat.reduceAdd]; with_reducible rfl)); all_goals (intro hbr; first | exact absurd hbr (by decide) | ((try rw [hbr]); (try simp at hbr))))
    | (apply X.draw0; (focus rfl))
    | (apply X.drawH0; (focus rfl))
    | apply XD.nil
    | (apply XD.calmQ rfl rfl; (focus (simp only [sub, subO, subL, subM, sub3, sub2, fk_some, fk_none, fk_arg0, fk_argS, fk_argN, fk_map0, fk_mapS, fk_mapN, reduceIte, Nat.reduceEqDiff, Nat.reduceAdd]; with_reducible rfl)); (focus (simp [-getElem?_pos, hlen]; with_reducible (first | rfl | exact ⟨rfl, rfl⟩))))
    | (apply XD.callQ rfl; (focus (simp only [sub, subO, subL, subM, sub3, sub2, fk_some, fk_none, fk_arg0, fk_argS, fk_argN, fk_map0, fk_mapS, fk_mapN, reduceIte, Nat.reduceEqDiff, Nat.reduceAdd]; simp; with_reducible rfl)); (focus (simp; with_reducible rfl)); (focus (simp [-getElem?_pos, hlen]; done)); (focus (simp [-getElem?_pos, hlen]; with_reducible rfl)))
    | (apply XD.callSQ rfl; (focus (simp only [sub, subO, subL, subM, sub3, sub2, fk_some, fk_none, fk_arg0, fk_argS, fk_argN, fk_map0, fk_mapS, fk_mapN, reduceIte, Nat.reduceEqDiff, Nat.reduceAdd]; simp; with_reducible rfl)); (focus (simp [V.ids, V.ids.idsL]; done)); (focus (intro hh0; simp [snapL_eq, snapLF, snap_pv, snap_nils, snap_slx]; with_reducible rfl)); (focus (simp [-getElem?_pos, hlen]; done)); (focus (simp [-getElem?_pos, hlen]; with_reducible rfl)))
    | (apply XD.stepNQ rfl; (focus (simp only [sub, subO, subL, subM, sub3, sub2, fk_some, fk_none, fk_arg0, fk_argS, fk_argN, fk_map0, fk_mapS, fk_mapN, reduceIte, Nat.reduceEqDiff, Nat.reduceAdd]; with_reducible rfl)))
    | ((first | apply XD.stepGtQ rfl | apply XD.stepGfQ rfl); (focus (simp only [sub, subO, subL, subM, sub3, sub2, fk_some, fk_none, fk_arg0, fk_argS, fk_argN, fk_map0, fk_mapS, fk_mapN, reduceIte, Nat.reduceEqDiff, Nat.reduceAdd]; with_reducible rfl)); all_goals (intro hbr; first | exact absurd hbr (by decide) | ((try rw [hbr]); (try simp at hbr))))
    | (apply XD.loudQ rfl; (focus (simp only [sub, subO, subL, subM, sub3, sub2, fk_some, fk_none, fk_arg0, fk_argS, fk_argN, fk_map0, fk_mapS, fk_mapN, reduceIte, Nat.reduceEqDiff, Nat.reduceAdd]; with_reducible rfl)); (focus (simp; with_reducible rfl)); (focus (simp [-getElem?_pos, hlen]; with_reducible (first | rfl | exact ⟨rfl, rfl⟩))); (focus (simp; done)); (focus (simp [-getElem?_pos, hlen]; with_reducible rfl))))
  refine X.forS L.length (fun j st => ∃ (hh : Heap) (f : Nat → V), (fk (Fk.mk (f := f)) 0 = .pv (.sl (encN L)) ∧ fk (Fk.mk (f := f)) 1 = .pv (.sl (encN L)) ∧ fk (Fk.mk (f := f)) 5 = .pv (.int .i64 (j : Int))) ∧ st = ⟨TL 26 f, hh⟩) ?_ ?_
  · exact ⟨_, _, by simp, rfl⟩
  rintro j st hj ⟨hh, f, ⟨f0, f1, f5⟩, rfl⟩
  have hww : IntKind.i64.wrap ((j : Int) + 1) = (j : Int) + 1 := wrap_i64 (by omega)
  rcases Nat.lt_or_ge j L.length with hj1 | hj1
  · have hj2 : (j : Int) < (L.length : Int) := by omega
    obtain ⟨x, hx⟩ := at_of_lt hj1
    have hx2 : (encN L)[j]? = some (.int .i64 (x : Int)) := by simp [encN, hx]
    (repeat' first
    | apply X.retS
    | apply X.skipS
    | apply X.skipB
    | apply X.skipL
    | (apply X.exitS; first | apply X.here | (refine X.out (by decide) ?_; apply X.here))
    | apply X.blockS
    | (apply X.condQ rfl; (focus (simp only [sub, subO, subL, subM, sub3, sub2, fk_some, fk_none, fk_arg0, fk_argS, fk_argN, fk_map0, fk_mapS, fk_mapN, reduceIte, Nat.reduceEqDiff, Nat.reduceAdd, f0, f1, f5]; with_reducible rfl)); all_goals (intro hbr; first | exact absurd hbr (by decide) | ((try rw [hbr]); (try simp at hbr))))
    | apply X.stepZ
    | (apply X.stepQ rfl; (focus (simp only [sub, subO, subL, subM, sub3, sub2, fk_some, fk_none, fk_arg0, fk_argS, fk_argN, fk_map0, fk_mapS, fk_mapN, reduceIte, Nat.reduceEqDiff, Nat.reduceAdd, f0, f1, f5]; with_reducible rfl)); (focus (simp [-getElem?_pos, hlen, hj1, hj2, hx2, hww]; with_reducible (first | rfl | exact ⟨rfl, rfl⟩))))
    | (apply X.stepNQ rfl; (focus (simp only [sub, subO, subL, subM, sub3, sub2, fk_some, fk_none, fk_arg0, fk_argS, fk_argN, fk_map0, fk_mapS, fk_mapN, reduceIte, Nat.reduceEqDiff, Nat.reduceAdd, f0, f1, f5]; with_reducible rfl)))
    | ((first | apply X.stepGtQ rfl | apply X.stepGfQ rfl); (focus (simp only [sub, subO, subL, subM, sub3, sub2, fk_some, fk_none, fk_arg0, fk_argS, fk_argN, fk_map0, fk_mapS, fk_mapN, reduceIte, Nat.reduceEqDiff, Nat.reduceAdd, f0, f1, f5]; with_reducible rfl)); all_goals (intro hbr; first | exact absurd hbr (by decide) | ((try rw [hbr]); (try simp at hbr))))
    | (apply X.draw0; (focus rfl))
    | (apply X.drawH0; (focus rfl))
    | apply XD.nil
    | (apply XD.calmQ rfl rfl; (focus (simp only [sub, subO, subL, subM, sub3, sub2, fk_some, fk_none, fk_arg0, fk_argS, fk_argN, fk_map0, fk_mapS, fk_mapN, reduceIte, Nat.reduceEqDiff, Nat.reduceAdd, f0, f1, f5]; with_reducible rfl)); (focus (simp [-getElem?_pos, hlen, hj1, hj2, hx2, hww]; with_reducible (first | rfl | exact ⟨rfl, rfl⟩))))
    | (apply XD.callQ rfl; (focus (simp only [sub, subO, subL, subM, sub3, sub2, fk_some, fk_none, fk_arg0, fk_argS, fk_argN, fk_map0, fk_mapS, fk_mapN, reduceIte, Nat.reduceEqDiff, Nat.reduceAdd, f0, f1, f5]; simp; with_reducible rfl)); (focus (simp; with_reducible rfl)); (focus (simp [-getElem?_pos, hlen, hj1, hj2, hx2, hww]; done)); (focus (simp [-getElem?_pos, hlen, hj1, hj2, hx2, hww]; with_reducible rfl)))
    | (apply XD.callSQ rfl; (focus (simp only [sub, subO, subL, subM, sub3, sub2, fk_some, fk_none, fk_arg0, fk_argS, fk_argN, fk_map0, fk_mapS, fk_mapN, reduceIte, Nat.reduceEqDiff, Nat.reduceAdd, f0, f1, f5]; simp; with_reducible rfl)); (focus (simp [V.ids, V.ids.idsL]; done)); (focus (intro hh0; simp [snapL_eq, snapLF, snap_pv, snap_nils, snap_slx]; with_reducible rfl)); (focus (simp [-getElem?_pos, hlen, hj1, hj2, hx2, hww]; done)); (focus (simp [-getElem?_pos, hlen, hj1, hj2, hx2, hww]; with_reducible rfl)))
    | (apply XD.stepNQ rfl; (focus (simp only [sub, subO, subL, subM, sub3, sub2, fk_some, fk_none, fk_arg0, fk_argS, fk_argN, fk_map0, fk_mapS, fk_mapN, reduceIte, Nat.reduceEqDiff, Nat.reduceAdd, f0, f1, f5]; with_reducible rfl)))
    | ((first | apply XD.stepGtQ rfl | apply XD.stepGfQ rfl); (focus (simp only [sub, subO, subL, subM, sub3, sub2, fk_some, fk_none, fk_arg0, fk_argS, fk_argN, fk_map0, fk_mapS, fk_mapN, reduceIte, Nat.reduceEqDiff, Nat.reduceAdd, f0, f1, f5]; with_reducible rfl)); all_goals (intro hbr; first | exact absurd hbr (by decide) | ((try rw [hbr]); (try simp at hbr))))
    | (apply XD.loudQ rfl; (focus (simp only [sub, subO, subL, subM, sub3, sub2, fk_some, fk_none, fk_arg0, fk_argS, fk_argN, fk_map0, fk_mapS, fk_mapN, reduceIte, Nat.reduceEqDiff, Nat.reduceAdd, f0, f1, f5]; with_reducible rfl)); (focus (simp; with_reducible rfl)); (focus (simp [-getElem?_pos, hlen, hj1, hj2, hx2, hww]; with_reducible (first | rfl | exact ⟨rfl, rfl⟩))); (focus (simp; done)); (focus (simp [-getElem?_pos, hlen, hj1, hj2, hx2, hww]; with_reducible rfl))))
    all_goals exact ⟨hj1, _, _, by simp [f0, f1], rfl⟩
  · have hj2 : ¬ (j : Int) < (L.length : Int) := by omega
    have hj3 : ¬ j < L.length := by omega
    (repeat' first
    | apply X.retS
    | apply X.skipS
    | apply X.skipB
    | apply X.skipL
    | (apply X.exitS; first | apply X.here | (refine X.out (by decide) ?_; apply X.here))
    | apply X.blockS
    | (apply X.condQ rfl; (focus (simp only [sub, subO, subL, subM, sub3, sub2, fk_some, fk_none, fk_arg0, fk_argS, fk_argN, fk_map0, fk_mapS, fk_mapN, reduceIte, Nat.reduceEqDiff, Nat.reduceAdd, f0, f1, f5]; with_reducible rfl)); all_goals (intro hbr; first | exact absurd hbr (by decide) | ((try rw [hbr]); (try simp at hbr))))
    | apply X.stepZ
    | (apply X.stepQ rfl; (focus (simp only [sub, subO, subL, subM, sub3, sub2, fk_some, fk_none, fk_arg0, fk_argS, fk_argN, fk_map0, fk_mapS, fk_mapN, reduceIte, Nat.reduceEqDiff, Nat.reduceAdd, f0, f1, f5]; with_reducible rfl)); (focus (simp [-getElem?_pos, hlen, hj3, hj2]; with_reducible (first | rfl | exact ⟨rfl, rfl⟩))))
    | (apply X.stepNQ rfl; (focus (simp only [sub, subO, subL, subM, sub3, sub2, fk_some, fk_none, fk_arg0, fk_argS, fk_argN, fk_map0, fk_mapS, fk_mapN, reduceIte, Nat.reduceEqDiff, Nat.reduceAdd, f0, f1, f5]; with_reducible rfl)))
    | ((first | apply X.stepGtQ rfl | apply X.stepGfQ rfl); (focus (simp only [sub, subO, subL, subM, sub3, sub2, fk_some, fk_none, fk_arg0, fk_argS, fk_argN, fk_map0, fk_mapS, fk_mapN, reduceIte, Nat.reduceEqDiff, Nat.reduceAdd, f0, f1, f5]; with_reducible rfl)); all_goals (intro hbr; first | exact absurd hbr (by decide) | ((try rw [hbr]); (try simp at hbr))))
    | (apply X.draw0; (focus rfl))
    | (apply X.drawH0; (focus rfl))
    | apply XD.nil
    | (apply XD.calmQ rfl rfl; (focus (simp only [sub, subO, subL, subM, sub3, sub2, fk_some, fk_none, fk_arg0, fk_argS, fk_argN, fk_map0, fk_mapS, fk_mapN, reduceIte, Nat.reduceEqDiff, Nat.reduceAdd, f0, f1, f5]; with_reducible rfl)); (focus (simp [-getElem?_pos, hlen, hj3, hj2]; with_reducible (first | rfl | exact ⟨rfl, rfl⟩))))
    | (apply XD.callQ rfl; (focus (simp only [sub, subO, subL, subM, sub3, sub2, fk_some, fk_none, fk_arg0, fk_argS, fk_argN, fk_map0, fk_mapS, fk_mapN, reduceIte, Nat.reduceEqDiff, Nat.reduceAdd, f0, f1, f5]; simp; with_reducible rfl)); (focus (simp; with_reducible rfl)); (focus (simp [-getElem?_pos, hlen, hj3, hj2]; done)); (focus (simp [-getElem?_pos, hlen, hj3, hj2]; with_reducible rfl)))
    | (apply XD.callSQ rfl; (focus (simp only [sub, subO, subL, subM, sub3, sub2, fk_some, fk_none, fk_arg0, fk_argS, fk_argN, fk_map0, fk_mapS, fk_mapN, reduceIte, Nat.reduceEqDiff, Nat.reduceAdd, f0, f1, f5]; simp; with_reducible rfl)); (focus (simp [V.ids, V.ids.idsL]; done)); (focus (intro hh0; simp [snapL_eq, snapLF, snap_pv, snap_nils, snap_slx]; with_reducible rfl)); (focus (simp [-getElem?_pos, hlen, hj3, hj2]; done)); (focus (simp [-getElem?_pos, hlen, hj3, hj2]; with_reducible rfl)))
    | (apply XD.stepNQ rfl; (focus (simp only [sub, subO, subL, subM, sub3, sub2, fk_some, fk_none, fk_arg0, fk_argS, fk_argN, fk_map0, fk_mapS, fk_mapN, reduceIte, Nat.reduceEqDiff, Nat.reduceAdd, f0, f1, f5]; with_reducible rfl)))
    | ((first | apply XD.stepGtQ rfl | apply XD.stepGfQ rfl); (focus (simp only [sub, subO, subL, subM, sub3, sub2, fk_some, fk_none, fk_arg0, fk_argS, fk_argN, fk_map0, fk_mapS, fk_mapN, reduceIte, Nat.reduceEqDiff, Nat.reduceAdd, f0, f1, f5]; with_reducible rfl)); all_goals (intro hbr; first | exact absurd hbr (by decide) | ((try rw [hbr]); (try simp at hbr))))
    | (apply XD.loudQ rfl; (focus (simp only [sub, subO, subL, subM, sub3, sub2, fk_some, fk_none, fk_arg0, fk_argS, fk_argN, fk_map0, fk_mapS, fk_mapN, reduceIte, Nat.reduceEqDiff, Nat.reduceAdd, f0, f1, f5]; with_reducible rfl)); (focus (simp; with_reducible rfl)); (focus (simp [-getElem?_pos, hlen, hj3, hj2]; with_reducible (first | rfl | exact ⟨rfl, rfl⟩))); (focus (simp; done)); (focus (simp [-getElem?_pos, hlen, hj3, hj2]; with_reducible rfl))))
    all_goals (refine Fin.mkQ rfl (by simp only [resS, sub, subO, subL, subM, sub3, sub2, fk_some, fk_none, fk_arg0, fk_argS, fk_argN, fk_map0, fk_mapS, fk_mapN, reduceIte, Nat.reduceEqDiff, Nat.reduceAdd]; with_reducible rfl) (by simp [oneOf, pureRes, snapFuel, snapL]; with_reducible rfl) ?_)
    all_goals rfl
set_option maxHeartbeats 1000000 in
theorem null_star (HH : HasY E) (c : Co) : limP E 51 [encC (starC c)] = some [.bool true] := by
  have H := HH.null
  rw [eC]
  simp only [starC, Co.k, Co.s0, Co.s1, Co.s2, Co.s3, Co.n, Co.l, List.map_cons, List.map_nil]
  refine H.limQ (Nat.le_of_ble_eq_true rfl) ?_; unfold c51
  (repeat' first
    | apply X.retS
    | apply X.skipS
    | apply X.skipB
    | apply X.skipL
    | (apply X.exitS; first | apply X.here | (refine X.out (by decide) ?_; apply X.here))
    | apply X.blockS
    | (apply X.condQ rfl; (focus (simp only [sub, subO, subL, subM, sub3, sub2, fk_some, fk_none, fk_arg0, fk_argS, fk_argN, fk_map0, fk_mapS, fk_mapN, reduceIte, Nat.reduceEqDiff, Nat.reduceAdd]; with_reducible rfl)); all_goals (intro hbr; first | exact absurd hbr (by decide) | ((try rw [hbr]); (try simp at hbr))))
    | apply X.stepZ
    | (apply X.stepQ rfl; (focus (simp only [sub, subO, subL, subM, sub3, sub2, fk_some, fk_none, fk_arg0, fk_argS, fk_argN, fk_map0, fk_mapS, fk_mapN, reduceIte, Nat.reduceEqDiff, Nat.reduceAdd]; with_reducible rfl)); (focus (simp [-getElem?_pos]; with_reducible (first | rfl | exact ⟨rfl, rfl⟩))))
    | (apply X.stepNQ rfl; (focus (simp only [sub, subO, subL, subM, sub3, sub2, fk_some, fk_none, fk_arg0, fk_argS, fk_argN, fk_map0, fk_mapS, fk_mapN, reduceIte, Nat.reduceEqDiff, Nat.reduceAdd]; with_reducible rfl)))
    | ((first | apply X.stepGtQ rfl | apply X.stepGfQ rfl); (focus (simp only [sub, subO, subL, subM, sub3, sub2, fk_some, fk_none, fk_arg0, fk_argS, fk_argN, fk_map0, fk_mapS, fk_mapN, reduceIte, Nat.reduceEqDiff, Nat.reduceAdd]; with_reducible rfl)); all_goals (intro hbr; first | exact absurd hbr (by decide) | ((try rw [hbr]); (try simp at hbr)))))
  all_goals (refine Fin.mkQ rfl (by simp only [resS, sub, subO, subL, subM, sub3, sub2, fk_some, fk_none, fk_arg0, fk_argS, fk_argN, fk_map0, fk_mapS, fk_mapN, reduceIte, Nat.reduceEqDiff, Nat.reduceAdd]; with_reducible rfl) (by simp [oneOf, pureRes, snapFuel, snapL]; with_reducible rfl) ?_)
  all_goals rfl
set_option maxHeartbeats 1000000 in
theorem Null_star (HH : HasY E) (c : Co) (hf : FineC (starC c)) (hg : GoodC (starC c) = true) : limP E 25 [encC (starC c)] = some [.bool true] := by
  have H := HH.Null
  have hG := CGood_ok HH.c _ hf
  have hN := null_star HH c
  rw [hg] at hG
  rw [eC] at hG hN ⊢
  refine H.limQ (Nat.le_of_ble_eq_true rfl) ?_; unfold c25
  (repeat' first
    | apply X.retS
    | apply X.skipS
    | apply X.skipB
    | apply X.skipL
    | (apply X.exitS; first | apply X.here | (refine X.out (by decide) ?_; apply X.here))
    | apply X.blockS
    | (apply X.condQ rfl; (focus (simp only [sub, subO, subL, subM, sub3, sub2, fk_some, fk_none, fk_arg0, fk_argS, fk_argN, fk_map0, fk_mapS, fk_mapN, reduceIte, Nat.reduceEqDiff, Nat.reduceAdd]; with_reducible rfl)); all_goals (intro hbr; first | exact absurd hbr (by decide) | ((try rw [hbr]); (try simp at hbr))))
    | apply X.stepZ
    | (apply X.stepQ rfl; (focus (simp only [sub, subO, subL, subM, sub3, sub2, fk_some, fk_none, fk_arg0, fk_argS, fk_argN, fk_map0, fk_mapS, fk_mapN, reduceIte, Nat.reduceEqDiff, Nat.reduceAdd]; with_reducible rfl)); (focus (simp [-getElem?_pos, HH.c.Good.raw, hG, HH.null.raw, hN]; with_reducible (first | rfl | exact ⟨rfl, rfl⟩))))
    | (apply X.stepNQ rfl; (focus (simp only [sub, subO, subL, subM, sub3, sub2, fk_some, fk_none, fk_arg0, fk_argS, fk_argN, fk_map0, fk_mapS, fk_mapN, reduceIte, Nat.reduceEqDiff, Nat.reduceAdd]; with_reducible rfl)))
    | ((first | apply X.stepGtQ rfl | apply X.stepGfQ rfl); (focus (simp only [sub, subO, subL, subM, sub3, sub2, fk_some, fk_none, fk_arg0, fk_argS, fk_argN, fk_map0, fk_mapS, fk_mapN, reduceIte, Nat.reduceEqDiff, Nat.reduceAdd]; with_reducible rfl)); all_goals (intro hbr; first | exact absurd hbr (by decide) | ((try rw [hbr]); (try simp at hbr)))))
  all_goals (refine Fin.mkQ rfl (by simp only [resS, sub, subO, subL, subM, sub3, sub2, fk_some, fk_none, fk_arg0, fk_argS, fk_argN, fk_map0, fk_mapS, fk_mapN, reduceIte, Nat.reduceEqDiff, Nat.reduceAdd]; with_reducible rfl) (by simp [oneOf, pureRes, snapFuel, snapL]; with_reducible rfl) ?_)
  all_goals rfl
end Lng
