/- CiVb: steps, walks, laws: see the remarks within. -/
import Derived.Test.YtlhfndoldaokhaaDoorCiVa
set_option linter.unusedSimpArgs false
set_option linter.unusedVariables false
-- Values: whether they may be; what is too much.
namespace Cps
open Go Ab Go.Proofs.YtlhfndoldaokhaaDoor.Mach
variable {E : Env}

theorem gvS_eq (c : Co) (v : Va) : gvS c v = if c.k = 7 then gvS.gvAt c.l 0 v else
    if ¬ kindC v.k = c.k ∨ kindC v.k = 0 ∨ ¬ (v.l.length : Int) = kindM v.k v.l.length ∨ ¬ kindC v.k = 2 ∧ ¬ v.b = 0 then false else
    if v.k = 2 then hasS c v.b else
    if v.k = 5 then (match v.l with | [x] => gvS.gvAt c.l 1 x | _ => false) else
    if v.k = 3 then (match v.l with | [x, y] => gvS.gvAt c.l 0 x && gvS.gvAt c.l 1 y | _ => false) else !(v.l.any fun x => !gvS.gvAt c.l 0 x) := by
  cases c
  rw [gvS]
  simp only [Co.k, Co.l, hasS, Co.s0, Co.s1, Co.s2, Co.s3]
  rfl

/-- As many kids as its kind has, and a group's number: all the way down. -/
def Sh : Co → Prop
  | .mk k _ _ _ _ n l => (l.length : Int) = kidsS k ∧ (k = 6 → 1 ≤ n ∧ n ≤ 32) ∧ ShL l
where
  ShL : List Co → Prop
  | [] => True
  | x :: l => Sh x ∧ ShL l
theorem shL : ∀ {l : List Co}, Sh.ShL l ↔ ∀ x ∈ l, Sh x
  | [] => by simp [Sh.ShL]
  | x :: l => by simp [Sh.ShL, shL (l := l)]
theorem sh_mk {c : Co} : Sh c ↔ (c.l.length : Int) = kidsS c.k ∧ (c.k = 6 → 1 ≤ c.n ∧ c.n ≤ 32) ∧ ∀ x ∈ c.l, Sh x := by
  cases c; simp only [Sh, shL, Co.k, Co.l, Co.n]

theorem sh_of_good : ∀ c d, gcS c d = true → Sh c := by
  refine Co.ind fun c ih d h => ?_
  rw [gcS_eq] at h
  rw [sh_mk]
  split at h
  · cases h
  · split at h
    · cases h
    · rename_i h2
      split at h
      · cases h
      · split at h
        · cases h
        · rename_i h4
          split at h
          · cases h
          · refine ⟨by simpa using h2, fun h6 => ?_, fun x hx => ?_⟩
            · simp only [h6, true_and, not_or] at h4; omega
            · have : (c.l.any fun y => !gcS y (d - 1)) = false := by simpa using h
              rw [List.any_eq_false] at this
              exact ih x hx (d - 1) (by simpa using this x hx)

theorem sh_GoodC {c : Co} (h : GoodC c = true) : Sh c := by
  unfold GoodC at h
  split at h
  · exact sh_of_good c _ h
  · cases h

/-- The kids, by the kind. -/
theorem sh_one {c : Co} (h : Sh c) (hk : c.k = 5 ∨ c.k = 6 ∨ c.k = 7) : ∃ a, c.l = [a] ∧ Sh a := by
  rw [sh_mk] at h
  obtain ⟨h1, _, h3⟩ := h
  have : c.l.length = 1 := by
    have : kidsS c.k = 1 := by rcases hk with h | h | h <;> rw [h] <;> rfl
    omega
  match hl : c.l, this with
  | [a], _ => exact ⟨a, rfl, h3 a (by rw [hl]; simp)⟩
theorem sh_two {c : Co} (h : Sh c) (hk : c.k = 3 ∨ c.k = 4) : ∃ a b, c.l = [a, b] ∧ Sh a ∧ Sh b := by
  rw [sh_mk] at h
  obtain ⟨h1, _, h3⟩ := h
  have : c.l.length = 2 := by
    have : kidsS c.k = 2 := by rcases hk with h | h <;> rw [h] <;> rfl
    omega
  match hl : c.l, this with
  | [a, b], _ => exact ⟨a, b, rfl, h3 a (by rw [hl]; simp), h3 b (by rw [hl]; simp)⟩

/-- What the walks of values lean on. -/
structure HasV (E : Env) : Prop where
  kind : Has E 92 c92
  has : Has E 93 c93
  good : Has E 66 c66
  good1 : Has E 95 c95
  con : Has E 94 c94
  idx : Has E 118 c118
  Good : Has E 33 c33
  core : HasC E

theorem vgood1_ok (HH : HasV E) {c a : Co} {t : List Co} {y : Va} {r : Bool} (hl : c.l = a :: t) (h : limP E 66 [encC a, encV y] = some [.bool r]) : limP E 95 [encV y, .ip (encC c).cells 0] = some [.bool !r] := by
  rw [eC a, eV] at h
  rw [eC c, eV, hl, List.map_cons, eC a]
  have H := HH.good1
  refine H.lim (Nat.le_of_ble_eq_true rfl) (by simp; with_reducible rfl) ?_; unfold c95
  (repeat' first
    | apply X.retS
    | apply X.skipS
    | apply X.skipB
    | apply X.skipL
    | (apply X.exitS; first | apply X.here | (refine X.out (by decide) ?_; apply X.here))
    | apply X.blockS
    | (apply X.condS rfl <;> intro hp <;> first | exact absurd hp (by decide) | ((try rw [hp]); (try simp at hp)))
    | apply X.stepZ
    | (apply X.step; (focus (simp [-getElem?_pos, HH.good.raw, h]; with_reducible (first | rfl | exact ⟨rfl, rfl⟩))); (focus (simp; with_reducible rfl)))
    | (apply X.stepN rfl; (focus (simp; with_reducible rfl)))
    | ((first | apply X.stepGt rfl | apply X.stepGf rfl); (focus (simp; with_reducible rfl)); all_goals (intro hp; first | exact absurd hp (by decide) | ((try rw [hp]); (try simp at hp))))
    | (apply X.draw0; (focus rfl))
    | apply XD.nil
    | (apply XD.calm rfl; (focus (simp [-getElem?_pos, HH.good.raw, h]; with_reducible (first | rfl | exact ⟨rfl, rfl⟩))); (focus (simp; with_reducible rfl)))
    | (apply XD.call; (focus (simp; with_reducible rfl)); (focus (simp; with_reducible rfl)); (focus (simp [-getElem?_pos, HH.good.raw, h]; done)); (focus (simp [-getElem?_pos, HH.good.raw, h]; with_reducible rfl)); (focus (simp; with_reducible rfl)))
    | (apply XD.stepN rfl; (focus (simp; with_reducible rfl)))
    | ((first | apply XD.stepGt rfl | apply XD.stepGf rfl); (focus (simp; with_reducible rfl)); all_goals (intro hp; first | exact absurd hp (by decide) | ((try rw [hp]); (try simp at hp))))
    | (apply XD.loud; (focus (simp [-getElem?_pos, HH.good.raw, h]; with_reducible (first | rfl | exact ⟨rfl, rfl⟩))); (focus (simp; done)); (focus (simp; with_reducible rfl)); (focus (simp; with_reducible rfl))))
  all_goals ((refine Fin.mk' (by simp [resA]; with_reducible rfl) (by simp [oneOf, pureRes, snapFuel, snapL]; with_reducible rfl) ?_); simp)

theorem eCm (k s0 s1 s2 s3 n : Int) (l : List Co) : encC (.mk k s0 s1 s2 s3 n l) = .agg [.int .i64 k, .int .u64 s0, .int .u64 s1, .int .u64 s2, .int .u64 s3, .int .i64 n, .sl (l.map encC)] := eC _
theorem eVm (k b : Int) (l : List Va) : encV (.mk k b l) = .agg [.int .i64 k, .int .u8 b, .sl (l.map encV)] := eV _

theorem kind_cases {k : Int} (h : ¬ kindC k = 0) : k = 1 ∨ k = 2 ∨ k = 3 ∨ k = 4 ∨ k = 5 ∨ k = 6 ∨ k = 7 := by
  unfold kindC at h
  repeat' split at h
  all_goals first | omega | exact absurd rfl h

/-- A closure's answer on a row of a value's. -/
theorem vcon_ok (HH : HasV E) {c a : Co} {t : List Co} {l : List Va} (hl : c.l = a :: t) (hn : l.length ≤ 9223372036854775807) (ih : ∀ v ∈ l, limP E 66 [encC a, encV v] = some [.bool (gvS a v)]) :
    limP E 94 [.sl (l.map encV), .fn 95 [.ip (encC c).cells 0]] = some [.bool (l.any fun x => !gvS a x)] :=
  containsV HH.con HH.idx (g := 95) (caps := [.ip (encC c).cells 0]) (r := fun x => !gvS a x) HH.good1.raw hn fun x hx => vgood1_ok HH hl (ih x hx)

set_option maxHeartbeats 8000000 in
theorem vgood_ok (HH : HasV E) : ∀ c, Sh c → ∀ v, FineV v → limP E 66 [encC c, encV v] = some [.bool (gvS c v)] := by
  refine Co.ind fun c ih hs v hf => ?_
  obtain ⟨hb, hf1, hf2⟩ := fineV hf
  have hk := kind_ok HH.kind v
  obtain ⟨ck, s0, s1, s2, s3, n, cl⟩ := c
  obtain ⟨vk, vb, vl⟩ := v
  simp only [Va.k, Va.b, Va.l] at hk hb hf1 hf2
  simp only [Co.l] at ih
  rw [eVm] at hk
  have H := HH.good
  cases b7 : (ck == 7) with
  | true =>
    have h7 : ck = 7 := by simpa using b7
    subst h7
    obtain ⟨a, hl, ha⟩ := sh_one hs (by simp [Co.k])
    simp only [Co.l] at hl
    subst hl
    have hc := ih a (by simp) ha _ hf
    have hX : gvS (.mk 7 s0 s1 s2 s3 n [a]) (.mk vk vb vl) = gvS a (.mk vk vb vl) := by rw [gvS_eq]; simp [Co.k, Co.l, gvS.gvAt]
    rw [hX]
    rw [eC a, eVm] at hc
    rw [eCm, eVm, List.map_cons, eC a]
    clear ih
    refine H.lim (Nat.le_of_ble_eq_true rfl) (by simp; with_reducible rfl) ?_; unfold c66
    (repeat' first
    | apply X.retS
    | apply X.skipS
    | apply X.skipB
    | apply X.skipL
    | (apply X.exitS; first | apply X.here | (refine X.out (by decide) ?_; apply X.here))
    | apply X.blockS
    | (apply X.condS rfl <;> intro hp <;> first | exact absurd hp (by decide) | ((try rw [hp]); (try simp at hp)))
    | apply X.stepZ
    | (apply X.step; (focus (simp [-getElem?_pos, HH.good.raw, hc]; with_reducible (first | rfl | exact ⟨rfl, rfl⟩))); (focus (simp; with_reducible rfl)))
    | (apply X.stepN rfl; (focus (simp; with_reducible rfl)))
    | ((first | apply X.stepGt rfl | apply X.stepGf rfl); (focus (simp; with_reducible rfl)); all_goals (intro hp; first | exact absurd hp (by decide) | ((try rw [hp]); (try simp at hp))))
    | (apply X.draw0; (focus rfl))
    | apply XD.nil
    | (apply XD.calm rfl; (focus (simp [-getElem?_pos, HH.good.raw, hc]; with_reducible (first | rfl | exact ⟨rfl, rfl⟩))); (focus (simp; with_reducible rfl)))
    | (apply XD.call; (focus (simp; with_reducible rfl)); (focus (simp; with_reducible rfl)); (focus (simp [-getElem?_pos, HH.good.raw, hc]; done)); (focus (simp [-getElem?_pos, HH.good.raw, hc]; with_reducible rfl)); (focus (simp; with_reducible rfl)))
    | (apply XD.stepN rfl; (focus (simp; with_reducible rfl)))
    | ((first | apply XD.stepGt rfl | apply XD.stepGf rfl); (focus (simp; with_reducible rfl)); all_goals (intro hp; first | exact absurd hp (by decide) | ((try rw [hp]); (try simp at hp))))
    | (apply XD.loud; (focus (simp [-getElem?_pos, HH.good.raw, hc]; with_reducible (first | rfl | exact ⟨rfl, rfl⟩))); (focus (simp; done)); (focus (simp; with_reducible rfl)); (focus (simp; with_reducible rfl))))
    all_goals ((refine Fin.mk' (by simp [resA]; with_reducible rfl) (by simp [oneOf, pureRes, snapFuel, snapL]; with_reducible rfl) ?_); simp)
  | false =>
    have h7 : ¬ ck = 7 := by simpa using b7
    cases b1 : (kindC vk != ck) with
    | true =>
      have h1 : ¬ kindC vk = ck := by simpa using b1
      have hX : gvS (.mk ck s0 s1 s2 s3 n cl) (.mk vk vb vl) = false := by rw [gvS_eq]; simp [Co.k, Va.k, h7, h1]
      rw [hX, eCm, eVm]
      clear ih
      refine H.lim (Nat.le_of_ble_eq_true rfl) (by simp; with_reducible rfl) ?_; unfold c66
      (repeat' first
    | apply X.retS
    | apply X.skipS
    | apply X.skipB
    | apply X.skipL
    | (apply X.exitS; first | apply X.here | (refine X.out (by decide) ?_; apply X.here))
    | apply X.blockS
    | (apply X.condS rfl <;> intro hp <;> first | exact absurd hp (by decide) | ((try rw [hp]); (try simp at hp)))
    | apply X.stepZ
    | (apply X.step; (focus (simp [-getElem?_pos, b7, HH.kind.raw, hk, b1]; with_reducible (first | rfl | exact ⟨rfl, rfl⟩))); (focus (simp; with_reducible rfl)))
    | (apply X.stepN rfl; (focus (simp; with_reducible rfl)))
    | ((first | apply X.stepGt rfl | apply X.stepGf rfl); (focus (simp; with_reducible rfl)); all_goals (intro hp; first | exact absurd hp (by decide) | ((try rw [hp]); (try simp at hp))))
    | (apply X.draw0; (focus rfl))
    | apply XD.nil
    | (apply XD.calm rfl; (focus (simp [-getElem?_pos, b7, HH.kind.raw, hk, b1]; with_reducible (first | rfl | exact ⟨rfl, rfl⟩))); (focus (simp; with_reducible rfl)))
    | (apply XD.call; (focus (simp; with_reducible rfl)); (focus (simp; with_reducible rfl)); (focus (simp [-getElem?_pos, b7, HH.kind.raw, hk, b1]; done)); (focus (simp [-getElem?_pos, b7, HH.kind.raw, hk, b1]; with_reducible rfl)); (focus (simp; with_reducible rfl)))
    | (apply XD.stepN rfl; (focus (simp; with_reducible rfl)))
    | ((first | apply XD.stepGt rfl | apply XD.stepGf rfl); (focus (simp; with_reducible rfl)); all_goals (intro hp; first | exact absurd hp (by decide) | ((try rw [hp]); (try simp at hp))))
    | (apply XD.loud; (focus (simp [-getElem?_pos, b7, HH.kind.raw, hk, b1]; with_reducible (first | rfl | exact ⟨rfl, rfl⟩))); (focus (simp; done)); (focus (simp; with_reducible rfl)); (focus (simp; with_reducible rfl))))
      all_goals ((refine Fin.mk' (by simp [resA]; with_reducible rfl) (by simp [oneOf, pureRes, snapFuel, snapL]; with_reducible rfl) ?_); simp)
    | false =>
      have h1 : kindC vk = ck := by simpa using b1
      cases b2 : (kindC vk == 0) with
      | true =>
        have h2 : kindC vk = 0 := by simpa using b2
        have hX : gvS (.mk ck s0 s1 s2 s3 n cl) (.mk vk vb vl) = false := by rw [gvS_eq]; simp [Co.k, Va.k, h7, h2]
        rw [hX, eCm, eVm]
        clear ih
        refine H.lim (Nat.le_of_ble_eq_true rfl) (by simp; with_reducible rfl) ?_; unfold c66
        (repeat' first
    | apply X.retS
    | apply X.skipS
    | apply X.skipB
    | apply X.skipL
    | (apply X.exitS; first | apply X.here | (refine X.out (by decide) ?_; apply X.here))
    | apply X.blockS
    | (apply X.condS rfl <;> intro hp <;> first | exact absurd hp (by decide) | ((try rw [hp]); (try simp at hp)))
    | apply X.stepZ
    | (apply X.step; (focus (simp [-getElem?_pos, b7, HH.kind.raw, hk, b1, b2]; with_reducible (first | rfl | exact ⟨rfl, rfl⟩))); (focus (simp; with_reducible rfl)))
    | (apply X.stepN rfl; (focus (simp; with_reducible rfl)))
    | ((first | apply X.stepGt rfl | apply X.stepGf rfl); (focus (simp; with_reducible rfl)); all_goals (intro hp; first | exact absurd hp (by decide) | ((try rw [hp]); (try simp at hp))))
    | (apply X.draw0; (focus rfl))
    | apply XD.nil
    | (apply XD.calm rfl; (focus (simp [-getElem?_pos, b7, HH.kind.raw, hk, b1, b2]; with_reducible (first | rfl | exact ⟨rfl, rfl⟩))); (focus (simp; with_reducible rfl)))
    | (apply XD.call; (focus (simp; with_reducible rfl)); (focus (simp; with_reducible rfl)); (focus (simp [-getElem?_pos, b7, HH.kind.raw, hk, b1, b2]; done)); (focus (simp [-getElem?_pos, b7, HH.kind.raw, hk, b1, b2]; with_reducible rfl)); (focus (simp; with_reducible rfl)))
    | (apply XD.stepN rfl; (focus (simp; with_reducible rfl)))
    | ((first | apply XD.stepGt rfl | apply XD.stepGf rfl); (focus (simp; with_reducible rfl)); all_goals (intro hp; first | exact absurd hp (by decide) | ((try rw [hp]); (try simp at hp))))
    | (apply XD.loud; (focus (simp [-getElem?_pos, b7, HH.kind.raw, hk, b1, b2]; with_reducible (first | rfl | exact ⟨rfl, rfl⟩))); (focus (simp; done)); (focus (simp; with_reducible rfl)); (focus (simp; with_reducible rfl))))
        all_goals ((refine Fin.mk' (by simp [resA]; with_reducible rfl) (by simp [oneOf, pureRes, snapFuel, snapL]; with_reducible rfl) ?_); simp)
      | false =>
        have h2 : ¬ kindC vk = 0 := by simpa using b2
        cases b3 : ((vl.length : Int) != kindM vk vl.length) with
        | true =>
          have h3 : ¬ (vl.length : Int) = kindM vk vl.length := by simpa using b3
          have hX : gvS (.mk ck s0 s1 s2 s3 n cl) (.mk vk vb vl) = false := by rw [gvS_eq]; simp [Co.k, Va.k, Va.l, h7, h3]
          rw [hX, eCm, eVm]
          clear ih
          refine H.lim (Nat.le_of_ble_eq_true rfl) (by simp; with_reducible rfl) ?_; unfold c66
          (repeat' first
    | apply X.retS
    | apply X.skipS
    | apply X.skipB
    | apply X.skipL
    | (apply X.exitS; first | apply X.here | (refine X.out (by decide) ?_; apply X.here))
    | apply X.blockS
    | (apply X.condS rfl <;> intro hp <;> first | exact absurd hp (by decide) | ((try rw [hp]); (try simp at hp)))
    | apply X.stepZ
    | (apply X.step; (focus (simp [-getElem?_pos, b7, HH.kind.raw, hk, b1, b2, b3]; with_reducible (first | rfl | exact ⟨rfl, rfl⟩))); (focus (simp; with_reducible rfl)))
    | (apply X.stepN rfl; (focus (simp; with_reducible rfl)))
    | ((first | apply X.stepGt rfl | apply X.stepGf rfl); (focus (simp; with_reducible rfl)); all_goals (intro hp; first | exact absurd hp (by decide) | ((try rw [hp]); (try simp at hp))))
    | (apply X.draw0; (focus rfl))
    | apply XD.nil
    | (apply XD.calm rfl; (focus (simp [-getElem?_pos, b7, HH.kind.raw, hk, b1, b2, b3]; with_reducible (first | rfl | exact ⟨rfl, rfl⟩))); (focus (simp; with_reducible rfl)))
    | (apply XD.call; (focus (simp; with_reducible rfl)); (focus (simp; with_reducible rfl)); (focus (simp [-getElem?_pos, b7, HH.kind.raw, hk, b1, b2, b3]; done)); (focus (simp [-getElem?_pos, b7, HH.kind.raw, hk, b1, b2, b3]; with_reducible rfl)); (focus (simp; with_reducible rfl)))
    | (apply XD.stepN rfl; (focus (simp; with_reducible rfl)))
    | ((first | apply XD.stepGt rfl | apply XD.stepGf rfl); (focus (simp; with_reducible rfl)); all_goals (intro hp; first | exact absurd hp (by decide) | ((try rw [hp]); (try simp at hp))))
    | (apply XD.loud; (focus (simp [-getElem?_pos, b7, HH.kind.raw, hk, b1, b2, b3]; with_reducible (first | rfl | exact ⟨rfl, rfl⟩))); (focus (simp; done)); (focus (simp; with_reducible rfl)); (focus (simp; with_reducible rfl))))
          all_goals ((refine Fin.mk' (by simp [resA]; with_reducible rfl) (by simp [oneOf, pureRes, snapFuel, snapL]; with_reducible rfl) ?_); simp)
        | false =>
          have h3 : (vl.length : Int) = kindM vk vl.length := by simpa using b3
          cases b4 : (kindC vk != 2 && vb != 0) with
          | true =>
            have h4 : ¬ kindC vk = 2 ∧ ¬ vb = 0 := by simpa using b4
            have b4a : (kindC vk != 2) = true := by simpa using h4.1
            have b4b : (vb != 0) = true := by simpa using h4.2
            have hX : gvS (.mk ck s0 s1 s2 s3 n cl) (.mk vk vb vl) = false := by rw [gvS_eq]; simp [Co.k, Va.k, Va.l, Va.b, h7, h4]
            rw [hX, eCm, eVm]
            clear ih
            refine H.lim (Nat.le_of_ble_eq_true rfl) (by simp; with_reducible rfl) ?_; unfold c66
            (repeat' first
    | apply X.retS
    | apply X.skipS
    | apply X.skipB
    | apply X.skipL
    | (apply X.exitS; first | apply X.here | (refine X.out (by decide) ?_; apply X.here))
    | apply X.blockS
    | (apply X.condS rfl <;> intro hp <;> first | exact absurd hp (by decide) | ((try rw [hp]); (try simp at hp)))
    | apply X.stepZ
    | (apply X.step; (focus (simp [-getElem?_pos, b7, HH.kind.raw, hk, b1, b2, b3, b4a, b4b]; with_reducible (first | rfl | exact ⟨rfl, rfl⟩))); (focus (simp; with_reducible rfl)))
    | (apply X.stepN rfl; (focus (simp; with_reducible rfl)))
    | ((first | apply X.stepGt rfl | apply X.stepGf rfl); (focus (simp; with_reducible rfl)); all_goals (intro hp; first | exact absurd hp (by decide) | ((try rw [hp]); (try simp at hp))))
    | (apply X.draw0; (focus rfl))
    | apply XD.nil
    | (apply XD.calm rfl; (focus (simp [-getElem?_pos, b7, HH.kind.raw, hk, b1, b2, b3, b4a, b4b]; with_reducible (first | rfl | exact ⟨rfl, rfl⟩))); (focus (simp; with_reducible rfl)))
    | (apply XD.call; (focus (simp; with_reducible rfl)); (focus (simp; with_reducible rfl)); (focus (simp [-getElem?_pos, b7, HH.kind.raw, hk, b1, b2, b3, b4a, b4b]; done)); (focus (simp [-getElem?_pos, b7, HH.kind.raw, hk, b1, b2, b3, b4a, b4b]; with_reducible rfl)); (focus (simp; with_reducible rfl)))
    | (apply XD.stepN rfl; (focus (simp; with_reducible rfl)))
    | ((first | apply XD.stepGt rfl | apply XD.stepGf rfl); (focus (simp; with_reducible rfl)); all_goals (intro hp; first | exact absurd hp (by decide) | ((try rw [hp]); (try simp at hp))))
    | (apply XD.loud; (focus (simp [-getElem?_pos, b7, HH.kind.raw, hk, b1, b2, b3, b4a, b4b]; with_reducible (first | rfl | exact ⟨rfl, rfl⟩))); (focus (simp; done)); (focus (simp; with_reducible rfl)); (focus (simp; with_reducible rfl))))
            all_goals ((refine Fin.mk' (by simp [resA]; with_reducible rfl) (by simp [oneOf, pureRes, snapFuel, snapL]; with_reducible rfl) ?_); simp)
          | false =>
            have h4 : ¬ (¬ kindC vk = 2 ∧ ¬ vb = 0) := by
              intro hh
              have : (kindC vk != 2 && vb != 0) = true := by simpa using hh
              rw [this] at b4; cases b4
            subst h1
            rcases kind_cases h2 with h | h | h | h | h | h | h <;> subst h <;> simp [kindM] at h3 hk
            · have e1 : kindC 1 = 1 := rfl
              rw [e1] at hk b7 h7 h4 hs ⊢
              subst h3
              have hb0 : vb = 0 := by simpa using h4
              subst hb0
              have hc := containsV HH.con HH.idx (g := 95) (caps := [.ip (encC (.mk 1 s0 s1 s2 s3 n cl)).cells 0]) (xs := []) (r := fun _ => true) HH.good1.raw (by simp) (by simp)
              have hX : gvS (.mk 1 s0 s1 s2 s3 n cl) (.mk 1 0 []) = true := by rw [gvS_eq]; simp [Co.k, Va.k, Va.l, Va.b, kindC, kindM]
              rw [hX]
              rw [eCm] at hc
              rw [eCm, eVm]
              simp only [PV.cells, List.map_cons, List.map_nil, List.any_nil] at hk hc ⊢
              clear ih
              refine H.lim (Nat.le_of_ble_eq_true rfl) (by simp; with_reducible rfl) ?_; unfold c66
              (repeat' first
    | apply X.retS
    | apply X.skipS
    | apply X.skipB
    | apply X.skipL
    | (apply X.exitS; first | apply X.here | (refine X.out (by decide) ?_; apply X.here))
    | apply X.blockS
    | (apply X.condS rfl <;> intro hp <;> first | exact absurd hp (by decide) | ((try rw [hp]); (try simp at hp)))
    | apply X.stepZ
    | (apply X.step; (focus (simp [-getElem?_pos, HH.kind.raw, hk, HH.con.raw, hc]; with_reducible (first | rfl | exact ⟨rfl, rfl⟩))); (focus (simp; with_reducible rfl)))
    | (apply X.stepN rfl; (focus (simp; with_reducible rfl)))
    | ((first | apply X.stepGt rfl | apply X.stepGf rfl); (focus (simp; with_reducible rfl)); all_goals (intro hp; first | exact absurd hp (by decide) | ((try rw [hp]); (try simp at hp))))
    | (apply X.draw0; (focus rfl))
    | apply XD.nil
    | (apply XD.calm rfl; (focus (simp [-getElem?_pos, HH.kind.raw, hk, HH.con.raw, hc]; with_reducible (first | rfl | exact ⟨rfl, rfl⟩))); (focus (simp; with_reducible rfl)))
    | (apply XD.call; (focus (simp; with_reducible rfl)); (focus (simp; with_reducible rfl)); (focus (simp [-getElem?_pos, HH.kind.raw, hk, HH.con.raw, hc]; done)); (focus (simp [-getElem?_pos, HH.kind.raw, hk, HH.con.raw, hc]; with_reducible rfl)); (focus (simp; with_reducible rfl)))
    | (apply XD.stepN rfl; (focus (simp; with_reducible rfl)))
    | ((first | apply XD.stepGt rfl | apply XD.stepGf rfl); (focus (simp; with_reducible rfl)); all_goals (intro hp; first | exact absurd hp (by decide) | ((try rw [hp]); (try simp at hp))))
    | (apply XD.loud; (focus (simp [-getElem?_pos, HH.kind.raw, hk, HH.con.raw, hc]; with_reducible (first | rfl | exact ⟨rfl, rfl⟩))); (focus (simp; done)); (focus (simp; with_reducible rfl)); (focus (simp; with_reducible rfl))))
              all_goals ((refine Fin.mk' (by simp [resA]; with_reducible rfl) (by simp [oneOf, pureRes, snapFuel, snapL]; with_reducible rfl) ?_); simp)
            · have e1 : kindC 2 = 2 := rfl
              rw [e1] at hk b7 h7 h4 hs ⊢
              subst h3
              have hc := Has_ok HH.has (.mk 2 s0 s1 s2 s3 n cl) vb hb
              have hX : gvS (.mk 2 s0 s1 s2 s3 n cl) (.mk 2 vb []) = hasS (.mk 2 s0 s1 s2 s3 n cl) vb := by rw [gvS_eq]; simp [Co.k, Va.k, Va.l, Va.b, kindC, kindM]
              rw [hX]
              simp only [Co.s0, Co.s1, Co.s2, Co.s3] at hc
              rw [eCm, eVm]
              simp only [List.map_nil] at hk ⊢
              clear ih
              refine H.lim (Nat.le_of_ble_eq_true rfl) (by simp; with_reducible rfl) ?_; unfold c66
              (repeat' first
    | apply X.retS
    | apply X.skipS
    | apply X.skipB
    | apply X.skipL
    | (apply X.exitS; first | apply X.here | (refine X.out (by decide) ?_; apply X.here))
    | apply X.blockS
    | (apply X.condS rfl <;> intro hp <;> first | exact absurd hp (by decide) | ((try rw [hp]); (try simp at hp)))
    | apply X.stepZ
    | (apply X.step; (focus (simp [-getElem?_pos, HH.kind.raw, hk, HH.has.raw, hc]; with_reducible (first | rfl | exact ⟨rfl, rfl⟩))); (focus (simp; with_reducible rfl)))
    | (apply X.stepN rfl; (focus (simp; with_reducible rfl)))
    | ((first | apply X.stepGt rfl | apply X.stepGf rfl); (focus (simp; with_reducible rfl)); all_goals (intro hp; first | exact absurd hp (by decide) | ((try rw [hp]); (try simp at hp))))
    | (apply X.draw0; (focus rfl))
    | apply XD.nil
    | (apply XD.calm rfl; (focus (simp [-getElem?_pos, HH.kind.raw, hk, HH.has.raw, hc]; with_reducible (first | rfl | exact ⟨rfl, rfl⟩))); (focus (simp; with_reducible rfl)))
    | (apply XD.call; (focus (simp; with_reducible rfl)); (focus (simp; with_reducible rfl)); (focus (simp [-getElem?_pos, HH.kind.raw, hk, HH.has.raw, hc]; done)); (focus (simp [-getElem?_pos, HH.kind.raw, hk, HH.has.raw, hc]; with_reducible rfl)); (focus (simp; with_reducible rfl)))
    | (apply XD.stepN rfl; (focus (simp; with_reducible rfl)))
    | ((first | apply XD.stepGt rfl | apply XD.stepGf rfl); (focus (simp; with_reducible rfl)); all_goals (intro hp; first | exact absurd hp (by decide) | ((try rw [hp]); (try simp at hp))))
    | (apply XD.loud; (focus (simp [-getElem?_pos, HH.kind.raw, hk, HH.has.raw, hc]; with_reducible (first | rfl | exact ⟨rfl, rfl⟩))); (focus (simp; done)); (focus (simp; with_reducible rfl)); (focus (simp; with_reducible rfl))))
              all_goals ((refine Fin.mk' (by simp [resA]; with_reducible rfl) (by simp [oneOf, pureRes, snapFuel, snapL]; with_reducible rfl) ?_); simp)
            · have e1 : kindC 3 = 3 := rfl
              rw [e1] at hk b7 h7 h4 hs ⊢
              obtain ⟨a, b, hl, ha, hb2⟩ := sh_two hs (by simp [Co.k])
              simp only [Co.l] at hl
              subst hl
              have hb0 : vb = 0 := by simpa using h4
              subst hb0
              obtain ⟨x, y, rfl⟩ : ∃ x y, vl = [x, y] := by
                have h3 : vl.length = 2 := by omega
                match vl, h3 with
                | [x, y], _ => exact ⟨x, y, rfl⟩
              have h1 := ih a (by simp) ha x (hf2 x (by simp))
              have h2 := ih b (by simp) hb2 y (hf2 y (by simp))
              have hX : gvS (.mk 3 s0 s1 s2 s3 n [a, b]) (.mk 3 0 [x, y]) = (gvS a x && gvS b y) := by rw [gvS_eq]; simp [Co.k, Co.l, Va.k, Va.l, Va.b, kindC, kindM, gvS.gvAt]
              rw [hX]
              generalize gvS a x = r1 at h1
              generalize gvS b y = r2 at h2
              rw [eC a, eV x] at h1
              rw [eC b, eV y] at h2
              rw [eCm, eVm]
              simp only [List.map_cons, List.map_nil]
              simp only [List.map_cons, List.map_nil] at hk
              rw [eC a, eC b, eV x, eV y]
              rw [eV x, eV y] at hk
              clear ih
              cases r1 <;> (
              refine H.lim (Nat.le_of_ble_eq_true rfl) (by simp; with_reducible rfl) ?_; unfold c66
              (repeat' first
    | apply X.retS
    | apply X.skipS
    | apply X.skipB
    | apply X.skipL
    | (apply X.exitS; first | apply X.here | (refine X.out (by decide) ?_; apply X.here))
    | apply X.blockS
    | (apply X.condS rfl <;> intro hp <;> first | exact absurd hp (by decide) | ((try rw [hp]); (try simp at hp)))
    | apply X.stepZ
    | (apply X.step; (focus (simp [-getElem?_pos, HH.kind.raw, hk, HH.good.raw, h1, h2]; with_reducible (first | rfl | exact ⟨rfl, rfl⟩))); (focus (simp; with_reducible rfl)))
    | (apply X.stepN rfl; (focus (simp; with_reducible rfl)))
    | ((first | apply X.stepGt rfl | apply X.stepGf rfl); (focus (simp; with_reducible rfl)); all_goals (intro hp; first | exact absurd hp (by decide) | ((try rw [hp]); (try simp at hp))))
    | (apply X.draw0; (focus rfl))
    | apply XD.nil
    | (apply XD.calm rfl; (focus (simp [-getElem?_pos, HH.kind.raw, hk, HH.good.raw, h1, h2]; with_reducible (first | rfl | exact ⟨rfl, rfl⟩))); (focus (simp; with_reducible rfl)))
    | (apply XD.call; (focus (simp; with_reducible rfl)); (focus (simp; with_reducible rfl)); (focus (simp [-getElem?_pos, HH.kind.raw, hk, HH.good.raw, h1, h2]; done)); (focus (simp [-getElem?_pos, HH.kind.raw, hk, HH.good.raw, h1, h2]; with_reducible rfl)); (focus (simp; with_reducible rfl)))
    | (apply XD.stepN rfl; (focus (simp; with_reducible rfl)))
    | ((first | apply XD.stepGt rfl | apply XD.stepGf rfl); (focus (simp; with_reducible rfl)); all_goals (intro hp; first | exact absurd hp (by decide) | ((try rw [hp]); (try simp at hp))))
    | (apply XD.loud; (focus (simp [-getElem?_pos, HH.kind.raw, hk, HH.good.raw, h1, h2]; with_reducible (first | rfl | exact ⟨rfl, rfl⟩))); (focus (simp; done)); (focus (simp; with_reducible rfl)); (focus (simp; with_reducible rfl))))
              all_goals ((refine Fin.mk' (by simp [resA]; with_reducible rfl) (by simp [oneOf, pureRes, snapFuel, snapL]; with_reducible rfl) ?_); simp))
            · have e1 : kindC 4 = 4 := rfl
              rw [e1] at hk b7 h7 h4 hs ⊢
              obtain ⟨a, b, hl, ha⟩ : ∃ a b, cl = [a, b] ∧ Sh a := by
                obtain ⟨a, b, hl, ha, _⟩ := sh_two hs (by simp [Co.k])
                exact ⟨a, b, hl, ha⟩
              rw [hl] at ih ⊢
              have hb0 : vb = 0 := by simpa using h4
              subst hb0
              have hX : gvS (.mk 4 s0 s1 s2 s3 n (a :: [b])) (.mk 4 0 vl) = !(vl.any fun x => !gvS a x) := by
                rw [gvS_eq]; simp [Co.k, Co.l, Va.k, Va.l, Va.b, kindC, kindM, gvS.gvAt, h3]
              rw [hX]
              have hc := vcon_ok HH (c := .mk 4 s0 s1 s2 s3 n (a :: [b])) (a := a) (t := [b]) (l := vl) rfl hf1 fun x hx => ih a (by simp) ha x (hf2 x hx)
              generalize (vl.any fun x => !gvS a x) = r at hc
              rw [eCm] at hc
              rw [eCm, eVm]
              simp only [PV.cells, List.map_cons, List.map_nil, List.any_nil] at hk hc ⊢
              clear ih
              refine H.lim (Nat.le_of_ble_eq_true rfl) (by simp; with_reducible rfl) ?_; unfold c66
              (repeat' first
    | apply X.retS
    | apply X.skipS
    | apply X.skipB
    | apply X.skipL
    | (apply X.exitS; first | apply X.here | (refine X.out (by decide) ?_; apply X.here))
    | apply X.blockS
    | (apply X.condS rfl <;> intro hp <;> first | exact absurd hp (by decide) | ((try rw [hp]); (try simp at hp)))
    | apply X.stepZ
    | (apply X.step; (focus (simp [-getElem?_pos, HH.kind.raw, hk, h3, HH.con.raw, hc]; with_reducible (first | rfl | exact ⟨rfl, rfl⟩))); (focus (simp; with_reducible rfl)))
    | (apply X.stepN rfl; (focus (simp; with_reducible rfl)))
    | ((first | apply X.stepGt rfl | apply X.stepGf rfl); (focus (simp; with_reducible rfl)); all_goals (intro hp; first | exact absurd hp (by decide) | ((try rw [hp]); (try simp at hp))))
    | (apply X.draw0; (focus rfl))
    | apply XD.nil
    | (apply XD.calm rfl; (focus (simp [-getElem?_pos, HH.kind.raw, hk, h3, HH.con.raw, hc]; with_reducible (first | rfl | exact ⟨rfl, rfl⟩))); (focus (simp; with_reducible rfl)))
    | (apply XD.call; (focus (simp; with_reducible rfl)); (focus (simp; with_reducible rfl)); (focus (simp [-getElem?_pos, HH.kind.raw, hk, h3, HH.con.raw, hc]; done)); (focus (simp [-getElem?_pos, HH.kind.raw, hk, h3, HH.con.raw, hc]; with_reducible rfl)); (focus (simp; with_reducible rfl)))
    | (apply XD.stepN rfl; (focus (simp; with_reducible rfl)))
    | ((first | apply XD.stepGt rfl | apply XD.stepGf rfl); (focus (simp; with_reducible rfl)); all_goals (intro hp; first | exact absurd hp (by decide) | ((try rw [hp]); (try simp at hp))))
    | (apply XD.loud; (focus (simp [-getElem?_pos, HH.kind.raw, hk, h3, HH.con.raw, hc]; with_reducible (first | rfl | exact ⟨rfl, rfl⟩))); (focus (simp; done)); (focus (simp; with_reducible rfl)); (focus (simp; with_reducible rfl))))
              all_goals ((refine Fin.mk' (by simp [resA]; with_reducible rfl) (by simp [oneOf, pureRes, snapFuel, snapL]; with_reducible rfl) ?_); simp)
            · have e1 : kindC 5 = 4 := rfl
              rw [e1] at hk b7 h7 h4 hs ⊢
              obtain ⟨a, b, hl, ha, hb2⟩ := sh_two hs (by simp [Co.k])
              simp only [Co.l] at hl
              subst hl
              have hb0 : vb = 0 := by simpa using h4
              subst hb0
              obtain ⟨x, rfl⟩ : ∃ x, vl = [x] := by
                have h3 : vl.length = 1 := by omega
                match vl, h3 with
                | [x], _ => exact ⟨x, rfl⟩
              have h2 := ih b (by simp) hb2 x (hf2 x (by simp))
              have hX : gvS (.mk 4 s0 s1 s2 s3 n [a, b]) (.mk 5 0 [x]) = gvS b x := by rw [gvS_eq]; simp [Co.k, Co.l, Va.k, Va.l, Va.b, kindC, kindM, gvS.gvAt]
              rw [hX]
              generalize gvS b x = r2 at h2
              rw [eC b, eV x] at h2
              rw [eCm, eVm]
              simp only [List.map_cons, List.map_nil]
              simp only [List.map_cons, List.map_nil] at hk
              rw [eC a, eC b, eV x]
              rw [eV x] at hk
              clear ih
              refine H.lim (Nat.le_of_ble_eq_true rfl) (by simp; with_reducible rfl) ?_; unfold c66
              (repeat' first
    | apply X.retS
    | apply X.skipS
    | apply X.skipB
    | apply X.skipL
    | (apply X.exitS; first | apply X.here | (refine X.out (by decide) ?_; apply X.here))
    | apply X.blockS
    | (apply X.condS rfl <;> intro hp <;> first | exact absurd hp (by decide) | ((try rw [hp]); (try simp at hp)))
    | apply X.stepZ
    | (apply X.step; (focus (simp [-getElem?_pos, HH.kind.raw, hk, HH.good.raw, h2]; with_reducible (first | rfl | exact ⟨rfl, rfl⟩))); (focus (simp; with_reducible rfl)))
    | (apply X.stepN rfl; (focus (simp; with_reducible rfl)))
    | ((first | apply X.stepGt rfl | apply X.stepGf rfl); (focus (simp; with_reducible rfl)); all_goals (intro hp; first | exact absurd hp (by decide) | ((try rw [hp]); (try simp at hp))))
    | (apply X.draw0; (focus rfl))
    | apply XD.nil
    | (apply XD.calm rfl; (focus (simp [-getElem?_pos, HH.kind.raw, hk, HH.good.raw, h2]; with_reducible (first | rfl | exact ⟨rfl, rfl⟩))); (focus (simp; with_reducible rfl)))
    | (apply XD.call; (focus (simp; with_reducible rfl)); (focus (simp; with_reducible rfl)); (focus (simp [-getElem?_pos, HH.kind.raw, hk, HH.good.raw, h2]; done)); (focus (simp [-getElem?_pos, HH.kind.raw, hk, HH.good.raw, h2]; with_reducible rfl)); (focus (simp; with_reducible rfl)))
    | (apply XD.stepN rfl; (focus (simp; with_reducible rfl)))
    | ((first | apply XD.stepGt rfl | apply XD.stepGf rfl); (focus (simp; with_reducible rfl)); all_goals (intro hp; first | exact absurd hp (by decide) | ((try rw [hp]); (try simp at hp))))
    | (apply XD.loud; (focus (simp [-getElem?_pos, HH.kind.raw, hk, HH.good.raw, h2]; with_reducible (first | rfl | exact ⟨rfl, rfl⟩))); (focus (simp; done)); (focus (simp; with_reducible rfl)); (focus (simp; with_reducible rfl))))
              all_goals ((refine Fin.mk' (by simp [resA]; with_reducible rfl) (by simp [oneOf, pureRes, snapFuel, snapL]; with_reducible rfl) ?_); simp)
            · have e1 : kindC 6 = 5 := rfl
              rw [e1] at hk b7 h7 h4 hs ⊢
              obtain ⟨a, hl, ha⟩ : ∃ a, cl = [a] ∧ Sh a := sh_one hs (by simp [Co.k])
              rw [hl] at ih ⊢
              have hb0 : vb = 0 := by simpa using h4
              subst hb0
              have hX : gvS (.mk 5 s0 s1 s2 s3 n (a :: [])) (.mk 6 0 vl) = !(vl.any fun x => !gvS a x) := by
                rw [gvS_eq]; simp [Co.k, Co.l, Va.k, Va.l, Va.b, kindC, kindM, gvS.gvAt, h3]
              rw [hX]
              have hc := vcon_ok HH (c := .mk 5 s0 s1 s2 s3 n (a :: [])) (a := a) (t := []) (l := vl) rfl hf1 fun x hx => ih a (by simp) ha x (hf2 x hx)
              generalize (vl.any fun x => !gvS a x) = r at hc
              rw [eCm] at hc
              rw [eCm, eVm]
              simp only [PV.cells, List.map_cons, List.map_nil, List.any_nil] at hk hc ⊢
              clear ih
              refine H.lim (Nat.le_of_ble_eq_true rfl) (by simp; with_reducible rfl) ?_; unfold c66
              (repeat' first
    | apply X.retS
    | apply X.skipS
    | apply X.skipB
    | apply X.skipL
    | (apply X.exitS; first | apply X.here | (refine X.out (by decide) ?_; apply X.here))
    | apply X.blockS
    | (apply X.condS rfl <;> intro hp <;> first | exact absurd hp (by decide) | ((try rw [hp]); (try simp at hp)))
    | apply X.stepZ
    | (apply X.step; (focus (simp [-getElem?_pos, HH.kind.raw, hk, h3, HH.con.raw, hc]; with_reducible (first | rfl | exact ⟨rfl, rfl⟩))); (focus (simp; with_reducible rfl)))
    | (apply X.stepN rfl; (focus (simp; with_reducible rfl)))
    | ((first | apply X.stepGt rfl | apply X.stepGf rfl); (focus (simp; with_reducible rfl)); all_goals (intro hp; first | exact absurd hp (by decide) | ((try rw [hp]); (try simp at hp))))
    | (apply X.draw0; (focus rfl))
    | apply XD.nil
    | (apply XD.calm rfl; (focus (simp [-getElem?_pos, HH.kind.raw, hk, h3, HH.con.raw, hc]; with_reducible (first | rfl | exact ⟨rfl, rfl⟩))); (focus (simp; with_reducible rfl)))
    | (apply XD.call; (focus (simp; with_reducible rfl)); (focus (simp; with_reducible rfl)); (focus (simp [-getElem?_pos, HH.kind.raw, hk, h3, HH.con.raw, hc]; done)); (focus (simp [-getElem?_pos, HH.kind.raw, hk, h3, HH.con.raw, hc]; with_reducible rfl)); (focus (simp; with_reducible rfl)))
    | (apply XD.stepN rfl; (focus (simp; with_reducible rfl)))
    | ((first | apply XD.stepGt rfl | apply XD.stepGf rfl); (focus (simp; with_reducible rfl)); all_goals (intro hp; first | exact absurd hp (by decide) | ((try rw [hp]); (try simp at hp))))
    | (apply XD.loud; (focus (simp [-getElem?_pos, HH.kind.raw, hk, h3, HH.con.raw, hc]; with_reducible (first | rfl | exact ⟨rfl, rfl⟩))); (focus (simp; done)); (focus (simp; with_reducible rfl)); (focus (simp; with_reducible rfl))))
              all_goals ((refine Fin.mk' (by simp [resA]; with_reducible rfl) (by simp [oneOf, pureRes, snapFuel, snapL]; with_reducible rfl) ?_); simp)
            · have e1 : kindC 7 = 6 := rfl
              rw [e1] at hk b7 h7 h4 hs ⊢
              obtain ⟨a, hl, ha⟩ : ∃ a, cl = [a] ∧ Sh a := sh_one hs (by simp [Co.k])
              rw [hl] at ih ⊢
              have hb0 : vb = 0 := by simpa using h4
              subst hb0
              have hX : gvS (.mk 6 s0 s1 s2 s3 n (a :: [])) (.mk 7 0 vl) = !(vl.any fun x => !gvS a x) := by
                rw [gvS_eq]; simp [Co.k, Co.l, Va.k, Va.l, Va.b, kindC, kindM, gvS.gvAt, h3]
              rw [hX]
              have hc := vcon_ok HH (c := .mk 6 s0 s1 s2 s3 n (a :: [])) (a := a) (t := []) (l := vl) rfl hf1 fun x hx => ih a (by simp) ha x (hf2 x hx)
              generalize (vl.any fun x => !gvS a x) = r at hc
              rw [eCm] at hc
              rw [eCm, eVm]
              simp only [PV.cells, List.map_cons, List.map_nil, List.any_nil] at hk hc ⊢
              clear ih
              refine H.lim (Nat.le_of_ble_eq_true rfl) (by simp; with_reducible rfl) ?_; unfold c66
              (repeat' first
    | apply X.retS
    | apply X.skipS
    | apply X.skipB
    | apply X.skipL
    | (apply X.exitS; first | apply X.here | (refine X.out (by decide) ?_; apply X.here))
    | apply X.blockS
    | (apply X.condS rfl <;> intro hp <;> first | exact absurd hp (by decide) | ((try rw [hp]); (try simp at hp)))
    | apply X.stepZ
    | (apply X.step; (focus (simp [-getElem?_pos, HH.kind.raw, hk, h3, HH.con.raw, hc]; with_reducible (first | rfl | exact ⟨rfl, rfl⟩))); (focus (simp; with_reducible rfl)))
    | (apply X.stepN rfl; (focus (simp; with_reducible rfl)))
    | ((first | apply X.stepGt rfl | apply X.stepGf rfl); (focus (simp; with_reducible rfl)); all_goals (intro hp; first | exact absurd hp (by decide) | ((try rw [hp]); (try simp at hp))))
    | (apply X.draw0; (focus rfl))
    | apply XD.nil
    | (apply XD.calm rfl; (focus (simp [-getElem?_pos, HH.kind.raw, hk, h3, HH.con.raw, hc]; with_reducible (first | rfl | exact ⟨rfl, rfl⟩))); (focus (simp; with_reducible rfl)))
    | (apply XD.call; (focus (simp; with_reducible rfl)); (focus (simp; with_reducible rfl)); (focus (simp [-getElem?_pos, HH.kind.raw, hk, h3, HH.con.raw, hc]; done)); (focus (simp [-getElem?_pos, HH.kind.raw, hk, h3, HH.con.raw, hc]; with_reducible rfl)); (focus (simp; with_reducible rfl)))
    | (apply XD.stepN rfl; (focus (simp; with_reducible rfl)))
    | ((first | apply XD.stepGt rfl | apply XD.stepGf rfl); (focus (simp; with_reducible rfl)); all_goals (intro hp; first | exact absurd hp (by decide) | ((try rw [hp]); (try simp at hp))))
    | (apply XD.loud; (focus (simp [-getElem?_pos, HH.kind.raw, hk, h3, HH.con.raw, hc]; with_reducible (first | rfl | exact ⟨rfl, rfl⟩))); (focus (simp; done)); (focus (simp; with_reducible rfl)); (focus (simp; with_reducible rfl))))
              all_goals ((refine Fin.mk' (by simp [resA]; with_reducible rfl) (by simp [oneOf, pureRes, snapFuel, snapL]; with_reducible rfl) ?_); simp)
end Cps
