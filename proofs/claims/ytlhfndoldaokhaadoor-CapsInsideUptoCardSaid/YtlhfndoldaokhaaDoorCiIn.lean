/- CiIn: steps, walks, laws: see the remarks within. -/
import Derived.Test.YtlhfndoldaokhaaDoorCiFl
import Derived.Test.YtlhfndoldaokhaaDoorCiOf
set_option linter.unusedSimpArgs false
set_option linter.unusedVariables false
-- Where groups' texts stand: within the whole; moved along, the same, moved; of two, one behind the other.
namespace Cps
open Go Ab

/-- Two walks, the second so much further on: alike, moved; within. -/
structure RR (lo b : Int) (s s' : List Sp × Int) : Prop where
  at' : s'.2 = s.2 + b
  lo' : lo ≤ s.2
  len : s.1.length = s'.1.length
  sp : ∀ (i : Nat) (p : Sp), s.1[i]? = some p → ∃ q, s'.1[i]? = some q ∧ ((p = (-1, -1) ∧ q = (-1, -1)) ∨ (lo ≤ p.1 ∧ p.1 ≤ p.2 ∧ p.2 ≤ s.2 ∧ q = (p.1 + b, p.2 + b)))

section
variable {lo b : Int} {s s' : List Sp × Int}

theorem RR.set (R : RR lo b s s') (i : Nat) {p q : Sp} (h : (p = (-1, -1) ∧ q = (-1, -1)) ∨ (lo ≤ p.1 ∧ p.1 ≤ p.2 ∧ p.2 ≤ s.2 ∧ q = (p.1 + b, p.2 + b))) : RR lo b (s.1.set i p, s.2) (s'.1.set i q, s'.2) := by
  refine ⟨R.at', R.lo', by simp [R.len], fun j x hx => ?_⟩
  simp only [List.getElem?_set] at hx ⊢
  by_cases hij : i = j
  · subst hij
    simp only [if_true] at hx ⊢
    by_cases hl : i < s.1.length
    · rw [if_pos hl] at hx
      rw [if_pos (by rw [← R.len]; exact hl)]
      cases hx
      exact ⟨q, rfl, h⟩
    · rw [if_neg hl] at hx; cases hx
  · rw [if_neg hij] at hx ⊢
    exact R.sp j x hx

theorem RR.go (R : RR lo b s s') {a : Int} (h : s.2 ≤ a) : RR lo b (s.1, a) (s'.1, a + b) := by
  refine ⟨rfl, by have := R.lo'; simp; omega, R.len, fun j x hx => ?_⟩
  obtain ⟨q, h1, h2⟩ := R.sp j x hx
  refine ⟨q, h1, ?_⟩
  rcases h2 with h2 | ⟨h2, h3, h4, h5⟩
  · exact .inl h2
  · exact .inr ⟨h2, h3, by simp; omega, h5⟩

theorem RR.forget : ∀ (c : Co) (s s' : List Sp × Int), RR lo b s s' → RR lo b (forgetS c s.1, s.2) (forgetS c s'.1, s'.2) := by
  refine Co.ind fun c ih s s' R => ?_
  have key : ∀ (l : List Co) (s s' : List Sp × Int), (∀ y ∈ l, ∀ s s' : List Sp × Int, RR lo b s s' → RR lo b (forgetS y s.1, s.2) (forgetS y s'.1, s'.2)) → RR lo b s s' → RR lo b (forgetS.forgetL l s.1, s.2) (forgetS.forgetL l s'.1, s'.2) := by
    intro l
    induction l with
    | nil => intro s s' _ h; exact h
    | cons x l ihl => intro s s' hh h; exact ihl _ _ (fun y hy => hh y (by simp [hy])) (hh x (by simp) _ _ h)
  rw [forget_eq, forget_eq]
  by_cases hc : c.k = 6 ∧ c.n < s.1.length
  · rw [if_pos hc, if_pos (by rw [← R.len]; exact hc)]
    exact key _ _ _ ih (R.set _ (.inl ⟨rfl, rfl⟩))
  · rw [if_neg hc, if_neg (by rw [← R.len]; exact hc)]
    exact key _ _ _ ih R
end

theorem eP' (p : Sp) : encP p = .agg [.int .i64 p.1, .int .i64 p.2] := rfl

theorem flat_two {k b : Int} {x y : Va} (hk : k = 3) : flatS (.mk k b [x, y]) = flatS x ++ flatS y := by
  subst hk; rw [flatS_eq]; simp [kidsV, kidN, Va.k, Va.l]
theorem flat_one {k b : Int} {x : Va} (hk : k = 4 ∨ k = 5 ∨ k = 7) : flatS (.mk k b [x]) = flatS x := by
  rcases hk with rfl | rfl | rfl <;> (rw [flatS_eq]; simp [kidsV, kidN, Va.k, Va.l])
theorem flat_all {b : Int} {l : List Va} : flatS (.mk 6 b l) = l.flatMap flatS := by
  rw [flatS_eq]; simp [kidsV, kidN, Va.k, Va.l]

/-- What a value of a kind is made of. -/
theorem gv_kind (c : Co) (v : Va) (h : gvS c v = true) (h7 : ¬ c.k = 7) : kindC v.k = c.k ∧ (v.l.length : Int) = kindM v.k v.l.length := by
  rw [gvS_eq, if_neg h7] at h
  split at h
  · cases h
  · rename_i hg
    exact ⟨Decidable.byContradiction fun hh => hg (.inl hh), Decidable.byContradiction fun hh => hg (.inr (.inr (.inl hh)))⟩

theorem gv_1 {c : Co} {v : Va} (h : gvS c v = true) (hk : c.k = 1) : flatS v = [] := by
  obtain ⟨h1, h2⟩ := gv_kind c v h (by omega)
  rw [hk] at h1
  have hv : v.k = 1 := by unfold kindC at h1; repeat' split at h1
                          all_goals omega
  rw [flatS_eq]; simp [kidsV, kidN, hv]
theorem gv_2 {c : Co} {v : Va} (h : gvS c v = true) (hk : c.k = 2) : flatS v = [v.b] := by
  obtain ⟨h1, h2⟩ := gv_kind c v h (by omega)
  rw [hk] at h1
  have hv : v.k = 2 := by unfold kindC at h1; repeat' split at h1
                          all_goals omega
  rw [flatS_eq]; simp [kidsV, kidN, hv]
theorem gv_3 {c : Co} {v : Va} (h : gvS c v = true) (hk : c.k = 3) : v.k = 3 := by
  obtain ⟨h1, h2⟩ := gv_kind c v h (by omega)
  rw [hk] at h1
  unfold kindC at h1; repeat' split at h1
  all_goals omega
theorem gv_5 {c : Co} {v : Va} (h : gvS c v = true) (hk : c.k = 5) : v.k = 6 := by
  obtain ⟨h1, h2⟩ := gv_kind c v h (by omega)
  rw [hk] at h1
  unfold kindC at h1; repeat' split at h1
  all_goals omega
theorem gv_6 {c : Co} {v : Va} (h : gvS c v = true) (hk : c.k = 6) : v.k = 7 := by
  obtain ⟨h1, h2⟩ := gv_kind c v h (by omega)
  rw [hk] at h1
  unfold kindC at h1; repeat' split at h1
  all_goals omega

theorem setIf_fst {n a : Int} {s : List Sp × Int} : (setIf n a s).2 = s.2 := by unfold setIf; split <;> rfl

/-- How far a walk goes. -/
theorem walk_at : ∀ c, Sh c → ∀ v s, gvS c v = true → -4611686018427387904 ≤ s.2 → s.2 + ((flatS v).length : Int) ≤ 4611686018427387904 → (walkS c v s).2 = s.2 + ((flatS v).length : Int) := by
  refine Co.ind fun c ih hs v s hg h0 hle => ?_
  have hgc := gv_cases c v hg
  have hsk := hs
  obtain ⟨hs1, hs2, hs3⟩ := sh_mk.1 hs
  rcases hgc with h | h | ⟨h, x, y, hl, ga, gb⟩ | ⟨h, x, hl, hgx⟩ | ⟨h, hl⟩ | ⟨h, x, hl, ga⟩ | ⟨h, ga⟩
  · have hf := gv_1 hg h
    obtain ⟨k, s0, s1, s2, s3, n, l⟩ := c
    simp only [Co.k] at h; subst h
    rw [walkS_eq]
    simp [hf]
  · have hf := gv_2 hg h
    obtain ⟨k, s0, s1, s2, s3, n, l⟩ := c
    simp only [Co.k] at h; subst h
    rw [walkS_eq]
    rw [hf] at hle
    simp only [List.length_singleton] at hle
    have : IntKind.i64.wrap (s.2 + 1) = s.2 + 1 := wrap_i64 (by omega)
    simp [hf, this]
  · have hvk := gv_3 hg h
    obtain ⟨a, b, hcl, ha, hb⟩ := sh_two hs (.inl h)
    rw [hcl] at ih ga gb
    simp only [gvS.gvAt] at ga gb
    obtain ⟨k, s0, s1, s2, s3, n, l⟩ := c
    simp only [Co.k, Co.l] at h hcl; subst h; subst hcl
    obtain ⟨vk, vb, vl⟩ := v
    simp only [Va.k, Va.l] at hvk hl; subst hvk; subst hl
    rw [flat_two rfl, List.length_append] at hle ⊢
    rw [walkS_eq]
    simp only [Va.l, walkS.walkAt]
    have e1 := ih a (by simp) ha x s ga h0 (by omega)
    have e2 := ih b (by simp) hb y (walkS a x s) gb (by omega) (by omega)
    simp only [show ¬ (3 : Int) = 2 by omega, if_false, if_true]
    rw [e2, e1]; omega
  · obtain ⟨a, b, hcl, ha, hb⟩ := sh_two hs (.inr h)
    rw [hcl] at ih hgx
    simp only [gvS.gvAt] at hgx
    obtain ⟨k, s0, s1, s2, s3, n, l⟩ := c
    simp only [Co.k, Co.l] at h hcl; subst h; subst hcl
    obtain ⟨vk, vb, vl⟩ := v
    simp only [Va.k, Va.l] at hgx hl; subst hl
    rw [flat_one (by omega)] at hle ⊢
    rw [walkS_eq]
    rcases hgx with ⟨rfl, ga⟩ | ⟨rfl, gb⟩
    · have e1 := ih a (by simp) ha x s ga h0 (by omega)
      simpa [Va.l, Va.k, walkS.walkAt] using e1
    · have e1 := ih b (by simp) hb x s gb h0 (by omega)
      simpa [Va.l, Va.k, walkS.walkAt] using e1
  · have hvk := gv_5 hg h
    obtain ⟨a, hcl, ha⟩ := sh_one hs (.inl h)
    rw [hcl] at ih hl
    simp only [gvS.gvAt] at hl
    obtain ⟨k, s0, s1, s2, s3, n, l⟩ := c
    simp only [Co.k, Co.l] at h hcl; subst h; subst hcl
    obtain ⟨vk, vb, vl⟩ := v
    simp only [Va.k, Va.l] at hvk hl; subst hvk
    rw [flat_all] at hle ⊢
    rw [walkS_eq]
    simp only [show ¬ (5 : Int) = 2 by omega, show ¬ (5 : Int) = 3 by omega, show ¬ (5 : Int) = 4 by omega, if_false, if_true, Va.l, walkS.walkAt, forgetAt]
    clear hg hsk hs hs1 hs3
    have key : ∀ (xs : List Va) (s : List Sp × Int), (∀ x ∈ xs, gvS a x = true) → -4611686018427387904 ≤ s.2 → s.2 + ((xs.flatMap flatS).length : Int) ≤ 4611686018427387904 →
        (xs.foldl (fun s x => walkS a x (forgetS a s.1, s.2)) s).2 = s.2 + ((xs.flatMap flatS).length : Int) := by
      intro xs
      induction xs with
      | nil => intro s _ _ _; simp
      | cons x xs ihx =>
        intro s hx h0 hle
        simp only [List.flatMap_cons, List.length_append] at hle
        have e1 := ih a (by simp) ha x (forgetS a s.1, s.2) (hx x (by simp)) h0 (by simp only; omega)
        simp only at e1
        rw [List.foldl_cons, ihx _ (fun y hy => hx y (by simp [hy])) (by omega) (by omega), e1, List.flatMap_cons, List.length_append]
        omega
    exact key _ _ hl h0 hle
  · have hvk := gv_6 hg h
    obtain ⟨a, hcl, ha⟩ := sh_one hs (.inr (.inl h))
    rw [hcl] at ih ga
    simp only [gvS.gvAt] at ga
    obtain ⟨k, s0, s1, s2, s3, n, l⟩ := c
    simp only [Co.k, Co.l] at h hcl; subst h; subst hcl
    obtain ⟨vk, vb, vl⟩ := v
    simp only [Va.k, Va.l] at hvk hl; subst hvk; subst hl
    rw [flat_one (by omega)] at hle ⊢
    rw [walkS_eq]
    have e1 := ih a (by simp) ha x s ga h0 (by omega)
    simpa [Va.l, Va.k, walkS.walkAt, setIf_fst] using e1
  · obtain ⟨a, hcl, ha⟩ := sh_one hs (.inr (.inr h))
    rw [hcl] at ih ga
    simp only [gvS.gvAt] at ga
    obtain ⟨k, s0, s1, s2, s3, n, l⟩ := c
    simp only [Co.k, Co.l] at h hcl; subst h; subst hcl
    rw [walkS_eq]
    have e1 := ih a (by simp) ha v (forgetS a s.1, s.2) ga h0 hle
    simpa [walkS.walkAt, forgetAt] using e1

/-- Two walks of the same, so much further on. -/
theorem walk_rel {lo b : Int} (hlo : -1 ≤ lo) (hb : 0 ≤ b) : ∀ c, Sh c → ∀ v (s s' : List Sp × Int), gvS c v = true → s.2 + b + ((flatS v).length : Int) ≤ 4611686018427387904 → RR lo b s s' → RR lo b (walkS c v s) (walkS c v s') := by
  refine Co.ind fun c ih hs v s s' hg hle R => ?_
  have hgc := gv_cases c v hg
  have hl0 := R.lo'
  have hat := R.at'
  obtain ⟨hs1, hs2, hs3⟩ := sh_mk.1 hs
  rcases hgc with h | h | ⟨h, x, y, hl, ga, gb⟩ | ⟨h, x, hl, hgx⟩ | ⟨h, hl⟩ | ⟨h, x, hl, ga⟩ | ⟨h, ga⟩
  · obtain ⟨k, s0, s1, s2, s3, n, l⟩ := c
    simp only [Co.k] at h; subst h
    rw [walkS_eq, walkS_eq]
    simpa using R
  · have hf := gv_2 hg h
    obtain ⟨k, s0, s1, s2, s3, n, l⟩ := c
    simp only [Co.k] at h; subst h
    rw [walkS_eq, walkS_eq]
    rw [hf] at hle
    simp only [List.length_singleton] at hle
    have e1 : IntKind.i64.wrap (s.2 + 1) = s.2 + 1 := wrap_i64 (by omega)
    have e2 : IntKind.i64.wrap (s'.2 + 1) = (s.2 + 1) + b := by rw [hat, wrap_i64 (by omega)]; omega
    simp only [if_true, e1, e2]
    exact R.go (by omega)
  · have hvk := gv_3 hg h
    obtain ⟨a, d, hcl, ha, hd⟩ := sh_two hs (.inl h)
    rw [hcl] at ih ga gb
    simp only [gvS.gvAt] at ga gb
    obtain ⟨k, s0, s1, s2, s3, n, l⟩ := c
    simp only [Co.k, Co.l] at h hcl; subst h; subst hcl
    obtain ⟨vk, vb, vl⟩ := v
    simp only [Va.k, Va.l] at hvk hl; subst hvk; subst hl
    rw [flat_two rfl, List.length_append] at hle
    rw [walkS_eq, walkS_eq]
    simp only [Va.l, walkS.walkAt]
    have e1 := ih a (by simp) ha x s s' ga (by omega) R
    have e0 := walk_at a ha x s ga (by omega) (by omega)
    have e2 := ih d (by simp) hd y _ _ gb (by omega) e1
    simpa using e2
  · obtain ⟨a, d, hcl, ha, hd⟩ := sh_two hs (.inr h)
    rw [hcl] at ih hgx
    simp only [gvS.gvAt] at hgx
    obtain ⟨k, s0, s1, s2, s3, n, l⟩ := c
    simp only [Co.k, Co.l] at h hcl; subst h; subst hcl
    obtain ⟨vk, vb, vl⟩ := v
    simp only [Va.k, Va.l] at hgx hl; subst hl
    rw [flat_one (by omega)] at hle
    rw [walkS_eq, walkS_eq]
    rcases hgx with ⟨rfl, ga⟩ | ⟨rfl, gb⟩
    · have e1 := ih a (by simp) ha x s s' ga (by omega) R
      simpa [Va.l, Va.k, walkS.walkAt] using e1
    · have e1 := ih d (by simp) hd x s s' gb (by omega) R
      simpa [Va.l, Va.k, walkS.walkAt] using e1
  · have hvk := gv_5 hg h
    obtain ⟨a, hcl, ha⟩ := sh_one hs (.inl h)
    rw [hcl] at ih hl
    simp only [gvS.gvAt] at hl
    obtain ⟨k, s0, s1, s2, s3, n, l⟩ := c
    simp only [Co.k, Co.l] at h hcl; subst h; subst hcl
    obtain ⟨vk, vb, vl⟩ := v
    simp only [Va.k, Va.l] at hvk hl; subst hvk
    rw [flat_all] at hle
    rw [walkS_eq, walkS_eq]
    simp only [show ¬ (5 : Int) = 2 by omega, show ¬ (5 : Int) = 3 by omega, show ¬ (5 : Int) = 4 by omega, if_false, if_true, Va.l, walkS.walkAt, forgetAt]
    have key : ∀ (xs : List Va) (s s' : List Sp × Int), (∀ x ∈ xs, gvS a x = true) → s.2 + b + ((xs.flatMap flatS).length : Int) ≤ 4611686018427387904 → RR lo b s s' →
        RR lo b (xs.foldl (fun s x => walkS a x (forgetS a s.1, s.2)) s) (xs.foldl (fun s x => walkS a x (forgetS a s.1, s.2)) s') := by
      intro xs
      induction xs with
      | nil => intro s s' _ _ R; exact R
      | cons x xs ihx =>
        intro s s' hx hle R
        have hl0 := R.lo'
        simp only [List.flatMap_cons, List.length_append] at hle
        have R1 := RR.forget a s s' R
        have e1 := ih a (by simp) ha x _ _ (hx x (by simp)) (by simp only; omega) R1
        have e0 := walk_at a ha x (forgetS a s.1, s.2) (hx x (by simp)) (by simp only; omega) (by simp only; omega)
        simp only at e0
        rw [List.foldl_cons, List.foldl_cons]
        exact ihx _ _ (fun y hy => hx y (by simp [hy])) (by omega) e1
    exact key _ _ _ hl hle R
  · have hvk := gv_6 hg h
    obtain ⟨a, hcl, ha⟩ := sh_one hs (.inr (.inl h))
    rw [hcl] at ih ga
    simp only [gvS.gvAt] at ga
    obtain ⟨k, s0, s1, s2, s3, n, l⟩ := c
    simp only [Co.k, Co.l] at h hcl; subst h; subst hcl
    obtain ⟨vk, vb, vl⟩ := v
    simp only [Va.k, Va.l] at hvk hl; subst hvk; subst hl
    rw [flat_one (by omega)] at hle
    rw [walkS_eq, walkS_eq]
    have e1 := ih a (by simp) ha x s s' ga (by omega) R
    have e0 := walk_at a ha x s ga (by omega) (by omega)
    simp only [show ¬ (6 : Int) = 2 by omega, show ¬ (6 : Int) = 3 by omega, show ¬ (6 : Int) = 4 by omega, show ¬ (6 : Int) = 5 by omega, if_false, if_true, Va.l, walkS.walkAt]
    unfold setIf
    by_cases hn : n < (walkS a x s).1.length
    · rw [if_pos hn, if_pos (by rw [← e1.len]; exact hn)]
      have := e1.set n.toNat (p := (s.2, (walkS a x s).2)) (q := (s'.2, (walkS a x s').2)) (.inr ⟨by simpa using hl0, by simp only; omega, Int.le_refl _, by rw [hat, e1.at']⟩)
      exact this
    · rw [if_neg hn, if_neg (by rw [← e1.len]; exact hn)]
      exact e1
  · obtain ⟨a, hcl, ha⟩ := sh_one hs (.inr (.inr h))
    rw [hcl] at ih ga
    simp only [gvS.gvAt] at ga
    obtain ⟨k, s0, s1, s2, s3, n, l⟩ := c
    simp only [Co.k, Co.l] at h hcl; subst h; subst hcl
    rw [walkS_eq, walkS_eq]
    have R1 := RR.forget a s s' R
    have e1 := ih a (by simp) ha v _ _ ga (by simpa using hle) R1
    simpa [walkS.walkAt, forgetAt] using e1

theorem rr_none {a b : Int} (n : Nat) : RR a b (List.replicate n ((-1 : Int), (-1 : Int)), a) (List.replicate n ((-1 : Int), (-1 : Int)), a + b) := by
  refine ⟨rfl, Int.le_refl _, rfl, fun i p hp => ⟨p, hp, .inl ?_⟩⟩
  have := List.mem_of_getElem? hp
  simp at this
  exact ⟨this.2, this.2⟩

/-- The whole is the first; each within it; moved, the same, moved. -/
theorem of_rel {c : Co} (hs : Sh c) {v : Va} (hg : gvS c v = true) {a b : Int} (ha : 0 ≤ a) (hb : 0 ≤ b) (n : Nat) (hle : a + b + ((flatS v).length : Int) ≤ 4611686018427387904) :
    (ofS c v a n)[0]? = some (a, a + ((flatS v).length : Int)) ∧ ∀ (i : Nat) (p : Sp), (ofS c v a n)[i]? = some p → ∃ q, (ofS c v (a + b) n)[i]? = some q ∧
      ((p = (-1, -1) ∧ q = (-1, -1)) ∨ (a ≤ p.1 ∧ p.1 ≤ p.2 ∧ p.2 ≤ a + ((flatS v).length : Int) ∧ q = (p.1 + b, p.2 + b))) := by
  have R := walk_rel (by omega) hb c hs v _ _ hg (by simpa using hle) (rr_none (a := a) (b := b) (n + 1))
  have e0 := walk_at c hs v (List.replicate (n + 1) ((-1 : Int), (-1 : Int)), a) hg (by simp only; omega) (by simp only; omega)
  have e1 := walk_at c hs v (List.replicate (n + 1) ((-1 : Int), (-1 : Int)), a + b) hg (by simp only; omega) (by simp only; omega)
  simp only at e0 e1
  have hlen := walk_len c v (List.replicate (n + 1) ((-1 : Int), (-1 : Int)), a)
  simp only [List.length_replicate] at hlen
  have R2 := R.set 0 (p := (a, a + ((flatS v).length : Int))) (q := (a + b, a + b + ((flatS v).length : Int))) (.inr ⟨Int.le_refl _, by simp only; omega, by simp only; omega, by simp only [Prod.mk.injEq, true_and]; omega⟩)
  refine ⟨?_, fun i p hp => ?_⟩
  · simp only [ofS, e0]
    rw [List.getElem?_set_self (by omega)]
  · have := R2.sp i p (by simpa only [ofS, e0] using hp)
    simp only [e0] at this
    simpa only [ofS, e1] using this
end Cps
