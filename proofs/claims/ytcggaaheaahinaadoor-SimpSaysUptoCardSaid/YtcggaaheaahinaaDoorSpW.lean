/- SpW: steps, walks, laws: see the remarks within. -/
import Derived.Test.YtcggaaheaahinaaDoorSpV
set_option linter.unusedSimpArgs false
set_option linter.unusedVariables false
-- What is left of a coded core where it is said once: plain law.
set_option linter.unusedVariables false
set_option linter.unusedSimpArgs false
namespace Pl
open Go Ab

def zeroC : Cd := ⟨0, [], ⟨0, 0, 0, 0⟩, []⟩
theorem conv_zero : conv zeroC = ⟨0, [], 0#256, []⟩ := by rw [conv_eq]; simp only [zeroC, setOf_zero, List.map_nil]
noncomputable def simp1 (x : Cd) (l' : List Cd) : Cd :=
  if x.kind = 3 then match l' with
    | [p, q] => if p.kind = 0 ∨ q.kind = 0 then zeroC else if p.kind = 1 then fuseC (x.bits ++ p.bits) q else ⟨3, x.bits, ⟨0, 0, 0, 0⟩, [p, q]⟩
    | _ => x
  else if x.kind = 4 then match onceC (flatC l') with
    | [] => zeroC
    | [p] => fuseC x.bits p
    | r => ⟨4, x.bits, ⟨0, 0, 0, 0⟩, r⟩
  else x
mutual
noncomputable def simpC : Cd → Cd
  | ⟨k, b, s, l⟩ => simp1 ⟨k, b, s, l⟩ (simpL l)
noncomputable def simpL : List Cd → List Cd
  | [] => []
  | x :: l => simpC x :: simpL l
end
theorem simpL_map : ∀ l, simpL l = l.map simpC
  | [] => rfl
  | x :: l => by simp [simpL, simpL_map l]
theorem simpC_eq (x : Cd) : simpC x = simp1 x (x.l.map simpC) := by cases x; rw [simpC, simpL_map]

theorem once_key : ∀ pre : List Cd, (onceC pre).length ≤ pre.length ∧ ∀ y ∈ onceC pre, y ∈ pre := by
  refine snocInd ⟨Nat.le_refl _, fun y hy => by cases hy⟩ fun l x ih => ?_
  rw [once_snoc]
  unfold once1
  split
  · exact ⟨by have := ih.1; simp; omega, fun y hy => by simp [ih.2 y hy]⟩
  · refine ⟨by have := ih.1; simp; omega, fun y hy => ?_⟩
    rcases List.mem_append.1 hy with h | h
    · simp [ih.2 y h]
    · simp at h ⊢; exact .inr h
/-- No greater than what it was. -/
structure Sm (r : Cd) (n : Nat) : Prop where
  b : r.bits.length + 1 ≤ n
  k : r.kind = 4 → ∀ y ∈ r.l, r.bits.length + y.bits.length + 1 ≤ n
  n : r.kind = 4 → r.l.length ≤ n
  d : r.kind = 4 → ∀ y ∈ r.l, y.kind ≠ 4
theorem fuse_kind (b : List UInt8) (x : Cd) : (fuseC b x).kind = x.kind := by unfold fuseC; split <;> rfl
theorem fuse_l (b : List UInt8) (x : Cd) : (fuseC b x).l = x.l := by unfold fuseC; split <;> rfl
theorem fuse_bits (b : List UInt8) (x : Cd) : (fuseC b x).bits.length ≤ b.length + x.bits.length := by unfold fuseC; split <;> simp
theorem Sm.fuse {r : Cd} {n m : Nat} {b : List UInt8} (h : Sm r n) (hm : b.length + n ≤ m) : Sm (fuseC b r) m := by
  have h1 := fuse_bits b r
  refine ⟨by have := h.b; omega, fun hk y hy => ?_, fun hk => ?_, fun hk => ?_⟩
  · rw [fuse_kind] at hk
    rw [fuse_l] at hy
    have := h.k hk y hy
    omega
  · rw [fuse_kind] at hk
    rw [fuse_l]
    have := h.n hk
    omega
  · rw [fuse_kind] at hk
    rw [fuse_l]
    exact h.d hk
theorem flat1_sm {r : Cd} {n : Nat} (h : Sm r n) : (flat1 r).length ≤ n ∧ ∀ y ∈ flat1 r, y.bits.length + 1 ≤ n ∧ y.kind ≠ 4 := by
  have hb := h.b
  unfold flat1
  by_cases h0 : r.kind = 0
  · rw [if_pos h0]
    exact ⟨by simp, fun y hy => by cases hy⟩
  rw [if_neg h0]
  by_cases h4 : r.kind = 4
  · rw [if_pos h4]
    have h1 := h.n h4
    have h2 := h.k h4
    refine ⟨by rw [List.length_map]; exact h1, fun y hy => ?_⟩
    obtain ⟨z, hz, rfl⟩ := List.mem_map.1 hy
    have h3 := h2 z hz
    have h5 := fuse_bits r.bits z
    exact ⟨by omega, by rw [fuse_kind]; exact h.d h4 z hz⟩
  · rw [if_neg h4]
    refine ⟨by simp; omega, fun y hy => ?_⟩
    simp only [List.mem_singleton] at hy
    rw [hy]
    exact ⟨hb, h4⟩
theorem flat_sm : ∀ (l : List Cd), (∀ x ∈ l, Sm (simpC x) x.tot) → (flatC (l.map simpC)).length ≤ Cd.totS l ∧ ∀ y ∈ flatC (l.map simpC), y.bits.length + 1 ≤ Cd.totS l ∧ y.kind ≠ 4
  | [], _ => ⟨by simp [flatC], fun y hy => by simp [flatC] at hy⟩
  | x :: l, h => by
    obtain ⟨a1, a2⟩ := flat1_sm (h x (by simp))
    obtain ⟨b1, b2⟩ := flat_sm l fun y hy => h y (by simp [hy])
    simp only [flatC, List.map_cons, List.flatMap_cons, Cd.totS] at b1 b2 ⊢
    refine ⟨by simp only [List.length_append]; omega, fun y hy => ?_⟩
    rcases List.mem_append.1 hy with h1 | h1
    · have := a2 y h1; exact ⟨by omega, this.2⟩
    · have := b2 y h1; exact ⟨by omega, this.2⟩
theorem simp_sm : ∀ x : Cd, Sm (simpC x) x.tot := by
  refine Cd.ind fun x ih => ?_
  have ht := tot_eq x
  have hz : Sm zeroC x.tot := ⟨by simp [zeroC]; omega, fun h => absurd h (by decide), fun h => absurd h (by decide), fun h => absurd h (by decide)⟩
  rw [simpC_eq]
  unfold simp1
  by_cases h3 : x.kind = 3
  · rw [if_pos h3]
    have hx : Sm x x.tot := ⟨by omega, fun h => absurd h (by rw [h3]; decide), fun h => absurd h (by rw [h3]; decide), fun h => absurd h (by rw [h3]; decide)⟩
    split
    · rename_i p q hl
      obtain ⟨a, b, hab⟩ : ∃ a b, x.l = [a, b] := by
        match hx : x.l, hl with
        | [a, b], _ => exact ⟨a, b, rfl⟩
        | [], hl => simp at hl
        | [_], hl => simp at hl
        | _ :: _ :: _ :: _, hl => simp at hl
      rw [hab] at hl ht
      simp only [List.map_cons, List.map_nil, List.cons.injEq, and_true] at hl
      obtain ⟨rfl, rfl⟩ := hl
      simp only [Cd.totS] at ht
      split
      · exact hz
      · split
        · have h1 := (ih a (by rw [hab]; simp)).b
          refine (ih b (by rw [hab]; simp)).fuse ?_
          rw [List.length_append]
          omega
        · exact ⟨by show x.bits.length + 1 ≤ _; omega, fun h => absurd h (by decide : ¬ (3 : Int) = 4), fun h => absurd h (by decide : ¬ (3 : Int) = 4), fun h => absurd h (by decide : ¬ (3 : Int) = 4)⟩
    · exact hx
  rw [if_neg h3]
  by_cases h4 : x.kind = 4
  · rw [if_pos h4]
    obtain ⟨f1, f2⟩ := flat_sm x.l ih
    obtain ⟨o1, o2⟩ := once_key (flatC (x.l.map simpC))
    split
    · exact hz
    · rename_i p hp
      have hpm := f2 p (o2 p (by rw [hp]; simp))
      have h1 := fuse_bits x.bits p
      have hk : (fuseC x.bits p).kind ≠ 4 := by rw [fuse_kind]; exact hpm.2
      exact ⟨by omega, fun h => absurd h hk, fun h => absurd h hk, fun h => absurd h hk⟩
    · rename_i r _ _
      refine ⟨by show x.bits.length + 1 ≤ _; omega, fun _ y hy => ?_, fun _ => ?_, fun _ y hy => ?_⟩
      · have := (f2 y (o2 y hy)).1
        show x.bits.length + y.bits.length + 1 ≤ _
        omega
      · show (onceC (flatC (x.l.map simpC))).length ≤ _
        omega
      · exact (f2 y (o2 y hy)).2
  · rw [if_neg h4]
    exact ⟨by omega, fun h => absurd h h4, fun h => absurd h h4, fun h => absurd h h4⟩
theorem wf_zero : WfC zeroC := (wf_eq _).2 ⟨wf0, fun y hy => by cases hy⟩
theorem wf_fuse {b : List UInt8} {x : Cd} (h : WfC x) : WfC (fuseC b x) := by
  unfold fuseC
  split
  · exact h
  · exact (wf_eq _).2 ((wf_eq x).1 h)
theorem wf_flat {l : List Cd} (h : ∀ x ∈ l, WfC x) : ∀ y ∈ flatC l, WfC y := fun y hy => by
  obtain ⟨x, hx, hxy⟩ := List.mem_flatMap.1 hy
  have hw := h x hx
  unfold flat1 at hxy
  split at hxy
  · cases hxy
  · split at hxy
    · obtain ⟨z, hz, rfl⟩ := List.mem_map.1 hxy
      exact wf_fuse (((wf_eq x).1 hw).2 z hz)
    · simp only [List.mem_singleton] at hxy
      rw [hxy]
      exact hw
theorem wf_simp : ∀ x, WfC x → WfC (simpC x) := by
  refine Cd.ind fun x ih h => ?_
  have hl := ((wf_eq x).1 h).2
  have hl' : ∀ y ∈ x.l.map simpC, WfC y := fun y hy => by
    obtain ⟨z, hz, rfl⟩ := List.mem_map.1 hy
    exact ih z hz (hl z hz)
  rw [simpC_eq]
  unfold simp1
  by_cases h3 : x.kind = 3
  · rw [if_pos h3]
    split
    · rename_i p q hpq
      rw [hpq] at hl'
      split
      · exact wf_zero
      · split
        · exact wf_fuse (hl' q (by simp))
        · exact (wf_eq _).2 ⟨wf0, hl'⟩
    · exact h
  rw [if_neg h3]
  by_cases h4 : x.kind = 4
  · rw [if_pos h4]
    have ho : ∀ y ∈ onceC (flatC (x.l.map simpC)), WfC y := fun y hy => wf_flat hl' y ((once_key _).2 y hy)
    split
    · exact wf_zero
    · rename_i p hp; exact wf_fuse (ho p (by rw [hp]; simp))
    · exact (wf_eq _).2 ⟨wf0, ho⟩
  · rw [if_neg h4]
    exact h
mutual
def NarC (n : Nat) : Cd → Prop
  | ⟨_, _, _, l⟩ => l.length ≤ n ∧ NarL n l
def NarL (n : Nat) : List Cd → Prop
  | [] => True
  | x :: l => NarC n x ∧ NarL n l
end
theorem narL_iff {n : Nat} : ∀ {l : List Cd}, NarL n l ↔ ∀ x ∈ l, NarC n x
  | [] => by simp [NarL]
  | x :: l => by simp [NarL, narL_iff (l := l)]
theorem nar_eq {n : Nat} (x : Cd) : NarC n x ↔ x.l.length ≤ n ∧ ∀ y ∈ x.l, NarC n y := by cases x; rw [NarC, narL_iff]
theorem nar_tot {n : Nat} : ∀ x : Cd, x.tot ≤ n → NarC n x := by
  refine Cd.ind fun x ih h => ?_
  have := len_tot x
  exact (nar_eq x).2 ⟨by omega, fun y hy => ih y hy (by have := kid_tot hy; omega)⟩
theorem nar_zero {n : Nat} : NarC n zeroC := (nar_eq _).2 ⟨Nat.zero_le _, fun y hy => by cases hy⟩
theorem nar_fuse {n : Nat} {b : List UInt8} {x : Cd} (h : NarC n x) : NarC n (fuseC b x) := by
  unfold fuseC
  split
  · exact h
  · exact (nar_eq _).2 ((nar_eq x).1 h)
theorem nar_flat {n : Nat} {l : List Cd} (h : ∀ x ∈ l, NarC n x) : ∀ y ∈ flatC l, NarC n y := fun y hy => by
  obtain ⟨x, hx, hxy⟩ := List.mem_flatMap.1 hy
  have hw := h x hx
  unfold flat1 at hxy
  split at hxy
  · cases hxy
  · split at hxy
    · obtain ⟨z, hz, rfl⟩ := List.mem_map.1 hxy
      exact nar_fuse (((nar_eq x).1 hw).2 z hz)
    · simp only [List.mem_singleton] at hxy
      rw [hxy]
      exact hw
theorem nar_simp {n : Nat} : ∀ x : Cd, x.tot ≤ n → NarC n (simpC x) := by
  refine Cd.ind fun x ih h => ?_
  have htt := tot_eq x
  have hl' : ∀ y ∈ x.l.map simpC, NarC n y := fun y hy => by
    obtain ⟨z, hz, rfl⟩ := List.mem_map.1 hy
    exact ih z hz (by have := kid_tot hz; omega)
  rw [simpC_eq]
  unfold simp1
  by_cases h3 : x.kind = 3
  · rw [if_pos h3]
    split
    · rename_i p q hpq
      rw [hpq] at hl'
      have h2 := congrArg List.length hpq
      have := len_tot x
      rw [List.length_map] at h2
      split
      · exact nar_zero
      · split
        · exact nar_fuse (hl' q (by simp))
        · exact (nar_eq _).2 ⟨by simp at h2 ⊢; omega, hl'⟩
    · exact nar_tot x h
  rw [if_neg h3]
  by_cases h4 : x.kind = 4
  · rw [if_pos h4]
    have ho : ∀ y ∈ onceC (flatC (x.l.map simpC)), NarC n y := fun y hy => nar_flat hl' y ((once_key _).2 y hy)
    obtain ⟨f1, _⟩ := flat_sm x.l fun y hy => simp_sm y
    obtain ⟨o1, _⟩ := once_key (flatC (x.l.map simpC))
    split
    · exact nar_zero
    · rename_i p hp; exact nar_fuse (ho p (by rw [hp]; simp))
    · exact (nar_eq _).2 ⟨by show (onceC (flatC (x.l.map simpC))).length ≤ n; omega, ho⟩
  · rw [if_neg h4]
    exact nar_tot x h
end Pl

-- Said once: what the program and the document tell; the law: plain.
set_option linter.unusedVariables false
set_option linter.unusedSimpArgs false
namespace Pl
open Go Ab

theorem form_two {x : Cd} (h : form1 x = true) (h3 : x.kind = 3) : ∃ a b, x.l = [a, b] := by
  unfold form1 manyC at h
  rw [h3] at h
  simp at h
  have := h.2
  match hx : x.l, this with
  | [a, b], _ => exact ⟨a, b, rfl⟩
  | [], h => simp [hx] at h
  | [_], h => simp [hx] at h
  | _ :: _ :: _ :: _, h => simp [hx] at h
theorem simp_kids {x : Cd} {k : Nat} (ht : x.tot ≤ 100000000000) : (∀ y ∈ x.l.map simpC, y.l.length < 9223372036854775807 ∨ y.kind ≠ 4) := fun y hy => by
  obtain ⟨z, hz, rfl⟩ := List.mem_map.1 hy
  have h1 := simp_sm z
  have h2 := kid_tot hz
  by_cases h : (simpC z).kind = 4
  · left; have := h1.n h; omega
  · exact .inr h
/-- What the first loop fills. -/
theorem fill_ok {F37 : Cd → Option Cd} {x : Cd} {k : List (Option Cd) → Option Cd} {r : Option Cd} (h37 : ∀ y ∈ x.l, F37 y = some (simpC y)) (hl : x.l.length < 9223372036854775807) (hk : k (x.l.map fun y => some (simpC y)) = r) :
    loopK (fun (s : (Int × (List (Option Cd)))) => B37_L0 F37 x s.1 s.2) ((0 : Int), (List.replicate x.l.length (none : Option Cd))) k = r := by
  refine forL x.l (fun (w : List (Option Cd)) i => (i, w)) (fun pre w => w = (pre.map fun y => some (simpC y)) ++ List.replicate (x.l.length - pre.length) none) _ (by simp) hl ?_ ?_
  · rintro pre a post w hp rfl hx hd hw
    left
    refine ⟨_, ?_, rfl⟩
    have hn : x.l.length - pre.length = post.length + 1 := by rw [hp]; simp
    have hn2 : x.l.length - (pre ++ [a]).length = post.length := by rw [hp]; simp; omega
    have hi : idx ((pre.map fun y => some (simpC y)) ++ List.replicate (x.l.length - pre.length) none) (pre.length : Int) = some none := by
      rw [idx_nat, hn, List.getElem?_append_right (by simp)]; simp
    simp only [B37_L0, hd, hx, hi, hw, h37 a (by rw [hp]; simp), cond_true, Option.bind_some]
    rw [hn2, hn, Int.toNat_natCast]
    congr 3
    rw [List.set_append_right _ _ (by simp)]
    simp [List.replicate_succ]
  · rintro w rfl hd
    left
    refine ⟨_, by simp only [B37_L0, hd, cond_false]; rfl, ?_⟩
    rw [Nat.sub_self, List.replicate_zero, List.append_nil]
    exact hk
theorem simp_ok {F9 F11 : List Cd → Option (List Cd)} {F31 : List UInt8 → Cd → Option Cd} {F37 : Cd → Option Cd} (x : Cd) (hf : form1 x = true) (h37 : ∀ y ∈ x.l, F37 y = some (simpC y))
    (h9 : F9 (x.l.map simpC) = some (flatC (x.l.map simpC))) (h11 : F11 (flatC (x.l.map simpC)) = some (onceC (flatC (x.l.map simpC)))) (h31 : ∀ b y, b.length + y.bits.length ≤ 4611686018427387904 → F31 b y = some (fuseC b y)) (ht : x.tot ≤ 100000000000) : B37 F9 F11 F31 F37 x = some (simpC x) := by
  have hl := len_tot x
  have htt := tot_eq x
  unfold B37
  by_cases hk : x.kind ≠ 3 ∧ x.kind ≠ 4
  · rw [cT (by simp [hk]), simpC_eq]; unfold simp1; rw [if_neg hk.1, if_neg hk.2]
  rw [cF (by simp only [Bool.and_eq_false_iff, bne_eq_false_iff_eq]; omega), mkn_ok (by omega) (by omega)]
  simp only [Option.bind_some]
  refine fill_ok h37 (by omega) ?_
  have hmap : (x.l.map fun y => some (simpC y)).map (fun o => o.getD Cd.z0) = x.l.map simpC := by rw [List.map_map]; rfl
  have hsm := fun y (hy : y ∈ x.l) => simp_sm y
  rw [simpC_eq]
  unfold simp1 B37_K0
  by_cases h3 : x.kind = 3
  · obtain ⟨a, b, hab⟩ := form_two hf h3
    have sa := (simp_sm a).b
    have sb := (simp_sm b).b
    rw [hab] at htt
    simp only [Cd.totS] at htt
    rw [cT (by simp [h3]), if_pos h3, hab]
    simp only [List.map_cons, List.map_nil, idx_zero, idx_one, List.getElem?_cons_zero, List.getElem?_cons_succ, Option.bind_some]
    by_cases e1 : (simpC a).kind = 0
    · rw [cT (by simpa using e1)]; simp [e1, zeroC]
    rw [cF (by simpa using e1)]
    simp only [Option.bind_some]
    by_cases e2 : (simpC b).kind = 0
    · rw [cT (by simpa using e2)]; simp [e2, zeroC]
    rw [cF (by simpa using e2), if_neg (by simp [e1, e2])]
    by_cases e3 : (simpC a).kind = 1
    · rw [cT (by simpa using e3), if_pos e3, joinS_ok (by omega)]
      simp only [Option.bind_some]
      rw [h31 _ _ (by rw [List.length_append]; omega)]; rfl
    · rw [cF (by simpa using e3), if_neg e3]; rfl
  · have h4 : x.kind = 4 := by
      rcases Decidable.em (x.kind = 4) with h | h
      · exact h
      · exact absurd ⟨h3, h⟩ hk
    obtain ⟨f1, f2⟩ := flat_sm x.l hsm
    obtain ⟨o1, o2⟩ := once_key (flatC (x.l.map simpC))
    rw [cF (by simpa using h3), if_neg h3, if_pos h4, hmap, h9]
    simp only [Option.bind_some]
    rw [h11]
    simp only [Option.bind_some]
    match hr : onceC (flatC (x.l.map simpC)), o1, o2 with
    | [], _, _ => rfl
    | [p], _, o2 =>
      have hp := (f2 p (o2 p (by simp))).1
      simp only [List.length_singleton]
      rw [cF (by decide), cT (by decide), idx_cons0]
      simp only [Option.bind_some]
      rw [h31 _ _ (by omega)]; rfl
    | p :: q :: r, _, _ =>
      rw [cF (by simp only [List.length_cons]; rw [beq_eq_false_iff_ne]; omega), cF (by simp only [List.length_cons]; rw [beq_eq_false_iff_ne]; omega)]
theorem rsimp_ok {F10 F12 : List Rc → Option (List Rc)} {F32 : List UInt8 → Rc → Option Rc} {F39 : Rc → Option Rc} (x : Cd) (hf : form1 x = true) (h39 : ∀ y ∈ x.l, F39 (conv y) = some (conv (simpC y)))
    (h10 : F10 ((x.l.map simpC).map conv) = some ((flatC (x.l.map simpC)).map conv)) (h12 : F12 ((flatC (x.l.map simpC)).map conv) = some ((onceC (flatC (x.l.map simpC))).map conv)) (h32 : ∀ b y, b.length + y.bits.length ≤ 4611686018427387904 → F32 b (conv y) = some (conv (fuseC b y))) (ht : x.tot ≤ 100000000000) :
    B39 F10 F12 F32 F39 (conv x) = some (conv (simpC x)) := by
  have hl := len_tot x
  have htt := tot_eq x
  unfold B39
  rw [simpC_eq]
  unfold simp1
  simp only [conv_kind, conv_bits, conv_l]
  by_cases h3 : x.kind = 3
  · obtain ⟨a, b, hab⟩ := form_two hf h3
    have sa := (simp_sm a).b
    have sb := (simp_sm b).b
    have ha := h39 a (by rw [hab]; simp)
    have hb := h39 b (by rw [hab]; simp)
    rw [hab] at htt
    simp only [Cd.totS] at htt
    rw [cT (by simp [h3]), if_pos h3, hab]
    simp only [List.map_cons, List.map_nil, idx_zero, idx_one, List.getElem?_cons_zero, List.getElem?_cons_succ, Option.bind_some, ha, hb, conv_kind, conv_bits]
    by_cases e : (simpC a).kind = 0 ∨ (simpC b).kind = 0
    · rw [cT (by simpa using e), if_pos e, conv_zero]
    rw [cF (by simpa using e), if_neg e]
    by_cases e3 : (simpC a).kind = 1
    · rw [cT (by simpa using e3), if_pos e3, joinS_ok (by omega)]
      simp only [Option.bind_some]
      rw [h32 _ _ (by rw [List.length_append]; omega)]; rfl
    · rw [cF (by simpa using e3), if_neg e3, conv_eq ⟨3, x.bits, ⟨0, 0, 0, 0⟩, [simpC a, simpC b]⟩]
      simp only [setOf_zero, List.map_cons, List.map_nil]
  rw [cF (by simpa using h3), if_neg h3]
  by_cases h4 : x.kind = 4
  · obtain ⟨f1, f2⟩ := flat_sm x.l fun y hy => simp_sm y
    obtain ⟨o1, o2⟩ := once_key (flatC (x.l.map simpC))
    rw [cT (by simp [h4]), if_pos h4]
    refine forM conv x.l (fun w i => (w, i)) (fun pre w => w = (pre.map simpC).map conv) [] rfl (by omega) ?_ ?_
    · rintro pre a post w hp rfl hx hd hw
      have hpl : pre.length + post.length + 1 = x.l.length := by rw [hp]; simp; omega
      left
      refine ⟨_, ?_, rfl⟩
      simp only [B39_L0, conv_l, hd, hx, h39 a (by rw [hp]; simp), hw, cond_true, Option.bind_some]
      rw [join_ok (by simp; omega)]
      simp
    · rintro w rfl hd
      left
      refine ⟨_, by simp only [B39_L0, conv_l, hd, cond_false]; rfl, ?_⟩
      unfold B39_K0
      rw [h10]
      simp only [Option.bind_some]
      rw [h12]
      simp only [Option.bind_some, List.length_map, conv_bits]
      match hr : onceC (flatC (x.l.map simpC)), o1, o2 with
      | [], _, _ => rw [cT (by simp)]; exact congrArg some conv_zero.symm
      | [p], _, o2 =>
        have hp := (f2 p (o2 p (by simp))).1
        rw [cF (by simp), cT (by simp)]
        simp only [List.map_cons, List.map_nil, idx_cons0, Option.bind_some]
        rw [h32 _ _ (by omega)]; rfl
      | p :: q :: r, _, _ =>
        rw [cF (by simp only [List.length_cons]; rw [beq_eq_false_iff_ne]; omega), cF (by simp only [List.length_cons]; rw [beq_eq_false_iff_ne]; omega), conv_eq ⟨4, x.bits, ⟨0, 0, 0, 0⟩, p :: q :: r⟩]
        simp only [setOf_zero]
  · rw [cF (by simpa using h4), if_neg h4]
/-- Said once, where it may be. -/
noncomputable def SimpOf (x : Cd) : Cd := if GoodC x = true then simpC x else x
theorem Of_ok {F7 : Cd → Option Bool} {F37 : Cd → Option Cd} (x : Cd) (h7 : F7 x = some (GoodC x)) (h37 : GoodC x = true → F37 x = some (simpC x)) : B14 F7 F37 x = some (SimpOf x) := by
  unfold B14 SimpOf
  rw [h7]
  cases h : GoodC x <;> simp [h37, h]
theorem rOf_ok {F38 : Rc → Option Bool} {F39 : Rc → Option Rc} (x : Cd) (h7 : F38 (conv x) = some (GoodC x)) (h39 : GoodC x = true → F39 (conv x) = some (conv (simpC x))) : B15 F38 F39 (conv x) = some (conv (SimpOf x)) := by
  unfold B15 SimpOf
  rw [h7]
  cases h : GoodC x <;> simp [h39, h]
end Pl


set_option linter.unusedVariables false
namespace Pl
open Go Ab Go.Proofs.YtcggaaheaahinaaDoor.Mach
noncomputable def A3 (E : Env) (a0 : Cd) (a1 : (List Cd)) : Option Bool := ansF (fun r => [.bool r]) (limP E 3 [.agg (Cd.cells a0), .sl (List.map tCd.enc a1)])
theorem A3_to {E : Env} {r : Bool} (a0 : Cd) (a1 : (List Cd)) (h : A3 E a0 a1 = some r) : limP E 3 [.agg (Cd.cells a0), .sl (List.map tCd.enc a1)] = some [.bool r] := ansF_to (f := fun r => [.bool r]) h
theorem A3_of {E : Env} {r : Bool} (a0 : Cd) (a1 : (List Cd)) (h : limP E 3 [.agg (Cd.cells a0), .sl (List.map tCd.enc a1)] = some [.bool r]) : A3 E a0 a1 = some r := ansF_of (f := fun r => [.bool r]) (fun a b h => (tB_inj _ _ (List.cons.inj h).1)) h
noncomputable def A6 (E : Env) (a0 : Cd) (a1 : Int) : Option Bool := ansF (fun r => [.bool r]) (limP E 6 [.agg (Cd.cells a0), .int .i64 a1])
theorem A6_to {E : Env} {r : Bool} (a0 : Cd) (a1 : Int) (h : A6 E a0 a1 = some r) : limP E 6 [.agg (Cd.cells a0), .int .i64 a1] = some [.bool r] := ansF_to (f := fun r => [.bool r]) h
theorem A6_of {E : Env} {r : Bool} (a0 : Cd) (a1 : Int) (h : limP E 6 [.agg (Cd.cells a0), .int .i64 a1] = some [.bool r]) : A6 E a0 a1 = some r := ansF_of (f := fun r => [.bool r]) (fun a b h => (tB_inj _ _ (List.cons.inj h).1)) h
noncomputable def A7 (E : Env) (a0 : Cd) : Option Bool := ansF (fun r => [.bool r]) (limP E 7 [.agg (Cd.cells a0)])
theorem A7_to {E : Env} {r : Bool} (a0 : Cd) (h : A7 E a0 = some r) : limP E 7 [.agg (Cd.cells a0)] = some [.bool r] := ansF_to (f := fun r => [.bool r]) h
theorem A7_of {E : Env} {r : Bool} (a0 : Cd) (h : limP E 7 [.agg (Cd.cells a0)] = some [.bool r]) : A7 E a0 = some r := ansF_of (f := fun r => [.bool r]) (fun a b h => (tB_inj _ _ (List.cons.inj h).1)) h
noncomputable def A8 (E : Env) (a0 : Cd) : Option Rc := ansF (fun r => [.agg (Rc.cells r)]) (limP E 8 [.agg (Cd.cells a0)])
theorem A8_to {E : Env} {r : Rc} (a0 : Cd) (h : A8 E a0 = some r) : limP E 8 [.agg (Cd.cells a0)] = some [.agg (Rc.cells r)] := ansF_to (f := fun r => [.agg (Rc.cells r)]) h
theorem A8_of {E : Env} {r : Rc} (a0 : Cd) (h : limP E 8 [.agg (Cd.cells a0)] = some [.agg (Rc.cells r)]) : A8 E a0 = some r := ansF_of (f := fun r => [.agg (Rc.cells r)]) (fun a b h => (Rc.cinj _ _ (PV.agg.inj (List.cons.inj h).1))) h
noncomputable def A9 (E : Env) (a0 : (List Cd)) : Option (List Cd) := ansF (fun r => [.sl (List.map tCd.enc r)]) (limP E 9 [.sl (List.map tCd.enc a0)])
theorem A9_to {E : Env} {r : (List Cd)} (a0 : (List Cd)) (h : A9 E a0 = some r) : limP E 9 [.sl (List.map tCd.enc a0)] = some [.sl (List.map tCd.enc r)] := ansF_to (f := fun r => [.sl (List.map tCd.enc r)]) h
theorem A9_of {E : Env} {r : (List Cd)} (a0 : (List Cd)) (h : limP E 9 [.sl (List.map tCd.enc a0)] = some [.sl (List.map tCd.enc r)]) : A9 E a0 = some r := ansF_of (f := fun r => [.sl (List.map tCd.enc r)]) (fun a b h => ((tL_inj tCd_inj) _ _ (List.cons.inj h).1)) h
noncomputable def A10 (E : Env) (a0 : (List Rc)) : Option (List Rc) := ansF (fun r => [.sl (List.map tRc.enc r)]) (limP E 10 [.sl (List.map tRc.enc a0)])
theorem A10_to {E : Env} {r : (List Rc)} (a0 : (List Rc)) (h : A10 E a0 = some r) : limP E 10 [.sl (List.map tRc.enc a0)] = some [.sl (List.map tRc.enc r)] := ansF_to (f := fun r => [.sl (List.map tRc.enc r)]) h
theorem A10_of {E : Env} {r : (List Rc)} (a0 : (List Rc)) (h : limP E 10 [.sl (List.map tRc.enc a0)] = some [.sl (List.map tRc.enc r)]) : A10 E a0 = some r := ansF_of (f := fun r => [.sl (List.map tRc.enc r)]) (fun a b h => ((tL_inj tRc_inj) _ _ (List.cons.inj h).1)) h
noncomputable def A11 (E : Env) (a0 : (List Cd)) : Option (List Cd) := ansF (fun r => [.sl (List.map tCd.enc r)]) (limP E 11 [.sl (List.map tCd.enc a0)])
theorem A11_to {E : Env} {r : (List Cd)} (a0 : (List Cd)) (h : A11 E a0 = some r) : limP E 11 [.sl (List.map tCd.enc a0)] = some [.sl (List.map tCd.enc r)] := ansF_to (f := fun r => [.sl (List.map tCd.enc r)]) h
theorem A11_of {E : Env} {r : (List Cd)} (a0 : (List Cd)) (h : limP E 11 [.sl (List.map tCd.enc a0)] = some [.sl (List.map tCd.enc r)]) : A11 E a0 = some r := ansF_of (f := fun r => [.sl (List.map tCd.enc r)]) (fun a b h => ((tL_inj tCd_inj) _ _ (List.cons.inj h).1)) h
noncomputable def A12 (E : Env) (a0 : (List Rc)) : Option (List Rc) := ansF (fun r => [.sl (List.map tRc.enc r)]) (limP E 12 [.sl (List.map tRc.enc a0)])
theorem A12_to {E : Env} {r : (List Rc)} (a0 : (List Rc)) (h : A12 E a0 = some r) : limP E 12 [.sl (List.map tRc.enc a0)] = some [.sl (List.map tRc.enc r)] := ansF_to (f := fun r => [.sl (List.map tRc.enc r)]) h
theorem A12_of {E : Env} {r : (List Rc)} (a0 : (List Rc)) (h : limP E 12 [.sl (List.map tRc.enc a0)] = some [.sl (List.map tRc.enc r)]) : A12 E a0 = some r := ansF_of (f := fun r => [.sl (List.map tRc.enc r)]) (fun a b h => ((tL_inj tRc_inj) _ _ (List.cons.inj h).1)) h
noncomputable def A13 (E : Env) (a0 : Rc) (a1 : Rc) : Option Bool := ansF (fun r => [.bool r]) (limP E 13 [.agg (Rc.cells a0), .agg (Rc.cells a1)])
theorem A13_to {E : Env} {r : Bool} (a0 : Rc) (a1 : Rc) (h : A13 E a0 a1 = some r) : limP E 13 [.agg (Rc.cells a0), .agg (Rc.cells a1)] = some [.bool r] := ansF_to (f := fun r => [.bool r]) h
theorem A13_of {E : Env} {r : Bool} (a0 : Rc) (a1 : Rc) (h : limP E 13 [.agg (Rc.cells a0), .agg (Rc.cells a1)] = some [.bool r]) : A13 E a0 a1 = some r := ansF_of (f := fun r => [.bool r]) (fun a b h => (tB_inj _ _ (List.cons.inj h).1)) h
noncomputable def A14 (E : Env) (a0 : Cd) : Option Cd := ansF (fun r => [.agg (Cd.cells r)]) (limP E 14 [.agg (Cd.cells a0)])
theorem A14_to {E : Env} {r : Cd} (a0 : Cd) (h : A14 E a0 = some r) : limP E 14 [.agg (Cd.cells a0)] = some [.agg (Cd.cells r)] := ansF_to (f := fun r => [.agg (Cd.cells r)]) h
theorem A14_of {E : Env} {r : Cd} (a0 : Cd) (h : limP E 14 [.agg (Cd.cells a0)] = some [.agg (Cd.cells r)]) : A14 E a0 = some r := ansF_of (f := fun r => [.agg (Cd.cells r)]) (fun a b h => (Cd.cinj _ _ (PV.agg.inj (List.cons.inj h).1))) h
noncomputable def A15 (E : Env) (a0 : Rc) : Option Rc := ansF (fun r => [.agg (Rc.cells r)]) (limP E 15 [.agg (Rc.cells a0)])
theorem A15_to {E : Env} {r : Rc} (a0 : Rc) (h : A15 E a0 = some r) : limP E 15 [.agg (Rc.cells a0)] = some [.agg (Rc.cells r)] := ansF_to (f := fun r => [.agg (Rc.cells r)]) h
theorem A15_of {E : Env} {r : Rc} (a0 : Rc) (h : limP E 15 [.agg (Rc.cells a0)] = some [.agg (Rc.cells r)]) : A15 E a0 = some r := ansF_of (f := fun r => [.agg (Rc.cells r)]) (fun a b h => (Rc.cinj _ _ (PV.agg.inj (List.cons.inj h).1))) h
noncomputable def A28 (E : Env) (a0 : Cd) : Option Int := ansF (fun r => [.int .i64 r]) (limP E 28 [.agg (Cd.cells a0)])
theorem A28_to {E : Env} {r : Int} (a0 : Cd) (h : A28 E a0 = some r) : limP E 28 [.agg (Cd.cells a0)] = some [.int .i64 r] := ansF_to (f := fun r => [.int .i64 r]) h
theorem A28_of {E : Env} {r : Int} (a0 : Cd) (h : limP E 28 [.agg (Cd.cells a0)] = some [.int .i64 r]) : A28 E a0 = some r := ansF_of (f := fun r => [.int .i64 r]) (fun a b h => ((tI_inj .i64) _ _ (List.cons.inj h).1)) h
noncomputable def A29 (E : Env) (a0 : Cd) (a1 : Int) : Option Bool := ansF (fun r => [.bool r]) (limP E 29 [.agg (Cd.cells a0), .int .i64 a1])
theorem A29_to {E : Env} {r : Bool} (a0 : Cd) (a1 : Int) (h : A29 E a0 a1 = some r) : limP E 29 [.agg (Cd.cells a0), .int .i64 a1] = some [.bool r] := ansF_to (f := fun r => [.bool r]) h
theorem A29_of {E : Env} {r : Bool} (a0 : Cd) (a1 : Int) (h : limP E 29 [.agg (Cd.cells a0), .int .i64 a1] = some [.bool r]) : A29 E a0 a1 = some r := ansF_of (f := fun r => [.bool r]) (fun a b h => (tB_inj _ _ (List.cons.inj h).1)) h
noncomputable def A30 (E : Env) (a0 : W4) : Option (BitVec 256) := ansF (fun r => [.agg (bits256 r)]) (limP E 30 [.agg (W4.cells a0)])
theorem A30_to {E : Env} {r : (BitVec 256)} (a0 : W4) (h : A30 E a0 = some r) : limP E 30 [.agg (W4.cells a0)] = some [.agg (bits256 r)] := ansF_to (f := fun r => [.agg (bits256 r)]) h
theorem A30_of {E : Env} {r : (BitVec 256)} (a0 : W4) (h : limP E 30 [.agg (W4.cells a0)] = some [.agg (bits256 r)]) : A30 E a0 = some r := ansF_of (f := fun r => [.agg (bits256 r)]) (fun a b h => (bits_inj (PV.agg.inj (List.cons.inj h).1))) h
noncomputable def A31 (E : Env) (a0 : List UInt8) (a1 : Cd) : Option Cd := ansF (fun r => [.agg (Cd.cells r)]) (limP E 31 [.str a0, .agg (Cd.cells a1)])
theorem A31_to {E : Env} {r : Cd} (a0 : List UInt8) (a1 : Cd) (h : A31 E a0 a1 = some r) : limP E 31 [.str a0, .agg (Cd.cells a1)] = some [.agg (Cd.cells r)] := ansF_to (f := fun r => [.agg (Cd.cells r)]) h
theorem A31_of {E : Env} {r : Cd} (a0 : List UInt8) (a1 : Cd) (h : limP E 31 [.str a0, .agg (Cd.cells a1)] = some [.agg (Cd.cells r)]) : A31 E a0 a1 = some r := ansF_of (f := fun r => [.agg (Cd.cells r)]) (fun a b h => (Cd.cinj _ _ (PV.agg.inj (List.cons.inj h).1))) h
noncomputable def A32 (E : Env) (a0 : List UInt8) (a1 : Rc) : Option Rc := ansF (fun r => [.agg (Rc.cells r)]) (limP E 32 [.str a0, .agg (Rc.cells a1)])
theorem A32_to {E : Env} {r : Rc} (a0 : List UInt8) (a1 : Rc) (h : A32 E a0 a1 = some r) : limP E 32 [.str a0, .agg (Rc.cells a1)] = some [.agg (Rc.cells r)] := ansF_to (f := fun r => [.agg (Rc.cells r)]) h
theorem A32_of {E : Env} {r : Rc} (a0 : List UInt8) (a1 : Rc) (h : limP E 32 [.str a0, .agg (Rc.cells a1)] = some [.agg (Rc.cells r)]) : A32 E a0 a1 = some r := ansF_of (f := fun r => [.agg (Rc.cells r)]) (fun a b h => (Rc.cinj _ _ (PV.agg.inj (List.cons.inj h).1))) h
noncomputable def A34 (E : Env) (a0 : Cd) (a1 : Cd) : Option Bool := ansF (fun r => [.bool r]) (limP E 34 [.agg (Cd.cells a0), .ip (Cd.cells a1) 0])
theorem A34_to {E : Env} {r : Bool} (a0 : Cd) (a1 : Cd) (h : A34 E a0 a1 = some r) : limP E 34 [.agg (Cd.cells a0), .ip (Cd.cells a1) 0] = some [.bool r] := ansF_to (f := fun r => [.bool r]) h
theorem A34_of {E : Env} {r : Bool} (a0 : Cd) (a1 : Cd) (h : limP E 34 [.agg (Cd.cells a0), .ip (Cd.cells a1) 0] = some [.bool r]) : A34 E a0 a1 = some r := ansF_of (f := fun r => [.bool r]) (fun a b h => (tB_inj _ _ (List.cons.inj h).1)) h
noncomputable def A35 (E : Env) (a0 : Cd) (a1 : Cd) : Option Bool := ansF (fun r => [.bool r]) (limP E 35 [.agg (Cd.cells a0), .agg (Cd.cells a1)])
theorem A35_to {E : Env} {r : Bool} (a0 : Cd) (a1 : Cd) (h : A35 E a0 a1 = some r) : limP E 35 [.agg (Cd.cells a0), .agg (Cd.cells a1)] = some [.bool r] := ansF_to (f := fun r => [.bool r]) h
theorem A35_of {E : Env} {r : Bool} (a0 : Cd) (a1 : Cd) (h : limP E 35 [.agg (Cd.cells a0), .agg (Cd.cells a1)] = some [.bool r]) : A35 E a0 a1 = some r := ansF_of (f := fun r => [.bool r]) (fun a b h => (tB_inj _ _ (List.cons.inj h).1)) h
noncomputable def A36 (E : Env) (a0 : Rc) (a1 : Rc) : Option Bool := ansF (fun r => [.bool r]) (limP E 36 [.agg (Rc.cells a0), .agg (Rc.cells a1)])
theorem A36_to {E : Env} {r : Bool} (a0 : Rc) (a1 : Rc) (h : A36 E a0 a1 = some r) : limP E 36 [.agg (Rc.cells a0), .agg (Rc.cells a1)] = some [.bool r] := ansF_to (f := fun r => [.bool r]) h
theorem A36_of {E : Env} {r : Bool} (a0 : Rc) (a1 : Rc) (h : limP E 36 [.agg (Rc.cells a0), .agg (Rc.cells a1)] = some [.bool r]) : A36 E a0 a1 = some r := ansF_of (f := fun r => [.bool r]) (fun a b h => (tB_inj _ _ (List.cons.inj h).1)) h
noncomputable def A37 (E : Env) (a0 : Cd) : Option Cd := ansF (fun r => [.agg (Cd.cells r)]) (limP E 37 [.agg (Cd.cells a0)])
theorem A37_to {E : Env} {r : Cd} (a0 : Cd) (h : A37 E a0 = some r) : limP E 37 [.agg (Cd.cells a0)] = some [.agg (Cd.cells r)] := ansF_to (f := fun r => [.agg (Cd.cells r)]) h
theorem A37_of {E : Env} {r : Cd} (a0 : Cd) (h : limP E 37 [.agg (Cd.cells a0)] = some [.agg (Cd.cells r)]) : A37 E a0 = some r := ansF_of (f := fun r => [.agg (Cd.cells r)]) (fun a b h => (Cd.cinj _ _ (PV.agg.inj (List.cons.inj h).1))) h
noncomputable def A38 (E : Env) (a0 : Rc) : Option Bool := ansF (fun r => [.bool r]) (limP E 38 [.agg (Rc.cells a0)])
theorem A38_to {E : Env} {r : Bool} (a0 : Rc) (h : A38 E a0 = some r) : limP E 38 [.agg (Rc.cells a0)] = some [.bool r] := ansF_to (f := fun r => [.bool r]) h
theorem A38_of {E : Env} {r : Bool} (a0 : Rc) (h : limP E 38 [.agg (Rc.cells a0)] = some [.bool r]) : A38 E a0 = some r := ansF_of (f := fun r => [.bool r]) (fun a b h => (tB_inj _ _ (List.cons.inj h).1)) h
noncomputable def A39 (E : Env) (a0 : Rc) : Option Rc := ansF (fun r => [.agg (Rc.cells r)]) (limP E 39 [.agg (Rc.cells a0)])
theorem A39_to {E : Env} {r : Rc} (a0 : Rc) (h : A39 E a0 = some r) : limP E 39 [.agg (Rc.cells a0)] = some [.agg (Rc.cells r)] := ansF_to (f := fun r => [.agg (Rc.cells r)]) h
theorem A39_of {E : Env} {r : Rc} (a0 : Rc) (h : limP E 39 [.agg (Rc.cells a0)] = some [.agg (Rc.cells r)]) : A39 E a0 = some r := ansF_of (f := fun r => [.agg (Rc.cells r)]) (fun a b h => (Rc.cinj _ _ (PV.agg.inj (List.cons.inj h).1))) h
noncomputable def A54 (E : Env) (a0 : Cd) (a1 : Int) : Option Bool := ansF (fun r => [.bool r]) (limP E 54 [.agg (Cd.cells a0), .ip [.int .i64 a1] 0])
theorem A54_to {E : Env} {r : Bool} (a0 : Cd) (a1 : Int) (h : A54 E a0 a1 = some r) : limP E 54 [.agg (Cd.cells a0), .ip [.int .i64 a1] 0] = some [.bool r] := ansF_to (f := fun r => [.bool r]) h
theorem A54_of {E : Env} {r : Bool} (a0 : Cd) (a1 : Int) (h : limP E 54 [.agg (Cd.cells a0), .ip [.int .i64 a1] 0] = some [.bool r]) : A54 E a0 a1 = some r := ansF_of (f := fun r => [.bool r]) (fun a b h => (tB_inj _ _ (List.cons.inj h).1)) h
noncomputable def A55 (E : Env) (a0 : W4) : Option (BitVec 256) := ansF (fun r => [.agg (bits256 r)]) (limP E 55 [.agg (W4.cells a0)])
theorem A55_to {E : Env} {r : (BitVec 256)} (a0 : W4) (h : A55 E a0 = some r) : limP E 55 [.agg (W4.cells a0)] = some [.agg (bits256 r)] := ansF_to (f := fun r => [.agg (bits256 r)]) h
theorem A55_of {E : Env} {r : (BitVec 256)} (a0 : W4) (h : limP E 55 [.agg (W4.cells a0)] = some [.agg (bits256 r)]) : A55 E a0 = some r := ansF_of (f := fun r => [.agg (bits256 r)]) (fun a b h => (bits_inj (PV.agg.inj (List.cons.inj h).1))) h
noncomputable def A58 (E : Env) (a0 : Rc) (a1 : Int) : Option Int := ansF (fun r => [.int .i64 r]) (limP E 58 [.agg (Rc.cells a0), .int .i64 a1])
theorem A58_to {E : Env} {r : Int} (a0 : Rc) (a1 : Int) (h : A58 E a0 a1 = some r) : limP E 58 [.agg (Rc.cells a0), .int .i64 a1] = some [.int .i64 r] := ansF_to (f := fun r => [.int .i64 r]) h
theorem A58_of {E : Env} {r : Int} (a0 : Rc) (a1 : Int) (h : limP E 58 [.agg (Rc.cells a0), .int .i64 a1] = some [.int .i64 r]) : A58 E a0 a1 = some r := ansF_of (f := fun r => [.int .i64 r]) (fun a b h => ((tI_inj .i64) _ _ (List.cons.inj h).1)) h
noncomputable def A59 (E : Env) (a0 : Rc) (a1 : Int) : Option Int := ansF (fun r => [.int .i64 r]) (limP E 59 [.agg (Rc.cells a0), .int .i64 a1])
theorem A59_to {E : Env} {r : Int} (a0 : Rc) (a1 : Int) (h : A59 E a0 a1 = some r) : limP E 59 [.agg (Rc.cells a0), .int .i64 a1] = some [.int .i64 r] := ansF_to (f := fun r => [.int .i64 r]) h
theorem A59_of {E : Env} {r : Int} (a0 : Rc) (a1 : Int) (h : limP E 59 [.agg (Rc.cells a0), .int .i64 a1] = some [.int .i64 r]) : A59 E a0 a1 = some r := ansF_of (f := fun r => [.int .i64 r]) (fun a b h => ((tI_inj .i64) _ _ (List.cons.inj h).1)) h
noncomputable def A60 (E : Env) (a0 : Rc) : Option Bool := ansF (fun r => [.bool r]) (limP E 60 [.agg (Rc.cells a0)])
theorem A60_to {E : Env} {r : Bool} (a0 : Rc) (h : A60 E a0 = some r) : limP E 60 [.agg (Rc.cells a0)] = some [.bool r] := ansF_to (f := fun r => [.bool r]) h
theorem A60_of {E : Env} {r : Bool} (a0 : Rc) (h : limP E 60 [.agg (Rc.cells a0)] = some [.bool r]) : A60 E a0 = some r := ansF_of (f := fun r => [.bool r]) (fun a b h => (tB_inj _ _ (List.cons.inj h).1)) h
noncomputable def A5 (E : Env) : Option Bool := ansF (fun r => [.bool r]) (limP E 5 [])
theorem A5_to {E : Env} {r : Bool} (h : A5 E = some r) : limP E 5 [] = some [.bool r] := ansF_to (f := fun r => [.bool r]) h
theorem A5_of {E : Env} {r : Bool} (h : limP E 5 [] = some [.bool r]) : A5 E = some r := ansF_of (f := fun r => [.bool r]) (fun a b h => (tB_inj _ _ (List.cons.inj h).1)) h
noncomputable def A53 (E : Env) (a0 : List UInt8) (a1 : List UInt8) : Option (List UInt8) := ansF (fun r => [.str r]) (limP E 53 [.str a0, .str a1])
theorem A53_to {E : Env} {r : (List UInt8)} (a0 : List UInt8) (a1 : List UInt8) (h : A53 E a0 a1 = some r) : limP E 53 [.str a0, .str a1] = some [.str r] := ansF_to (f := fun r => [.str r]) h
theorem A53_of {E : Env} {r : (List UInt8)} (a0 : List UInt8) (a1 : List UInt8) (h : limP E 53 [.str a0, .str a1] = some [.str r]) : A53 E a0 a1 = some r := ansF_of (f := fun r => [.str r]) (fun a b h => (tS_inj _ _ (List.cons.inj h).1)) h
structure HS (E : Env) : Prop where
  h3 : Has E 3 c3
  h6 : Has E 6 c6
  h7 : Has E 7 c7
  h8 : Has E 8 c8
  h9 : Has E 9 c9
  h10 : Has E 10 c10
  h11 : Has E 11 c11
  h12 : Has E 12 c12
  h13 : Has E 13 c13
  h14 : Has E 14 c14
  h15 : Has E 15 c15
  h28 : Has E 28 c28
  h29 : Has E 29 c29
  h30 : Has E 30 c30
  h31 : Has E 31 c31
  h32 : Has E 32 c32
  h33 : Has E 33 c33
  h34 : Has E 34 c34
  h35 : Has E 35 c35
  h36 : Has E 36 c36
  h37 : Has E 37 c37
  h38 : Has E 38 c38
  h39 : Has E 39 c39
  h54 : Has E 54 c54
  h55 : Has E 55 c55
  h56 : Has E 56 c56
  h57 : Has E 57 c57
  h58 : Has E 58 c58
  h59 : Has E 59 c59
  h60 : Has E 60 c60
  r5 : E.raw 5 = false
  r53 : E.raw 53 = false
theorem A3_B {E : Env} (S : HS E) (a0 : Cd) (a1 : (List Cd)) {r : Bool} (h : B3 (A5 E) (A6 E) (A7 E) (A8 E) (A9 E) (A10 E) (A11 E) (A12 E) (A13 E) (A14 E) (A15 E) a0 a1 = some r) : A3 E a0 a1 = some r := A3_of a0 a1 (B3_ok (A5 E) (A6 E) (A7 E) (A8 E) (A9 E) (A10 E) (A11 E) (A12 E) (A13 E) (A14 E) (A15 E) (fun r h => A5_to h) S.r5 (fun r a0 a1 h => A6_to a0 a1 h) S.h6.raw (fun r a0 h => A7_to a0 h) S.h7.raw (fun r a0 h => A8_to a0 h) S.h8.raw (fun r a0 h => A9_to a0 h) S.h9.raw (fun r a0 h => A10_to a0 h) S.h10.raw (fun r a0 h => A11_to a0 h) S.h11.raw (fun r a0 h => A12_to a0 h) S.h12.raw (fun r a0 a1 h => A13_to a0 a1 h) S.h13.raw (fun r a0 h => A14_to a0 h) S.h14.raw (fun r a0 h => A15_to a0 h) S.h15.raw S.h3 a0 a1 r h)
theorem A6_B {E : Env} (S : HS E) (a0 : Cd) (a1 : Int) {r : Bool} (h : B6 (A6 E) a0 a1 = some r) : A6 E a0 a1 = some r := A6_of a0 a1 (B6_ok (A6 E) (fun r a0 a1 h => A6_to a0 a1 h) S.h6.raw S.h6 a0 a1 r h)
theorem A7_B {E : Env} (S : HS E) (a0 : Cd) {r : Bool} (h : B7 (A28 E) (A29 E) a0 = some r) : A7 E a0 = some r := A7_of a0 (B7_ok (A28 E) (A29 E) (fun r a0 h => A28_to a0 h) S.h28.raw (fun r a0 a1 h => A29_to a0 a1 h) S.h29.raw S.h7 a0 r h)
theorem A8_B {E : Env} (S : HS E) (a0 : Cd) {r : Rc} (h : B8 (A8 E) (A30 E) a0 = some r) : A8 E a0 = some r := A8_of a0 (B8_ok (A8 E) (A30 E) (fun r a0 h => A8_to a0 h) S.h8.raw (fun r a0 h => A30_to a0 h) S.h30.raw S.h8 a0 r h)
theorem A9_B {E : Env} (S : HS E) (a0 : (List Cd)) {r : (List Cd)} (h : B9 (A31 E) a0 = some r) : A9 E a0 = some r := A9_of a0 (B9_ok (A31 E) (fun r a0 a1 h => A31_to a0 a1 h) S.h31.raw S.h9 a0 r h)
theorem A10_B {E : Env} (S : HS E) (a0 : (List Rc)) {r : (List Rc)} (h : B10 (A32 E) a0 = some r) : A10 E a0 = some r := A10_of a0 (B10_ok (A32 E) (fun r a0 a1 h => A32_to a0 a1 h) S.h32.raw S.h10 a0 r h)
theorem A11_B {E : Env} (S : HS E) (a0 : (List Cd)) {r : (List Cd)} (h : B11 (B33 (B56)) (A34 E) a0 = some r) : A11 E a0 = some r := A11_of a0 (B11_ok (B33 (B56)) (A34 E) (fun r x0 φ gg cs hφ hg hb => B33_ok (B56) (fun r x0 φ gg cs hφ hg hb => B56_ok S.h56 x0 φ gg cs hφ hg r hb) S.h56.raw S.h33 x0 φ gg cs hφ hg r hb) S.h33.raw (fun r a0 a1 h => A34_to a0 a1 h) S.h34.raw S.h11 a0 r h)
theorem A12_B {E : Env} (S : HS E) (a0 : (List Rc)) {r : (List Rc)} (h : B12 (A36 E) a0 = some r) : A12 E a0 = some r := A12_of a0 (B12_ok (A36 E) (fun r a0 a1 h => A36_to a0 a1 h) S.h36.raw S.h12 a0 r h)
theorem A13_B {E : Env} (S : HS E) (a0 : Rc) (a1 : Rc) {r : Bool} (h : B13 (A13 E) a0 a1 = some r) : A13 E a0 a1 = some r := A13_of a0 a1 (B13_ok (A13 E) (fun r a0 a1 h => A13_to a0 a1 h) S.h13.raw S.h13 a0 a1 r h)
theorem A14_B {E : Env} (S : HS E) (a0 : Cd) {r : Cd} (h : B14 (A7 E) (A37 E) a0 = some r) : A14 E a0 = some r := A14_of a0 (B14_ok (A7 E) (A37 E) (fun r a0 h => A7_to a0 h) S.h7.raw (fun r a0 h => A37_to a0 h) S.h37.raw S.h14 a0 r h)
theorem A15_B {E : Env} (S : HS E) (a0 : Rc) {r : Rc} (h : B15 (A38 E) (A39 E) a0 = some r) : A15 E a0 = some r := A15_of a0 (B15_ok (A38 E) (A39 E) (fun r a0 h => A38_to a0 h) S.h38.raw (fun r a0 h => A39_to a0 h) S.h39.raw S.h15 a0 r h)
theorem A28_B {E : Env} (S : HS E) (a0 : Cd) {r : Int} (h : B28 (A28 E) a0 = some r) : A28 E a0 = some r := A28_of a0 (B28_ok (A28 E) (fun r a0 h => A28_to a0 h) S.h28.raw S.h28 a0 r h)
theorem A29_B {E : Env} (S : HS E) (a0 : Cd) (a1 : Int) {r : Bool} (h : B29 (B33 (B56)) (A53 E) (A54 E) a0 a1 = some r) : A29 E a0 a1 = some r := A29_of a0 a1 (B29_ok (B33 (B56)) (A53 E) (A54 E) (fun r x0 φ gg cs hφ hg hb => B33_ok (B56) (fun r x0 φ gg cs hφ hg hb => B56_ok S.h56 x0 φ gg cs hφ hg r hb) S.h56.raw S.h33 x0 φ gg cs hφ hg r hb) S.h33.raw (fun r a0 a1 h => A53_to a0 a1 h) S.r53 (fun r a0 a1 h => A54_to a0 a1 h) S.h54.raw S.h29 a0 a1 r h)
theorem A30_B {E : Env} (S : HS E) (a0 : W4) {r : (BitVec 256)} (h : B30 (A55 E) a0 = some r) : A30 E a0 = some r := A30_of a0 (B30_ok (A55 E) (fun r a0 h => A55_to a0 h) S.h55.raw S.h30 a0 r h)
theorem A31_B {E : Env} (S : HS E) (a0 : List UInt8) (a1 : Cd) {r : Cd} (h : B31 a0 a1 = some r) : A31 E a0 a1 = some r := A31_of a0 a1 (B31_ok S.h31 a0 a1 r h)
theorem A32_B {E : Env} (S : HS E) (a0 : List UInt8) (a1 : Rc) {r : Rc} (h : B32 a0 a1 = some r) : A32 E a0 a1 = some r := A32_of a0 a1 (B32_ok S.h32 a0 a1 r h)
theorem A34_B {E : Env} (S : HS E) (a0 : Cd) (a1 : Cd) {r : Bool} (h : B34 (A35 E) a0 a1 = some r) : A34 E a0 a1 = some r := A34_of a0 a1 (B34_ok (A35 E) (fun r a0 a1 h => A35_to a0 a1 h) S.h35.raw S.h34 a0 a1 r h)
theorem A35_B {E : Env} (S : HS E) (a0 : Cd) (a1 : Cd) {r : Bool} (h : B35 (A35 E) (B57) a0 a1 = some r) : A35 E a0 a1 = some r := A35_of a0 a1 (B35_ok (A35 E) (B57) (fun r a0 a1 h => A35_to a0 a1 h) S.h35.raw (fun r x0 x1 φ gg cs hφ hg hb => B57_ok S.h57 x0 x1 φ gg cs hφ hg r hb) S.h57.raw S.h35 a0 a1 r h)
theorem A36_B {E : Env} (S : HS E) (a0 : Rc) (a1 : Rc) {r : Bool} (h : B36 (A36 E) a0 a1 = some r) : A36 E a0 a1 = some r := A36_of a0 a1 (B36_ok (A36 E) (fun r a0 a1 h => A36_to a0 a1 h) S.h36.raw S.h36 a0 a1 r h)
theorem A37_B {E : Env} (S : HS E) (a0 : Cd) {r : Cd} (h : B37 (A9 E) (A11 E) (A31 E) (A37 E) a0 = some r) : A37 E a0 = some r := A37_of a0 (B37_ok (A9 E) (A11 E) (A31 E) (A37 E) (fun r a0 h => A9_to a0 h) S.h9.raw (fun r a0 h => A11_to a0 h) S.h11.raw (fun r a0 a1 h => A31_to a0 a1 h) S.h31.raw (fun r a0 h => A37_to a0 h) S.h37.raw S.h37 a0 r h)
theorem A38_B {E : Env} (S : HS E) (a0 : Rc) {r : Bool} (h : B38 (A58 E) (A59 E) (A60 E) a0 = some r) : A38 E a0 = some r := A38_of a0 (B38_ok (A58 E) (A59 E) (A60 E) (fun r a0 a1 h => A58_to a0 a1 h) S.h58.raw (fun r a0 a1 h => A59_to a0 a1 h) S.h59.raw (fun r a0 h => A60_to a0 h) S.h60.raw S.h38 a0 r h)
theorem A39_B {E : Env} (S : HS E) (a0 : Rc) {r : Rc} (h : B39 (A10 E) (A12 E) (A32 E) (A39 E) a0 = some r) : A39 E a0 = some r := A39_of a0 (B39_ok (A10 E) (A12 E) (A32 E) (A39 E) (fun r a0 h => A10_to a0 h) S.h10.raw (fun r a0 h => A12_to a0 h) S.h12.raw (fun r a0 a1 h => A32_to a0 a1 h) S.h32.raw (fun r a0 h => A39_to a0 h) S.h39.raw S.h39 a0 r h)
theorem A54_B {E : Env} (S : HS E) (a0 : Cd) (a1 : Int) {r : Bool} (h : B54 (A29 E) a0 a1 = some r) : A54 E a0 a1 = some r := A54_of a0 a1 (B54_ok (A29 E) (fun r a0 a1 h => A29_to a0 a1 h) S.h29.raw S.h54 a0 a1 r h)
theorem A55_B {E : Env} (S : HS E) (a0 : W4) {r : (BitVec 256)} (h : B55 a0 = some r) : A55 E a0 = some r := A55_of a0 (B55_ok S.h55 a0 r h)
theorem A58_B {E : Env} (S : HS E) (a0 : Rc) (a1 : Int) {r : Int} (h : B58 (A58 E) a0 a1 = some r) : A58 E a0 a1 = some r := A58_of a0 a1 (B58_ok (A58 E) (fun r a0 a1 h => A58_to a0 a1 h) S.h58.raw S.h58 a0 a1 r h)
theorem A59_B {E : Env} (S : HS E) (a0 : Rc) (a1 : Int) {r : Int} (h : B59 (A59 E) a0 a1 = some r) : A59 E a0 a1 = some r := A59_of a0 a1 (B59_ok (A59 E) (fun r a0 a1 h => A59_to a0 a1 h) S.h59.raw S.h59 a0 a1 r h)
theorem A60_B {E : Env} (S : HS E) (a0 : Rc) {r : Bool} (h : B60 (A60 E) a0 = some r) : A60 E a0 = some r := A60_of a0 (B60_ok (A60 E) (fun r a0 h => A60_to a0 h) S.h60.raw S.h60 a0 r h)
end Pl
