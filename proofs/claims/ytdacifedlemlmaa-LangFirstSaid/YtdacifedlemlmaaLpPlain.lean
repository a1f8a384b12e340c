/- One behind the other, one of two, as often as one likes: in plain words. -/
import Derived.Test.YtdacifedlemlmaaLsY
set_option linter.unusedSimpArgs false
set_option linter.unusedVariables false
namespace Lng
open Cps

theorem kinds {c : Co} (h : Sh c) : c.k = 0 ∨ c.k = 1 ∨ c.k = 2 ∨ c.k = 3 ∨ c.k = 4 ∨ c.k = 5 ∨ c.k = 6 ∨ c.k = 7 := by
  have g := (sh_mk.1 h).1
  unfold kidsS at g
  split at g
  · omega
  · split at g
    · omega
    · split at g
      · omega
      · omega

/-- Whether a core says nothing. -/
def nullS : Co → Bool
  | .mk k _ _ _ _ _ l => if k = 1 ∨ k = 5 then true else if k = 3 then nullAt l 0 && nullAt l 1 else if k = 4 then nullAt l 0 || nullAt l 1 else if k = 6 ∨ k = 7 then nullAt l 0 else false
where
  nullAt : List Co → Nat → Bool
  | [], _ => false
  | c :: _, 0 => nullS c
  | _ :: l, m + 1 => nullAt l m
theorem nullS_eq (c : Co) : nullS c = if c.k = 1 ∨ c.k = 5 then true else if c.k = 3 then nullS.nullAt c.l 0 && nullS.nullAt c.l 1 else if c.k = 4 then nullS.nullAt c.l 0 || nullS.nullAt c.l 1 else if c.k = 6 ∨ c.k = 7 then nullS.nullAt c.l 0 else false := by
  cases c; rw [nullS]; rfl

theorem null_iff : ∀ c, nullS c = true ↔ Lg c [] := by
  refine Co.ind fun c ih => ?_
  have hat : ∀ (l : List Co) (m : Nat), (∀ y ∈ l, nullS y = true ↔ Lg y []) → (nullS.nullAt l m = true ↔ Lg.LgAt l m []) := by
    intro l
    induction l with
    | nil => intro m _; simp [nullS.nullAt, Lg.LgAt]
    | cons x l ihl =>
      intro m hh
      cases m with
      | zero => simp only [nullS.nullAt, Lg.LgAt]; exact hh x (by simp)
      | succ m => simp only [nullS.nullAt, Lg.LgAt]; exact ihl m fun y hy => hh y (by simp [hy])
  have h0 := hat c.l 0 ih
  have h1 := hat c.l 1 ih
  rw [nullS_eq, Lg_eq]
  by_cases k1 : c.k = 1
  · simp [k1]
  by_cases k2 : c.k = 2
  · simp [k2]
  by_cases k3 : c.k = 3
  · simp [k3, h0, h1, and_assoc]
  by_cases k4 : c.k = 4
  · simp [k4, h0, h1]
  by_cases k5 : c.k = 5
  · simp only [k5]
    simp [St.nil]
  by_cases k6 : c.k = 6
  · simp [k6, h0]
  by_cases k7 : c.k = 7
  · simp [k7, h0]
  simp [k1, k2, k3, k4, k5, k6, k7]

/-- Whether a core says a text. -/
def sayS (c : Co) (s : List Int) : Bool := rowS s c 0 s.length
theorem say_iff {c : Co} {s : List Int} : sayS c s = true ↔ Lg c s := by
  rw [sayS, row_iff _ _ _ (Nat.zero_le _), seg_all]
  simp
def altC (a b : Co) : Co := .mk 4 0 0 0 0 0 [a, b]
theorem lg_alt {a b : Co} {t : List Int} : Lg (altC a b) t ↔ Lg a t ∨ Lg b t := by rw [Lg_eq]; simp [altC, Co.k, Co.l]; rfl
theorem gc_alt {a b : Co} {d : Int} (h : gcS a (d - 1) = true) (h' : gcS b (d - 1) = true) (hd : 1 ≤ d) : gcS (altC a b) d = true :=
  gcS_iff.2 ⟨by omega, by simp [altC, Co.l, Co.k, kidsS], by simp [altC, Co.s0, Co.s1, Co.s2, Co.s3], by simp [altC, Co.k], by simp [altC, Co.n], by simpa [altC, Co.l] using ⟨h, h'⟩⟩
theorem sz_alt {a b : Co} (h : szS a ≤ 1000) (h' : szS b ≤ 1000) : szS (altC a b) = 1 + szS a + szS b := by
  rw [szS_eq]
  simp only [altC, Co.l, szS.szL]
  rw [if_neg (show ¬ (100000 : Int) ≤ 1 by omega), if_neg (show ¬ (100000 : Int) ≤ 1 + szS a by omega), if_neg (by omega)]
theorem fine_alt {a b : Co} (h : FineC a) (h' : FineC b) : FineC (altC a b) := ⟨by simp, fineCL.2 (by simpa using ⟨h, h'⟩)⟩

theorem say_seq (a b : Co) (s : List Int) : sayS (seqC a b) s = (List.range (s.length + 1)).any fun i => sayS a (s.take i) && sayS b (s.drop i) := by
  rw [Bool.eq_iff_iff, say_iff, lg_seq, List.any_eq_true]
  constructor
  · rintro ⟨u, v, rfl, h1, h2⟩
    refine ⟨u.length, by simp; omega, ?_⟩
    simp [say_iff, h1, h2]
  · rintro ⟨i, _, h⟩
    simp only [Bool.and_eq_true, say_iff] at h
    exact ⟨_, _, (List.take_append_drop i s).symm, h⟩
theorem say_alt (a b : Co) (s : List Int) : sayS (altC a b) s = (sayS a s || sayS b s) := by
  rw [Bool.eq_iff_iff, say_iff, lg_alt, Bool.or_eq_true, say_iff, say_iff]
theorem st_cons {R : List Int → Prop} {t : List Int} (h : St R t) : t = [] ∨ ∃ u v, t = u ++ v ∧ u ≠ [] ∧ R u ∧ St R v := by
  induction h with
  | nil => exact .inl rfl
  | cons h1 h2 ih =>
    rename_i u v
    by_cases hu : u = []
    · subst hu; exact ih
    · exact .inr ⟨u, v, rfl, hu, h1, h2⟩
theorem say_star (a : Co) (s : List Int) : sayS (starC a) s = (decide (s.length = 0) || (List.range s.length).any fun i => sayS a (s.take (i + 1)) && sayS (starC a) (s.drop (i + 1))) := by
  rw [Bool.eq_iff_iff, say_iff, lg_star, Bool.or_eq_true, List.any_eq_true, decide_eq_true_eq]
  constructor
  · intro h
    rcases st_cons h with rfl | ⟨u, v, rfl, hu, h1, h2⟩
    · exact .inl rfl
    · have hl : 0 < u.length := List.length_pos_iff.2 hu
      refine .inr ⟨u.length - 1, by simp; omega, ?_⟩
      have e : u.length - 1 + 1 = u.length := by omega
      rw [e]
      simp [say_iff, h1, lg_star, h2]
  · rintro (h | ⟨i, _, h⟩)
    · rw [List.length_eq_zero_iff.1 h]; exact .nil
    · simp only [Bool.and_eq_true, say_iff, lg_star] at h
      have := St.cons h.1 h.2
      rwa [List.take_append_drop] at this
theorem null_say (c : Co) : nullS c = sayS c [] := by rw [Bool.eq_iff_iff, null_iff, say_iff]
theorem null_seq (a b : Co) : nullS (seqC a b) = (nullS a && nullS b) := by rw [nullS_eq]; simp [seqC, Co.k, Co.l, nullS.nullAt]
end Lng
