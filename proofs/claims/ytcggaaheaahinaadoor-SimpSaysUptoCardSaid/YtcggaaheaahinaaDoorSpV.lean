/- SpV: steps, walks, laws: see the remarks within. -/
import Derived.Test.YtcggaaheaahinaaDoorSpS
import Derived.Test.YtcggaaheaahinaaDoorSpU
set_option linter.unusedSimpArgs false
set_option linter.unusedVariables false
-- Coded cores: plain law of what is told of them.
set_option linter.unusedVariables false
set_option linter.unusedSimpArgs false
namespace Pl
open Go Ab

/-- How many there are, with all their choices. -/
def totL (f : Cd → Nat) : List Cd → Nat
  | [] => 0
  | x :: l => f x + totL f l
mutual
def Cd.tot : Cd → Nat
  | ⟨_, b, _, l⟩ => 1 + b.length + Cd.totS l
def Cd.totS : List Cd → Nat
  | [] => 0
  | x :: l => Cd.tot x + Cd.totS l
end
theorem tot_eq (x : Cd) : x.tot = 1 + x.bits.length + Cd.totS x.l := by cases x; rw [Cd.tot]
theorem tot_mem {x : Cd} : ∀ {l : List Cd}, x ∈ l → x.tot ≤ Cd.totS l
  | y :: l, h => by
    rw [Cd.totS]
    rcases List.mem_cons.1 h with rfl | h
    · omega
    · have := tot_mem h; omega
theorem totS_len : ∀ l : List Cd, l.length ≤ Cd.totS l
  | [] => by simp [Cd.totS]
  | x :: l => by have := totS_len l; have := tot_eq x; simp only [Cd.totS, List.length_cons]; omega
theorem len_tot (x : Cd) : x.l.length < x.tot := by have := totS_len x.l; have := tot_eq x; omega
theorem kid_tot {x y : Cd} (h : y ∈ x.l) : y.tot < x.tot := by have := tot_mem h; have := tot_eq x; omega
theorem bits_tot (x : Cd) : x.bits.length < x.tot := by have := tot_eq x; omega

def fuseC (b : List UInt8) (x : Cd) : Cd := if x.kind = 0 then x else ⟨x.kind, b ++ x.bits, x.set, x.l⟩
theorem fuse_ok {b : List UInt8} {x : Cd} (h : b.length + x.bits.length ≤ 4611686018427387904) : B31 b x = some (fuseC b x) := by
  unfold B31 fuseC
  by_cases h0 : x.kind = 0
  · simp [h0]
  · rw [cT (by simpa using h0), joinS_ok h, if_neg h0]; rfl

def flat1 (x : Cd) : List Cd := if x.kind = 0 then [] else if x.kind = 4 then x.l.map (fuseC x.bits) else [x]
def flatC (l : List Cd) : List Cd := l.flatMap flat1
theorem flat1_len (x : Cd) : (flat1 x).length ≤ x.tot := by
  unfold flat1
  have := len_tot x
  split
  · simp
  · split
    · simp; omega
    · simp; omega
theorem flat_len : ∀ l : List Cd, (flatC l).length ≤ Cd.totS l
  | [] => by simp [flatC]
  | x :: l => by
    have h1 := flat1_len x
    have h2 := flat_len l
    simp only [flatC, List.flatMap_cons, List.length_append, Cd.totS] at *
    omega
theorem totS_app : ∀ a b : List Cd, Cd.totS (a ++ b) = Cd.totS a + Cd.totS b
  | [], b => by simp [Cd.totS]
  | x :: a, b => by simp only [List.cons_append, Cd.totS, totS_app a b]; omega

theorem flat_split (pre : List Cd) (a : Cd) (post : List Cd) : (flatC (pre ++ a :: post)).length = (flatC pre).length + (flat1 a).length + (flatC post).length := by simp [flatC]; omega
theorem flat_ok {F31 : List UInt8 → Cd → Option Cd} (l : List Cd) (hF : ∀ x ∈ l, x.kind = 4 → ∀ y ∈ x.l, F31 x.bits y = some (fuseC x.bits y)) (hlen : l.length < 9223372036854775807) (hk : ∀ x ∈ l, x.kind = 4 → x.l.length < 9223372036854775807) (hl : (flatC l).length ≤ 100000000000) : B9 F31 l = some (flatC l) := by
  unfold B9
  refine forL l (fun out i => (out, i)) (fun pre out => out = flatC pre) [] rfl (by omega) ?_ ?_
  · rintro pre a post out rfl rfl hx hd hw
    have ha : a ∈ pre ++ a :: post := by simp
    have ht := flat_split pre a post
    left
    refine ⟨flatC (pre ++ [a]), ?_, rfl⟩
    have hsnoc : flatC (pre ++ [a]) = flatC pre ++ flat1 a := by simp [flatC]
    rw [hsnoc]
    simp only [B9_L0, hd, hx, cond_true, Option.bind_some, hw]
    unfold flat1
    by_cases h0 : a.kind = 0
    · simp [h0]
    by_cases h4 : a.kind = 4
    · have hal := hk a ha h4
      have hFa := hF a ha h4
      simp only [h4]
      rw [cF (by decide), cT (by decide), if_neg (by decide), if_pos trivial]
      refine forL a.l (fun out i => (out, i)) (fun p out => out = flatC pre ++ p.map (fuseC a.bits)) (flatC pre) (by simp) (by omega) ?_ ?_
      · rintro p y q out hal2 rfl hy hd2 hw2
        have hq : p.length + q.length + 1 = a.l.length := by rw [hal2]; simp; omega
        left
        refine ⟨_, ?_, rfl⟩
        have hf1 : (flat1 a).length = a.l.length := by unfold flat1; rw [h4, if_neg (by decide), if_pos rfl, List.length_map]
        have hj : join 80 (flatC pre ++ p.map (fuseC a.bits)) [fuseC a.bits y] = some _ := join_ok (by simp; omega)
        simp only [B9_L1, hd2, hy, hw2, cond_true, Option.bind_some, hFa y (by rw [hal2]; simp), hj]
        simp
      · rintro out rfl hd2
        left
        exact ⟨flatC pre ++ a.l.map (fuseC a.bits), by simp only [B9_L1, hd2, cond_false], by simp only [B9_K1, hw]⟩
    · have hf1 : (flat1 a).length = 1 := by unfold flat1; rw [if_neg h0, if_neg h4]; rfl
      rw [cF (by simpa using h0), cF (by simpa using h4), if_neg h0, if_neg h4, join_ok (by simp; omega)]
      rfl
  · rintro out rfl hd
    left
    exact ⟨flatC l, by simp only [B9_L0, hd, cond_false], rfl⟩

/-- The first of some; whether there is one. -/
theorem index_ok {φ : Cd → Option Bool} {p : Cd → Bool} (l : List Cd) (hp : ∀ x ∈ l, φ x = some (p x)) (hl : l.length < 9223372036854775807) : B56 l φ = some (if l.any p then ((l.findIdx p : Nat) : Int) else -1) := by
  unfold B56
  refine forL l (fun (_ : Unit) i => i) (fun pre _ => pre.any p = false) () rfl hl ?_ ?_
  · rintro pre a post _ rfl hJ hx hd hw
    have ha := hp a (by simp)
    by_cases h : p a = true
    · right; right
      refine ⟨(pre.length : Int), by simp only [B56_L0, hd, hx, ha, h, cond_true, Option.bind_some], ?_⟩
      have h1 : (pre ++ a :: post).any p = true := by simp [h]
      have h2 : (pre ++ a :: post).findIdx p = pre.length := by
        rw [List.findIdx_append]
        have : pre.findIdx p = pre.length := List.findIdx_eq_length.2 (by simpa using hJ)
        simp [this, List.findIdx_cons, h]
      rw [h1, if_pos rfl, h2]
    · left
      refine ⟨(), by simp only [B56_L0, hd, hx, ha, h, hw, cond_true, Option.bind_some]; simp, by simp [hJ, h]⟩
  · rintro _ hJ hd
    left
    exact ⟨(), by simp only [B56_L0, hd, cond_false], by simp [B56_K0, hJ]⟩
theorem contains_ok {F56 : List Cd → (Cd → Option Bool) → Option Int} {φ : Cd → Option Bool} {p : Cd → Bool} (l : List Cd) (hF : F56 l φ = some (if l.any p then ((l.findIdx p : Nat) : Int) else -1)) : B33 F56 l φ = some (l.any p) := by
  unfold B33
  rw [hF]
  cases h : l.any p <;> simp

mutual
def strip : Cd → Cd
  | ⟨k, _, s, l⟩ => ⟨k, [], s, stripL l⟩
def stripL : List Cd → List Cd
  | [] => []
  | x :: l => strip x :: stripL l
end
theorem stripL_map : ∀ l, stripL l = l.map strip
  | [] => rfl
  | x :: l => by simp [stripL, stripL_map l]
theorem strip_eq (x : Cd) : strip x = ⟨x.kind, [], x.set, x.l.map strip⟩ := by cases x; rw [strip, stripL_map]
open Classical in
noncomputable def same (a b : Cd) : Bool := decide (strip a = strip b)
theorem same_iff {a b : Cd} : same a b = true ↔ strip a = strip b := by simp [same]
theorem same_comm (a b : Cd) : same a b = same b a := by rw [Bool.eq_iff_iff, same_iff, same_iff]; exact eq_comm
theorem W4.ext' {a b : W4} (h : ((a.a == b.a) && ((a.b == b.b) && ((a.c == b.c) && ((a.d == b.d) && true)))) = true) : a = b := by
  cases a; cases b; simp at h; simp [h]
theorem eqf_ok {φ : Cd → Cd → Option Bool} (l m : List Cd) (hp : ∀ x ∈ l, ∀ y ∈ m, φ x y = some (same x y)) (hl : l.length < 9223372036854775807) : ∃ r, B57 l m φ = some r ∧ (r = true ↔ l.map strip = m.map strip) := by
  unfold B57
  by_cases hlen : l.length = m.length
  · rw [cF (neF hlen)]
    by_cases heq : l.map strip = m.map strip
    · refine ⟨true, ?_, by simp [heq]⟩
      refine forL l (fun (_ : Unit) i => i) (fun pre _ => True) () trivial hl ?_ ?_
      · rintro pre a post _ rfl hJ hx hd hw
        left
        obtain ⟨b, hb⟩ : ∃ b, m[pre.length]? = some b := ⟨_, List.getElem?_eq_getElem (by rw [← hlen]; simp)⟩
        have hab : strip a = strip b := by
          have h1 := congrArg (fun l => l[pre.length]?) heq
          simp only [List.getElem?_map, hb] at h1
          simpa using h1
        have hs : φ a b = some true := by rw [hp a (by simp) b (List.mem_of_getElem? hb), same_iff.2 hab]
        exact ⟨(), by simp only [B57_L0, hd, hx, idx_nat, hb, hs, hw, cond_true, Option.bind_some], trivial⟩
      · rintro _ _ hd
        left
        exact ⟨(), by simp only [B57_L0, hd, cond_false], rfl⟩
    · refine ⟨false, ?_, by simp [heq]⟩
      refine forL l (fun (_ : Unit) i => i) (fun pre _ => pre.map strip = (m.take pre.length).map strip) () rfl hl ?_ ?_
      · rintro pre a post _ rfl hJ hx hd hw
        obtain ⟨b, hb⟩ : ∃ b, m[pre.length]? = some b := ⟨_, List.getElem?_eq_getElem (by rw [← hlen]; simp)⟩
        have hs := hp a (by simp) b (List.mem_of_getElem? hb)
        cases h : same a b with
        | true =>
          left
          rw [h] at hs
          refine ⟨(), by simp only [B57_L0, hd, hx, idx_nat, hb, hs, hw, cond_true, Option.bind_some], ?_⟩
          rw [List.length_append, List.length_singleton, List.take_add_one, hb, List.map_append, List.map_append, hJ]
          simp [same_iff.1 h]
        | false =>
          right; right
          rw [h] at hs
          exact ⟨false, by simp only [B57_L0, hd, hx, idx_nat, hb, hs, cond_true, cond_false, Option.bind_some], rfl⟩
      · rintro _ hJ hd
        exact absurd (by rw [hJ, hlen, List.take_length]) heq
  · rw [cT (neT hlen)]
    refine ⟨false, rfl, ?_⟩
    simp only [Bool.false_eq_true, false_iff]
    intro h
    exact hlen (by simpa using congrArg List.length h)
theorem same_ok {F57 : List Cd → List Cd → (Cd → Cd → Option Bool) → Option Bool} {F35 : Cd → Cd → Option Bool} (a b : Cd) (h : ∃ r, F57 a.l b.l (fun x y => F35 x y) = some r ∧ (r = true ↔ a.l.map strip = b.l.map strip)) : B35 F35 F57 a b = some (same a b) := by
  obtain ⟨r, h1, h2⟩ := h
  unfold B35
  have hs : same a b = (a.kind == b.kind && (((a.set.a == b.set.a) && ((a.set.b == b.set.b) && ((a.set.c == b.set.c) && ((a.set.d == b.set.d) && true)))) && r)) := by
    rw [Bool.eq_iff_iff, same_iff, strip_eq a, strip_eq b]
    simp only [Cd.mk.injEq, Bool.and_eq_true, beq_iff_eq, and_true, true_and]
    constructor
    · rintro ⟨e1, e2, e3⟩; rw [e2]; exact ⟨e1, ⟨rfl, rfl, rfl, rfl⟩, h2.2 e3⟩
    · rintro ⟨e1, e2, e3⟩
      refine ⟨e1, ?_, h2.1 e3⟩
      generalize a.set = p at e2 ⊢
      generalize b.set = q at e2 ⊢
      cases p; cases q; simpa using e2
  rw [hs]
  cases a.kind == b.kind with
  | false => simp
  | true =>
    simp only [cond_true, Bool.true_and]
    generalize ((a.set.a == b.set.a) && ((a.set.b == b.set.b) && ((a.set.c == b.set.c) && ((a.set.d == b.set.d) && true)))) = c
    cases c with
    | false => simp
    | true => simp [h1]

/-- Whether one like it is among some; each once. -/
noncomputable def among (x : Cd) (l : List Cd) : Bool := l.any fun y => same x y
noncomputable def once1 (out : List Cd) (x : Cd) : List Cd := if among x out = true then out else out ++ [x]
noncomputable def onceC (l : List Cd) : List Cd := l.foldl once1 []
theorem once_snoc (l : List Cd) (x : Cd) : onceC (l ++ [x]) = once1 (onceC l) x := by simp [onceC]
theorem once_ok {F33 : List Cd → (Cd → Option Bool) → Option Bool} {F34 : Cd → Cd → Option Bool} (l : List Cd) (hF : ∀ x ∈ l, ∀ m : List Cd, (∀ y ∈ m, y ∈ l) → m.length ≤ l.length → F33 m (fun y => F34 y x) = some (among x m)) (hl : l.length ≤ 100000000000) :
    B11 F33 F34 l = some (onceC l) ∧ (onceC l).length ≤ l.length ∧ ∀ y ∈ onceC l, y ∈ l := by
  have key : ∀ pre : List Cd, (onceC pre).length ≤ pre.length ∧ ∀ y ∈ onceC pre, y ∈ pre := by
    intro pre
    have : ∀ (r : List Cd), (onceC r.reverse).length ≤ r.reverse.length ∧ ∀ y ∈ onceC r.reverse, y ∈ r.reverse := by
      intro r
      induction r with
      | nil => exact ⟨Nat.le_refl _, fun y hy => by cases hy⟩
      | cons x r ih =>
        rw [List.reverse_cons, once_snoc]
        unfold once1
        split
        · exact ⟨by have := ih.1; simp at this ⊢; omega, fun y hy => by have := ih.2 y hy; simp at this ⊢; exact .inl this⟩
        · refine ⟨by have := ih.1; simp at this ⊢; omega, fun y hy => ?_⟩
          rcases List.mem_append.1 hy with h | h
          · have := ih.2 y h; simp at this ⊢; exact .inl this
          · simp at h ⊢; exact .inr h
    have h := this pre.reverse
    rwa [List.reverse_reverse] at h
  refine ⟨?_, key l⟩
  unfold B11
  refine forL l (fun out i => (out, i)) (fun pre out => out = onceC pre) [] rfl (by omega) ?_ ?_
  · rintro pre a post out rfl rfl hx hd hw
    obtain ⟨k1, k2⟩ := key pre
    have h3 := hF a (by simp) (onceC pre) (fun y hy => by have := k2 y hy; simp [this]) (by simp; omega)
    left
    refine ⟨_, ?_, rfl⟩
    rw [once_snoc]
    unfold once1
    simp only [B11_L0, hd, hx, h3, hw, cond_true, Option.bind_some]
    cases hc : among a (onceC pre) with
    | true => simp
    | false => simp only [cond_false]; rw [join_ok (by simp at hl ⊢; omega)]; simp
  · rintro out rfl hd
    left
    exact ⟨onceC l, by simp only [B11_L0, hd, cond_false], rfl⟩
end Pl

-- Coded cores as the document has them; what may be: plain law.
set_option linter.unusedVariables false
set_option linter.unusedSimpArgs false
namespace Pl
open Go Ab

/-- A set of words, byte by byte. -/
def wordOf (w : W4) (i : Nat) : Int := if i / 64 = 0 then w.a else if i / 64 = 1 then w.b else if i / 64 = 2 then w.c else w.d
def bitOf (w : Int) (k : Nat) : Bool := (IntKind.u64.wrap (BitVec.ofInt 64 (w.fdiv (2 ^ k)) &&& BitVec.ofInt 64 (1 : Int)).toNat) == (1 : Int)
def fillS (w : W4) : Nat → BitVec 256
  | 0 => 0#256
  | n + 1 => setBit (fillS w n) n (bitOf (wordOf w n) (n % 64))
def setOf (w : W4) : BitVec 256 := fillS w 256
theorem fillS_get (w : W4) : ∀ n j, n ≤ 256 → (fillS w n).getLsbD j = (decide (j < n) && bitOf (wordOf w j) (j % 64))
  | 0, j, _ => by simp [fillS]
  | n + 1, j, hn => by
    rcases Nat.lt_or_ge j 256 with hj | hj
    · rw [fillS, setBit_get _ _ _ _ hj, fillS_get w n j (by omega)]
      by_cases h : n = j
      · subst h; simp
      · rw [if_neg h]
        congr 1
        rw [Bool.eq_iff_iff, decide_eq_true_eq, decide_eq_true_eq]; omega
    · rw [BitVec.getLsbD_of_ge _ _ hj, decide_eq_false (by omega)]; rfl
theorem setOf_get (w : W4) (j : Nat) (hj : j < 256) : (setOf w).getLsbD j = bitOf (wordOf w j) (j % 64) := by
  rw [setOf, fillS_get w 256 j (Nat.le_refl _), decide_eq_true hj]; rfl
theorem shr_ok {a : Int} {k : Nat} (hk : k < 64) : shrI .u64 a (k : Int) = some (a.fdiv (2 ^ k)) := by
  unfold shrI
  rw [if_neg (by omega), Int.toNat_natCast]
  have : min k IntKind.u64.bits = k := by simp [IntKind.bits]; omega
  rw [this]
theorem from_ok (w : W4) : B55 w = some (setOf w) := by
  unfold B55
  refine loopK_ind (fun m s => ∃ n : Nat, n ≤ 256 ∧ m = 256 - n ∧ s = ((n : Int), fillS w n)) ?_ 256 _ ⟨0, by omega, rfl, rfl⟩
  rintro m s ⟨n, hn, rfl, rfl⟩
  rcases Nat.lt_or_ge n 256 with hlt | hge
  · left
    refine ⟨(((n + 1 : Nat) : Int), fillS w (n + 1)), 256 - (n + 1), ?_, by omega, n + 1, by omega, rfl, rfl⟩
    have hd : decide ((n : Int) < 256) = true := by simpa using (by omega : (n : Int) < 256)
    have hdiv : IntKind.i64.wrap (Int.tdiv (n : Int) 64) = ((n / 64 : Nat) : Int) := by
      have : Int.tdiv (n : Int) 64 = ((n / 64 : Nat) : Int) := rfl
      rw [this, w64 (by omega)]
    have hmod : IntKind.u64.wrap (Int.tmod (n : Int) 64) = ((n % 64 : Nat) : Int) := by
      have : Int.tmod (n : Int) 64 = ((n % 64 : Nat) : Int) := rfl
      rw [this]
      have : n % 64 < 64 := Nat.mod_lt _ (by omega)
      simp [IntKind.wrap, IntKind.bits, IntKind.signed]
      try omega
    have hat : at256 (n : Int) = some n := by unfold at256; rw [if_pos (by omega)]; rfl
    have hk : n % 64 < 64 := Nat.mod_lt _ (by omega)
    simp only [B55_L0, hd, cond_true, hdiv, hmod, hat, shr_ok hk, w1 (show n < 9223372036854775807 by omega), Option.bind_some]
    show _ = some (Lp.next (((n + 1 : Nat) : Int), setBit (fillS w n) n (bitOf (wordOf w n) (n % 64))))
    unfold wordOf bitOf
    have h4 : n / 64 = 0 ∨ n / 64 = 1 ∨ n / 64 = 2 ∨ n / 64 = 3 := by omega
    rcases h4 with h | h | h | h <;> rw [h] <;> rfl
  · have : n = 256 := by omega
    subst this
    right; left
    exact ⟨fillS w 256, rfl, rfl⟩
/-- Words of 64 bits. -/
def W64 (w : Int) : Prop := 0 ≤ w ∧ w < 18446744073709551616
theorem bitOf_eq {w : Int} (hw : W64 w) {k : Nat} : bitOf w k = w.toNat.testBit k := by
  obtain ⟨h0, h1⟩ := hw
  obtain ⟨n, rfl⟩ : ∃ n : Nat, w = n := ⟨w.toNat, by omega⟩
  unfold bitOf
  rw [Int.toNat_natCast]
  have e : ((n : Int).fdiv (2 ^ k)) = ((n / 2 ^ k : Nat) : Int) := by
    rw [Int.fdiv_eq_ediv_of_nonneg _ (by exact Int.le_of_lt (Int.pow_pos (by omega)))]
    simp
  rw [e]
  have e2 : (BitVec.ofInt 64 ((n / 2 ^ k : Nat) : Int) &&& BitVec.ofInt 64 1).toNat = (n / 2 ^ k) % 2 := by
    rw [BitVec.toNat_and]
    have : (BitVec.ofInt 64 (1 : Int)).toNat = 1 := rfl
    rw [this, BitVec.toNat_ofInt, Nat.and_one_is_mod]
    omega
  rw [e2, Nat.testBit_eq_decide_div_mod_eq]
  have hb : n / 2 ^ k % 2 < 2 := Nat.mod_lt _ (by omega)
  generalize n / 2 ^ k % 2 = q at hb
  have hq : q = 0 ∨ q = 1 := by omega
  rcases hq with rfl | rfl <;> rfl
theorem word_inj {a b : Int} (ha : W64 a) (hb : W64 b) (h : ∀ k, k < 64 → bitOf a k = bitOf b k) : a = b := by
  have : a.toNat = b.toNat := Nat.eq_of_testBit_eq fun i => by
    by_cases hi : i < 64
    · have := h i hi
      rwa [bitOf_eq ha, bitOf_eq hb] at this
    · have hp : (2 : Nat) ^ 64 ≤ 2 ^ i := Nat.pow_le_pow_right (by omega) (by omega)
      obtain ⟨a0, a1⟩ := ha
      obtain ⟨b0, b1⟩ := hb
      rw [Nat.testBit_lt_two_pow (by omega), Nat.testBit_lt_two_pow (by omega)]
  obtain ⟨a0, a1⟩ := ha
  obtain ⟨b0, b1⟩ := hb
  omega
def WfS (s : W4) : Prop := W64 s.a ∧ W64 s.b ∧ W64 s.c ∧ W64 s.d
theorem setOf_inj {s t : W4} (hs : WfS s) (ht : WfS t) (h : setOf s = setOf t) : s = t := by
  have key : ∀ j, j < 256 → bitOf (wordOf s j) (j % 64) = bitOf (wordOf t j) (j % 64) := fun j hj => by rw [← setOf_get s j hj, ← setOf_get t j hj, h]
  obtain ⟨a, b, c, d⟩ := s
  obtain ⟨a', b', c', d'⟩ := t
  obtain ⟨h1, h2, h3, h4⟩ := hs
  obtain ⟨g1, g2, g3, g4⟩ := ht
  have e1 : a = a' := word_inj h1 g1 fun k hk => by
    have := key k (by omega); simp only [wordOf, show k / 64 = 0 by omega, show k % 64 = k by omega, if_true] at this; exact this
  have e2 : b = b' := word_inj h2 g2 fun k hk => by
    have := key (64 + k) (by omega); simp only [wordOf, show (64 + k) / 64 = 1 by omega, show (64 + k) % 64 = k by omega] at this; exact this
  have e3 : c = c' := word_inj h3 g3 fun k hk => by
    have := key (128 + k) (by omega); simp only [wordOf, show (128 + k) / 64 = 2 by omega, show (128 + k) % 64 = k by omega] at this; exact this
  have e4 : d = d' := word_inj h4 g4 fun k hk => by
    have := key (192 + k) (by omega); simp only [wordOf, show (192 + k) / 64 = 3 by omega, show (192 + k) % 64 = k by omega] at this; exact this
  rw [e1, e2, e3, e4]
theorem wf0 : WfS ⟨0, 0, 0, 0⟩ := by refine ⟨?_, ?_, ?_, ?_⟩ <;> exact ⟨by decide, by decide⟩
theorem setOf_zero : setOf ⟨0, 0, 0, 0⟩ = 0#256 := by
  refine BitVec.eq_of_getLsbD_eq fun j hj => ?_
  rw [setOf_get _ j hj]
  have : wordOf ⟨0, 0, 0, 0⟩ j = 0 := by unfold wordOf; simp
  rw [this, bitOf_eq ⟨by decide, by decide⟩]
  simp

mutual
def conv : Cd → Rc
  | ⟨k, b, s, l⟩ => ⟨k, b, setOf s, convL l⟩
def convL : List Cd → List Rc
  | [] => []
  | x :: l => conv x :: convL l
end
theorem convL_map : ∀ l, convL l = l.map conv
  | [] => rfl
  | x :: l => by simp [convL, convL_map l]
theorem conv_eq (x : Cd) : conv x = ⟨x.kind, x.bits, setOf x.set, x.l.map conv⟩ := by cases x; rw [conv, convL_map]
@[simp] theorem conv_kind (x : Cd) : (conv x).kind = x.kind := by rw [conv_eq]
@[simp] theorem conv_bits (x : Cd) : (conv x).bits = x.bits := by rw [conv_eq]
@[simp] theorem conv_set (x : Cd) : (conv x).set = setOf x.set := by rw [conv_eq]
@[simp] theorem conv_l (x : Cd) : (conv x).l = x.l.map conv := by rw [conv_eq]

theorem codedOf_ok {F8 : Cd → Option Rc} {F30 : W4 → Option (BitVec 256)} (x : Cd) (h30 : F30 x.set = some (setOf x.set)) (h8 : ∀ y ∈ x.l, F8 y = some (conv y)) (hl : x.l.length ≤ 100000000000) : B8 F8 F30 x = some (conv x) := by
  unfold B8
  rw [h30, Option.bind_some]
  refine forL x.l (fun w i => (i, w)) (fun pre w => w = pre.map conv) [] rfl (by omega) ?_ ?_
  · rintro pre a post w hp rfl hx hd hw
    left
    refine ⟨_, ?_, rfl⟩
    have hlen : pre.length + post.length + 1 = x.l.length := by rw [hp]; simp; omega
    simp only [B8_L0, hd, hx, hw, h8 a (by rw [hp]; simp), cond_true, Option.bind_some]
    rw [join_ok (by simp; omega)]
    simp
  · rintro w rfl hd
    left
    exact ⟨x.l.map conv, by simp only [B8_L0, hd, cond_false], by rw [B8_K0, conv_eq]⟩

mutual
def vastC : Cd → Int → Bool
  | ⟨_, b, _, l⟩, d => (decide (d < 1) || (decide ((l.length : Int) > 20) || decide ((b.length : Int) > 60))) || vastL l (d - 1)
def vastL : List Cd → Int → Bool
  | [], _ => false
  | x :: l, d => vastC x d || vastL l d
end
theorem vastL_any : ∀ (l : List Cd) (d : Int), vastL l d = l.any fun y => vastC y d
  | [], _ => rfl
  | x :: l, d => by simp [vastL, vastL_any l d]
theorem vastC_eq (x : Cd) (d : Int) : vastC x d = ((decide (d < 1) || (decide ((x.l.length : Int) > 20) || decide ((x.bits.length : Int) > 60))) || x.l.any fun y => vastC y (d - 1)) := by cases x; rw [vastC, vastL_any]
theorem vast_ok {F6 : Cd → Int → Option Bool} (x : Cd) (d : Int) (hd0 : d < 1000) (h6 : 1 ≤ d → ∀ y ∈ x.l, F6 y (d - 1) = some (vastC y (d - 1))) : B6 F6 x d = some (vastC x d) := by
  unfold B6
  rw [vastC_eq]
  cases hc : (decide (d < 1) || (decide ((x.l.length : Int) > 20) || decide ((x.bits.length : Int) > 60))) with
  | true => simp
  | false =>
    simp only [Bool.or_eq_false_iff, decide_eq_false_iff_not] at hc
    obtain ⟨c1, c2, c3⟩ := hc
    simp only [cond_false, Bool.false_or]
    have hw0 : IntKind.i64.wrap (d - 1) = d - 1 := w64 (by omega)
    refine forL x.l (fun (_ : Unit) i => i) (fun pre _ => (pre.any fun y => vastC y (d - 1)) = false) () rfl (by omega) ?_ ?_
    · rintro pre a post _ hp hJ hx hd hw
      have ha := h6 (by omega) a (by rw [hp]; simp)
      cases hv : vastC a (d - 1) with
      | true =>
        right; right
        rw [hv] at ha
        refine ⟨true, by simp only [B6_L0, hd, hx, hw0, ha, cond_true, Option.bind_some], ?_⟩
        rw [hp]; simp [hv]
      | false =>
        left
        rw [hv] at ha
        exact ⟨(), by simp only [B6_L0, hd, hx, hw0, hw, ha, cond_true, cond_false, Option.bind_some], by simp [hJ, hv]⟩
    · rintro _ hJ hd
      left
      exact ⟨(), by simp only [B6_L0, hd, cond_false], by rw [B6_K0, hJ]⟩

mutual
def szN : Cd → Nat
  | ⟨_, _, _, l⟩ => 1 + szL l
def szL : List Cd → Nat
  | [] => 0
  | x :: l => szN x + szL l
end
theorem szN_eq (x : Cd) : szN x = 1 + szL x.l := by cases x; rw [szN]
theorem szL_app : ∀ a b : List Cd, szL (a ++ b) = szL a + szL b
  | [], b => by simp [szL]
  | x :: a, b => by simp only [List.cons_append, szL, szL_app a b]; omega
theorem szL_tot {l : List Cd} (h : ∀ x ∈ l, szN x ≤ x.tot) : szL l ≤ Cd.totS l := by
  induction l with
  | nil => exact Nat.le_refl _
  | cons x l ih => have h1 := h x (by simp); have h2 := ih fun y hy => h y (by simp [hy]); simp only [szL, Cd.totS]; omega
theorem szN_tot : ∀ x : Cd, szN x ≤ x.tot := by
  refine Cd.ind fun x ih => ?_
  have := szL_tot ih
  have := tot_eq x
  have := szN_eq x
  omega
theorem size_ok {F28 : Cd → Option Int} (x : Cd) (h : ∀ y ∈ x.l, F28 y = some (szN y : Int)) (ht : x.tot ≤ 100000000000) : B28 F28 x = some (szN x : Int) := by
  have hl := len_tot x
  have hs := szN_tot x
  have he := szN_eq x
  unfold B28
  refine forL x.l (fun n i => (n, i)) (fun pre n => n = ((1 + szL pre : Nat) : Int)) 1 rfl (by omega) ?_ ?_
  · rintro pre a post n hp rfl hx hd hw
    left
    refine ⟨_, ?_, rfl⟩
    have h1 : szL x.l = szL pre + (szN a + szL post) := by rw [hp, szL_app]; rfl
    have h2 : szL (pre ++ [a]) = szL pre + szN a := by rw [szL_app]; simp [szL]
    simp only [B28_L0, hd, hx, hw, h a (by rw [hp]; simp), cond_true, Option.bind_some]
    rw [w64 (by omega), h2]
    simp only [Option.some.injEq, Lp.next.injEq, Prod.mk.injEq, and_true]
    omega
  · rintro n rfl hd
    left
    exact ⟨((1 + szL x.l : Nat) : Int), by simp only [B28_L0, hd, cond_false], by rw [B28_K0, he]⟩
end Pl

-- What may be, as the program and as the document tell it: plain law.
set_option linter.unusedVariables false
set_option linter.unusedSimpArgs false
namespace Pl
open Go Ab

def is01 (c : UInt8) : Bool := c == 48 || c == 49
/-- How many kids one of a kind has, if it may be. -/
def manyC (k : Int) (b : List UInt8) (n : Nat) : Option Nat :=
  if k = 0 then (if b = [] then some 0 else none) else if k = 1 then some 0 else if k = 2 then some 0 else if k = 3 then some 2 else if k = 4 then some n else if k = 5 then some 1 else none
def zeroS (s : W4) : Bool := (s.a == (0 : Int)) && ((s.b == (0 : Int)) && ((s.c == (0 : Int)) && ((s.d == (0 : Int)) && true)))
/-- One alone. -/
def form1 (x : Cd) : Bool := (x.bits.all is01 && ((x.kind == 2 || zeroS x.set) && decide (manyC x.kind x.bits x.l.length = some x.l.length)))
mutual
def goodC : Cd → Int → Bool
  | ⟨k, b, s, l⟩, d => (!decide (d < 1) && form1 ⟨k, b, s, l⟩) && goodL l (d - 1)
def goodL : List Cd → Int → Bool
  | [], _ => true
  | x :: l, d => goodC x d && goodL l d
end
theorem goodL_all : ∀ (l : List Cd) (d : Int), goodL l d = l.all fun y => goodC y d
  | [], _ => rfl
  | x :: l, d => by simp [goodL, goodL_all l]
theorem goodC_eq (x : Cd) (d : Int) : goodC x d = ((!decide (d < 1) && form1 x) && x.l.all fun y => goodC y (d - 1)) := by cases x; rw [goodC, goodL_all]
theorem good_ok {F33 : List Cd → (Cd → Option Bool) → Option Bool} {F53 : List UInt8 → List UInt8 → Option (List UInt8)} {F54 : Cd → Int → Option Bool} (x : Cd) (d : Int)
    (h53 : ∃ t, F53 x.bits [48, 49] = some t ∧ (t = [] ↔ x.bits.all is01 = true)) (h33 : 1 ≤ d → F33 x.l (fun y => F54 y d) = some (x.l.any fun y => !goodC y (d - 1))) : B29 F33 F53 F54 x d = some (goodC x d) := by
  obtain ⟨t, h1, h2⟩ := h53
  have hany : (!(x.l.any fun y => !goodC y (d - 1))) = x.l.all fun y => goodC y (d - 1) := by simp [List.all_eq_not_any_not]
  rw [goodC_eq]
  unfold B29
  by_cases hd : d < 1
  · simp [hd]
  have h3 := h33 (by omega)
  rw [h1, h3]
  simp only [Option.bind_some, hany]
  generalize (x.l.all fun y => goodC y (d - 1)) = A
  have h2' : (t == []) = x.bits.all is01 := by
    rw [Bool.eq_iff_iff, beq_iff_eq]; exact h2
  rw [h2']
  unfold form1 zeroS manyC
  generalize x.bits.all is01 = B
  generalize x.l.length = n
  generalize x.kind = k
  generalize ((x.set.a == (0 : Int)) && ((x.set.b == (0 : Int)) && ((x.set.c == (0 : Int)) && ((x.set.d == (0 : Int)) && true)))) = Z
  have hbe : (x.bits == []) = decide (x.bits = []) := by cases x.bits <;> rfl
  have b0 : ((n : Int) == 0) = decide (n = 0) := by rw [Bool.eq_iff_iff, beq_iff_eq, decide_eq_true_eq]; omega
  have b1 : ((n : Int) == 1) = decide (n = 1) := by rw [Bool.eq_iff_iff, beq_iff_eq, decide_eq_true_eq]; omega
  have b2 : ((n : Int) == 2) = decide (n = 2) := by rw [Bool.eq_iff_iff, beq_iff_eq, decide_eq_true_eq]; omega
  have b4 : ((n : Int) == (n : Int)) = true := by simp
  have s0 : decide (some 0 = some n) = decide (n = 0) := by rw [Bool.eq_iff_iff, decide_eq_true_eq, decide_eq_true_eq, Option.some.injEq]; exact eq_comm
  have s1 : decide (some 1 = some n) = decide (n = 1) := by rw [Bool.eq_iff_iff, decide_eq_true_eq, decide_eq_true_eq, Option.some.injEq]; exact eq_comm
  have s2 : decide (some 2 = some n) = decide (n = 2) := by rw [Bool.eq_iff_iff, decide_eq_true_eq, decide_eq_true_eq, Option.some.injEq]; exact eq_comm
  have hd' : decide (d < 1) = false := by simpa using hd
  rw [hbe, b0, b1, b2, b4, hd']
  by_cases k2 : k = 2
  · subst k2
    have q0 : ((2 : Int) == 0) = false := rfl
    have q1 : ((2 : Int) == 1) = false := rfl
    have q2 : ((2 : Int) == 2) = true := rfl
    have q3 : ((2 : Int) != 2) = false := rfl
    rw [q0, q1, q2, q3, if_neg (by decide), if_neg (by decide), if_pos rfl, s0]
    cases B <;> cases decide (n = 0) <;> cases A <;> rfl
  have q2 : (k == 2) = false := by simpa using k2
  have q3 : (k != 2) = true := by simpa using k2
  rw [q2, q3]
  by_cases k0 : k = 0
  · subst k0
    have q0 : ((0 : Int) == 0) = true := rfl
    rw [q0, if_pos rfl]
    by_cases hb : x.bits = []
    · rw [if_pos hb, s0, hb]; cases B <;> cases Z <;> cases decide (n = 0) <;> cases A <;> rfl
    · rw [if_neg hb, decide_eq_false hb]; cases B <;> cases Z <;> cases A <;> rfl
  by_cases k1 : k = 1
  · subst k1
    have q0 : ((1 : Int) == 0) = false := rfl
    have q1 : ((1 : Int) == 1) = true := rfl
    rw [q0, q1, if_neg (by decide), if_pos rfl, s0]
    cases B <;> cases Z <;> cases decide (n = 0) <;> cases A <;> rfl
  have q0 : (k == 0) = false := by simpa using k0
  have q1 : (k == 1) = false := by simpa using k1
  rw [q0, q1, if_neg k0, if_neg k1, if_neg k2]
  by_cases k3 : k = 3
  · subst k3
    have q4 : ((3 : Int) == 3) = true := rfl
    rw [q4, if_pos rfl, s2]
    cases B <;> cases Z <;> cases decide (n = 2) <;> cases A <;> rfl
  have q4 : (k == 3) = false := by simpa using k3
  rw [q4, if_neg k3]
  by_cases k4 : k = 4
  · subst k4
    have q5 : ((4 : Int) == 4) = true := rfl
    rw [q5, if_pos rfl, decide_eq_true rfl]
    cases B <;> cases Z <;> cases A <;> rfl
  have q5 : (k == 4) = false := by simpa using k4
  rw [q5, if_neg k4]
  by_cases k5 : k = 5
  · subst k5
    have q6 : ((5 : Int) == 5) = true := rfl
    rw [q6, if_pos rfl, s1]
    cases B <;> cases Z <;> cases decide (n = 1) <;> cases A <;> rfl
  · have q6 : (k == 5) = false := by simpa using k5
    rw [q6, if_neg k5]
    cases B <;> cases Z <;> cases A <;> rfl
/-- Good: not too many, and good to a depth. -/
def GoodC (x : Cd) : Bool := decide ((szN x : Int) ≤ 20000) && goodC x 8000
theorem Good_ok {F28 : Cd → Option Int} {F29 : Cd → Int → Option Bool} (x : Cd) (h1 : F28 x = some (szN x : Int)) (h2 : F29 x 8000 = some (goodC x 8000)) : B7 F28 F29 x = some (GoodC x) := by
  unfold B7 GoodC
  rw [h1]
  by_cases h : (szN x : Int) ≤ 20000 <;> simp [h, h2]

/-- The document's size, counted no further than there is need. -/
theorem rsize_ok {F58 : Rc → Int → Option Int} (x : Cd) (m : Int) (hm : 0 ≤ m) (hm2 : m ≤ 100000) (h : ∀ y ∈ x.l, ∀ k : Int, 0 ≤ k → k ≤ m → F58 (conv y) k = some (min (szN y : Int) k)) (ht : x.tot ≤ 100000000000) : B58 F58 (conv x) m = some (min (szN x : Int) m) := by
  have hl := len_tot x
  have hs := szN_tot x
  have he := szN_eq x
  have hpos : ∀ y : Cd, 1 ≤ szN y := fun y => by rw [szN_eq]; omega
  unfold B58
  by_cases h0 : m = 0
  · subst h0
    refine forM conv x.l (fun n i => (n, i)) (fun pre n => n = 1) 1 rfl (by omega) ?_ ?_
    · rintro pre a post n hp rfl hx hd hw
      right; left
      exact ⟨1, by simp only [B58_L0, show decide ((1 : Int) ≤ 0) = false from rfl, Bool.and_false, cond_false], by unfold B58_K0; rw [cT (by decide)]; congr 1; omega⟩
    · rintro n rfl hd
      left
      exact ⟨1, by simp only [B58_L0, show decide ((1 : Int) ≤ 0) = false from rfl, Bool.and_false, cond_false], by unfold B58_K0; rw [cT (by decide)]; congr 1; omega⟩
  refine forM conv x.l (fun n i => (n, i)) (fun pre n => n = min ((1 + szL pre : Nat) : Int) m) 1 (by simp only [szL]; omega) (by omega) ?_ ?_
  · rintro pre a post n hp rfl hx hd hw
    have h1 : szL x.l = szL pre + (szN a + szL post) := by rw [hp, szL_app]; rfl
    have h2 : szL (pre ++ [a]) = szL pre + szN a := by rw [szL_app]; simp [szL]
    have ha := hpos a
    generalize hn : min ((1 + szL pre : Nat) : Int) m = n
    left
    have hd2 : decide (n ≤ m) = true := by simp only [decide_eq_true_eq]; omega
    have hk := h a (by rw [hp]; simp) (m - n) (by omega) (by omega)
    refine ⟨n + min (szN a : Int) (m - n), ?_, ?_⟩
    · simp only [B58_L0, conv_l, hd, hd2, hx, hw, Bool.and_true, cond_true, Option.bind_some]
      rw [w64 (by omega), hk]
      simp only [Option.bind_some]
      rw [w64 (by omega)]
    · rw [h2]; omega
  · rintro n rfl hd
    left
    refine ⟨_, by simp only [B58_L0, conv_l, hd, Bool.false_and, cond_false]; rfl, ?_⟩
    unfold B58_K0
    rw [cF (by simp only [gt_iff_lt, decide_eq_false_iff_not]; omega)]
    congr 1
    omega
mutual
def depN : Cd → Nat
  | ⟨_, _, _, l⟩ => depL l + 1
def depL : List Cd → Nat
  | [] => 0
  | x :: l => max (depN x) (depL l)
end
theorem depN_eq (x : Cd) : depN x = depL x.l + 1 := by cases x; rw [depN]
theorem depL_app : ∀ a b : List Cd, depL (a ++ b) = max (depL a) (depL b)
  | [], b => by simp [depL]
  | x :: a, b => by simp only [List.cons_append, depL, depL_app a b]; omega
theorem rdeep_ok {F59 : Rc → Int → Option Int} (x : Cd) (m : Int) (hm : 0 ≤ m) (hm2 : m ≤ 100000) (h : ∀ y ∈ x.l, F59 (conv y) (m - 1) = some (min (depN y : Int) m)) (ht : x.tot ≤ 100000000000) : B59 F59 (conv x) m = some (min (depN x : Int) (m + 1)) := by
  have hl := len_tot x
  have he := depN_eq x
  unfold B59
  by_cases h0 : m ≤ 0
  · rw [cT (by simpa using h0)]; congr 1; omega
  rw [cF (by simpa using h0)]
  refine forM conv x.l (fun d i => (d, i)) (fun pre d => d = min (depL pre : Int) m) 0 (by simp only [depL]; omega) (by omega) ?_ ?_
  · rintro pre a post n hp rfl hx hd hw
    have h2 : depL (pre ++ [a]) = max (depL pre) (depN a) := by rw [depL_app]; simp [depL]
    have hk := h a (by rw [hp]; simp)
    generalize hn : min (depL pre : Int) m = n
    left
    by_cases hc : min (depN a : Int) m > n
    · refine ⟨min (depN a : Int) m, ?_, by rw [h2]; omega⟩
      simp only [B59_L0, conv_l, hd, hx, cond_true, Option.bind_some]
      rw [w64 (by omega), hk]
      simp only [Option.bind_some]
      rw [cT (by simpa using hc), hw]
    · refine ⟨n, ?_, by rw [h2]; omega⟩
      simp only [B59_L0, conv_l, hd, hx, cond_true, Option.bind_some]
      rw [w64 (by omega), hk]
      simp only [Option.bind_some]
      rw [cF (by simpa using hc), hw]
  · rintro n rfl hd
    left
    refine ⟨_, by simp only [B59_L0, conv_l, hd, cond_false]; rfl, ?_⟩
    unfold B59_K0
    rw [w64 (by omega)]
    congr 1
    omega
mutual
def formC : Cd → Bool
  | ⟨k, b, s, l⟩ => form1 ⟨k, b, s, l⟩ && formL l
def formL : List Cd → Bool
  | [] => true
  | x :: l => formC x && formL l
end
theorem formL_all : ∀ (l : List Cd), formL l = l.all fun y => formC y
  | [] => rfl
  | x :: l => by simp [formL, formL_all l]
theorem formC_eq (x : Cd) : formC x = (form1 x && x.l.all fun y => formC y) := by cases x; rw [formC, formL_all]
theorem good_iff : ∀ (x : Cd) (d : Int), 0 ≤ d → (goodC x d = true ↔ (depN x : Int) ≤ d ∧ formC x = true) := by
  refine Cd.ind fun x ih d hd => ?_
  have he := depN_eq x
  have hmax : ∀ (l : List Cd) (e : Int), 0 ≤ e → ((depL l : Int) ≤ e ↔ ∀ y ∈ l, (depN y : Int) ≤ e) := by
    intro l e he
    induction l with
    | nil => simp [depL]; exact he
    | cons y l ih => simp only [depL, List.mem_cons, forall_eq_or_imp, ← ih]; omega
  rw [goodC_eq, formC_eq]
  simp only [Bool.and_eq_true, Bool.not_eq_true', decide_eq_false_iff_not, List.all_eq_true]
  constructor
  · rintro ⟨⟨h1, h2⟩, h3⟩
    have h4 := (hmax x.l (d - 1) (by omega)).2 fun y hy => ((ih y hy (d - 1) (by omega)).1 (h3 y hy)).1
    exact ⟨by omega, h2, fun y hy => ((ih y hy (d - 1) (by omega)).1 (h3 y hy)).2⟩
  · rintro ⟨h1, h2, h3⟩
    have h4 := (hmax x.l (d - 1) (by omega)).1 (by omega)
    exact ⟨⟨by omega, h2⟩, fun y hy => (ih y hy (d - 1) (by omega)).2 ⟨h4 y hy, h3 y hy⟩⟩
end Pl

-- What is told of the document's coded cores: plain law.
set_option linter.unusedVariables false
set_option linter.unusedSimpArgs false
namespace Pl
open Go Ab

theorem zeroS_iff (s : W4) : zeroS s = true ↔ s = ⟨0, 0, 0, 0⟩ := by cases s; simp [zeroS]
theorem zero_eq {s : W4} (hs : WfS s) : (setOf s == 0#256) = zeroS s := by
  rw [Bool.eq_iff_iff, beq_iff_eq, zeroS_iff]
  constructor
  · intro h; exact setOf_inj hs wf0 (by rw [setOf_zero]; exact h)
  · rintro rfl; exact setOf_zero
theorem idxS_at {l : List UInt8} {pre : List UInt8} {c : UInt8} {post : List UInt8} (h : l = pre ++ c :: post) : idxS l (pre.length : Int) = some (c.toNat : Int) := by
  subst h
  unfold idxS
  rw [if_pos (by omega), Int.toNat_natCast]
  simp
theorem byte_ne (c d : UInt8) : ((c.toNat : Int) != (d.toNat : Int)) = !(c == d) := by
  rw [Bool.eq_iff_iff]
  simp only [bne_iff_ne, ne_eq, Bool.not_eq_true', beq_eq_false_iff_ne]
  constructor
  · intro h e; exact h (by rw [e])
  · intro h e; exact h (UInt8.toNat_inj.1 (by omega))
theorem formed_ok {F60 : Rc → Option Bool} (x : Cd) (hs : WfS x.set) (h : ∀ y ∈ x.l, F60 (conv y) = some (formC y)) (ht : x.tot ≤ 100000000000) : B60 F60 (conv x) = some (formC x) := by
  have hl := len_tot x
  have hb := bits_tot x
  have key : ∀ c : Bool, c = (!((x.kind == 2 || zeroS x.set) && decide (manyC x.kind x.bits x.l.length = some x.l.length))) →
      (bif c then some false else loopK (fun (s : Int) => B60_L0 (conv x) s) (0 : Int) (fun (t : Unit) => B60_K0 F60 (conv x))) = some (formC x) := by
    rintro c rfl
    rw [formC_eq]
    unfold form1
    cases hm : ((x.kind == 2 || zeroS x.set) && decide (manyC x.kind x.bits x.l.length = some x.l.length)) with
    | false => simp
    | true =>
      simp only [Bool.not_true, cond_false, Bool.and_true]
      refine forL x.bits (fun (_ : Unit) i => i) (fun pre _ => pre.all is01 = true) () rfl (by omega) ?_ ?_
      · rintro pre a post _ hp hJ hx hd hw
        have hi := idxS_at hp
        have e1 := byte_ne a 48
        have e2 := byte_ne a 49
        have e3 : ((48 : UInt8).toNat : Int) = 48 := rfl
        have e4 : ((49 : UInt8).toNat : Int) = 49 := rfl
        rw [e3] at e1
        rw [e4] at e2
        by_cases ha : is01 a = true
        · left
          refine ⟨(), ?_, by simp [hJ, ha]⟩
          simp only [B60_L0, conv_bits, hd, hi, cond_true, Option.bind_some, e1, e2, hw]
          unfold is01 at ha
          cases h1 : a == 48 <;> cases h2 : a == 49 <;> simp [h1, h2] at ha ⊢
        · right; right
          refine ⟨false, ?_, ?_⟩
          · simp only [B60_L0, conv_bits, hd, hi, cond_true, Option.bind_some, e1, e2]
            unfold is01 at ha
            cases h1 : a == 48 <;> cases h2 : a == 49 <;> simp [h1, h2] at ha ⊢
          · rw [hp]; simp [ha]
      · rintro _ hJ hd
        left
        refine ⟨(), by simp only [B60_L0, conv_bits, hd, cond_false], ?_⟩
        rw [hJ]
        simp only [Bool.true_and]
        unfold B60_K0
        refine forM conv x.l (fun (_ : Unit) i => i) (fun pre _ => (pre.all fun y => formC y) = true) () rfl (by omega) ?_ ?_
        · rintro pre a post _ hp hJ hx hd hw
          have ha := h a (by rw [hp]; simp)
          cases hc : formC a with
          | true =>
            left
            rw [hc] at ha
            exact ⟨(), by simp only [B60_L1, conv_l, hd, hx, ha, hw, cond_true, Option.bind_some], by simp [hJ, hc]⟩
          | false =>
            right; right
            rw [hc] at ha
            exact ⟨false, by simp only [B60_L1, conv_l, hd, hx, ha, cond_true, cond_false, Option.bind_some], by rw [hp]; simp [hc]⟩
        · rintro _ hJ hd
          left
          exact ⟨(), by simp only [B60_L1, conv_l, hd, cond_false], by rw [B60_K1, hJ]⟩
  unfold B60
  apply key
  simp only [conv_kind, conv_bits, conv_set, conv_l, List.length_map, zero_eq hs]
  generalize x.l.length = n
  generalize zeroS x.set = Z
  have hbe : (x.bits == []) = decide (x.bits = []) := by cases x.bits <;> rfl
  rw [hbe]
  have b0 : decide ((n : Int) > 0) = !decide (n = 0) := by rw [Bool.eq_iff_iff, decide_eq_true_eq, Bool.not_eq_true', decide_eq_false_iff_not]; omega
  have b1 : ((n : Int) != 1) = !decide (n = 1) := by rw [Bool.eq_iff_iff, bne_iff_ne, Bool.not_eq_true', decide_eq_false_iff_not]; omega
  have b2 : ((n : Int) != 2) = !decide (n = 2) := by rw [Bool.eq_iff_iff, bne_iff_ne, Bool.not_eq_true', decide_eq_false_iff_not]; omega
  have s0 : decide (some 0 = some n) = decide (n = 0) := by rw [Bool.eq_iff_iff, decide_eq_true_eq, decide_eq_true_eq, Option.some.injEq]; exact eq_comm
  have s1 : decide (some 1 = some n) = decide (n = 1) := by rw [Bool.eq_iff_iff, decide_eq_true_eq, decide_eq_true_eq, Option.some.injEq]; exact eq_comm
  have s2 : decide (some 2 = some n) = decide (n = 2) := by rw [Bool.eq_iff_iff, decide_eq_true_eq, decide_eq_true_eq, Option.some.injEq]; exact eq_comm
  rw [b0, b1, b2]
  unfold manyC
  generalize x.kind = k
  by_cases k0 : k = 0
  · subst k0
    rw [if_pos rfl]
    by_cases hb : x.bits = []
    · rw [if_pos hb, s0, hb]; cases Z <;> cases decide (n = 0) <;> rfl
    · rw [if_neg hb, decide_eq_false hb]; cases Z <;> cases decide (n = 0) <;> rfl
  rw [if_neg k0]
  by_cases k1 : k = 1
  · subst k1; rw [if_pos rfl, s0]; cases Z <;> cases decide (n = 0) <;> rfl
  rw [if_neg k1]
  by_cases k2 : k = 2
  · subst k2; rw [if_pos rfl, s0]; cases Z <;> cases decide (n = 0) <;> rfl
  rw [if_neg k2]
  by_cases k3 : k = 3
  · subst k3; rw [if_pos rfl, s2]; cases Z <;> cases decide (n = 2) <;> rfl
  rw [if_neg k3]
  by_cases k4 : k = 4
  · subst k4; rw [if_pos rfl, decide_eq_true rfl]; cases Z <;> rfl
  rw [if_neg k4]
  by_cases k5 : k = 5
  · subst k5; rw [if_pos rfl, s1]; cases Z <;> cases decide (n = 1) <;> rfl
  rw [if_neg k5]
  have e : decide (k < 0) = true ∨ decide (k > 5) = true := by simp only [decide_eq_true_eq]; omega
  have r : decide ((none : Option Nat) = some n) = false := by simp
  rw [r, Bool.and_false]
  rcases e with e | e <;> rw [e] <;> simp
theorem rGood_ok {F58 F59 : Rc → Int → Option Int} {F60 : Rc → Option Bool} (x : Cd) (h1 : F58 (conv x) 20001 = some (min (szN x : Int) 20001)) (h2 : F59 (conv x) 8000 = some (min (depN x : Int) 8001)) (h3 : F60 (conv x) = some (formC x)) : B38 F58 F59 F60 (conv x) = some (GoodC x) := by
  unfold B38 GoodC
  rw [h1, h2, h3]
  have hg := good_iff x 8000 (by omega)
  have hd1 : decide (min (szN x : Int) 20001 ≤ 20000) = decide ((szN x : Int) ≤ 20000) := by rw [decide_eq_decide]; omega
  have hd2 : decide (min (depN x : Int) 8001 ≤ 8000) = decide ((depN x : Int) ≤ 8000) := by rw [decide_eq_decide]; omega
  have hgc : goodC x 8000 = (decide ((depN x : Int) ≤ 8000) && formC x) := by rw [Bool.eq_iff_iff, hg, Bool.and_eq_true, decide_eq_true_eq]
  simp only [Option.bind_some, hd1, hd2, hgc]
  cases decide ((szN x : Int) ≤ 20000) <;> cases decide ((depN x : Int) ≤ 8000) <;> simp

theorem conv_fuse (b : List UInt8) (x : Cd) : conv (fuseC b x) = if x.kind = 0 then conv x else ⟨x.kind, b ++ x.bits, setOf x.set, x.l.map conv⟩ := by
  unfold fuseC
  split
  · rfl
  · rw [conv_eq]
theorem rfuse_ok {b : List UInt8} {x : Cd} (h : b.length + x.bits.length ≤ 4611686018427387904) : B32 b (conv x) = some (conv (fuseC b x)) := by
  unfold B32
  rw [conv_fuse]
  simp only [conv_kind, conv_bits, conv_set, conv_l]
  by_cases h0 : x.kind = 0
  · simp [h0]
  · rw [cT (by simpa using h0), joinS_ok h, if_neg h0]; rfl
theorem rflat_ok {F32 : List UInt8 → Rc → Option Rc} (l : List Cd) (hF : ∀ x ∈ l, x.kind = 4 → ∀ y ∈ x.l, F32 x.bits (conv y) = some (conv (fuseC x.bits y))) (hlen : l.length < 9223372036854775807) (hk : ∀ x ∈ l, x.kind = 4 → x.l.length < 9223372036854775807) (hl : (flatC l).length ≤ 100000000000) : B10 F32 (l.map conv) = some ((flatC l).map conv) := by
  unfold B10
  refine forM conv l (fun out i => (out, i)) (fun pre out => out = (flatC pre).map conv) [] rfl (by omega) ?_ ?_
  · rintro pre a post out hp rfl hx hd hw
    have ha : a ∈ l := by rw [hp]; simp
    have ht := flat_split pre a post
    rw [← hp] at ht
    left
    refine ⟨(flatC (pre ++ [a])).map conv, ?_, rfl⟩
    have hsnoc : flatC (pre ++ [a]) = flatC pre ++ flat1 a := by simp [flatC]
    rw [hsnoc]
    simp only [B10_L0, hd, hx, cond_true, Option.bind_some, hw, conv_kind]
    unfold flat1
    by_cases h0 : a.kind = 0
    · simp [h0]
    by_cases h4 : a.kind = 4
    · have hal := hk a ha h4
      have hFa := hF a ha h4
      simp only [h4]
      rw [cF (by decide), cT (by decide), if_neg (by decide), if_pos trivial]
      refine forM conv a.l (fun out i => (out, i)) (fun p out => out = (flatC pre ++ p.map (fuseC a.bits)).map conv) ((flatC pre).map conv) (by simp) (by omega) ?_ ?_
      · rintro p y q out hal2 rfl hy hd2 hw2
        have hq : p.length + q.length + 1 = a.l.length := by rw [hal2]; simp; omega
        left
        refine ⟨_, ?_, rfl⟩
        have hf1 : (flat1 a).length = a.l.length := by unfold flat1; rw [h4, if_neg (by decide), if_pos rfl, List.length_map]
        have hj : join 304 ((flatC pre ++ p.map (fuseC a.bits)).map conv) [conv (fuseC a.bits y)] = some _ := join_ok (by simp; omega)
        simp only [B10_L1, hx, conv_l, conv_bits, hd2, hy, hw2, cond_true, Option.bind_some, hFa y (by rw [hal2]; simp), hj]
        simp
      · rintro out rfl hd2
        left
        exact ⟨(flatC pre ++ a.l.map (fuseC a.bits)).map conv, by simp only [B10_L1, hx, conv_l, Option.bind_some, hd2, cond_false], by simp only [B10_K1, hw]⟩
    · have hf1 : (flat1 a).length = 1 := by unfold flat1; rw [if_neg h0, if_neg h4]; rfl
      rw [cF (by simpa using h0), cF (by simpa using h4), if_neg h0, if_neg h4, join_ok (by simp; omega)]
      simp
  · rintro out rfl hd
    left
    exact ⟨(flatC l).map conv, by simp only [B10_L0, hd, cond_false], rfl⟩


mutual
def WfC : Cd → Prop
  | ⟨_, _, s, l⟩ => WfS s ∧ WfL l
def WfL : List Cd → Prop
  | [] => True
  | x :: l => WfC x ∧ WfL l
end
theorem wfL_iff : ∀ {l : List Cd}, WfL l ↔ ∀ x ∈ l, WfC x
  | [] => by simp [WfL]
  | x :: l => by simp [WfL, wfL_iff (l := l)]
theorem wf_eq (x : Cd) : WfC x ↔ WfS x.set ∧ ∀ y ∈ x.l, WfC y := by cases x; rw [WfC, wfL_iff]
open Classical in
theorem eqk_ok {F : Rc → Rc → Option Bool} (a b : Cd) (hlen : a.l.length = b.l.length) (h : ∀ x ∈ a.l, ∀ y ∈ b.l, F (conv x) (conv y) = some (same x y)) (hl : a.l.length < 9223372036854775807) :
    loopK (fun (s : Int) => B36_L0 F (conv a) (conv b) s) (0 : Int) (fun (t : Unit) => B36_K0) = some (decide (a.l.map strip = b.l.map strip)) := by
  by_cases heq : a.l.map strip = b.l.map strip
  · rw [decide_eq_true heq]
    refine forM conv a.l (fun (_ : Unit) i => i) (fun pre _ => True) () trivial hl ?_ ?_
    · rintro pre x post _ hp hJ hx hd hw
      left
      obtain ⟨y, hy⟩ : ∃ y, b.l[pre.length]? = some y := ⟨_, List.getElem?_eq_getElem (by rw [← hlen, hp]; simp)⟩
      have hxy : strip x = strip y := by
        have h1 := congrArg (fun l => l[pre.length]?) heq
        simp only [List.getElem?_map, hy, hp] at h1
        simpa using h1
      have hs : F (conv x) (conv y) = some true := by rw [h x (by rw [hp]; simp) y (List.mem_of_getElem? hy), same_iff.2 hxy]
      refine ⟨(), ?_, trivial⟩
      simp only [B36_L0, conv_l, hd, hx, cond_true, Option.bind_some]
      rw [idx_nat, List.getElem?_map, hy]
      simp only [Option.map_some, Option.bind_some, hs, cond_true, hw]
    · rintro _ _ hd
      left
      exact ⟨(), by simp only [B36_L0, conv_l, hd, cond_false], rfl⟩
  · rw [decide_eq_false heq]
    refine forM conv a.l (fun (_ : Unit) i => i) (fun pre _ => pre.map strip = (b.l.take pre.length).map strip) () rfl hl ?_ ?_
    · rintro pre x post _ hp hJ hx hd hw
      obtain ⟨y, hy⟩ : ∃ y, b.l[pre.length]? = some y := ⟨_, List.getElem?_eq_getElem (by rw [← hlen, hp]; simp)⟩
      have hs := h x (by rw [hp]; simp) y (List.mem_of_getElem? hy)
      have e : B36_L0 F (conv a) (conv b) (pre.length : Int) = bif same x y then some (.next (((pre.length + 1 : Nat) : Int))) else some (.ret false) := by
        simp only [B36_L0, conv_l, hd, hx, cond_true, Option.bind_some]
        rw [idx_nat, List.getElem?_map, hy]
        simp only [Option.map_some, Option.bind_some, hs, hw]
      rw [e]
      cases hc : same x y with
      | true =>
        left
        refine ⟨(), rfl, ?_⟩
        rw [List.length_append, List.length_singleton, List.take_add_one, hy, List.map_append, List.map_append, hJ]
        simp [same_iff.1 hc]
      | false => right; right; exact ⟨false, rfl, rfl⟩
    · rintro _ hJ hd
      exact absurd (by rw [hJ, hlen, List.take_length]) heq
open Classical in
theorem rsame_ok {F36 : Rc → Rc → Option Bool} (a b : Cd) (ha : WfC a) (hb : WfC b) (h : ∀ x ∈ a.l, ∀ y ∈ b.l, F36 (conv x) (conv y) = some (same x y)) (hl : a.l.length < 9223372036854775807) : B36 F36 (conv a) (conv b) = some (same a b) := by
  have hs : same a b = (decide (a.kind = b.kind) && (decide (a.set = b.set) && decide (a.l.map strip = b.l.map strip))) := by
    rw [Bool.eq_iff_iff, same_iff, strip_eq a, strip_eq b]
    simp only [Cd.mk.injEq, Bool.and_eq_true, decide_eq_true_eq, true_and]
  have he : (setOf a.set == setOf b.set) = decide (a.set = b.set) := by
    rw [Bool.eq_iff_iff, beq_iff_eq, decide_eq_true_eq]
    exact ⟨fun h => setOf_inj ((wf_eq a).1 ha).1 ((wf_eq b).1 hb).1 h, fun h => by rw [h]⟩
  have hk : (a.kind != b.kind) = !decide (a.kind = b.kind) := by rw [Bool.eq_iff_iff]; simp
  unfold B36
  simp only [conv_kind, conv_set, conv_l, List.length_map, he, hk]
  rw [hs]
  by_cases hlen : a.l.length = b.l.length
  · have := eqk_ok (F := F36) a b hlen h hl
    rw [this, neF hlen]
    cases decide (a.kind = b.kind) <;> cases decide (a.set = b.set) <;> simp
  · have : decide (a.l.map strip = b.l.map strip) = false := decide_eq_false fun e => hlen (by simpa using congrArg List.length e)
    rw [neT hlen, this]
    cases decide (a.kind = b.kind) <;> cases decide (a.set = b.set) <;> simp
theorem ronce_ok {F36 : Rc → Rc → Option Bool} (l : List Cd) (hF : ∀ x ∈ l, ∀ y ∈ l, F36 (conv x) (conv y) = some (same x y)) (hk : ∀ pre : List Cd, (onceC pre).length ≤ pre.length ∧ ∀ y ∈ onceC pre, y ∈ pre) (hl : l.length ≤ 100000000000) : B12 F36 (l.map conv) = some ((onceC l).map conv) := by
  unfold B12
  refine forM conv l (fun out i => (out, i)) (fun pre out => out = (onceC pre).map conv) [] rfl (by omega) ?_ ?_
  · rintro pre a post out hp rfl hx hd hw
    obtain ⟨k1, k2⟩ := hk pre
    have ha : a ∈ l := by rw [hp]; simp
    have hpl : pre.length + post.length + 1 = l.length := by rw [hp]; simp; omega
    left
    refine ⟨_, ?_, rfl⟩
    rw [once_snoc]
    simp only [B12_L0, hd, cond_true]
    refine forM conv (onceC pre) (fun t i => (t, i)) (fun p t => t = p.any fun y => same y a) false rfl (by omega) ?_ ?_
    · rintro p y q t hp2 rfl hy hd2 hw2
      have hyl : y ∈ l := by rw [hp]; have := k2 y (by rw [hp2]; simp); simp [this]
      left
      refine ⟨_, ?_, rfl⟩
      simp only [B12_L1, hd2, hx, hy, hF y hyl a ha, hw2, cond_true, Option.bind_some]
      cases h : (p.any fun y => same y a) <;> simp [h]
    · rintro t rfl hd2
      left
      refine ⟨(onceC pre).any fun y => same y a, by simp only [B12_L1, hd2, cond_false], ?_⟩
      have hc : ((onceC pre).any fun y => same y a) = among a (onceC pre) := by unfold among; congr 1; funext y; exact same_comm y a
      rw [hc]
      unfold once1 B12_K1
      cases h : among a (onceC pre) with
      | true => simp [hw]
      | false => simp only [cond_false, hx, Option.bind_some]; rw [join_ok (by simp; omega)]; simp [hw]
  · rintro out rfl hd
    left
    exact ⟨(onceC l).map conv, by simp only [B12_L0, hd, cond_false], rfl⟩
/-- With all choices alike: one with itself. -/
theorem alike_ok {F13 : Rc → Rc → Option Bool} (x : Cd) (h : ∀ y ∈ x.l, F13 (conv y) (conv y) = some true) (hl : x.l.length < 9223372036854775807) : B13 F13 (conv x) (conv x) = some true := by
  unfold B13
  rw [cF (by simp)]
  refine forM conv x.l (fun (_ : Unit) i => i) (fun pre _ => True) () trivial hl ?_ ?_
  · rintro pre a post _ hp hJ hx hd hw
    left
    exact ⟨(), by simp only [B13_L0, conv_l, hd, hx, h a (by rw [hp]; simp), hw, cond_true, Option.bind_some], trivial⟩
  · rintro _ _ hd
    left
    exact ⟨(), by simp only [B13_L0, conv_l, hd, cond_false], rfl⟩
end Pl
