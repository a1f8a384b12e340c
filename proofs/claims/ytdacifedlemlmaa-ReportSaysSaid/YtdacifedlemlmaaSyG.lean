/- SyG: steps, walks, laws: see the remarks within. -/
import Derived.Test.YtdacifedlemlmaaSyF
set_option linter.unusedSimpArgs false
set_option linter.unusedVariables false
-- What is read is fine: plain law.
namespace Rp
open Go Ab Go.Proofs.Ytdacifedlemlmaa.Mach

theorem bodyS_fine {bs1 : List Int} {bad1 : Bool} {x : Re} {bad : Bool} (hb : Byt bs1) (h : bodyS bs1 bad1 = some (x, bad)) : x.sp.length ≤ 256 ∧ FineV x.v := by
  unfold bodyS at h
  dsimp only at h
  split at h
  · cases h
    exact ⟨readSp_len (take_byt (take_byt hb)), (fine_val _ _ _ _ (readSp_byt (take_byt (take_byt hb)))).1⟩
  · cases h
theorem candS_fine {bs : List Int} {x : Re} {bad : Bool} (hb : Byt bs) (h : candS bs = some (x, bad)) : x.sp.length ≤ 256 ∧ FineV x.v := by
  unfold candS at h
  dsimp only at h
  split at h
  · exact bodyS_fine (take_byt hb) h
  · cases h
    exact ⟨by simp, by omega, by simp, trivial⟩
theorem getR_cases {bs : List Int} (hb : Byt bs) : getR bs = (zeroX, 2) ∨ ∃ x, getR bs = (x, 0) ∧ putX x = bs ∧ x.sp.length ≤ 256 ∧ FineV x.v := by
  unfold getR getS
  cases hc : candS bs with
  | none => exact .inl rfl
  | some p =>
    obtain ⟨x, bad⟩ := p
    dsimp only
    split
    · rename_i y hy
      split at hy
      · rename_i hq
        cases hy
        exact .inr ⟨_, rfl, hq.2, candS_fine hb hc⟩
      · cases hy
    · exact .inl rfl

end Rp

-- A report that was put is read again: plain law.
namespace Rp
open Go Ab Go.Proofs.Ytdacifedlemlmaa.Mach

theorem take_app {k : Nat} {l rest : List Int} (h : l.length = k) : takeS k (l ++ rest) false = (numI l, rest, false) := by
  unfold takeS
  rw [if_neg (by simp; omega)]
  subst h
  simp
theorem by8_eq (n : Int) : by8 n = n % 256 := by unfold by8; rw [IntKind.wrap_u8]
theorem numI_one {x : Int} (h : 0 ≤ x ∧ x < 256) : numI [x] = x := by simp [numI, or8_zero h]
theorem numI_two {x y : Int} (hx : 0 ≤ x ∧ x < 256) (hy : 0 ≤ y ∧ y < 256) : numI [x, y] = x * 256 + y := by simp [numI, or8_zero hx, or8_eq (n := x) (by omega) hy]
theorem numI_put {n : Int} (h : 0 ≤ n ∧ n ≤ 1073741824) : numI (putN n) = n := by
  have r1 := by8_byt (n.fdiv 16777216)
  have r2 := by8_byt (n.fdiv 65536)
  have r3 := by8_byt (n.fdiv 256)
  have r4 := by8_byt n
  simp only [putN, numI, List.foldl_cons, List.foldl_nil]
  rw [or8_zero r1, or8_eq (n := by8 (n.fdiv 16777216)) (by omega) r2, or8_eq (n := by8 (n.fdiv 16777216) * 256 + by8 (n.fdiv 65536)) (by omega) r3, or8_eq (n := (by8 (n.fdiv 16777216) * 256 + by8 (n.fdiv 65536)) * 256 + by8 (n.fdiv 256)) (by omega) r4]
  simp only [by8_eq]
  rw [Int.fdiv_eq_ediv_of_nonneg _ (by omega), Int.fdiv_eq_ediv_of_nonneg _ (by omega), Int.fdiv_eq_ediv_of_nonneg _ (by omega)]
  omega
theorem take_put {n : Int} {rest : List Int} (h : 0 ≤ n ∧ n ≤ 1073741824) : takeS 4 (putN n ++ rest) false = (n, rest, false) := by
  rw [take_app (by simp [putN]), numI_put h]
theorem take_one1 {x : Int} {rest : List Int} (h : 0 ≤ x ∧ x < 256) : takeS 1 (x :: rest) false = (x, rest, false) := by
  have := take_app (k := 1) (l := [x]) (rest := rest) rfl
  rw [numI_one h] at this
  exact this
theorem span_back {s : Sp} {rest : List Int} (h : spanOk s = true) : spanS (spanB s ++ rest) false = (s, rest, false) := by
  unfold spanOk betweenS at h
  simp only [Bool.or_eq_true, Bool.and_eq_true, decide_eq_true_eq] at h
  unfold spanB spanS
  obtain ⟨x, y⟩ := s
  dsimp only at h ⊢
  by_cases h1 : x = -1
  · have h2 : y = -1 := by omega
    subst h1 h2
    rw [if_pos rfl]
    simp only [List.cons_append, List.nil_append]
    rw [take_one1 (by omega)]
    rfl
  · have h3 := h.resolve_left fun hh => h1 hh.1
    rw [if_neg h1]
    simp only [List.cons_append, List.append_assoc]
    rw [take_one1 (by omega)]
    dsimp only
    rw [if_neg (by omega), if_pos rfl, take_put (by omega)]
    dsimp only
    rw [take_put (by omega)]
theorem run_back : ∀ (l acc : List Sp) (rest : List Int), l.all spanOk = true → runSp l.length acc (l.flatMap spanB ++ rest) false = (acc ++ l, rest, false)
  | [], acc, rest, _ => by simp [runSp]
  | s :: l, acc, rest, h => by
    simp only [List.all_cons, Bool.and_eq_true] at h
    simp only [List.length_cons, runSp, Bool.false_eq_true, if_false, List.flatMap_cons, List.append_assoc]
    rw [span_back h.1]
    dsimp only
    rw [run_back l (acc ++ [s]) rest h.2]
    simp
theorem read_back {s : Sp} {l : List Sp} {rest : List Int} (h : l.all spanOk = true) (hl : l.length ≤ 32) : readSp s (by8 (((s :: l).length : Nat) : Int) :: (l.flatMap spanB ++ rest)) false = (s :: l, rest, false) := by
  unfold readSp
  have e : by8 (((s :: l).length : Nat) : Int) = (l.length : Int) + 1 := by rw [by8_eq]; simp; omega
  rw [e, take_one1 (by omega)]
  dsimp only
  have e2 : ((l.length : Int) + 1).toNat - 1 = l.length := by omega
  rw [e2, run_back l [s] rest h]
  rfl

theorem head_back {v : Va} {rest : List Int} (hm : (v.l.length : Int) = manyS v.k v.l.length) (hb : v.k = 2 ∨ v.b = 0) (hv : 0 ≤ v.b ∧ v.b < 256) (hl : v.l.length ≤ 2000) : headT (headS v ++ rest) false = (v.k, v.b, (v.l.length : Int), rest, false) := by
  have hk : 1 ≤ v.k ∧ v.k ≤ 7 := by
    unfold manyS at hm
    by_cases h1 : v.k = 1 ∨ v.k = 2
    · omega
    · rw [if_neg h1] at hm
      by_cases h2 : v.k = 3
      · omega
      · rw [if_neg h2] at hm
        by_cases h3 : v.k = 4 ∨ v.k = 5 ∨ v.k = 7
        · omega
        · rw [if_neg h3] at hm
          by_cases h4 : v.k = 6
          · omega
          · rw [if_neg h4] at hm; omega
  have e1 : by8 v.k = v.k := by rw [by8_eq]; omega
  unfold headT headS
  rw [e1]
  simp only [List.cons_append]
  rw [take_one1 (by omega)]
  dsimp only
  by_cases h2 : v.k = 2
  · rw [if_pos h2, if_pos h2]
    simp only [List.cons_append, List.nil_append]
    rw [take_one1 hv]
    dsimp only
    have : (v.l.length : Int) = 0 := by rw [hm, h2]; rfl
    rw [this]
  · have hb0 : v.b = 0 := hb.resolve_left h2
    rw [if_neg h2, if_neg h2]
    by_cases h6 : v.k = 6
    · rw [if_pos h6, if_pos h6]
      have r1 := by8_byt ((v.l.length : Int).fdiv 256)
      have r2 := by8_byt (v.l.length : Int)
      rw [take_app (k := 2) rfl, numI_two r1 r2, hb0]
      simp only [by8_eq]
      rw [Int.fdiv_eq_ediv_of_nonneg _ (by omega)]
      have : (v.l.length : Int) / 256 % 256 * 256 + (v.l.length : Int) % 256 = v.l.length := by omega
      rw [this]
    · rw [if_neg h6, if_neg h6, hb0]
      have : manyS v.k 0 = (v.l.length : Int) := by
        rw [hm]
        simp [manyS, h6]
      rw [this]
      rfl
theorem shL_cnt : ∀ (l : List Va) (d n : Int), 0 ≤ n → (shS.shL l d n).1 = true → (shS.shL l d n).2 + l.length ≤ n ∧ 0 ≤ (shS.shL l d n).2
  | [], d, n, hn, _ => by simp [shS.shL]; omega
  | x :: l, d, n, hn, h => by
    simp only [shS.shL] at h ⊢
    by_cases hx : (shS x d n).1 = true
    · rw [if_pos hx] at h ⊢
      have h1 := shS_le x d n
      have h2 := shL_cnt l d (shS x d n).2 (h1.2.2 hx) h
      simp only [List.length_cons]
      omega
    · rw [if_neg hx] at h; cases h
theorem runV_back {d : Nat} {rest : List Int} : ∀ (l acc : List Va) (n : Int), (∀ x ∈ l, ∀ (n : Int) (rest : List Int), n ≤ 2000 → (shS x d n).1 = true → valT d n (valS x ++ rest) false = (x, (shS x d n).2, rest, false)) → n ≤ 2000 → (shS.shL l d n).1 = true →
    runV (valT d) l.length acc n (valS.valL l ++ rest) false = (acc ++ l, (shS.shL l d n).2, rest, false)
  | [], acc, n, _, _, _ => by simp [runV, valS.valL, shS.shL]
  | x :: l, acc, n, hx, hn, h => by
    simp only [shS.shL] at h ⊢
    by_cases hs : (shS x d n).1 = true
    · rw [if_pos hs] at h ⊢
      simp only [List.length_cons, runV, Bool.false_eq_true, if_false, valS.valL, List.append_assoc]
      rw [hx x (by simp) n (valS.valL l ++ rest) hn hs]
      dsimp only
      have h1 := (shS_le x d n).1
      rw [runV_back l (acc ++ [x]) (shS x d n).2 (fun y hy => hx y (by simp [hy])) (by omega) h]
      simp
    · rw [if_neg hs] at h; cases h
theorem val_back : ∀ v, FineV v → ∀ (d : Nat) (n : Int) (rest : List Int), n ≤ 2000 → (shS v d n).1 = true → valT d n (valS v ++ rest) false = (v, (shS v d n).2, rest, false) := by
  refine Va.ind fun v ih hf d n rest hn h => ?_
  obtain ⟨hvb, _, hk⟩ := fineV hf
  rw [shS_eq] at h ⊢
  split at h
  · cases h
  rename_i hc
  rw [if_neg hc]
  cases d with
  | zero => exact absurd (.inl (by omega)) hc
  | succ d =>
    have e1 : ((d + 1 : Nat) : Int) - 1 = d := by omega
    rw [e1] at h ⊢
    have hn0 : ¬ n - 1 < 0 := fun hh => hc (.inr (.inl hh))
    have hm : (v.l.length : Int) = manyS v.k v.l.length := by
      by_cases hh : (v.l.length : Int) = manyS v.k v.l.length
      · exact hh
      · exact absurd (.inr (.inr (.inl hh))) hc
    have hb : v.k = 2 ∨ v.b = 0 := by
      by_cases h1 : v.k = 2
      · exact .inl h1
      · by_cases h2 : v.b = 0
        · exact .inr h2
        · exact absurd (.inr (.inr (.inr ⟨h1, h2⟩))) hc
    have hcnt := shL_cnt v.l d (n - 1) (by omega) h
    have e2 : (false || decide (n - 1 < 0)) = false := by simp [hn0]
    rw [valS_eq, List.append_assoc]
    simp only [valT]
    rw [e2, head_back hm hb hvb (by omega)]
    dsimp only
    rw [Int.toNat_natCast, runV_back v.l [] (n - 1) (fun x hx n rest h1 h2 => ih x hx (hk x hx) d n rest h1 h2) (by omega) h]
    cases v
    rfl

def nanN : Nat := 9223372036854775807
theorem bits_rng {q : Nat} (h : q < 2 ^ 64) : 0 ≤ bitsS q ∧ bitsS q < 18446744073709551616 := by
  unfold bitsS
  split
  · omega
  · split <;> simp only [IntKind.wrap, IntKind.bits, IntKind.signed] <;> (try simp) <;> omega
theorem orU_eq {n x : Int} (hn : 0 ≤ n ∧ n < 72057594037927936) (h : 0 ≤ x ∧ x < 256) : orU n x = n * 256 + x := by
  have wr : ∀ a : Int, 0 ≤ a → a < 18446744073709551616 → IntKind.u64.wrap a = a := fun a h1 h2 => by simp [IntKind.wrap, IntKind.bits, IntKind.signed]; omega
  obtain ⟨a, rfl⟩ : ∃ a : Nat, n = a := ⟨n.toNat, by omega⟩
  obtain ⟨c, rfl⟩ : ∃ c : Nat, x = c := ⟨x.toNat, by omega⟩
  have hc : c < 2 ^ 8 := by omega
  unfold orU
  rw [wr ((a : Int) * 256) (by omega) (by omega)]
  have e1 : ((a : Int) * 256) = ((a * 256 : Nat) : Int) := by simp
  rw [e1]
  have t1 : (BitVec.ofInt 64 ((a * 256 : Nat) : Int)).toNat = a * 256 := by rw [BitVec.toNat_ofInt]; omega
  have t2 : (BitVec.ofInt 64 (c : Int)).toNat = c := by rw [BitVec.toNat_ofInt]; omega
  have t3 : (BitVec.ofInt 64 ((a * 256 : Nat) : Int) ||| BitVec.ofInt 64 (c : Int)).toNat = a * 256 ||| c := by rw [BitVec.toNat_or, t1, t2]
  rw [t3]
  have e2 : a * 256 ||| c = a * 256 + c := by
    have := Nat.two_pow_add_eq_or_of_lt hc a
    rw [Nat.mul_comm]
    exact this.symm
  rw [e2, wr _ (by omega) (by omega)]
  simp
theorem numU_back {z : Int} (h : 0 ≤ z ∧ z < 18446744073709551616) : numU ((List.range 8).map fun i => IntKind.u8.wrap (z.fdiv (2 ^ (8 * (7 - i))))) = z := by
  have hr : ∀ a : Int, 0 ≤ IntKind.u8.wrap a ∧ IntKind.u8.wrap a < 256 := fun a => by rw [IntKind.wrap_u8]; omega
  have e : ((List.range 8).map fun i => IntKind.u8.wrap (z.fdiv (2 ^ (8 * (7 - i))))) = [IntKind.u8.wrap (z.fdiv 72057594037927936), IntKind.u8.wrap (z.fdiv 281474976710656), IntKind.u8.wrap (z.fdiv 1099511627776), IntKind.u8.wrap (z.fdiv 4294967296), IntKind.u8.wrap (z.fdiv 16777216), IntKind.u8.wrap (z.fdiv 65536), IntKind.u8.wrap (z.fdiv 256), IntKind.u8.wrap (z.fdiv 1)] := rfl
  rw [e]
  have r0 := hr (z.fdiv 72057594037927936)
  have r1 := hr (z.fdiv 281474976710656)
  have r2 := hr (z.fdiv 1099511627776)
  have r3 := hr (z.fdiv 4294967296)
  have r4 := hr (z.fdiv 16777216)
  have r5 := hr (z.fdiv 65536)
  have r6 := hr (z.fdiv 256)
  have r7 := hr (z.fdiv 1)
  simp only [numU, List.foldl_cons, List.foldl_nil]
  rw [orU_eq (n := 0) (by omega) r0]
  rw [orU_eq (by omega) r1]
  rw [orU_eq (by omega) r2]
  rw [orU_eq (by omega) r3]
  rw [orU_eq (by omega) r4]
  rw [orU_eq (by omega) r5]
  rw [orU_eq (by omega) r6]
  rw [orU_eq (by omega) r7]
  simp only [IntKind.wrap_u8]
  rw [Int.fdiv_eq_ediv_of_nonneg _ (by omega), Int.fdiv_eq_ediv_of_nonneg _ (by omega), Int.fdiv_eq_ediv_of_nonneg _ (by omega), Int.fdiv_eq_ediv_of_nonneg _ (by omega), Int.fdiv_eq_ediv_of_nonneg _ (by omega), Int.fdiv_eq_ediv_of_nonneg _ (by omega), Int.fdiv_eq_ediv_of_nonneg _ (by omega), Int.fdiv_eq_ediv_of_nonneg _ (by omega)]
  omega
theorem bvA {Q T : BitVec 64} (h : Q &&& T = 0#64) : (Q ||| T) &&& ~~~T = Q := by
  ext i hi
  have h' := congrArg (fun b => b.getLsbD i) h
  simp [BitVec.getLsbD_eq_getElem hi] at h' ⊢
  cases hq : Q[i] <;> cases ht : T[i] <;> simp_all
theorem bvB {Q T : BitVec 64} : (Q ||| T) &&& T = T := by
  ext i hi
  simp
  cases hq : Q[i] <;> cases ht : T[i] <;> simp_all
theorem topT : BitVec.ofInt 64 topI = BitVec.twoPow 64 63 := by decide
theorem ones : BitVec.ofInt 64 18446744073709551615 = BitVec.allOnes 64 := by decide
theorem bvC {Q : BitVec 64} (h : Q &&& BitVec.twoPow 64 63 ≠ 0#64) : (BitVec.allOnes 64 ^^^ Q) &&& BitVec.twoPow 64 63 = 0#64 := by
  have hq : Q[63] = true := by
    cases hq : Q[63] with
 | true => rfl
 | false =>
      refine absurd ?_ h
      ext i hi
      simp only [BitVec.getElem_and, BitVec.getElem_twoPow, BitVec.getElem_zero]
      by_cases h63 : i = 63
      · subst h63; simp [hq]
      · simp; omega
  ext i hi
  simp only [BitVec.getElem_and, BitVec.getElem_twoPow, BitVec.getElem_zero, BitVec.getElem_xor, BitVec.getElem_allOnes]
  by_cases h63 : i = 63
  · subst h63; simp [hq]
  · simp; omega
theorem bvD {Q : BitVec 64} : BitVec.allOnes 64 ^^^ (BitVec.allOnes 64 ^^^ Q) = Q := by rw [← BitVec.xor_assoc, BitVec.xor_self, BitVec.zero_xor]
theorem wrU (B : BitVec 64) : IntKind.u64.wrap (B.toNat : Int) = (B.toNat : Int) := by
  have := B.isLt
  simp [IntKind.wrap, IntKind.bits, IntKind.signed]
  omega
theorem oiU (B : BitVec 64) : BitVec.ofInt 64 (B.toNat : Int) = B := by
  refine BitVec.eq_of_toNat_eq ?_
  have := B.isLt
  rw [BitVec.toNat_ofInt]
  omega
theorem ofQ_bits {q : Nat} (h : q < 2 ^ 64) : ofQ (bitsS q) = if nanB .f64 q then nanN else q := by
  unfold bitsS
  cases hn : nanB .f64 q with
  | true =>
    simp only [if_true]
    decide +kernel
  | false =>
    simp only [Bool.false_eq_true, if_false]
    obtain ⟨Q, hQ⟩ : ∃ Q : BitVec 64, BitVec.ofInt 64 (q : Int) = Q := ⟨_, rfl⟩
    have hq : Q.toNat = q := by rw [← hQ, BitVec.toNat_ofInt]; omega
    have ht : (9223372036854775808 : Int) = topI := rfl
    rw [hQ, ht, topT, ones, wrU, wrU, wrU]
    by_cases hz : Q &&& BitVec.twoPow 64 63 = 0#64
    · rw [hz]
      simp only [BitVec.toNat_zero, if_true, Int.ofNat_zero, Int.cast_ofNat_Int]
      unfold ofQ
      rw [oiU, topT, bvB, wrU, wrU, wrU, bvA hz]
      rw [if_neg (by decide)]
      simpa using hq
    · have hz2 : ¬ (((Q &&& BitVec.twoPow 64 63).toNat : Nat) : Int) = 0 := fun hh => hz (BitVec.eq_of_toNat_eq (by simpa using hh))
      rw [if_neg hz2]
      unfold ofQ
      rw [oiU, topT, ones, bvC hz, wrU, wrU, wrU, bvD]
      rw [if_pos (by decide)]
      simpa using hq
theorem nanN_nan : nanB .f64 nanN = true := by decide +kernel
theorem score_back {q : Nat} (h : q < 2 ^ 64) : ofS (scoreB q) = (if nanB .f64 q then nanN else q, 0) := by
  have h1 : numU (scoreB q) = bitsS q := numU_back (bits_rng h)
  have h2 := ofQ_bits h
  have h3 : bitsS (if nanB .f64 q then nanN else q) = bitsS q := by
    cases hn : nanB .f64 q with
 | true => simp only [if_true]; simp only [bitsS, hn, nanN_nan, if_true]
 | false => simp
  have h4 : scoreB (if nanB .f64 q then nanN else q) = scoreB q := by unfold scoreB; rw [h3]
  unfold ofS
  rw [h1, h2, if_pos ⟨by simp [scoreB], h4⟩]
theorem nanC_nan : nanB .f64 nanC = true := by decide +kernel
theorem cand_back (x : Re) (hg : goodS x.e x.a x.b x.sp x.v x.q = true) (hf : FineV x.v) (hq : x.q < 2 ^ 64) :
    ∃ y : Re, candS (putX x) = some (y, false) ∧ y.e = x.e ∧ y.a = x.a ∧ y.b = x.b ∧ y.sp = x.sp ∧ y.v = x.v ∧ ((nanB .f64 y.q = true ∧ nanB .f64 x.q = true) ∨ y.q = x.q) := by
  obtain ⟨e, a, b, sp, v, q⟩ := x
  dsimp only at hg hf hq ⊢
  unfold putX putS
  dsimp only
  rw [if_pos hg]
  unfold goodS at hg
  split at hg
  · cases hg
  rename_i he
  have e8 : by8 e = e := by rw [by8_eq]; omega
  by_cases he0 : e ≠ 0
  · rw [if_pos he0] at hg ⊢
    simp only [Bool.and_eq_true, decide_eq_true_eq, isZ, List.length_eq_zero_iff] at hg
    obtain ⟨rfl, rfl, rfl, ⟨hk, hb, hl⟩, hn⟩ := hg
    refine ⟨⟨e, 0, 0, [], .mk 0 0 [], nanC⟩, ?_, rfl, rfl, rfl, rfl, ?_, .inl ⟨nanC_nan, hn⟩⟩
    · unfold candS
      rw [e8, take_one1 (by omega)]
      dsimp only
      rw [if_neg he0]
    · cases v
      simp only [Va.k, Va.b, Va.l] at hk hb hl
      rw [hk, hb, hl]
  · have he1 : e = 0 := by omega
    subst he1
    rw [if_neg he0] at hg ⊢
    simp only [Bool.and_eq_true] at hg
    obtain ⟨hab, hsp, hv⟩ := hg
    unfold betweenS at hab
    simp only [Bool.and_eq_true, decide_eq_true_eq] at hab
    cases sp with
 | nil => cases hsp
 | cons s0 r =>
      unfold spansS at hsp
      simp only [Bool.and_eq_true, decide_eq_true_eq, List.length_cons] at hsp
      obtain ⟨⟨hlen, hs1, hs2⟩, hall⟩ := hsp
      have hs0 : (a, b) = s0 := by cases s0; simp only at hs1 hs2; rw [hs1, hs2]
      refine ⟨⟨0, a, b, s0 :: r, v, if nanB .f64 q then nanN else q⟩, ?_, rfl, rfl, rfl, rfl, rfl, ?_⟩
      · unfold candS
        simp only [List.cons_append, List.append_assoc, List.tail_cons, List.nil_append, e8]
        rw [take_one1 (by omega)]
        dsimp only
        rw [if_pos rfl]
        unfold bodyS
        rw [take_put (by omega)]
        dsimp only
        rw [take_put (by omega)]
        dsimp only
        rw [hs0, read_back hall (by omega)]
        dsimp only
        have hvb := val_back v hf 500 2000 (scoreB q) (by omega) hv
        rw [hvb]
        dsimp only
        rw [score_back hq, if_pos ⟨by simp [scoreB], rfl⟩]
      · cases hn : nanB .f64 q with
        | true => exact .inl ⟨by simp only [if_true]; exact nanN_nan, rfl⟩
        | false => exact .inr (by simp)
end Rp

-- The document's own reports: alike or not: walked.
namespace Rp
open Go Ab Go.Proofs.Ytdacifedlemlmaa.Mach
variable {E : Env}

theorem mneS (x y a b : Int) : binA .neq (.cells [.int .i64, .int .i64]) (.pv (.agg [.int .i64 x, .int .i64 y])) (.pv (.agg [.int .i64 a, .int .i64 b])) = some (.pv (.bool (!(decide (x = a) && decide (y = b))))) := neS x y a b

set_option maxHeartbeats 4000000 in
theorem spans_same (H : Has E 61 c61) (a b : List Sp) (ha : a.length ≤ 9223372036854775807) : limP E 61 [.sl (a.map encS), .sl (b.map encS)] = some [.bool (decide (a = b))] := by
  have ea : (a.map encS).length = a.length := by simp
  have eb : (b.map encS).length = b.length := by simp
  by_cases hl : a.length = b.length
  case neg =>
    have w1 : binA .neq .no (.pv (.int .i64 (a.length : Int))) (.pv (.int .i64 (b.length : Int))) = some (.pv (.bool true)) := by simp [binA, intBin]; omega
    have e0 : decide (a = b) = false := by
      rw [decide_eq_false_iff_not]
      rintro rfl
      exact hl rfl
    rw [e0]
    refine H.limQ (Nat.le_of_ble_eq_true rfl) ?_; unfold c61
    (repeat' first
 | apply X.retS
 | (apply X.condQ rfl; (focus (simp only [SB, reduceIte, Nat.reduceEqDiff]; with_reducible rfl)); all_goals (intro hbr; first | exact absurd hbr (by decide) | ((try rw [hbr]); (try simp at hbr))))
 | apply X.stepZ
 | (apply X.stepQ rfl; (focus (simp only [SB, reduceIte, Nat.reduceEqDiff]; with_reducible rfl)); (focus (simp [-getElem?_pos, -binA, ea, eb, w1]; with_reducible (first | rfl | exact ⟨rfl, rfl⟩))))
 | fail)
    all_goals (refine Fin.mkQ rfl (by simp only [resS, SB, reduceIte, Nat.reduceEqDiff]; with_reducible rfl) (by simp [oneOf, pureRes, snapFuel, snapL]; with_reducible rfl) ?_)
    all_goals rfl
  have w1 : binA .neq .no (.pv (.int .i64 (a.length : Int))) (.pv (.int .i64 (b.length : Int))) = some (.pv (.bool false)) := by simp [binA, intBin, hl]
  refine H.limQ (Nat.le_of_ble_eq_true rfl) ?_; unfold c61
  (repeat' first
 | apply X.skipS
 | apply X.blockS
 | (apply X.condQ rfl; (focus (simp only [SB, reduceIte, Nat.reduceEqDiff]; with_reducible rfl)); all_goals (intro hbr; first | exact absurd hbr (by decide) | ((try rw [hbr]); (try simp at hbr))))
 | apply X.stepZ
 | (apply X.stepQ rfl; (focus (simp only [SB, reduceIte, Nat.reduceEqDiff]; with_reducible rfl)); (focus (simp [-getElem?_pos, -binA, ea, eb, w1]; with_reducible (first | rfl | exact ⟨rfl, rfl⟩))))
 | fail)
  refine X.forS a.length (fun j st => a.take j = b.take j ∧ ∃ (hh : Heap) (f : Nat → V), (fk (Fk.mk (f := f)) 0 = .pv (.sl (a.map encS)) ∧ fk (Fk.mk (f := f)) 1 = .pv (.sl (b.map encS)) ∧ fk (Fk.mk (f := f)) 5 = .pv (.int .i64 (j : Int))) ∧ st = ⟨TL 26 f, hh⟩) ?_ ?_
  · exact ⟨rfl, _, _, by simp, rfl⟩
  rintro j st hj ⟨hi, hh, f, ⟨f0, f1, f5⟩, rfl⟩
  rcases Nat.lt_or_ge j a.length with hj1 | hj1
  · have w2 : binA .lss .no (.pv (.int .i64 (j : Int))) (.pv (.int .i64 (a.length : Int))) = some (.pv (.bool true)) := by simp [binA, intBin, hj1]
    have hww : IntKind.i64.wrap ((j : Int) + 1) = (j : Int) + 1 := wrap_i64 (by omega)
    have w3 : binA .add .no (.pv (.int .i64 (j : Int))) (.pv (.int .i64 1)) = some (.pv (.int .i64 ((j : Int) + 1))) := by simp [binA, intBin, hww]
    obtain ⟨x, hx⟩ := at_of_lt hj1
    obtain ⟨y, hy⟩ := at_of_lt (l := b) (j := j) (by omega)
    have hx2 : (a.map encS)[j]? = some (.agg [.int .i64 x.1, .int .i64 x.2]) := by simp [hx, encS]
    have hy2 : (b.map encS)[j]? = some (.agg [.int .i64 y.1, .int .i64 y.2]) := by simp [hy, encS]
    have w4 := neS x.1 x.2 y.1 y.2
    by_cases hxy : x = y
    · have e1 : (!(decide (x.1 = y.1) && decide (x.2 = y.2))) = false := by simp [hxy]
      rw [e1] at w4
      (repeat' first
 | apply X.skipS
 | apply X.skipB
 | apply X.skipL
 | apply X.blockS
 | (apply X.condQ rfl; (focus (simp only [SB, reduceIte, Nat.reduceEqDiff, f0, f1, f5]; with_reducible rfl)); all_goals (intro hbr; first | exact absurd hbr (by decide) | ((try rw [hbr]); (try simp at hbr))))
 | apply X.stepZ
 | (apply X.stepQ rfl; (focus (simp only [SB, reduceIte, Nat.reduceEqDiff, f0, f1, f5]; with_reducible rfl)); (focus (simp [-getElem?_pos, -binA, ea, w2, w3, w4, hx2, hy2]; with_reducible (first | rfl | exact ⟨rfl, rfl⟩))))
 | (apply X.draw0; (focus rfl))
 | apply XD.nil
 | (apply XD.calmQ rfl rfl; (focus (simp only [SB, reduceIte, Nat.reduceEqDiff, f0, f1, f5]; with_reducible rfl)); (focus (simp [-getElem?_pos, -binA, ea, w2, w3, w4, hx2, hy2]; with_reducible (first | rfl | exact ⟨rfl, rfl⟩))))
 | fail)
      all_goals refine ⟨hj1, ?_, _, _, by simp [f0, f1], rfl⟩
      all_goals rw [List.take_add_one, List.take_add_one, hx, hy, hi, hxy]
    · have e1 : (!(decide (x.1 = y.1) && decide (x.2 = y.2))) = true := by
        by_cases h1 : x.1 = y.1
        · by_cases h2 : x.2 = y.2
          · exact absurd (Prod.ext h1 h2) hxy
          · simp [h2]
        · simp [h1]
      rw [e1] at w4
      have e0 : decide (a = b) = false := by
        rw [decide_eq_false_iff_not]
        rintro rfl
        rw [hx] at hy
        exact hxy (Option.some.inj hy)
      rw [e0]
      (repeat' first
 | apply X.retS
 | apply X.skipS
 | apply X.blockS
 | (apply X.condQ rfl; (focus (simp only [SB, reduceIte, Nat.reduceEqDiff, f0, f1, f5]; with_reducible rfl)); all_goals (intro hbr; first | exact absurd hbr (by decide) | ((try rw [hbr]); (try simp at hbr))))
 | apply X.stepZ
 | (apply X.stepQ rfl; (focus (simp only [SB, reduceIte, Nat.reduceEqDiff, f0, f1, f5]; with_reducible rfl)); (focus (simp [-getElem?_pos, -binA, ea, w2, w3, w4, hx2, hy2]; with_reducible (first | rfl | exact ⟨rfl, rfl⟩))))
 | (apply X.draw0; (focus rfl))
 | apply XD.nil
 | (apply XD.calmQ rfl rfl; (focus (simp only [SB, reduceIte, Nat.reduceEqDiff, f0, f1, f5]; with_reducible rfl)); (focus (simp [-getElem?_pos, -binA, ea, w2, w3, w4, hx2, hy2]; with_reducible (first | rfl | exact ⟨rfl, rfl⟩))))
 | fail)
      all_goals (refine Fin.mkQ rfl (by simp only [resS, SB, reduceIte, Nat.reduceEqDiff]; with_reducible rfl) (by simp [oneOf, pureRes, snapFuel, snapL]; with_reducible rfl) ?_)
      all_goals rfl
  · have w2 : binA .lss .no (.pv (.int .i64 (j : Int))) (.pv (.int .i64 (a.length : Int))) = some (.pv (.bool false)) := by simp [binA, intBin, hj1]
    have e0 : decide (a = b) = true := by
      rw [decide_eq_true_iff]
      rw [List.take_of_length_le hj1, List.take_of_length_le (by omega)] at hi
      exact hi
    rw [e0]
    (repeat' first
 | apply X.retS
 | (apply X.exitS; first | apply X.here | (refine X.out (by decide) ?_; apply X.here))
 | (apply X.condQ rfl; (focus (simp only [SB, reduceIte, Nat.reduceEqDiff, f0, f1, f5]; with_reducible rfl)); all_goals (intro hbr; first | exact absurd hbr (by decide) | ((try rw [hbr]); (try simp at hbr))))
 | apply X.stepZ
 | (apply X.stepQ rfl; (focus (simp only [SB, reduceIte, Nat.reduceEqDiff, f0, f1, f5]; with_reducible rfl)); (focus (simp [-getElem?_pos, -binA, ea, w2]; with_reducible (first | rfl | exact ⟨rfl, rfl⟩))))
 | fail)
    all_goals (refine Fin.mkQ rfl (by simp only [resS, SB, reduceIte, Nat.reduceEqDiff]; with_reducible rfl) (by simp [oneOf, pureRes, snapFuel, snapL]; with_reducible rfl) ?_)
    all_goals rfl

def eqV : Va → Va → Bool
  | .mk k b l, w => decide (k = w.k) && (decide (b = w.b) && (decide (l.length = w.l.length) && eqL l w.l))
where
  eqL : List Va → List Va → Bool
  | [], _ => true
  | x :: l, ys => match ys with
 | [] => false
 | y :: m => eqV x y && eqL l m
theorem eqV_eq (v w : Va) : eqV v w = (decide (v.k = w.k) && (decide (v.b = w.b) && (decide (v.l.length = w.l.length) && eqV.eqL v.l w.l))) := by cases v; rw [eqV]; rfl
theorem eqL_iff : ∀ (l m : List Va), (∀ x ∈ l, ∀ y, eqV x y = true ↔ x = y) → l.length = m.length → (eqV.eqL l m = true ↔ l = m)
  | [], [], _, _ => by simp [eqV.eqL]
  | [], _ :: _, _, h => by simp at h
  | _ :: _, [], _, h => by simp at h
  | x :: l, y :: m, hx, h => by
    simp only [eqV.eqL, Bool.and_eq_true, List.cons.injEq]
    rw [hx x (by simp) y, eqL_iff l m (fun z hz => hx z (by simp [hz])) (by simpa using h)]
theorem eqV_iff : ∀ v w : Va, eqV v w = true ↔ v = w := by
  refine Va.ind fun v ih w => ?_
  rw [eqV_eq]
  simp only [Bool.and_eq_true, decide_eq_true_eq]
  constructor
  · rintro ⟨h1, h2, h3, h4⟩
    have h5 := (eqL_iff v.l w.l (fun x hx y => ih x hx y) h3).1 h4
    cases v; cases w
    simp only [Va.k, Va.b, Va.l] at h1 h2 h5
    rw [h1, h2, h5]
  · rintro rfl
    exact ⟨rfl, rfl, rfl, (eqL_iff v.l v.l (fun x hx y => ih x hx y) rfl).2 rfl⟩

set_option maxHeartbeats 8000000 in
theorem value_same (H : Has E 62 c62) : ∀ v, FineV v → ∀ w : Va, limP E 62 [encV v, encV w] = some [.bool (eqV v w)] := by
  refine Va.ind fun v ih hf w => ?_
  obtain ⟨_, hl, hk⟩ := fineV hf
  have ih' := fun x hx => ih x hx (hk x hx)
  clear ih
  have ea : (v.l.map encV).length = v.l.length := by simp
  have eb : (w.l.map encV).length = w.l.length := by simp
  have w1 : binA .neq .no (.pv (.int .i64 v.k)) (.pv (.int .i64 w.k)) = some (.pv (.bool (!decide (v.k = w.k)))) := by
    simp [binA, intBin, bne]
    rfl
  have w2 : binA .neq .no (.pv (.int .u8 v.b)) (.pv (.int .u8 w.b)) = some (.pv (.bool (!decide (v.b = w.b)))) := by
    simp [binA, intBin, bne]
    rfl
  have w3 : binA .neq .no (.pv (.int .i64 (v.l.length : Int))) (.pv (.int .i64 (w.l.length : Int))) = some (.pv (.bool (!decide (v.l.length = w.l.length)))) := by
    by_cases h : v.l.length = w.l.length
    · simp [binA, intBin, h]
    · simp [binA, intBin, h]; omega
  rw [eqV_eq, eV v, eV w]
  generalize decide (v.k = w.k) = p1 at w1 ⊢
  generalize decide (v.b = w.b) = p2 at w2 ⊢
  by_cases hp : p1 = true ∧ p2 = true ∧ v.l.length = w.l.length
  case neg =>
    have e0 : (p1 && (p2 && (decide (v.l.length = w.l.length) && eqV.eqL v.l w.l))) = false := by
      cases p1 <;> cases p2 <;> simp_all
    rw [e0]
    cases p1 with
 | false =>
      refine H.limQ (Nat.le_of_ble_eq_true rfl) ?_; unfold c62
      (repeat' first
 | apply X.retS
 | (apply X.condQ rfl; (focus (simp only [SB, reduceIte, Nat.reduceEqDiff]; with_reducible rfl)); all_goals (intro hbr; first | exact absurd hbr (by decide) | ((try rw [hbr]); (try simp at hbr))))
 | apply X.stepZ
 | (apply X.stepQ rfl; (focus (simp only [SB, reduceIte, Nat.reduceEqDiff]; with_reducible rfl)); (focus (simp [-getElem?_pos, -binA, w1, w2, w3, ea, eb]; with_reducible (first | rfl | exact ⟨rfl, rfl⟩))))
 | ((first | apply X.stepGtQ rfl | apply X.stepGfQ rfl); (focus (simp only [SB, reduceIte, Nat.reduceEqDiff]; with_reducible rfl)); all_goals (intro hbr; first | exact absurd hbr (by decide) | ((try rw [hbr]); (try simp at hbr))))
 | fail)
      all_goals (refine Fin.mkQ rfl (by simp only [resS, SB, reduceIte, Nat.reduceEqDiff]; with_reducible rfl) (by simp [oneOf, pureRes, snapFuel, snapL]; with_reducible rfl) ?_)
      all_goals rfl
 | true =>
      cases p2 with
      | false =>
        refine H.limQ (Nat.le_of_ble_eq_true rfl) ?_; unfold c62
        (repeat' first
 | apply X.retS
 | (apply X.condQ rfl; (focus (simp only [SB, reduceIte, Nat.reduceEqDiff]; with_reducible rfl)); all_goals (intro hbr; first | exact absurd hbr (by decide) | ((try rw [hbr]); (try simp at hbr))))
 | apply X.stepZ
 | (apply X.stepQ rfl; (focus (simp only [SB, reduceIte, Nat.reduceEqDiff]; with_reducible rfl)); (focus (simp [-getElem?_pos, -binA, w1, w2, w3, ea, eb]; with_reducible (first | rfl | exact ⟨rfl, rfl⟩))))
 | ((first | apply X.stepGtQ rfl | apply X.stepGfQ rfl); (focus (simp only [SB, reduceIte, Nat.reduceEqDiff]; with_reducible rfl)); all_goals (intro hbr; first | exact absurd hbr (by decide) | ((try rw [hbr]); (try simp at hbr))))
 | fail)
        all_goals (refine Fin.mkQ rfl (by simp only [resS, SB, reduceIte, Nat.reduceEqDiff]; with_reducible rfl) (by simp [oneOf, pureRes, snapFuel, snapL]; with_reducible rfl) ?_)
        all_goals rfl
      | true =>
        have hln : ¬ v.l.length = w.l.length := fun h => hp ⟨rfl, rfl, h⟩
        rw [decide_eq_false hln] at w3
        refine H.limQ (Nat.le_of_ble_eq_true rfl) ?_; unfold c62
        (repeat' first
 | apply X.retS
 | (apply X.condQ rfl; (focus (simp only [SB, reduceIte, Nat.reduceEqDiff]; with_reducible rfl)); all_goals (intro hbr; first | exact absurd hbr (by decide) | ((try rw [hbr]); (try simp at hbr))))
 | apply X.stepZ
 | (apply X.stepQ rfl; (focus (simp only [SB, reduceIte, Nat.reduceEqDiff]; with_reducible rfl)); (focus (simp [-getElem?_pos, -binA, w1, w2, w3, ea, eb]; with_reducible (first | rfl | exact ⟨rfl, rfl⟩))))
 | ((first | apply X.stepGtQ rfl | apply X.stepGfQ rfl); (focus (simp only [SB, reduceIte, Nat.reduceEqDiff]; with_reducible rfl)); all_goals (intro hbr; first | exact absurd hbr (by decide) | ((try rw [hbr]); (try simp at hbr))))
 | fail)
        all_goals (refine Fin.mkQ rfl (by simp only [resS, SB, reduceIte, Nat.reduceEqDiff]; with_reducible rfl) (by simp [oneOf, pureRes, snapFuel, snapL]; with_reducible rfl) ?_)
        all_goals rfl
  obtain ⟨rfl, rfl, hln⟩ := hp
  rw [decide_eq_true hln] at w3 ⊢
  simp only [Bool.true_and]
  refine H.limQ (Nat.le_of_ble_eq_true rfl) ?_; unfold c62
  (repeat' first
 | apply X.skipS
 | apply X.blockS
 | (apply X.condQ rfl; (focus (simp only [SB, reduceIte, Nat.reduceEqDiff]; with_reducible rfl)); all_goals (intro hbr; first | exact absurd hbr (by decide) | ((try rw [hbr]); (try simp at hbr))))
 | apply X.stepZ
 | (apply X.stepQ rfl; (focus (simp only [SB, reduceIte, Nat.reduceEqDiff]; with_reducible rfl)); (focus (simp [-getElem?_pos, -binA, w1, w2, w3, ea, eb]; with_reducible (first | rfl | exact ⟨rfl, rfl⟩))))
 | ((first | apply X.stepGtQ rfl | apply X.stepGfQ rfl); (focus (simp only [SB, reduceIte, Nat.reduceEqDiff]; with_reducible rfl)); all_goals (intro hbr; first | exact absurd hbr (by decide) | ((try rw [hbr]); (try simp at hbr))))
 | fail)
  refine X.forS v.l.length (fun j st => eqV.eqL (v.l.drop j) (w.l.drop j) = eqV.eqL v.l w.l ∧ ∃ (f : Nat → V), (fk (Fk.mk (f := f)) 2 = .ptr 0 0 ∧ fk (Fk.mk (f := f)) 3 = .ptr 1 0 ∧ fk (Fk.mk (f := f)) 5 = .pv (.int .i64 (j : Int))) ∧ st = ⟨TL 46 f, [.blk [.pv (.int .i64 v.k), .pv (.int .u8 v.b), .pv (.sl (v.l.map encV))] none, .blk [.pv (.int .i64 w.k), .pv (.int .u8 w.b), .pv (.sl (w.l.map encV))] none]⟩) ?_ ?_
  · exact ⟨rfl, _, by simp, rfl⟩
  rintro j st hj ⟨hi, f, ⟨f2, f3, f5⟩, rfl⟩
  rcases Nat.lt_or_ge j v.l.length with hj1 | hj1
  · have v2 : binA .lss .no (.pv (.int .i64 (j : Int))) (.pv (.int .i64 (v.l.length : Int))) = some (.pv (.bool true)) := by simp [binA, intBin, hj1]
    have hww : IntKind.i64.wrap ((j : Int) + 1) = (j : Int) + 1 := wrap_i64 (by omega)
    have v3 : binA .add .no (.pv (.int .i64 (j : Int))) (.pv (.int .i64 1)) = some (.pv (.int .i64 ((j : Int) + 1))) := by simp [binA, intBin, hww]
    obtain ⟨x, hx⟩ := at_of_lt hj1
    obtain ⟨y, hy⟩ := at_of_lt (l := w.l) (j := j) (by omega)
    have hx2 : (v.l.map encV)[j]? = some (.agg [.int .i64 x.k, .int .u8 x.b, .sl (x.l.map encV)]) := by simp [hx, eV]
    have hy2 : (w.l.map encV)[j]? = some (.agg [.int .i64 y.k, .int .u8 y.b, .sl (y.l.map encV)]) := by simp [hy, eV]
    have hc := ih' x (List.mem_of_getElem? hx) y
    rw [eV x, eV y] at hc
    rw [drop_at hx, drop_at hy] at hi
    simp only [eqV.eqL] at hi
    clear ih'
    cases hb : eqV x y with
 | true =>
      rw [hb] at hc hi
      (repeat' first
 | apply X.skipS
 | apply X.skipB
 | apply X.skipL
 | apply X.blockS
 | (apply X.condQ rfl; (focus (simp only [SB, reduceIte, Nat.reduceEqDiff, f2, f3, f5]; with_reducible rfl)); all_goals (intro hbr; first | exact absurd hbr (by decide) | ((try rw [hbr]); (try simp at hbr))))
 | apply X.stepZ
 | (apply X.stepQ rfl; (focus (simp only [SB, reduceIte, Nat.reduceEqDiff, f2, f3, f5]; with_reducible rfl)); (focus (simp [-getElem?_pos, -binA, ea, v2, v3, hx2, hy2, H.raw, hc]; with_reducible (first | rfl | exact ⟨rfl, rfl⟩))))
 | (apply X.draw0; (focus rfl))
 | apply XD.nil
 | (apply XD.calmQ rfl rfl; (focus (simp only [SB, reduceIte, Nat.reduceEqDiff, f2, f3, f5]; with_reducible rfl)); (focus (simp [-getElem?_pos, -binA, ea, v2, v3, hx2, hy2, H.raw, hc]; with_reducible (first | rfl | exact ⟨rfl, rfl⟩))))
 | (apply XD.callQ rfl; (focus (simp only [SB, reduceIte, Nat.reduceEqDiff, f2, f3, f5]; simp; with_reducible rfl)); (focus (simp; with_reducible rfl)); (focus (simp [-getElem?_pos, -binA, ea, v2, v3, hx2, hy2, H.raw, hc]; done)); (focus (simp [-getElem?_pos, -binA, ea, v2, v3, hx2, hy2, H.raw, hc]; with_reducible rfl)))
 | fail)
      all_goals exact ⟨hj1, by simpa using hi, _, by simp [f2, f3], rfl⟩
 | false =>
      rw [hb] at hc hi
      simp only [Bool.false_and] at hi
      rw [← hi]
      (repeat' first
 | apply X.retS
 | apply X.skipS
 | apply X.blockS
 | (apply X.condQ rfl; (focus (simp only [SB, reduceIte, Nat.reduceEqDiff, f2, f3, f5]; with_reducible rfl)); all_goals (intro hbr; first | exact absurd hbr (by decide) | ((try rw [hbr]); (try simp at hbr))))
 | apply X.stepZ
 | (apply X.stepQ rfl; (focus (simp only [SB, reduceIte, Nat.reduceEqDiff, f2, f3, f5]; with_reducible rfl)); (focus (simp [-getElem?_pos, -binA, ea, v2, v3, hx2, hy2, H.raw, hc]; with_reducible (first | rfl | exact ⟨rfl, rfl⟩))))
 | (apply X.draw0; (focus rfl))
 | apply XD.nil
 | (apply XD.calmQ rfl rfl; (focus (simp only [SB, reduceIte, Nat.reduceEqDiff, f2, f3, f5]; with_reducible rfl)); (focus (simp [-getElem?_pos, -binA, ea, v2, v3, hx2, hy2, H.raw, hc]; with_reducible (first | rfl | exact ⟨rfl, rfl⟩))))
 | (apply XD.callQ rfl; (focus (simp only [SB, reduceIte, Nat.reduceEqDiff, f2, f3, f5]; simp; with_reducible rfl)); (focus (simp; with_reducible rfl)); (focus (simp [-getElem?_pos, -binA, ea, v2, v3, hx2, hy2, H.raw, hc]; done)); (focus (simp [-getElem?_pos, -binA, ea, v2, v3, hx2, hy2, H.raw, hc]; with_reducible rfl)))
 | fail)
      all_goals (refine Fin.mkQ rfl (by simp only [resS, SB, reduceIte, Nat.reduceEqDiff]; with_reducible rfl) (by simp [oneOf, pureRes, snapFuel, snapL]; with_reducible rfl) ?_)
      all_goals rfl
  · have v2 : binA .lss .no (.pv (.int .i64 (j : Int))) (.pv (.int .i64 (v.l.length : Int))) = some (.pv (.bool false)) := by simp [binA, intBin, hj1]
    rw [List.drop_eq_nil_of_le hj1] at hi
    simp only [eqV.eqL] at hi
    rw [← hi]
    clear ih'
    (repeat' first
 | apply X.retS
 | (apply X.exitS; first | apply X.here | (refine X.out (by decide) ?_; apply X.here))
 | (apply X.condQ rfl; (focus (simp only [SB, reduceIte, Nat.reduceEqDiff, f2, f3, f5]; with_reducible rfl)); all_goals (intro hbr; first | exact absurd hbr (by decide) | ((try rw [hbr]); (try simp at hbr))))
 | apply X.stepZ
 | (apply X.stepQ rfl; (focus (simp only [SB, reduceIte, Nat.reduceEqDiff, f2, f3, f5]; with_reducible rfl)); (focus (simp [-getElem?_pos, -binA, ea, v2]; with_reducible (first | rfl | exact ⟨rfl, rfl⟩))))
 | fail)
    all_goals (refine Fin.mkQ rfl (by simp only [resS, SB, reduceIte, Nat.reduceEqDiff]; with_reducible rfl) (by simp [oneOf, pureRes, snapFuel, snapL]; with_reducible rfl) ?_)
    all_goals rfl
end Rp
