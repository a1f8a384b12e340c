/- SyO: steps, walks, laws: see the remarks within. -/
import Derived.Test.YtdacifedlemlmaaSyN
set_option linter.unusedSimpArgs false
set_option linter.unusedVariables false
-- The document's reading of a report is the program's: plain law.
namespace Rp
open Go Ab Go.Proofs.Ytdacifedlemlmaa.Mach

theorem one_cons (x : Int) (r : List Int) (bad : Bool) : oneS (x :: r) bad = (x, r, bad) := rfl
theorem four_cons (a b c d : Int) (r : List Int) (bad : Bool) : fourS (a :: b :: c :: d :: r) bad = (numI [a, b, c, d], r, bad) := rfl
theorem four_back {n : Int} {rest : List Int} (h : 0 ≤ n ∧ n ≤ 1073741824) : fourS (putN n ++ rest) false = (n, rest, false) := by
  have e : putN n ++ rest = by8 (n.fdiv 16777216) :: by8 (n.fdiv 65536) :: by8 (n.fdiv 256) :: by8 n :: rest := rfl
  rw [e, four_cons]
  have := numI_put h
  unfold putN at this
  rw [this]
theorem runP_back : ∀ (l acc : List Sp) (rest : List Int), l.all spanOk = true → runP l.length acc (l.flatMap spanB ++ rest) false = (acc ++ l, rest, false)
  | [], acc, rest, _ => by simp [runP]
  | s :: l, acc, rest, h => by
    simp only [List.all_cons, Bool.and_eq_true] at h
    have hs := h.1
    unfold spanOk betweenS at hs
    simp only [Bool.or_eq_true, Bool.and_eq_true, decide_eq_true_eq] at hs
    simp only [List.length_cons, runP, Bool.false_eq_true, if_false, List.flatMap_cons, List.append_assoc]
    obtain ⟨x, y⟩ := s
    dsimp only at hs
    by_cases h1 : x = -1
    · have h2 : y = -1 := by omega
      subst h1 h2
      have e : spanB (-1, -1) = [0] := rfl
      rw [e]
      simp only [List.cons_append, List.nil_append, one_cons, if_true]
      rw [runP_back l _ rest h.2]
      simp
    · have e : spanB (x, y) = 1 :: (putN x ++ putN y) := by simp [spanB, h1]
      have h3 := hs.resolve_left fun hh => h1 hh.1
      rw [e]
      simp only [List.cons_append, one_cons, List.append_assoc]
      rw [if_neg (by omega), if_pos trivial, four_back (by omega)]
      dsimp only
      rw [four_back (by omega)]
      dsimp only
      rw [runP_back l _ rest h.2]
      simp
theorem headR_cons (k : Int) (r : List Int) (bad : Bool) : headR (k :: r) bad = if k = 2 then (k, (oneS r bad).1, 0, (oneS r bad).2.1, (oneS r bad).2.2) else if k = 6 then
    (k, 0, or8 (oneS r bad).1 (oneS (oneS r bad).2.1 (oneS r bad).2.2).1, (oneS (oneS r bad).2.1 (oneS r bad).2.2).2.1, (oneS (oneS r bad).2.1 (oneS r bad).2.2).2.2) else (k, 0, ((manyS k 0).toNat : Int), r, bad) := rfl
theorem headR_back {v : Va} {rest : List Int} (hm : (v.l.length : Int) = manyS v.k v.l.length) (hb : v.k = 2 ∨ v.b = 0) (hl : v.l.length ≤ 2000) : headR (headS v ++ rest) false = (v.k, v.b, (v.l.length : Int), rest, false) := by
  have hk : 1 ≤ v.k ∧ v.k ≤ 7 := by
    have := (shape_iff v.k v.b v.l.length (by omega)).1 ⟨hm, hb⟩
    omega
  have e1 : by8 v.k = v.k := by rw [by8_eq]; omega
  unfold headS
  rw [e1, List.cons_append, headR_cons]
  by_cases h2 : v.k = 2
  · rw [if_pos h2, if_pos h2]
    have : (v.l.length : Int) = 0 := by rw [hm, h2]; rfl
    rw [this]
    rfl
  · have hb0 : v.b = 0 := hb.resolve_left h2
    rw [if_neg h2, if_neg h2]
    by_cases h6 : v.k = 6
    · rw [if_pos h6, if_pos h6]
      have r1 := by8_byt ((v.l.length : Int).fdiv 256)
      have r2 := by8_byt (v.l.length : Int)
      simp only [List.cons_append, List.nil_append, one_cons]
      rw [or8_eq (by omega) r2, hb0]
      simp only [by8_eq]
      rw [Int.fdiv_eq_ediv_of_nonneg _ (by omega)]
      have : (v.l.length : Int) / 256 % 256 * 256 + (v.l.length : Int) % 256 = v.l.length := by omega
      rw [this]
    · rw [if_neg h6, if_neg h6, hb0]
      have : manyS v.k 0 = (v.l.length : Int) := by
        rw [hm]
        simp [manyS, h6]
      rw [this]
      rfl
theorem runR_back {d : Nat} {rest : List Int} : ∀ (l acc : List Va) (n : Int), (∀ x ∈ l, ∀ (n : Int) (rest : List Int), n ≤ 2000 → (shS x d n).1 = true → valR d (valS x ++ rest) false = (x, rest, false)) → n ≤ 2000 → (shS.shL l d n).1 = true →
    runR (valR d) l.length acc (valS.valL l ++ rest) false = (acc ++ l, rest, false)
  | [], acc, n, _, _, _ => by simp [runR, valS.valL]
  | x :: l, acc, n, hx, hn, h => by
    simp only [shS.shL] at h
    by_cases hs : (shS x d n).1 = true
    · rw [if_pos hs] at h
      simp only [List.length_cons, runR, Bool.false_eq_true, if_false, valS.valL, List.append_assoc]
      rw [hx x (by simp) n (valS.valL l ++ rest) hn hs]
      dsimp only
      have h1 := (shS_le x d n).1
      rw [runR_back l (acc ++ [x]) (shS x d n).2 (fun y hy => hx y (by simp [hy])) (by omega) h]
      simp
    · rw [if_neg hs] at h; cases h
theorem valR_back : ∀ v, ∀ (d : Nat) (n : Int) (rest : List Int), n ≤ 2000 → (shS v d n).1 = true → valR d (valS v ++ rest) false = (v, rest, false) := by
  refine Va.ind fun v ih d n rest hn h => ?_
  rw [shS_eq] at h
  split at h
  · cases h
  rename_i hc
  cases d with
  | zero => exact absurd (.inl (by omega)) hc
  | succ d =>
    have e1 : ((d + 1 : Nat) : Int) - 1 = d := by omega
    rw [e1] at h
    have hn0 : ¬ n - 1 < 0 := fun hh => hc (.inr (.inl hh))
    have hm : (v.l.length : Int) = manyS v.k v.l.length := by
      by_cases hh : (v.l.length : Int) = manyS v.k v.l.length
      · exact hh
      · exact absurd (.inr (.inr (.inl hh))) hc
    have hb : v.k = 2 ∨ v.b = 0 := by
      by_cases h1 : v.k = 2
      · exact .inl h1
      · by_cases h2 : v.b = 0
        · exact .inr h2
        · exact absurd (.inr (.inr (.inr ⟨h1, h2⟩))) hc
    have hcnt := shL_cnt v.l d (n - 1) (by omega) h
    rw [valS_eq, List.append_assoc]
    simp only [valR]
    rw [headR_back hm hb (by omega)]
    dsimp only
    have e2 : (false || decide ((2000 : Int) < (v.l.length : Int))) = false := by
      rw [Bool.false_or]
      exact decide_eq_false (by omega)
    rw [e2, Int.toNat_natCast, runR_back v.l [] (n - 1) (fun x hx n rest h1 h2 => ih x hx d n rest h1 h2) (by omega) h]
    cases v
    rfl

theorem topE : BitVec.ofInt 64 (9223372036854775808 : Int) = BitVec.twoPow 64 63 := topT
theorem xorU_eq (w : Int) : xorU w = ((BitVec.ofInt 64 w ^^^ BitVec.twoPow 64 63).toNat : Int) := by unfold xorU; rw [topT, wrU]
theorem notU_eq (w : Int) : notU w = ((BitVec.allOnes 64 ^^^ BitVec.ofInt 64 w).toNat : Int) := by unfold notU; rw [ones, wrU]
theorem xorU_rng (w : Int) : 0 ≤ xorU w ∧ xorU w < 18446744073709551616 := by
  rw [xorU_eq]
  have := (BitVec.ofInt 64 w ^^^ BitVec.twoPow 64 63).isLt
  omega
theorem notU_rng (w : Int) : 0 ≤ notU w ∧ notU w < 18446744073709551616 := by
  rw [notU_eq]
  have := (BitVec.allOnes 64 ^^^ BitVec.ofInt 64 w).isLt
  omega
theorem xorU_xorU {w : Int} (h : 0 ≤ w ∧ w < 18446744073709551616) : xorU (xorU w) = w := by
  rw [xorU_eq (xorU w), xorU_eq w, oiU, BitVec.xor_assoc, BitVec.xor_self, BitVec.xor_zero, BitVec.toNat_ofInt]
  omega
theorem notU_notU {w : Int} (h : 0 ≤ w ∧ w < 18446744073709551616) : notU (notU w) = w := by
  rw [notU_eq (notU w), notU_eq w, oiU, ← BitVec.xor_assoc, BitVec.xor_self, BitVec.zero_xor, BitVec.toNat_ofInt]
  omega
theorem notU_val {w : Int} (h : 0 ≤ w ∧ w < 18446744073709551616) : notU w = 18446744073709551615 - w := by
  rw [notU_eq, BitVec.allOnes_xor, BitVec.toNat_not, BitVec.toNat_ofInt]
  omega
theorem tb63 {x : Nat} (h : x < 2 ^ 64) : x.testBit 63 = decide (2 ^ 63 ≤ x) := by
  by_cases hx : 2 ^ 63 ≤ x
  · rw [decide_eq_true hx]
    have : x = 2 ^ 63 + (x - 2 ^ 63) := by omega
    rw [this, Nat.testBit_two_pow_add_eq, Nat.testBit_lt_two_pow (by omega)]
    rfl
  · rw [decide_eq_false hx]
    exact Nat.testBit_lt_two_pow (by omega)
theorem xorU_low {w : Int} (h : 0 ≤ w ∧ w < 18446744073709551616) (ht : 9223372036854775808 ≤ w) : xorU w < 9223372036854775808 := by
  rw [xorU_eq]
  obtain ⟨X, hX⟩ : ∃ X : BitVec 64, BitVec.ofInt 64 w ^^^ BitVec.twoPow 64 63 = X := ⟨_, rfl⟩
  rw [hX]
  have h1 : X.toNat.testBit 63 = false := by
    have e : X.toNat.testBit 63 = X.getLsbD 63 := rfl
    rw [e, ← hX, BitVec.getLsbD_xor]
    have e1 : (BitVec.ofInt 64 w).getLsbD 63 = true := by
      have : (BitVec.ofInt 64 w).toNat = w.toNat := by rw [BitVec.toNat_ofInt]; omega
      show (BitVec.ofInt 64 w).toNat.testBit 63 = true
      rw [this, tb63 (by omega)]
      exact decide_eq_true (by omega)
    rw [e1]
    decide
  rw [tb63 X.isLt] at h1
  have := of_decide_eq_false h1
  omega

theorem xorU_high {w : Int} (h : 0 ≤ w ∧ w < 18446744073709551616) (ht : w < 9223372036854775808) : 9223372036854775808 ≤ xorU w := by
  rw [xorU_eq]
  obtain ⟨X, hX⟩ : ∃ X : BitVec 64, BitVec.ofInt 64 w ^^^ BitVec.twoPow 64 63 = X := ⟨_, rfl⟩
  rw [hX]
  have h1 : X.toNat.testBit 63 = true := by
    have e : X.toNat.testBit 63 = X.getLsbD 63 := rfl
    rw [e, ← hX, BitVec.getLsbD_xor]
    have e1 : (BitVec.ofInt 64 w).getLsbD 63 = false := by
      have : (BitVec.ofInt 64 w).toNat = w.toNat := by rw [BitVec.toNat_ofInt]; omega
      show (BitVec.ofInt 64 w).toNat.testBit 63 = false
      rw [this, tb63 (by omega)]
      exact decide_eq_false (by omega)
    rw [e1]
    decide
  rw [tb63 X.isLt] at h1
  have := of_decide_eq_true h1
  omega

theorem bytes_num {bs : List Int} (hb : Byt bs) (hl : bs.length = 8) : (List.range 8).map (fun i => IntKind.u8.wrap ((numU bs).fdiv (2 ^ (8 * (7 - i))))) = bs ∧ 0 ≤ numU bs ∧ numU bs < 18446744073709551616 := by
  match bs, hl with
  | [x0, x1, x2, x3, x4, x5, x6, x7], _ =>
    have r0 := hb x0 (by simp)
    have r1 := hb x1 (by simp)
    have r2 := hb x2 (by simp)
    have r3 := hb x3 (by simp)
    have r4 := hb x4 (by simp)
    have r5 := hb x5 (by simp)
    have r6 := hb x6 (by simp)
    have r7 := hb x7 (by simp)
    have e : numU [x0, x1, x2, x3, x4, x5, x6, x7] = ((((((x0 * 256 + x1) * 256 + x2) * 256 + x3) * 256 + x4) * 256 + x5) * 256 + x6) * 256 + x7 := by
      simp only [numU, List.foldl_cons, List.foldl_nil]
      rw [orU_eq (n := 0) (by omega) r0]
      rw [orU_eq (by omega) r1]
      rw [orU_eq (by omega) r2]
      rw [orU_eq (by omega) r3]
      rw [orU_eq (by omega) r4]
      rw [orU_eq (by omega) r5]
      rw [orU_eq (by omega) r6]
      rw [orU_eq (by omega) r7]
      omega
    rw [e]
    refine ⟨?_, by omega, by omega⟩
    have e2 : ∀ z : Int, (List.range 8).map (fun i => IntKind.u8.wrap (z.fdiv (2 ^ (8 * (7 - i))))) = [IntKind.u8.wrap (z.fdiv 72057594037927936), IntKind.u8.wrap (z.fdiv 281474976710656), IntKind.u8.wrap (z.fdiv 1099511627776), IntKind.u8.wrap (z.fdiv 4294967296), IntKind.u8.wrap (z.fdiv 16777216), IntKind.u8.wrap (z.fdiv 65536), IntKind.u8.wrap (z.fdiv 256), IntKind.u8.wrap (z.fdiv 1)] := fun _ => rfl
    rw [e2]
    simp only [IntKind.wrap_u8]
    rw [Int.fdiv_eq_ediv_of_nonneg _ (by omega), Int.fdiv_eq_ediv_of_nonneg _ (by omega), Int.fdiv_eq_ediv_of_nonneg _ (by omega), Int.fdiv_eq_ediv_of_nonneg _ (by omega), Int.fdiv_eq_ediv_of_nonneg _ (by omega), Int.fdiv_eq_ediv_of_nonneg _ (by omega), Int.fdiv_eq_ediv_of_nonneg _ (by omega), Int.fdiv_eq_ediv_of_nonneg _ (by omega)]
    simp only [List.cons.injEq, and_true]
    refine ⟨?_, ?_, ?_, ?_, ?_, ?_, ?_, ?_⟩ <;> omega
theorem bits_nanC : bitsS nanC = 18446744073709551615 := by decide +kernel
theorem fdiv63 {w : Int} (h : 0 ≤ w) : w.fdiv 9223372036854775808 = w / 9223372036854775808 := Int.fdiv_eq_ediv_of_nonneg _ (by omega)
theorem ofR_inv {bs : List Int} {q : Nat} (hb : Byt bs) (h : ofR bs = (q, 0)) : scoreB q = bs ∧ q < 2 ^ 64 := by
  unfold ofR at h
  by_cases hl : bs.length = 8
  case neg => rw [if_neg hl] at h; cases h
  rw [if_pos hl] at h
  obtain ⟨h1, h2⟩ := bytes_num hb hl
  have key : bitsS q = numU bs ∧ q < 2 ^ 64 → scoreB q = bs ∧ q < 2 ^ 64 := fun ⟨e, f⟩ => ⟨by unfold scoreB; rw [e]; exact h1, f⟩
  refine key ?_
  clear key h1
  generalize numU bs = w at h h2 ⊢
  by_cases ha : w = 18446744073709551615
  · rw [if_pos ha] at h
    cases h
    rw [bits_nanC, ha]
    exact ⟨rfl, by decide⟩
  rw [if_neg ha] at h
  have hx := xorU_rng w
  have hn := notU_rng w
  by_cases ht : w.fdiv 9223372036854775808 = 1
  · simp only [if_pos ht] at h
    have ht2 : 9223372036854775808 ≤ w := by rw [fdiv63 h2.1] at ht; omega
    have hlow := xorU_low h2 ht2
    split at h
    · cases h
    · rename_i hnn
      cases h
      have hq : (xorU w).toNat < 2 ^ 64 := by omega
      refine ⟨?_, hq⟩
      rw [← bits_eq hq]
      unfold bitsR
      rw [if_neg (by simpa using hnn)]
      have e : (((xorU w).toNat : Nat) : Int) = xorU w := by omega
      rw [e, fdiv63 hx.1, if_neg (by omega), xorU_xorU h2]
  · simp only [if_neg ht] at h
    have ht2 : w < 9223372036854775808 := by rw [fdiv63 h2.1] at ht; omega
    have hv := notU_val h2
    split at h
    · cases h
    · rename_i hnn
      cases h
      have hq : (notU w).toNat < 2 ^ 64 := by omega
      refine ⟨?_, hq⟩
      rw [← bits_eq hq]
      unfold bitsR
      rw [if_neg (by simpa using hnn)]
      have e : (((notU w).toNat : Nat) : Int) = notU w := by omega
      rw [e, fdiv63 hn.1, if_pos (by omega), notU_notU h2]
theorem ofR_back {q : Nat} (h : q < 2 ^ 64) : ofR (scoreB q) = (if nanB .f64 q then nanC else q, 0) := by
  have h1 : numU (scoreB q) = bitsS q := numU_back (bits_rng h)
  have hl : (scoreB q).length = 8 := by simp [scoreB]
  unfold ofR
  rw [if_pos hl, h1, ← bits_eq h]
  unfold bitsR
  cases hn : nanB .f64 q with
  | true => simp
  | false =>
    simp only [Bool.false_eq_true, if_false]
    have hq0 : (0 : Int) ≤ (q : Int) ∧ (q : Int) < 18446744073709551616 := by omega
    have hx := xorU_rng (q : Int)
    have hnv := notU_val hq0
    by_cases ht : (q : Int).fdiv 9223372036854775808 = 1
    · have ht2 : 9223372036854775808 ≤ (q : Int) := by rw [fdiv63 hq0.1] at ht; omega
      simp only [if_pos ht]
      have hlow : notU (q : Int) < 9223372036854775808 := by omega
      have f0 : ¬ (notU (q : Int)).fdiv 9223372036854775808 = 1 := by rw [fdiv63 (notU_rng _).1]; omega
      rw [if_neg (by omega)]
      simp only [if_neg f0, notU_notU hq0, Int.toNat_natCast, hn]
      simp
    · have ht2 : (q : Int) < 9223372036854775808 := by rw [fdiv63 hq0.1] at ht; omega
      simp only [if_neg ht]
      have hbig : 9223372036854775808 ≤ xorU (q : Int) := by
        exact xorU_high hq0 ht2
      have f0 : (xorU (q : Int)).fdiv 9223372036854775808 = 1 := by rw [fdiv63 hx.1]; omega
      have hne : ¬ xorU (q : Int) = 18446744073709551615 := by
        intro he
        have := xorU_xorU hq0
        rw [he] at this
        have e3 : xorU 18446744073709551615 = 9223372036854775807 := by decide
        rw [e3] at this
        have : q = 9223372036854775807 := by omega
        subst this
        exact absurd nanN_nan (by unfold nanN; rw [hn]; simp)
      rw [if_neg hne]
      simp only [if_pos f0, xorU_xorU hq0, Int.toNat_natCast, hn]
      simp

theorem one_bad (bs : List Int) : (oneS bs true).2.2 = true := by cases bs <;> rfl
theorem iter_bad : ∀ (k : Nat) (n : Int) (bs : List Int), (iterF k n bs true).2.2 = true
  | 0, _, _ => rfl
  | k + 1, n, bs => by
    simp only [iterF]
    rw [one_bad]
    exact iter_bad k _ _
theorem one_inv {bs rest : List Int} {bad : Bool} {c : Int} (hb : Byt bs) (h : oneS bs bad = (c, rest, false)) : bad = false ∧ bs = c :: rest ∧ (0 ≤ c ∧ c < 256) ∧ Byt rest := by
  cases bs with
  | nil => cases h
  | cons x r =>
    cases h
    exact ⟨rfl, rfl, hb _ (by simp), fun y hy => hb y (by simp [hy])⟩
theorem four_inv {bs rest : List Int} {bad : Bool} {n : Int} (hb : Byt bs) (h : fourS bs bad = (n, rest, false)) : bad = false ∧ bs = putN n ++ rest ∧ 0 ≤ n ∧ Byt rest := by
  have hbd : bad = false := by
    cases bad with
 | false => rfl
 | true =>
      have := iter_bad 4 0 bs
      unfold fourS at h
      rw [h] at this
      cases this
  subst hbd
  have hbad : (fourS bs false).2.2 = false := by rw [h]
  rcases bs with _ | ⟨a, _ | ⟨b, _ | ⟨c, _ | ⟨d, r⟩⟩⟩⟩
  · exact absurd hbad (by decide)
  · exact Bool.noConfusion (show true = false from hbad)
  · exact Bool.noConfusion (show true = false from hbad)
  · exact Bool.noConfusion (show true = false from hbad)
  · clear hbad
    rw [four_cons] at h
    cases h
    have ra := hb a (by simp)
    have rb := hb b (by simp)
    have rc := hb c (by simp)
    have rd := hb d (by simp)
    have e : numI [a, b, c, d] = ((a * 256 + b) * 256 + c) * 256 + d := by
      simp only [numI, List.foldl_cons, List.foldl_nil]
      rw [or8_zero ra, or8_eq (n := a) (by omega) rb, or8_eq (by omega) rc, or8_eq (by omega) rd]
    refine ⟨rfl, ?_, by omega, fun y hy => hb y (by simp [hy])⟩
    rw [e]
    unfold putN
    simp only [by8_eq]
    rw [Int.fdiv_eq_ediv_of_nonneg _ (by omega), Int.fdiv_eq_ediv_of_nonneg _ (by omega), Int.fdiv_eq_ediv_of_nonneg _ (by omega)]
    simp only [List.cons_append, List.nil_append, List.cons.injEq, and_true]
    refine ⟨?_, ?_, ?_, ?_⟩ <;> omega
theorem runP_bad (m : Nat) (acc : List Sp) (bs : List Int) : runP m acc bs true = (acc, bs, true) := by cases m <;> simp [runP]
theorem runP_inv : ∀ (m : Nat) (acc : List Sp) (bs : List Int) (bad : Bool) (sp : List Sp) (rest : List Int), Byt bs → runP m acc bs bad = (sp, rest, false) → bad = false ∧ Byt rest ∧ ∃ l, sp = acc ++ l ∧ l.length = m ∧ bs = l.flatMap spanB ++ rest
  | 0, acc, bs, bad, sp, rest, hb, h => by
    cases h
    exact ⟨rfl, hb, [], by simp, rfl, rfl⟩
  | m + 1, acc, bs, bad, sp, rest, hb, h => by
    simp only [runP] at h
    cases bad with
 | true => cases h
 | false =>
    simp only [Bool.false_eq_true, if_false] at h
    generalize hT : oneS bs false = T at h
    obtain ⟨g, bs1, bad1⟩ := T
    dsimp only at h
    by_cases g0 : g = 0
    · rw [if_pos g0] at h
      have hb1 : Byt bs1 := by have := one_byt (bad := false) hb; rw [hT] at this; exact this
      obtain ⟨rfl, h2, l, h3, h4, h5⟩ := runP_inv m _ _ _ _ _ hb1 h
      obtain ⟨_, e1, _, _⟩ := one_inv hb hT
      refine ⟨rfl, h2, (-1, -1) :: l, by simp [h3], by simp [h4], ?_⟩
      rw [e1, g0, h5]
      rfl
    rw [if_neg g0] at h
    by_cases g1 : g = 1
    · rw [if_pos g1] at h
      have hb1 : Byt bs1 := by have := one_byt (bad := false) hb; rw [hT] at this; exact this
      generalize hA : fourS bs1 bad1 = A at h
      obtain ⟨a, bs2, bad2⟩ := A
      dsimp only at h
      generalize hB : fourS bs2 bad2 = B at h
      obtain ⟨b, bs3, bad3⟩ := B
      dsimp only at h
      have hb2 : Byt bs2 := by have := four_byt (bad := bad1) hb1; rw [hA] at this; exact this
      have hb3 : Byt bs3 := by have := four_byt (bad := bad2) hb2; rw [hB] at this; exact this
      obtain ⟨rfl, h2, l, h3, h4, h5⟩ := runP_inv m _ _ _ _ _ hb3 h
      obtain ⟨rfl, e3, _, _⟩ := four_inv hb2 hB
      obtain ⟨rfl, e2, ha, _⟩ := four_inv hb1 hA
      obtain ⟨_, e1, _, _⟩ := one_inv hb hT
      refine ⟨rfl, h2, (a, b) :: l, by simp [h3], by simp [h4], ?_⟩
      have es : spanB (a, b) = 1 :: (putN a ++ putN b) := by
        have : ¬ a = -1 := by omega
        simp [spanB, this]
      rw [e1, g1, e2, e3, h5, List.flatMap_cons, es]
      simp
    · rw [if_neg g1, runP_bad] at h
      cases h
theorem headR_inv {bs rest : List Int} {bad : Bool} {k b n : Int} (hb : Byt bs) (h : headR bs bad = (k, b, n, rest, false)) : bad = false ∧ Byt rest ∧ 0 ≤ n ∧ ∀ l : List Va, (l.length : Int) = n → bs = headS (.mk k b l) ++ rest := by
  unfold headR at h
  generalize hT : oneS bs bad = T at h
  obtain ⟨c, bs1, bad1⟩ := T
  dsimp only at h
  have hb1 : Byt bs1 := by have := one_byt (bad := bad) hb; rw [hT] at this; exact this
  by_cases k2 : c = 2
  · rw [if_pos k2] at h
    generalize hU : oneS bs1 bad1 = U at h
    obtain ⟨d, bs2, bad2⟩ := U
    cases h
    obtain ⟨rfl, e2, hd, hr⟩ := one_inv hb1 hU
    obtain ⟨rfl, e1, hc, _⟩ := one_inv hb hT
    refine ⟨rfl, hr, by omega, fun l _ => ?_⟩
    rw [e1, e2]
    unfold headS
    rw [vk, vb, by8_eq, if_pos k2]
    have : k % 256 = k := by omega
    rw [this]
    rfl
  rw [if_neg k2] at h
  by_cases k6 : c = 6
  · rw [if_pos k6] at h
    generalize hU : oneS bs1 bad1 = U at h
    obtain ⟨d, bs2, bad2⟩ := U
    dsimp only at h
    have hb2 : Byt bs2 := by have := one_byt (bad := bad1) hb1; rw [hU] at this; exact this
    generalize hW : oneS bs2 bad2 = W at h
    obtain ⟨e, bs3, bad3⟩ := W
    cases h
    obtain ⟨rfl, e3, he, hr⟩ := one_inv hb2 hW
    obtain ⟨rfl, e2, hd, _⟩ := one_inv hb1 hU
    obtain ⟨rfl, e1, hc, _⟩ := one_inv hb hT
    have en : or8 d e = d * 256 + e := or8_eq (by omega) he
    refine ⟨rfl, hr, by rw [en]; omega, fun l hl => ?_⟩
    rw [en] at hl
    rw [e1, e2, e3]
    unfold headS
    rw [vk, vb, vl, if_neg k2, if_pos k6, hl]
    simp only [by8_eq]
    rw [Int.fdiv_eq_ediv_of_nonneg _ (by omega)]
    have f1 : k % 256 = k := by omega
    have f2 : (d * 256 + e) / 256 % 256 = d := by omega
    have f3 : (d * 256 + e) % 256 = e := by omega
    rw [f1, f2, f3]
    rfl
  · rw [if_neg k6] at h
    cases h
    obtain ⟨rfl, e1, hc, hr⟩ := one_inv hb hT
    refine ⟨rfl, hr, by omega, fun l _ => ?_⟩
    rw [e1]
    unfold headS
    rw [vk, vb, by8_eq, if_neg k2, if_neg k6]
    have : k % 256 = k := by omega
    rw [this]
    rfl
theorem runR_inv {f : List Int → Bool → Va × List Int × Bool} (hf : ∀ (bs : List Int) (bad : Bool) (v : Va) (rest : List Int), Byt bs → f bs bad = (v, rest, false) → bad = false ∧ Byt rest ∧ bs = valS v ++ rest) (hy : ∀ bs, Byt bs → Byt (f bs false).2.1) :
    ∀ (m : Nat) (acc : List Va) (bs : List Int) (bad : Bool) (l : List Va) (rest : List Int), Byt bs → runR f m acc bs bad = (l, rest, false) → bad = false ∧ Byt rest ∧ ∃ l', l = acc ++ l' ∧ l'.length = m ∧ bs = valS.valL l' ++ rest
  | 0, acc, bs, bad, l, rest, hb, h => by
    cases h
    exact ⟨rfl, hb, [], by simp, rfl, rfl⟩
  | m + 1, acc, bs, bad, l, rest, hb, h => by
    simp only [runR] at h
    cases bad with
 | true => cases h
 | false =>
    simp only [Bool.false_eq_true, if_false] at h
    have hyb := hy bs hb
    generalize hT : f bs false = T at h hyb
    obtain ⟨v, bs1, bad1⟩ := T
    dsimp only at h hyb
    obtain ⟨rfl, h2, l', h3, h4, h5⟩ := runR_inv hf hy m _ _ _ _ _ hyb h
    obtain ⟨_, _, e1⟩ := hf bs false v bs1 hb hT
    refine ⟨rfl, h2, v :: l', by simp [h3], by simp [h4], ?_⟩
    rw [e1, h5]
    simp [valS.valL]
theorem valR_inv : ∀ (d : Nat) (bs : List Int) (bad : Bool) (v : Va) (rest : List Int), Byt bs → valR d bs bad = (v, rest, false) → bad = false ∧ Byt rest ∧ bs = valS v ++ rest
  | 0, bs, bad, v, rest, hb, h => by
    simp only [valR] at h
    cases h
  | d + 1, bs, bad, v, rest, hb, h => by
    simp only [valR] at h
    generalize hT : headR bs bad = T at h
    obtain ⟨k, b, n, bs1, bad1⟩ := T
    dsimp only at h
    have hb1 : Byt bs1 := by have := headR_byt (bad := bad) hb; rw [hT] at this; exact this
    generalize hU : runR (valR d) n.toNat [] bs1 (bad1 || decide (2000 < n)) = U at h
    obtain ⟨l, bs2, bad2⟩ := U
    dsimp only at h
    cases h
    obtain ⟨e1, h2, l', h3, h4, h5⟩ := runR_inv (valR_inv d) (valR_byt d) _ _ _ _ _ _ hb1 hU
    rw [Bool.or_eq_false_iff] at e1
    obtain ⟨rfl, _⟩ := e1
    obtain ⟨rfl, _, hn, hh⟩ := headR_inv hb hT
    simp only [List.nil_append] at h3
    subst h3
    refine ⟨rfl, h2, ?_⟩
    rw [hh l (by omega), h5, valS_eq, List.append_assoc]
    rfl

theorem candR_inv {bs : List Int} {x : Re} (hb : Byt bs) (h : candR bs = (x, [], false)) (hg : goodX x = true) : putX x = bs ∧ FineV x.v ∧ x.q < 2 ^ 64 := by
  unfold candR at h
  generalize hT : oneS bs false = T at h
  obtain ⟨e, bs1, bad1⟩ := T
  dsimp only at h
  have hb1 : Byt bs1 := by have := one_byt (bad := false) hb; rw [hT] at this; exact this
  have hr := one_rng (bad := false) hb
  rw [hT] at hr
  dsimp only at hr
  by_cases he : 0 < e
  · rw [if_pos he] at h
    cases h
    obtain ⟨_, e1, _, _⟩ := one_inv hb hT
    refine ⟨?_, ⟨by omega, by simp, trivial⟩, (show nanC < 2 ^ 64 by decide)⟩
    unfold goodX at hg
    unfold putX putS
    dsimp only at hg ⊢
    rw [if_pos hg, if_pos (by omega), e1, by8_eq]
    have : e % 256 = e := by omega
    rw [this]
  rw [if_neg he] at h
  have he0 : e = 0 := by omega
  subst he0
  generalize hA : fourS bs1 bad1 = A at h
  obtain ⟨a, bs2, bad2⟩ := A
  dsimp only at h
  generalize hB : fourS bs2 bad2 = B at h
  obtain ⟨b, bs3, bad3⟩ := B
  dsimp only at h
  generalize hN : oneS bs3 bad3 = N at h
  obtain ⟨n, bs4, bad4⟩ := N
  dsimp only at h
  have hb2 : Byt bs2 := by have := four_byt (bad := bad1) hb1; rw [hA] at this; exact this
  have hb3 : Byt bs3 := by have := four_byt (bad := bad2) hb2; rw [hB] at this; exact this
  have hb4 : Byt bs4 := by have := one_byt (bad := bad3) hb3; rw [hN] at this; exact this
  generalize hP : runP (n.toNat - 1) [(a, b)] bs4 bad4 = P at h
  obtain ⟨sp, bs5, bad5⟩ := P
  dsimp only at h
  have hb5 : Byt bs5 := by have := runP_byt (n.toNat - 1) [(a, b)] bs4 bad4 hb4; rw [hP] at this; exact this
  unfold lastR at h
  cases hbd : (bad5 || decide (n < 1)) with
  | true =>
    rw [hbd] at h
    simp at h
  | false =>
  rw [hbd] at h
  simp only [Bool.false_eq_true, if_false] at h
  rw [Bool.or_eq_false_iff] at hbd
  obtain ⟨rfl, hn1⟩ := hbd
  have hn1 := of_decide_eq_false hn1
  generalize hV : valR 500 bs5 false = W at h
  obtain ⟨v, bs6, bad6⟩ := W
  dsimp only at h
  generalize hO : ofR bs6 = O at h
  obtain ⟨q, e2⟩ := O
  simp only [Prod.mk.injEq, Bool.or_eq_false_iff, Bool.not_eq_false', decide_eq_true_eq, true_and] at h
  obtain ⟨rfl, rfl, rfl⟩ := h
  obtain ⟨_, hb6, e6⟩ := valR_inv 500 _ _ _ _ hb5 hV
  obtain ⟨e7, hq⟩ := ofR_inv hb6 hO
  obtain ⟨rfl, _, l, hl1, hl2, e5⟩ := runP_inv _ _ _ _ _ _ hb4 hP
  obtain ⟨rfl, e4, hn, _⟩ := one_inv hb3 hN
  obtain ⟨rfl, e3, _, _⟩ := four_inv hb2 hB
  obtain ⟨rfl, e2, _, _⟩ := four_inv hb1 hA
  obtain ⟨_, e1, _, _⟩ := one_inv hb hT
  have hfv : FineV v := by have := fine_valR 500 bs5 hb5; rw [hV] at this; exact this
  refine ⟨?_, hfv, hq⟩
  have h0 : by8 0 = 0 := by decide
  have hlen : by8 ((sp.length : Nat) : Int) = n := by
    rw [by8_eq, hl1]
    simp [hl2]
    omega
  have htl : sp.tail = l := by rw [hl1]; rfl
  unfold goodX at hg
  unfold putX putS
  dsimp only at hg ⊢
  rw [if_pos hg, if_neg (by simp), h0, hlen, htl, e7, e1, e2, e3, e4, e5, e6]
  simp
theorem candR_back (x : Re) (hg : goodX x = true) (hq : x.q < 2 ^ 64) : ∃ y : Re, candR (putX x) = (y, [], false) ∧ Alike y x := by
  obtain ⟨e, a, b, sp, v, q⟩ := x
  unfold goodX at hg
  dsimp only at hg hq ⊢
  unfold putX putS Alike
  dsimp only
  rw [if_pos hg]
  unfold goodS at hg
  split at hg
  · cases hg
  rename_i he
  have e8 : by8 e = e := by rw [by8_eq]; omega
  by_cases he0 : e ≠ 0
  · rw [if_pos he0] at hg ⊢
    simp only [Bool.and_eq_true, decide_eq_true_eq, isZ, List.length_eq_zero_iff] at hg
    obtain ⟨rfl, rfl, rfl, ⟨hk, hb, hl⟩, hn⟩ := hg
    refine ⟨⟨e, 0, 0, [], .mk 0 0 [], nanC⟩, ?_, rfl, rfl, rfl, rfl, ?_, .inl ⟨nanC_nan, hn⟩⟩
    · rw [e8]
      show (if 0 < e then _ else _) = _
      rw [if_pos (by omega)]
      rfl
    · cases v
      simp only [Va.k, Va.b, Va.l] at hk hb hl
      rw [hk, hb, hl]
  · have he1 : e = 0 := by omega
    subst he1
    rw [if_neg he0] at hg ⊢
    simp only [Bool.and_eq_true] at hg
    obtain ⟨hab, hsp, hv⟩ := hg
    unfold betweenS at hab
    simp only [Bool.and_eq_true, decide_eq_true_eq] at hab
    cases sp with
 | nil => cases hsp
 | cons s0 r =>
      unfold spansS at hsp
      simp only [Bool.and_eq_true, decide_eq_true_eq, List.length_cons] at hsp
      obtain ⟨⟨hlen, hs1, hs2⟩, hall⟩ := hsp
      have hs0 : (a, b) = s0 := by cases s0; simp only at hs1 hs2; rw [hs1, hs2]
      refine ⟨⟨0, a, b, s0 :: r, v, if nanB .f64 q then nanC else q⟩, ?_, rfl, rfl, rfl, rfl, rfl, ?_⟩
      · have e0 : by8 0 = 0 := by decide
        have en : by8 (((s0 :: r).length : Nat) : Int) = (r.length : Int) + 1 := by rw [by8_eq]; simp; omega
        unfold candR
        simp only [List.cons_append, List.append_assoc, List.tail_cons, List.nil_append, e0, one_cons]
        rw [if_neg (by omega), four_back (by omega)]
        dsimp only
        rw [four_back (by omega)]
        dsimp only
        rw [en]
        simp only [one_cons]
        have e2 : ((r.length : Int) + 1).toNat - 1 = r.length := by omega
        rw [e2, runP_back r [(a, b)] _ hall]
        dsimp only
        have e3 : (false || decide ((r.length : Int) + 1 < 1)) = false := by
          rw [Bool.false_or]; exact decide_eq_false (by omega)
        show lastR a b ([(a, b)] ++ r) (valS v ++ scoreB q) (false || decide ((r.length : Int) + 1 < 1)) = _
        rw [e3]
        unfold lastR
        simp only [Bool.false_eq_true, if_false]
        rw [valR_back v 500 2000 (scoreB q) (by omega) hv]
        dsimp only
        rw [ofR_back hq, hs0]
        simp
      · cases hn : nanB .f64 q with
        | true => exact .inl ⟨by simp only [if_true]; exact nanC_nan, rfl⟩
        | false => exact .inr (by simp)
theorem Alike.refl (x : Re) : Alike x x := ⟨rfl, rfl, rfl, rfl, rfl, .inr rfl⟩
theorem get_ref {bs : List Int} (hb : Byt bs) : (getR bs).2 = (refR bs).2 ∧ Alike (getR bs).1 (refR bs).1 := by
  unfold refR
  generalize hC : candR bs = C
  obtain ⟨y, rest, bad⟩ := C
  dsimp only
  by_cases hc : bad = false ∧ rest = [] ∧ goodX y = true
  · obtain ⟨rfl, rfl, hg⟩ := hc
    rw [if_pos ⟨rfl, rfl, hg⟩]
    obtain ⟨h1, h2, h3⟩ := candR_inv hb hC hg
    obtain ⟨x, h4, h5⟩ := get_back hg h2 h3
    rw [h1] at h4
    rw [h4]
    exact ⟨rfl, h5⟩
  · rw [if_neg hc]
    rcases getR_cases hb with h1 | ⟨x, h1, h2, h3, h4⟩
    · rw [h1]
      exact ⟨rfl, Alike.refl _⟩
    · exfalso
      obtain ⟨g1, g2, g3⟩ := get_good h1
      obtain ⟨z, h5, h6⟩ := candR_back x g1 g3
      rw [g2, hC] at h5
      cases h5
      exact hc ⟨rfl, rfl, by rw [h6.good]; exact g1⟩
end Rp

-- ReportSays: walked.
namespace Rp
open Go Ab Go.Proofs.Ytdacifedlemlmaa.Mach
variable {E : Env}

theorem small_of : ∀ v, ∀ d : Int, wideS v d = false → SmV v := by
  refine Va.ind fun v ih d h => ?_
  rw [wideS_eq] at h
  simp only [Bool.or_eq_false_iff, decide_eq_false_iff_not] at h
  obtain ⟨⟨_, h2⟩, h3⟩ := h
  refine smV.2 ⟨by omega, ?_⟩
  have key : ∀ l : List Va, (∀ x ∈ l, ∀ d, wideS x d = false → SmV x) → wideS.wideL l (d - 1) = false → ∀ x ∈ l, SmV x := by
    intro l
    induction l with
 | nil => intro _ _ x hx; cases hx
 | cons y l ihl =>
      intro ih h x hx
      simp only [wideS.wideL, Bool.or_eq_false_iff] at h
      rcases List.mem_cons.1 hx with rfl | hx
      · exact ih x (by simp) _ h.1
      · exact ihl (fun z hz => ih z (by simp [hz])) h.2 x hx
  exact key v.l ih h3

def boxR (x : Re) : List V := [.pv (.int .i64 x.e), .pv (.int .i64 x.a), .pv (.int .i64 x.b), .pv (.sl (x.sp.map encS)), .pv (.int .i64 x.v.k), .pv (.int .u8 x.v.b), .pv (.sl (x.v.l.map encV)), .pv (.flt .f64 x.q)]

theorem smV_of : ∀ v, sizeT v ≤ 100000 → SmV v := by
  refine Va.ind fun v ih h => ?_
  rw [sizeT_eq] at h
  have key : ∀ l : List Va, (l.length : Int) ≤ sizeT.sumT l ∧ ∀ x ∈ l, sizeT x ≤ sizeT.sumT l := by
    intro l
    induction l with
 | nil => exact ⟨by simp [sizeT.sumT], fun x hx => by cases hx⟩
 | cons y l ihl =>
      have h1 := sizeT_pos y
      have h2 := sumT_pos l fun z _ => sizeT_pos z
      refine ⟨by simp only [List.length_cons, sizeT.sumT]; omega, fun x hx => ?_⟩
      simp only [sizeT.sumT]
      rcases List.mem_cons.1 hx with rfl | hx
      · omega
      · have := ihl.2 x hx; omega
  have hk := key v.l
  exact smV.2 ⟨by omega, fun x hx => ih x hx (by have := hk.2 x hx; omega)⟩
theorem good_small {x : Re} (h : goodX x = true) : SmV x.v := by
  unfold goodX goodS at h
  split at h
  · cases h
  · split at h
    · simp only [Bool.and_eq_true, isZ, decide_eq_true_eq, List.length_eq_zero_iff] at h
      obtain ⟨_, _, _, ⟨_, _, hl⟩, _⟩ := h
      exact smV.2 ⟨by rw [hl]; simp, fun y hy => by rw [hl] at hy; cases hy⟩
    · simp only [Bool.and_eq_true] at h
      exact smV_of _ (by have := ((sh_iff x.v 500 2000).1.1 h.2.2).1; omega)
theorem ref_q {bs : List Int} (hb : Byt bs) : (refR bs).1.q < 2 ^ 64 := by
  unfold refR
  generalize hC : candR bs = C
  obtain ⟨y, rest, bad⟩ := C
  dsimp only
  by_cases hc : bad = false ∧ rest = [] ∧ goodX y = true
  · obtain ⟨rfl, rfl, hg⟩ := hc
    rw [if_pos ⟨rfl, rfl, hg⟩]
    exact (candR_inv hb hC hg).2.2
  · rw [if_neg hc]
    decide
theorem get_fine {bs : List Int} (hb : Byt bs) : (getR bs).1.sp.length ≤ 256 ∧ FineV (getR bs).1.v ∧ SmV (getR bs).1.v ∧ (getR bs).1.q < 2 ^ 64 := by
  rcases getR_cases hb with h | ⟨x, h, h2, h3, h4⟩
  · rw [h]
    exact ⟨by simp [zeroX], ⟨by omega, by simp, trivial⟩, ⟨by simp, trivial⟩, by decide⟩
  · have hg := get_good h
    rw [h]
    exact ⟨h3, h4, good_small hg.1, hg.2.2⟩

structure HasSy (E : Env) : Prop where
  b : HasGt E
  sa : HasSa E
  rg : HasRg E
  law : Has E 7 c7
  rawake : E.raw 12 = false
  awake : limP E 12 [] = some [.bool true]
  wide : Has E 13 c13
  rof : Has E 34 c34
  vof : Has E 64 c64

set_option maxHeartbeats 16000000 in
theorem says_ok (HH : HasSy E) (x : Re) (bs : List Int) (hx : x.sp.length ≤ 9223372036854775807) (hfx : FineV x.v) (hqx : x.q < 2 ^ 64) (hb : Byt bs) :
    limP E 7 [encX x, .sl (encB bs)] = some [.bool true] := by
  have H := HH.law
  have haw := HH.awake
  have hwx := wide_ok HH.wide x.v 60 (by omega) (by omega)
  have hlx : (x.sp.map encS).length = x.sp.length := by simp
  have hlb := encB_len bs
  have w1 := gtrI (x.sp.length : Int) 40
  have w3 := gtrI (bs.length : Int) 600
  have hsx := small_of x.v 60
  rw [eV] at hwx
  unfold encX encR
  generalize hp1 : wideS x.v 60 = p1 at hwx hsx
  generalize hp3 : decide (40 < (x.sp.length : Int)) = p3 at w1
  generalize hp5 : decide (600 < (bs.length : Int)) = p5 at w3
  by_cases hw : p1 = false ∧ p3 = false ∧ p5 = false
  case neg =>
    clear hsx hp1 hp3 hp5
    refine H.limQ (Nat.le_of_ble_eq_true rfl) ?_; unfold c7
    cases p1 with
 | true =>
      (repeat' first
 | apply X.retS
 | apply X.skipS
 | (apply X.condQ rfl; (focus (simp only [SB, reduceIte, Nat.reduceEqDiff]; with_reducible rfl)); all_goals (intro hbr; first | exact absurd hbr (by decide) | ((try rw [hbr]); (try simp at hbr))))
 | apply X.stepZ
 | (apply X.stepQ rfl; (focus (simp only [SB, reduceIte, Nat.reduceEqDiff]; with_reducible rfl)); (focus (simp [-getElem?_pos, -binA, HH.rawake, haw, HH.wide.raw, hwx, hlx, hlb, w1, w3]; with_reducible (first | rfl | exact ⟨rfl, rfl⟩))))
 | ((first | apply X.stepGtQ rfl | apply X.stepGfQ rfl); (focus (simp only [SB, reduceIte, Nat.reduceEqDiff]; with_reducible rfl)); all_goals (intro hbr; first | exact absurd hbr (by decide) | ((try rw [hbr]); (try simp at hbr))))
 | fail)
      all_goals (refine Fin.mkQ rfl (by simp only [resS, SB, reduceIte, Nat.reduceEqDiff]; with_reducible rfl) (by simp [oneOf, pureRes, snapFuel, snapL]; with_reducible rfl) ?_)
      all_goals rfl
 | false =>
    cases p3 with
 | true =>
      (repeat' first
 | apply X.retS
 | apply X.skipS
 | (apply X.condQ rfl; (focus (simp only [SB, reduceIte, Nat.reduceEqDiff]; with_reducible rfl)); all_goals (intro hbr; first | exact absurd hbr (by decide) | ((try rw [hbr]); (try simp at hbr))))
 | apply X.stepZ
 | (apply X.stepQ rfl; (focus (simp only [SB, reduceIte, Nat.reduceEqDiff]; with_reducible rfl)); (focus (simp [-getElem?_pos, -binA, HH.rawake, haw, HH.wide.raw, hwx, hlx, hlb, w1, w3]; with_reducible (first | rfl | exact ⟨rfl, rfl⟩))))
 | ((first | apply X.stepGtQ rfl | apply X.stepGfQ rfl); (focus (simp only [SB, reduceIte, Nat.reduceEqDiff]; with_reducible rfl)); all_goals (intro hbr; first | exact absurd hbr (by decide) | ((try rw [hbr]); (try simp at hbr))))
 | fail)
      all_goals (refine Fin.mkQ rfl (by simp only [resS, SB, reduceIte, Nat.reduceEqDiff]; with_reducible rfl) (by simp [oneOf, pureRes, snapFuel, snapL]; with_reducible rfl) ?_)
      all_goals rfl
 | false =>
    cases p5 with
 | true =>
      (repeat' first
 | apply X.retS
 | apply X.skipS
 | (apply X.condQ rfl; (focus (simp only [SB, reduceIte, Nat.reduceEqDiff]; with_reducible rfl)); all_goals (intro hbr; first | exact absurd hbr (by decide) | ((try rw [hbr]); (try simp at hbr))))
 | apply X.stepZ
 | (apply X.stepQ rfl; (focus (simp only [SB, reduceIte, Nat.reduceEqDiff]; with_reducible rfl)); (focus (simp [-getElem?_pos, -binA, HH.rawake, haw, HH.wide.raw, hwx, hlx, hlb, w1, w3]; with_reducible (first | rfl | exact ⟨rfl, rfl⟩))))
 | ((first | apply X.stepGtQ rfl | apply X.stepGfQ rfl); (focus (simp only [SB, reduceIte, Nat.reduceEqDiff]; with_reducible rfl)); all_goals (intro hbr; first | exact absurd hbr (by decide) | ((try rw [hbr]); (try simp at hbr))))
 | fail)
      all_goals (refine Fin.mkQ rfl (by simp only [resS, SB, reduceIte, Nat.reduceEqDiff]; with_reducible rfl) (by simp [oneOf, pureRes, snapFuel, snapL]; with_reducible rfl) ?_)
      all_goals rfl
 | false => exact absurd ⟨rfl, rfl, rfl⟩ hw
  obtain ⟨rfl, rfl, rfl⟩ := hw
  simp only [decide_eq_false_iff_not] at hp3 hp5
  have sx := hsx rfl
  clear hsx hp1
  have e9 : ∀ z : Re, encX z = .agg [.int .i64 z.e, .int .i64 z.a, .int .i64 z.b, .sl (z.sp.map encS), .int .i64 z.v.k, .int .u8 z.v.b, .sl (z.v.l.map encV), .flt .f64 z.q] := fun _ => rfl
  have hgd := good_ok HH.b.u.g x.e x.a x.b x.sp x.v x.q hx hfx
  have hgr := goodr_ok HH.rg.p.w.g x.e x.a x.b x.sp x.v x.q hx hfx
  rw [goodRS_eq] at hgr
  have egx : goodS x.e x.a x.b x.sp x.v x.q = goodX x := rfl
  rw [egx] at hgd hgr
  have hpt := Put_pure HH.b.putc HH.b.u x.e x.a x.b x.sp x.v x.q hx hfx
  have epx : putS x.e x.a x.b x.sp x.v x.q = putX x := rfl
  rw [epx] at hpt
  have hpr := putr_ok HH.rg.p x hx hfx hqx
  have r1 := reportof_ok HH.rof HH.vof x (by omega) sx
  have hgt := get_ok HH.b bs hb
  have hrt := getr_ok HH.rg bs hb
  obtain ⟨g1, g2⟩ := get_ref hb
  obtain ⟨f1, f2, f3, f4⟩ := get_fine hb
  have f5 := ref_q hb
  rw [← g1] at hrt
  generalize (getR bs).1 = y at hgt g2 f1 f2 f3 f4
  generalize (refR bs).1 = z at hrt g2 f5
  generalize (getR bs).2 = e at hgt hrt
  have r2 := reportof_ok HH.rof HH.vof y (by omega) f3
  have s1 := same_alike HH.sa y z (by omega) f2 f4 f5
  rw [alikeB_iff.2 g2] at s1
  simp only [encR] at hgd hgr hpt
  rw [e9] at hpr hgt hrt r1 r2 s1
  try rw [e9 z] at s1
  have b1 := bytesB (putX x)
  have c1 : ∀ h, convA .bytesStr (.pv (.sl (encB (putX x)))) h = some (.pv (.str ((putX x).map fun n => UInt8.ofNat n.toNat))) := fun h => by simp only [convA, pureElems, b1, Option.map_some]
  have w7 : binA .eql .no (.pv (.str ((putX x).map fun n => UInt8.ofNat n.toNat))) (.pv (.str ((putX x).map fun n => UInt8.ofNat n.toNat))) = some (.pv (.bool true)) := by simp [binA, strBin]
  generalize ((putX x).map fun n => UInt8.ofNat n.toNat) = S at c1 w7
  generalize encB (putX x) = P at c1 hpt hpr
  generalize goodX x = gx at hgd hgr
  have w8 : binA .eql .bool (.pv (.bool gx)) (.pv (.bool gx)) = some (.pv (.bool true)) := by cases gx <;> rfl
  have w9 : binA .eql .no (.pv (.int .i64 e)) (.pv (.int .i64 e)) = some (.pv (.bool true)) := by simp [binA, intBin]
  clear b1 g1 g2 f1 f2 f3 f4 f5 egx epx
  refine H.limQ (Nat.le_of_ble_eq_true rfl) ?_; unfold c7
  (repeat' first
 | apply X.skipS
 | (apply X.condQ rfl; (focus (simp only [SB, reduceIte, Nat.reduceEqDiff]; with_reducible rfl)); all_goals (intro hbr; first | exact absurd hbr (by decide) | ((try rw [hbr]); (try simp at hbr))))
 | apply X.stepZ
 | (apply X.stepQ rfl; (focus (simp only [SB, reduceIte, Nat.reduceEqDiff]; with_reducible rfl)); (focus (simp [-getElem?_pos, -binA, HH.rawake, haw, HH.wide.raw, hwx, hlx, hlb, w1, w3, HH.rof.raw, r1, HH.b.get.raw, hgt, HH.rg.get.raw, hrt]; with_reducible (first | rfl | exact ⟨rfl, rfl⟩))))
 | ((first | apply X.stepGtQ rfl | apply X.stepGfQ rfl); (focus (simp only [SB, reduceIte, Nat.reduceEqDiff]; with_reducible rfl)); all_goals (intro hbr; first | exact absurd hbr (by decide) | ((try rw [hbr]); (try simp at hbr))))
 | fail)
  refine X.abs2 (fun st => ∃ (f : Nat → V), (fk (Fk.mk (f := f)) 2 = .ptr 0 0 ∧ fk (Fk.mk (f := f)) 5 = .ptr 1 0 ∧ fk (Fk.mk (f := f)) 6 = .ptr 2 0 ∧ fk (Fk.mk (f := f)) 7 = .pv (.int .i64 e) ∧ fk (Fk.mk (f := f)) 8 = .ptr 3 0 ∧ fk (Fk.mk (f := f)) 9 = .pv (.int .i64 e)) ∧ st = ⟨TL 63 f, [.blk (boxR x) none, .blk (boxR x) (some 70), .blk (boxR y) (some 33), .blk (boxR z) (some 70)]⟩) ?_ ?_
  · exact ⟨_, by simp, rfl⟩
  rintro st ⟨f, ⟨f2, f5, f6, f7, f8, f9⟩, rfl⟩
  unfold boxR
  clear hgt hrt r1 w1 w3 hwx haw hlx hlb
  refine X.drawP [] [0, 1, 2, 3] rfl ?_
  (repeat' first
 | apply XC.nil
 | (apply XC.calmQ rfl rfl rfl; (focus (simp only [SB, reduceIte, Nat.reduceEqDiff, f2, f5, f6, f7, f8, f9]; with_reducible rfl)); (focus (simp [-getElem?_pos, -binA, -convA, w7, w8, w9, c1, HH.b.u.rg, hgd, HH.rg.p.w.g.good.raw, hgr, HH.b.rput, hpt, HH.rg.p.put.raw, hpr, HH.rof.raw, r2, HH.sa.same.raw, s1]; done)); (focus (simp [-getElem?_pos, -binA, -convA, w7, w8, w9, c1, HH.b.u.rg, hgd, HH.rg.p.w.g.good.raw, hgr, HH.b.rput, hpt, HH.rg.p.put.raw, hpr, HH.rof.raw, r2, HH.sa.same.raw, s1]; with_reducible (first | rfl | exact ⟨rfl, rfl⟩))))
 | (apply XC.callP rfl; (focus (simp only [SB, reduceIte, Nat.reduceEqDiff, f2, f5, f6, f7, f8, f9]; simp; with_reducible rfl)); (focus (simp; with_reducible rfl)); (focus (simp [-getElem?_pos, -binA, -convA, w7, w8, w9, c1, HH.b.u.rg, hgd, HH.rg.p.w.g.good.raw, hgr, HH.b.rput, hpt, HH.rg.p.put.raw, hpr, HH.rof.raw, r2, HH.sa.same.raw, s1]; done)); (focus (simp [-getElem?_pos, -binA, -convA, w7, w8, w9, c1, HH.b.u.rg, hgd, HH.rg.p.w.g.good.raw, hgr, HH.b.rput, hpt, HH.rg.p.put.raw, hpr, HH.rof.raw, r2, HH.sa.same.raw, s1]; with_reducible rfl)))
 | (apply XC.convP rfl; (focus (simp only [SB, reduceIte, Nat.reduceEqDiff, f2, f5, f6, f7, f8, f9]; with_reducible rfl)); (focus (simp [foot, oIds, V.ids]; done)); (focus (simp [-getElem?_pos, -binA, -convA, w7, w8, w9, c1, HH.b.u.rg, hgd, HH.rg.p.w.g.good.raw, hgr, HH.b.rput, hpt, HH.rg.p.put.raw, hpr, HH.rof.raw, r2, HH.sa.same.raw, s1]; with_reducible (first | rfl | exact ⟨rfl, rfl⟩))))
 | ((first | apply XC.stepGtQ rfl | apply XC.stepGfQ rfl); (focus (simp only [SB, reduceIte, Nat.reduceEqDiff, f2, f5, f6, f7, f8, f9]; with_reducible rfl)); all_goals (intro hbr; first | exact absurd hbr (by decide) | ((try rw [hbr]); (try simp at hbr))))
 | fail)
  (repeat' first
 | apply X.retS
 | fail)
  all_goals (refine Fin.mkQ rfl (by simp only [resS, SB, reduceIte, Nat.reduceEqDiff]; with_reducible rfl) (by simp [oneOf, pureRes, snapFuel, snapL]; with_reducible rfl) ?_)
  all_goals rfl
end Rp
