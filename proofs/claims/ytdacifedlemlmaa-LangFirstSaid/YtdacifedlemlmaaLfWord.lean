/- Sets as four words: how many, both together; walked. -/
import Derived.Test.YtdacifedlemlmaaLfPop
set_option linter.unusedSimpArgs false
set_option linter.unusedVariables false
namespace Lng
open Go Ab Cps Go.Proofs.Ytdacifedlemlmaa.Mach
variable {E : Env}

/-- Four words. -/
structure W4 where
  a : Int
  b : Int
  c : Int
  d : Int
def W4.fine (w : W4) : Prop := (0 ≤ w.a ∧ w.a < 2 ^ 64) ∧ (0 ≤ w.b ∧ w.b < 2 ^ 64) ∧ (0 ≤ w.c ∧ w.c < 2 ^ 64) ∧ (0 ≤ w.d ∧ w.d < 2 ^ 64)
def enc4 (w : W4) : PV := .agg [.int .u64 w.a, .int .u64 w.b, .int .u64 w.c, .int .u64 w.d]
def zero4 : W4 := ⟨0, 0, 0, 0⟩
def set4 (c : Co) : W4 := ⟨c.s0, c.s1, c.s2, c.s3⟩
/-- Whether a byte is in it. -/
def has4 (w : W4) (b : Int) : Bool :=
  let x := if b < 64 then w.a else if b < 128 then w.b else if b < 192 then w.c else w.d
  decide (x.fdiv (2 ^ min (b.tmod 64).toNat 64) % 2 = 1)
theorem has4_eq (c : Co) (b : Int) : hasS c b = has4 (set4 c) b := rfl

/-- Two words together. -/
def orI (x y : Int) : Int := IntKind.u64.wrap (BitVec.ofInt 64 x ||| BitVec.ofInt 64 y).toNat
theorem orI_nat (x y : Nat) (hx : x < 2 ^ 64) (hy : y < 2 ^ 64) : orI x y = ((x ||| y : Nat) : Int) := by
  have h : x ||| y < 2 ^ 64 := Nat.or_lt_two_pow hx hy
  have e : (BitVec.ofInt 64 (x : Int) ||| BitVec.ofInt 64 (y : Int)).toNat = x ||| y := by
    simp only [BitVec.toNat_or, BitVec.ofInt_natCast, BitVec.toNat_ofNat]
    rw [Nat.mod_eq_of_lt hx, Nat.mod_eq_of_lt hy]
  unfold orI
  rw [e]
  simp [IntKind.wrap, IntKind.signed, IntKind.bits]
  omega
theorem bit_nat (x k : Nat) : ((x : Int).fdiv (2 ^ k) % 2 = 1) ↔ x.testBit k = true := by
  have e : (x : Int).fdiv (2 ^ k) = ((x / 2 ^ k : Nat) : Int) := by
    rw [Int.fdiv_eq_ediv_of_nonneg _ (Int.pow_nonneg (by omega))]
    simp
  rw [e, Nat.testBit_eq_decide_div_mod_eq]
  simp only [decide_eq_true_eq]
  omega
theorem bit_or {x y : Int} (hx : 0 ≤ x ∧ x < 2 ^ 64) (hy : 0 ≤ y ∧ y < 2 ^ 64) (k : Nat) : ((orI x y).fdiv (2 ^ k) % 2 = 1) ↔ (x.fdiv (2 ^ k) % 2 = 1 ∨ y.fdiv (2 ^ k) % 2 = 1) := by
  obtain ⟨n, rfl⟩ := Int.eq_ofNat_of_zero_le hx.1
  obtain ⟨m, rfl⟩ := Int.eq_ofNat_of_zero_le hy.1
  rw [orI_nat n m (by omega) (by omega), bit_nat, bit_nat, bit_nat, Nat.testBit_or, Bool.or_eq_true]
theorem orI_fine {x y : Int} (hx : 0 ≤ x ∧ x < 2 ^ 64) (hy : 0 ≤ y ∧ y < 2 ^ 64) : 0 ≤ orI x y ∧ orI x y < 2 ^ 64 := by
  obtain ⟨n, rfl⟩ := Int.eq_ofNat_of_zero_le hx.1
  obtain ⟨m, rfl⟩ := Int.eq_ofNat_of_zero_le hy.1
  rw [orI_nat n m (by omega) (by omega)]
  have h : n ||| m < 2 ^ 64 := Nat.or_lt_two_pow (by omega) (by omega)
  omega
def or4 (x y : W4) : W4 := ⟨orI x.a y.a, orI x.b y.b, orI x.c y.c, orI x.d y.d⟩
theorem fine_or4 {x y : W4} (hx : x.fine) (hy : y.fine) : (or4 x y).fine :=
  ⟨orI_fine hx.1 hy.1, orI_fine hx.2.1 hy.2.1, orI_fine hx.2.2.1 hy.2.2.1, orI_fine hx.2.2.2 hy.2.2.2⟩
theorem has_or4 {x y : W4} (hx : x.fine) (hy : y.fine) (b : Int) : has4 (or4 x y) b = (has4 x b || has4 y b) := by
  rw [Bool.eq_iff_iff, Bool.or_eq_true]
  simp only [has4, decide_eq_true_eq, or4]
  split
  · rw [decide_eq_true_iff]; exact bit_or hx.1 hy.1 _
  · split
    · rw [decide_eq_true_iff]; exact bit_or hx.2.1 hy.2.1 _
    · split
      · rw [decide_eq_true_iff]; exact bit_or hx.2.2.1 hy.2.2.1 _
      · rw [decide_eq_true_iff]; exact bit_or hx.2.2.2 hy.2.2.2 _

/-- How many. -/
def len4 (w : W4) : Nat := pop64 w.a.toNat + pop64 w.b.toNat + pop64 w.c.toNat + pop64 w.d.toNat
theorem bit_zero (k : Nat) : ¬ ((0 : Int).fdiv (2 ^ k) % 2 = 1) := by simp
theorem len_pos {w : W4} (hf : w.fine) {b : Int} (h : has4 w b = true) : 0 < len4 w := by
  obtain ⟨ha, hb, hc, hd⟩ := hf
  have key : ∀ x : Int, 0 ≤ x → x < 2 ^ 64 → x ≠ 0 → 0 < pop64 x.toNat := fun x h0 h1 hne => by
    rcases Nat.eq_zero_or_pos (pop64 x.toNat) with h | h
    · have := pop_zero (x := x.toNat) (by omega) h; omega
    · exact h
  have nz : ∀ (x : Int) (k : Nat), x.fdiv (2 ^ k) % 2 = 1 → x ≠ 0 := fun x k h h0 => by rw [h0] at h; exact bit_zero k h
  simp only [has4, decide_eq_true_eq] at h
  unfold len4
  split at h
  · have := key w.a ha.1 ha.2 (nz _ _ h); omega
  · split at h
    · have := key w.b hb.1 hb.2 (nz _ _ h); omega
    · split at h
      · have := key w.c hc.1 hc.2 (nz _ _ h); omega
      · have := key w.d hd.1 hd.2 (nz _ _ h); omega

/-- Words, step by step. -/
theorem binN {op : BinOp} {a b r : Nat} (h : intBin op .u64 a .u64 b = some (.int .u64 r)) : binA op .no (.pv (.int .u64 (a : Int))) (.pv (.int .u64 (b : Int))) = some (.pv (.int .u64 (r : Int))) := by
  simp only [binA, h, Option.map_some]
theorem shrN (a k d : Nat) (hk : k ≤ 64) (hd : d = 2 ^ k) : intBin .shr .u64 a .u64 k = some (.int .u64 ((a / d : Nat) : Int)) := by
  subst hd
  have e : (a : Int).fdiv (2 ^ k) = ((a / 2 ^ k : Nat) : Int) := by
    rw [Int.fdiv_eq_ediv_of_nonneg _ (Int.pow_nonneg (by omega))]
    simp
  simp only [intBin]
  rw [if_neg (by omega)]
  have : min ((k : Int).toNat) (IntKind.u64.bits) = k := by simp [IntKind.bits]; omega
  rw [this, e]
theorem wrapN {a : Nat} (h : a < 2 ^ 64) : IntKind.u64.wrap (a : Int) = (a : Int) := by
  simp [IntKind.wrap, IntKind.signed, IntKind.bits]; omega
theorem andN (a m : Nat) (ha : a < 2 ^ 64) (hm : m < 2 ^ 64) : intBin .and .u64 a .u64 m = some (.int .u64 ((a &&& m : Nat) : Int)) := by
  have e : (BitVec.ofInt 64 (a : Int) &&& BitVec.ofInt 64 (m : Int)).toNat = a &&& m := by
    simp only [BitVec.toNat_and, BitVec.ofInt_natCast, BitVec.toNat_ofNat]
    rw [Nat.mod_eq_of_lt ha, Nat.mod_eq_of_lt hm]
  have hl : a &&& m < 2 ^ 64 := Nat.and_lt_two_pow a hm
  have key : intBin .and .u64 (a : Int) .u64 (m : Int) = some (.int .u64 (IntKind.u64.wrap (((BitVec.ofInt 64 (a : Int) &&& BitVec.ofInt 64 (m : Int)).toNat : Nat) : Int))) := rfl
  rw [key, e, wrapN hl]
theorem addN (a b : Nat) (h : a + b < 2 ^ 64) : intBin .add .u64 a .u64 b = some (.int .u64 ((a + b : Nat) : Int)) := by
  simp only [intBin]
  have := wrapN h
  rw [← Int.natCast_add, this]
  simp

structure HasW4 (E : Env) : Prop where
  ones : Has E 91 c91
  len : Has E 90 c90
  or : Has E 86 c86

theorem rep8 : rep 85 8 = 6148914691236517205 ∧ rep 51 8 = 3689348814741910323 ∧ rep 15 8 = 1085102592571150095 := by decide

set_option maxHeartbeats 4000000 in
theorem ones_ok (HH : HasW4 E) (x : Nat) (hx : x < 2 ^ 64) : limP E 91 [.int .u64 (x : Int)] = some [.int .i64 ((pop64 x : Nat) : Int)] := by
  have H := HH.ones
  obtain ⟨r1, r2, r3⟩ := rep8
  have hp := pop_eq hx rfl rfl rfl rfl
  simp only [step1, step2, step3, r1, r2, r3] at hp
  obtain ⟨a1, e1⟩ : ∃ a, a = x / 2 := ⟨_, rfl⟩
  obtain ⟨a2, e2⟩ : ∃ a, a = a1 &&& 6148914691236517205 := ⟨_, rfl⟩
  obtain ⟨a3, e3⟩ : ∃ a, a = x &&& 6148914691236517205 := ⟨_, rfl⟩
  rw [← e1, ← e2, ← e3] at hp
  have l2 : a2 ≤ 6148914691236517205 := by rw [e2]; exact Nat.and_le_right
  have l3 : a3 ≤ 6148914691236517205 := by rw [e3]; exact Nat.and_le_right
  obtain ⟨a4, e4⟩ : ∃ a, a = a2 + a3 := ⟨_, rfl⟩
  rw [← e4] at hp
  obtain ⟨a5, e5⟩ : ∃ a, a = a4 / 4 := ⟨_, rfl⟩
  obtain ⟨a6, e6⟩ : ∃ a, a = a5 &&& 3689348814741910323 := ⟨_, rfl⟩
  obtain ⟨a7, e7⟩ : ∃ a, a = a4 &&& 3689348814741910323 := ⟨_, rfl⟩
  rw [← e5, ← e6, ← e7] at hp
  have l6 : a6 ≤ 3689348814741910323 := by rw [e6]; exact Nat.and_le_right
  have l7 : a7 ≤ 3689348814741910323 := by rw [e7]; exact Nat.and_le_right
  obtain ⟨a8, e8⟩ : ∃ a, a = a6 + a7 := ⟨_, rfl⟩
  rw [← e8] at hp
  obtain ⟨a9, e9⟩ : ∃ a, a = a8 / 16 := ⟨_, rfl⟩
  obtain ⟨a10, e10⟩ : ∃ a, a = a9 + a8 := ⟨_, rfl⟩
  obtain ⟨a11, e11⟩ : ∃ a, a = a10 &&& 1085102592571150095 := ⟨_, rfl⟩
  rw [← e9, ← e10, ← e11] at hp
  obtain ⟨a12, e12⟩ : ∃ a, a = a11 / 256 := ⟨_, rfl⟩
  obtain ⟨a13, e13⟩ : ∃ a, a = a11 + a12 := ⟨_, rfl⟩
  rw [← e12, Nat.add_comm a12, ← e13] at hp
  obtain ⟨a14, e14⟩ : ∃ a, a = a13 / 65536 := ⟨_, rfl⟩
  obtain ⟨a15, e15⟩ : ∃ a, a = a13 + a14 := ⟨_, rfl⟩
  rw [← e14, Nat.add_comm a14, ← e15] at hp
  obtain ⟨a16, e16⟩ : ∃ a, a = a15 / 4294967296 := ⟨_, rfl⟩
  obtain ⟨a17, e17⟩ : ∃ a, a = a15 + a16 := ⟨_, rfl⟩
  rw [← e16, Nat.add_comm a16, ← e17] at hp
  obtain ⟨p1, p2, p3, p4, p5⟩ := hp
  have f1 := binN (e1 ▸ shrN x 1 2 (by omega) rfl)
  have f2 := binN (e2 ▸ andN a1 6148914691236517205 (by omega) (by omega))
  have f3 := binN (e3 ▸ andN x 6148914691236517205 (by omega) (by omega))
  have f4 := binN (e4 ▸ addN a2 a3 (by omega))
  have f5 := binN (e5 ▸ shrN a4 2 4 (by omega) rfl)
  have f6 := binN (e6 ▸ andN a5 3689348814741910323 (by omega) (by omega))
  have f7 := binN (e7 ▸ andN a4 3689348814741910323 (by omega) (by omega))
  have f8 := binN (e8 ▸ addN a6 a7 (by omega))
  have f9 := binN (e9 ▸ shrN a8 4 16 (by omega) rfl)
  have f10 := binN (e10 ▸ addN a9 a8 (by omega))
  have f11 := binN (e11 ▸ andN a10 1085102592571150095 (by omega) (by omega))
  have f12 := binN (e12 ▸ shrN a11 8 256 (by omega) rfl)
  have f13 := binN (e13 ▸ addN a11 a12 (by omega))
  have f14 := binN (e14 ▸ shrN a13 16 65536 (by omega) rfl)
  have f15 := binN (e15 ▸ addN a13 a14 (by omega))
  have f16 := binN (e16 ▸ shrN a15 32 4294967296 (by omega) rfl)
  have f17 := binN (e17 ▸ addN a15 a16 (by omega))
  have f18 : convA (.int .i64) (.pv (.int .u64 (a17 : Int))) [] = some (.pv (.int .i64 (a17 : Int))) := by
    have : IntKind.i64.wrap (a17 : Int) = (a17 : Int) := wrap_i64 (by omega)
    simp [convA, this]
  have f19 : binA .and .no (.pv (.int .i64 (a17 : Int))) (.pv (.int .i64 127)) = some (.pv (.int .i64 ((pop64 x : Nat) : Int))) := by
    have e : (BitVec.ofInt 64 (a17 : Int) &&& BitVec.ofInt 64 (127 : Int)).toNat = a17 % 128 := by
      have hm : (127 : Int) = ((127 : Nat) : Int) := rfl
      rw [hm]
      simp only [BitVec.toNat_and, BitVec.ofInt_natCast, BitVec.toNat_ofNat]
      rw [Nat.mod_eq_of_lt (by omega : a17 < 2 ^ 64)]
      exact Nat.and_two_pow_sub_one_eq_mod a17 7
    have hw : IntKind.i64.wrap ((a17 % 128 : Nat) : Int) = ((a17 % 128 : Nat) : Int) := wrap_i64 (by omega)
    have key : intBin .and .i64 (a17 : Int) .i64 127 = some (.int .i64 (IntKind.i64.wrap (((BitVec.ofInt 64 (a17 : Int) &&& BitVec.ofInt 64 (127 : Int)).toNat : Nat) : Int))) := rfl
    rw [p5] at hw e
    simp only [binA, key, e, hw, Option.map_some]
  simp only [show ((1 : Nat) : Int) = 1 from rfl, show ((2 : Nat) : Int) = 2 from rfl, show ((4 : Nat) : Int) = 4 from rfl, show ((8 : Nat) : Int) = 8 from rfl, show ((16 : Nat) : Int) = 16 from rfl, show ((32 : Nat) : Int) = 32 from rfl, show ((6148914691236517205 : Nat) : Int) = 6148914691236517205 from rfl, show ((3689348814741910323 : Nat) : Int) = 3689348814741910323 from rfl, show ((1085102592571150095 : Nat) : Int) = 1085102592571150095 from rfl] at f1 f2 f3 f5 f6 f7 f9 f11 f12 f14 f16
  clear p1 p2 p3 p4 p5 l2 l3 l6 l7 e1 e2 e3 e4 e5 e6 e7 e8 e9 e10 e11 e12 e13 e14 e15 e16 e17 r1 r2 r3 hx
  refine H.limQ (Nat.le_of_ble_eq_true rfl) ?_; unfold c91
  (repeat' first
    | apply X.retS
    | apply X.skipS
    | apply X.skipB
    | apply X.skipL
    | (apply X.exitS; first | apply X.here | (refine X.out (by decide) ?_; apply X.here))
    | apply X.blockS
    | (apply X.condQ rfl; (focus (simp only [sub, subO, subL, subM, sub3, sub2, fk_some, fk_none, fk_arg0, fk_argS, fk_argN, fk_map0, fk_mapS, fk_mapN, reduceIte, Nat.reduceEqDiff, Nat.reduceAdd]; with_reducible rfl)); all_goals (intro hbr; first | exact absurd hbr (by decide) | ((try rw [hbr]); (try simp at hbr))))
    | apply X.stepZ
    | (apply X.stepQ rfl; (focus (simp only [sub, subO, subL, subM, sub3, sub2, fk_some, fk_none, fk_arg0, fk_argS, fk_argN, fk_map0, fk_mapS, fk_mapN, reduceIte, Nat.reduceEqDiff, Nat.reduceAdd]; with_reducible rfl)); (focus (simp [-getElem?_pos, -binA, -convA, f1, f2, f3, f4, f5, f6, f7, f8, f9, f10, f11, f12, f13, f14, f15, f16, f17, f18, f19]; with_reducible (first | rfl | exact ⟨rfl, rfl⟩))))
    | (apply X.stepNQ rfl; (focus (simp only [sub, subO, subL, subM, sub3, sub2, fk_some, fk_none, fk_arg0, fk_argS, fk_argN, fk_map0, fk_mapS, fk_mapN, reduceIte, Nat.reduceEqDiff, Nat.reduceAdd]; with_reducible rfl)))
    | ((first | apply X.stepGtQ rfl | apply X.stepGfQ rfl); (focus (simp only [sub, subO, subL, subM, sub3, sub2, fk_some, fk_none, fk_arg0, fk_argS, fk_argN, fk_map0, fk_mapS, fk_mapN, reduceIte, Nat.reduceEqDiff, Nat.reduceAdd]; with_reducible rfl)); all_goals (intro hbr; first | exact absurd hbr (by decide) | ((try rw [hbr]); (try simp at hbr))))
    | (apply X.draw0; (focus rfl))
    | (apply X.drawH0; (focus rfl))
    | apply XD.nil
    | (apply XD.calmQ rfl rfl; (focus (simp only [sub, subO, subL, subM, sub3, sub2, fk_some, fk_none, fk_arg0, fk_argS, fk_argN, fk_map0, fk_mapS, fk_mapN, reduceIte, Nat.reduceEqDiff, Nat.reduceAdd]; with_reducible rfl)); (focus (simp [-getElem?_pos, -binA, -convA, f1, f2, f3, f4, f5, f6, f7, f8, f9, f10, f11, f12, f13, f14, f15, f16, f17, f18, f19]; with_reducible (first | rfl | exact ⟨rfl, rfl⟩))))
    | (apply XD.callQ rfl; (focus (simp only [sub, subO, subL, subM, sub3, sub2, fk_some, fk_none, fk_arg0, fk_argS, fk_argN, fk_map0, fk_mapS, fk_mapN, reduceIte, Nat.reduceEqDiff, Nat.reduceAdd]; simp; with_reducible rfl)); (focus (simp; with_reducible rfl)); (focus (simp [-getElem?_pos, -binA, -convA, f1, f2, f3, f4, f5, f6, f7, f8, f9, f10, f11, f12, f13, f14, f15, f16, f17, f18, f19]; done)); (focus (simp [-getElem?_pos, -binA, -convA, f1, f2, f3, f4, f5, f6, f7, f8, f9, f10, f11, f12, f13, f14, f15, f16, f17, f18, f19]; with_reducible rfl)))
    | (apply XD.callSQ rfl; (focus (simp only [sub, subO, subL, subM, sub3, sub2, fk_some, fk_none, fk_arg0, fk_argS, fk_argN, fk_map0, fk_mapS, fk_mapN, reduceIte, Nat.reduceEqDiff, Nat.reduceAdd]; simp; with_reducible rfl)); (focus (simp [V.ids, V.ids.idsL]; done)); (focus (intro hh0; simp [snapL_eq, snapLF, snap_pv, snap_nils, snap_slx]; with_reducible rfl)); (focus (simp [-getElem?_pos, -binA, -convA, f1, f2, f3, f4, f5, f6, f7, f8, f9, f10, f11, f12, f13, f14, f15, f16, f17, f18, f19]; done)); (focus (simp [-getElem?_pos, -binA, -convA, f1, f2, f3, f4, f5, f6, f7, f8, f9, f10, f11, f12, f13, f14, f15, f16, f17, f18, f19]; with_reducible rfl)))
    | (apply XD.stepNQ rfl; (focus (simp only [sub, subO, subL, subM, sub3, sub2, fk_some, fk_none, fk_arg0, fk_argS, fk_argN, fk_map0, fk_mapS, fk_mapN, reduceIte, Nat.reduceEqDiff, Nat.reduceAdd]; with_reducible rfl)))
    | ((first | apply XD.stepGtQ rfl | apply XD.stepGfQ rfl); (focus (simp only [sub, subO, subL, subM, sub3, sub2, fk_some, fk_none, fk_arg0, fk_argS, fk_argN, fk_map0, fk_mapS, fk_mapN, reduceIte, Nat.reduceEqDiff, Nat.reduceAdd]; with_reducible rfl)); all_goals (intro hbr; first | exact absurd hbr (by decide) | ((try rw [hbr]); (try simp at hbr))))
    | (apply XD.loudQ rfl; (focus (simp only [sub, subO, subL, subM, sub3, sub2, fk_some, fk_none, fk_arg0, fk_argS, fk_argN, fk_map0, fk_mapS, fk_mapN, reduceIte, Nat.reduceEqDiff, Nat.reduceAdd]; with_reducible rfl)); (focus (simp; with_reducible rfl)); (focus (simp [-getElem?_pos, -binA, -convA, f1, f2, f3, f4, f5, f6, f7, f8, f9, f10, f11, f12, f13, f14, f15, f16, f17, f18, f19]; with_reducible (first | rfl | exact ⟨rfl, rfl⟩))); (focus (simp; done)); (focus (simp [-getElem?_pos, -binA, -convA, f1, f2, f3, f4, f5, f6, f7, f8, f9, f10, f11, f12, f13, f14, f15, f16, f17, f18, f19]; with_reducible rfl))))
  all_goals (refine Fin.mkQ rfl (by simp only [resS, sub, subO, subL, subM, sub3, sub2, fk_some, fk_none, fk_arg0, fk_argS, fk_argN, fk_map0, fk_mapS, fk_mapN, reduceIte, Nat.reduceEqDiff, Nat.reduceAdd]; with_reducible rfl) (by simp [oneOf, pureRes, snapFuel, snapL]; with_reducible rfl) ?_)
  all_goals rfl
end Lng
