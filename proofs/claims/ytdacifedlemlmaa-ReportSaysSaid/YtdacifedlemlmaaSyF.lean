/- SyF: steps, walks, laws: see the remarks within. -/
import Derived.Test.YtdacifedlemlmaaSyD
import Derived.Test.YtdacifedlemlmaaSyC
set_option linter.unusedSimpArgs false
set_option linter.unusedVariables false
-- score.Of: walked.
namespace Rp
open Go Ab Go.Proofs.Ytdacifedlemlmaa.Mach
variable {E : Env}

structure HasO (E : Env) : Prop where
  p : HasP E
  eq : Has E 59 c59
  of : Has E 58 c58
  rff : E.raw 60 = false
  ff : ∀ n : Int, limP E 60 [.int .u64 n] = some [.flt .f64 n.toNat]

def orU (n x : Int) : Int := IntKind.u64.wrap (BitVec.ofInt 64 (IntKind.u64.wrap (n * 256)) ||| BitVec.ofInt 64 x).toNat
def numU (l : List Int) : Int := l.foldl orU 0
def topI : Int := 9223372036854775808
def ofQ (x : Int) : Nat :=
  if IntKind.u64.wrap (BitVec.ofInt 64 x &&& BitVec.ofInt 64 topI).toNat = 0 then (IntKind.u64.wrap (BitVec.ofInt 64 18446744073709551615 ^^^ BitVec.ofInt 64 x).toNat).toNat
  else (IntKind.u64.wrap (BitVec.ofInt 64 x &&& ~~~BitVec.ofInt 64 topI).toNat).toNat
def ofS (bs : List Int) : Nat × Int :=
  if bs.length = 8 ∧ scoreB (ofQ (numU bs)) = bs then (ofQ (numU bs), 0) else (0, 2)
theorem shlU (n : Int) : binA .shl .no (.pv (.int .u64 n)) (.pv (.int .u64 8)) = some (.pv (.int .u64 (IntKind.u64.wrap (n * 256)))) := by
  have : min ((8 : Int).toNat) (IntKind.u64.bits) = 8 := by simp [IntKind.bits]
  simp only [binA, intBin]
  rw [if_neg (by omega), this]
  rfl
theorem orUI (m x : Int) : binA .or .no (.pv (.int .u64 m)) (.pv (.int .u64 x)) = some (.pv (.int .u64 (IntKind.u64.wrap (BitVec.ofInt 64 m ||| BitVec.ofInt 64 x).toNat))) := rfl
theorem byt_score (q : Nat) : Byt (scoreB q) := by
  intro x hx
  obtain ⟨i, _, rfl⟩ := List.mem_map.1 hx
  rw [IntKind.wrap_u8]
  omega

set_option maxHeartbeats 8000000 in
theorem of_ok (HH : HasO E) (bs : List Int) (hb : Byt bs) : limP E 58 [.sl (encB bs)] = some [.flt .f64 (ofS bs).1, .int .i64 (ofS bs).2] := by
  have H := HH.of
  have hll := encB_len bs
  unfold ofS
  by_cases hl : bs.length = 8
  case neg =>
    rw [if_neg (fun h => hl h.1)]
    have w1 : binA .neq .no (.pv (.int .i64 (bs.length : Int))) (.pv (.int .i64 8)) = some (.pv (.bool true)) := by simp [binA, intBin]; omega
    refine H.limQ (Nat.le_of_ble_eq_true rfl) ?_; unfold c58
    (repeat' first
 | apply X.retS
 | (apply X.condQ rfl; (focus (simp only [SB, reduceIte, Nat.reduceEqDiff]; with_reducible rfl)); all_goals (intro hbr; first | exact absurd hbr (by decide) | ((try rw [hbr]); (try simp at hbr))))
 | apply X.stepZ
 | (apply X.stepQ rfl; (focus (simp only [SB, reduceIte, Nat.reduceEqDiff]; with_reducible rfl)); (focus (simp [-getElem?_pos, -binA, hll, w1]; with_reducible (first | rfl | exact ⟨rfl, rfl⟩))))
 | fail)
    all_goals (refine Fin.mkQ rfl (by simp only [resS, SB, reduceIte, Nat.reduceEqDiff]; with_reducible rfl) (by simp [oneOf, pureRes, snapFuel, snapL]; with_reducible rfl) ?_)
    all_goals rfl
  have w1 : binA .neq .no (.pv (.int .i64 8)) (.pv (.int .i64 8)) = some (.pv (.bool false)) := by simp [binA, intBin]
  have hl8 : ((bs.length : Nat) : Int) = 8 := by omega
  refine H.limQ (Nat.le_of_ble_eq_true rfl) ?_; unfold c58
  (repeat' first
 | apply X.skipS
 | apply X.blockS
 | (apply X.condQ rfl; (focus (simp only [SB, reduceIte, Nat.reduceEqDiff]; with_reducible rfl)); all_goals (intro hbr; first | exact absurd hbr (by decide) | ((try rw [hbr]); (try simp at hbr))))
 | apply X.stepZ
 | (apply X.stepQ rfl; (focus (simp only [SB, reduceIte, Nat.reduceEqDiff]; with_reducible rfl)); (focus (simp [-getElem?_pos, -binA, hll, hl8, w1]; with_reducible (first | rfl | exact ⟨rfl, rfl⟩))))
 | fail)
  refine X.forS 8 (fun j st => ∃ (hh : Heap) (f : Nat → V), (fk (Fk.mk (f := f)) 0 = .pv (.sl (encB bs)) ∧ fk (Fk.mk (f := f)) 4 = .pv (.int .u64 (numU (bs.take j))) ∧ fk (Fk.mk (f := f)) 11 = .pv (.sl (encB bs)) ∧ fk (Fk.mk (f := f)) 12 = .pv (.int .i64 8) ∧ fk (Fk.mk (f := f)) 13 = .pv (.int .i64 (j : Int))) ∧ st = ⟨TL 38 f, hh⟩) ?_ ?_
  · exact ⟨_, _, by simp [numU], rfl⟩
  rintro j st hj ⟨hh, f, ⟨f0, f4, f11, f12, f13⟩, rfl⟩
  rcases Nat.lt_or_ge j 8 with hj1 | hj1
  · have w2 : binA .lss .no (.pv (.int .i64 (j : Int))) (.pv (.int .i64 8)) = some (.pv (.bool true)) := by simp [binA, intBin]; omega
    have hww : IntKind.i64.wrap ((j : Int) + 1) = (j : Int) + 1 := wrap_i64 (by omega)
    have w3 : binA .add .no (.pv (.int .i64 (j : Int))) (.pv (.int .i64 1)) = some (.pv (.int .i64 ((j : Int) + 1))) := by simp [binA, intBin, hww]
    obtain ⟨x, hx⟩ := at_of_lt (l := bs) (j := j) (by omega)
    have hxb := hb x (List.mem_of_getElem? hx)
    have hx2 : (encB bs)[j]? = some (.int .u8 x) := by simp only [encB, List.getElem?_map, hx]; rfl
    have hwx : IntKind.u64.wrap x = x := by simp [IntKind.wrap, IntKind.bits, IntKind.signed]; omega
    have htk : numU (bs.take (j + 1)) = orU (numU (bs.take j)) x := by
      rw [List.take_add_one, hx]
      simp [numU]
    have w4 := shlU (numU (bs.take j))
    have w5 := orUI (IntKind.u64.wrap (numU (bs.take j) * 256)) x
    have e8 : orU (numU (bs.take j)) x = IntKind.u64.wrap (BitVec.ofInt 64 (IntKind.u64.wrap (numU (bs.take j) * 256)) ||| BitVec.ofInt 64 x).toNat := rfl
    rw [← e8, ← htk] at w5
    clear e8 htk
    generalize numU (bs.take (j + 1)) = n2 at w5 ⊢
    generalize numU (bs.take j) = n1 at w4 w5 f4
    generalize IntKind.u64.wrap (n1 * 256) = n3 at w4 w5
    (repeat' first
 | apply X.skipS
 | apply X.skipB
 | apply X.skipL
 | apply X.blockS
 | (apply X.condQ rfl; (focus (simp only [SB, reduceIte, Nat.reduceEqDiff, f0, f4, f11, f12, f13]; with_reducible rfl)); all_goals (intro hbr; first | exact absurd hbr (by decide) | ((try rw [hbr]); (try simp at hbr))))
 | apply X.stepZ
 | (apply X.stepQ rfl; (focus (simp only [SB, reduceIte, Nat.reduceEqDiff, f0, f4, f11, f12, f13]; with_reducible rfl)); (focus (simp [-getElem?_pos, -binA, w2, w3, w4, w5, hx2, hwx]; with_reducible (first | rfl | exact ⟨rfl, rfl⟩))))
 | fail)
    all_goals exact ⟨hj1, _, _, by simp [f0, f11, f12], rfl⟩
  · have hjk : j = 8 := by omega
    subst hjk
    have w2 : binA .lss .no (.pv (.int .i64 8)) (.pv (.int .i64 8)) = some (.pv (.bool false)) := by simp [binA, intBin]
    have htk : bs.take 8 = bs := List.take_of_length_le (by omega)
    rw [htk] at f4
    have f13' : fk (Fk.mk (f := f)) 13 = .pv (.int .i64 8) := f13
    have v1 : unA .xor (.pv (.int .u64 (numU bs))) = some (.pv (.int .u64 (IntKind.u64.wrap (BitVec.ofInt 64 18446744073709551615 ^^^ BitVec.ofInt 64 (numU bs)).toNat))) := rfl
    have v2 : binA .and .no (.pv (.int .u64 (numU bs))) (.pv (.int .u64 9223372036854775808)) = some (.pv (.int .u64 (IntKind.u64.wrap (BitVec.ofInt 64 (numU bs) &&& BitVec.ofInt 64 topI).toNat))) := rfl
    have v3 : binA .andNot .no (.pv (.int .u64 (numU bs))) (.pv (.int .u64 9223372036854775808)) = some (.pv (.int .u64 (IntKind.u64.wrap (BitVec.ofInt 64 (numU bs) &&& ~~~BitVec.ofInt 64 topI).toNat))) := rfl
    have nt : unA .not (.pv (.bool true)) = some (.pv (.bool false)) := rfl
    have nf : unA .not (.pv (.bool false)) = some (.pv (.bool true)) := rfl
    have heq := equal_ok HH.eq (scoreB (ofQ (numU bs))) bs (byt_score _) hb
    have hby := bytes_ok HH.p (ofQ (numU bs))
    have hof : ofQ (numU bs) = if IntKind.u64.wrap (BitVec.ofInt 64 (numU bs) &&& BitVec.ofInt 64 topI).toNat = 0 then (IntKind.u64.wrap (BitVec.ofInt 64 18446744073709551615 ^^^ BitVec.ofInt 64 (numU bs)).toNat).toNat
      else (IntKind.u64.wrap (BitVec.ofInt 64 (numU bs) &&& ~~~BitVec.ofInt 64 topI).toNat).toNat := rfl
    have q1 := HH.ff (IntKind.u64.wrap (BitVec.ofInt 64 18446744073709551615 ^^^ BitVec.ofInt 64 (numU bs)).toNat)
    have q2 := HH.ff (IntKind.u64.wrap (BitVec.ofInt 64 (numU bs) &&& ~~~BitVec.ofInt 64 topI).toNat)
    generalize ofQ (numU bs) = q at heq hby hof ⊢
    generalize IntKind.u64.wrap (BitVec.ofInt 64 18446744073709551615 ^^^ BitVec.ofInt 64 (numU bs)).toNat = z1 at v1 q1 hof
    generalize IntKind.u64.wrap (BitVec.ofInt 64 (numU bs) &&& BitVec.ofInt 64 topI).toNat = z2 at v2 hof
    generalize IntKind.u64.wrap (BitVec.ofInt 64 (numU bs) &&& ~~~BitVec.ofInt 64 topI).toNat = z3 at v3 q2 hof
    generalize numU bs = n0 at v1 v2 v3 f4
    by_cases hz : z2 = 0
    · subst hz
      simp only [if_true] at hof
      subst hof
      have v4 : binA .neq .no (.pv (.int .u64 0)) (.pv (.int .u64 0)) = some (.pv (.bool false)) := by simp [binA, intBin]
      by_cases hs : scoreB z1.toNat = bs
      · rw [decide_eq_true hs] at heq
        rw [if_pos ⟨hl, hs⟩]
        (repeat' first
 | apply X.retS
 | apply X.skipS
 | (apply X.exitS; first | apply X.here | (refine X.out (by decide) ?_; apply X.here))
 | (apply X.condQ rfl; (focus (simp only [SB, reduceIte, Nat.reduceEqDiff, f0, f4, f11, f12, f13']; with_reducible rfl)); all_goals (intro hbr; first | exact absurd hbr (by decide) | ((try rw [hbr]); (try simp at hbr))))
 | apply X.stepZ
 | (apply X.stepQ rfl; (focus (simp only [SB, reduceIte, Nat.reduceEqDiff, f0, f4, f11, f12, f13']; with_reducible rfl)); (focus (simp [-getElem?_pos, -binA, -unA, nt, nf, w2, v1, v2, v3, v4, HH.rff, q1, HH.p.bytes.raw, hby, HH.eq.raw, heq]; with_reducible (first | rfl | exact ⟨rfl, rfl⟩))))
 | fail)
        all_goals (refine Fin.mkQ rfl (by simp only [resS, SB, reduceIte, Nat.reduceEqDiff]; with_reducible rfl) (by simp [oneOf, pureRes, snapFuel, snapL]; with_reducible rfl) ?_)
        all_goals rfl
      · rw [decide_eq_false hs] at heq
        rw [if_neg (fun h => hs h.2)]
        (repeat' first
 | apply X.retS
 | apply X.skipS
 | (apply X.exitS; first | apply X.here | (refine X.out (by decide) ?_; apply X.here))
 | (apply X.condQ rfl; (focus (simp only [SB, reduceIte, Nat.reduceEqDiff, f0, f4, f11, f12, f13']; with_reducible rfl)); all_goals (intro hbr; first | exact absurd hbr (by decide) | ((try rw [hbr]); (try simp at hbr))))
 | apply X.stepZ
 | (apply X.stepQ rfl; (focus (simp only [SB, reduceIte, Nat.reduceEqDiff, f0, f4, f11, f12, f13']; with_reducible rfl)); (focus (simp [-getElem?_pos, -binA, -unA, nt, nf, w2, v1, v2, v3, v4, HH.rff, q1, HH.p.bytes.raw, hby, HH.eq.raw, heq]; with_reducible (first | rfl | exact ⟨rfl, rfl⟩))))
 | fail)
        all_goals (refine Fin.mkQ rfl (by simp only [resS, SB, reduceIte, Nat.reduceEqDiff]; with_reducible rfl) (by simp [oneOf, pureRes, snapFuel, snapL]; with_reducible rfl) ?_)
        all_goals rfl
    · rw [if_neg hz] at hof
      subst hof
      have v4 : binA .neq .no (.pv (.int .u64 z2)) (.pv (.int .u64 0)) = some (.pv (.bool true)) := by simp [binA, intBin, hz]
      by_cases hs : scoreB z3.toNat = bs
      · rw [decide_eq_true hs] at heq
        rw [if_pos ⟨hl, hs⟩]
        (repeat' first
 | apply X.retS
 | apply X.skipS
 | (apply X.exitS; first | apply X.here | (refine X.out (by decide) ?_; apply X.here))
 | (apply X.condQ rfl; (focus (simp only [SB, reduceIte, Nat.reduceEqDiff, f0, f4, f11, f12, f13']; with_reducible rfl)); all_goals (intro hbr; first | exact absurd hbr (by decide) | ((try rw [hbr]); (try simp at hbr))))
 | apply X.stepZ
 | (apply X.stepQ rfl; (focus (simp only [SB, reduceIte, Nat.reduceEqDiff, f0, f4, f11, f12, f13']; with_reducible rfl)); (focus (simp [-getElem?_pos, -binA, -unA, nt, nf, w2, v1, v2, v3, v4, HH.rff, q1, q2, HH.p.bytes.raw, hby, HH.eq.raw, heq]; with_reducible (first | rfl | exact ⟨rfl, rfl⟩))))
 | fail)
        all_goals (refine Fin.mkQ rfl (by simp only [resS, SB, reduceIte, Nat.reduceEqDiff]; with_reducible rfl) (by simp [oneOf, pureRes, snapFuel, snapL]; with_reducible rfl) ?_)
        all_goals rfl
      · rw [decide_eq_false hs] at heq
        rw [if_neg (fun h => hs h.2)]
        (repeat' first
 | apply X.retS
 | (apply X.exitS; first | apply X.here | (refine X.out (by decide) ?_; apply X.here))
 | (apply X.condQ rfl; (focus (simp only [SB, reduceIte, Nat.reduceEqDiff, f0, f4, f11, f12, f13']; with_reducible rfl)); all_goals (intro hbr; first | exact absurd hbr (by decide) | ((try rw [hbr]); (try simp at hbr))))
 | apply X.stepZ
 | (apply X.stepQ rfl; (focus (simp only [SB, reduceIte, Nat.reduceEqDiff, f0, f4, f11, f12, f13']; with_reducible rfl)); (focus (simp [-getElem?_pos, -binA, -unA, nt, nf, w2, v1, v2, v3, v4, HH.rff, q1, q2, HH.p.bytes.raw, hby, HH.eq.raw, heq]; with_reducible (first | rfl | exact ⟨rfl, rfl⟩))))
 | fail)
        all_goals (refine Fin.mkQ rfl (by simp only [resS, SB, reduceIte, Nat.reduceEqDiff]; with_reducible rfl) (by simp [oneOf, pureRes, snapFuel, snapL]; with_reducible rfl) ?_)
        all_goals rfl
end Rp

-- report.Get: walked.
namespace Rp
open Go Ab Go.Proofs.Ytdacifedlemlmaa.Mach
variable {E : Env}

structure Re where
  e : Int
  a : Int
  b : Int
  sp : List Sp
  v : Va
  q : Nat
def encX (x : Re) : PV := encR x.e x.a x.b x.sp x.v x.q
def putX (x : Re) : List Int := putS x.e x.a x.b x.sp x.v x.q
def zeroX : Re := ⟨0, 0, 0, [], .mk 0 0 [], 0⟩
def bodyS (bs1 : List Int) (bad1 : Bool) : Option (Re × Bool) :=
  let A := takeS 4 bs1 bad1
  let B := takeS 4 A.2.1 A.2.2
  let s := readSp (A.1, B.1) B.2.1 B.2.2
  let v := valT 500 2000 s.2.1 s.2.2
  let o := ofS v.2.2.1
  if v.2.2.1.length = 8 ∧ o.2 = 0 then some (⟨0, A.1, B.1, s.1, v.1, o.1⟩, v.2.2.2) else none
def candS (bs : List Int) : Option (Re × Bool) :=
  let r := takeS 1 bs false
  if r.1 = 0 then bodyS r.2.1 r.2.2 else some (⟨r.1, 0, 0, [], .mk 0 0 [], nanC⟩, r.2.2)
def getS (bs : List Int) : Option Re :=
  match candS bs with
  | some (x, bad) => if bad = false ∧ putX x = bs then some x else none
  | none => none
def getR (bs : List Int) : Re × Int := match getS bs with
  | some x => (x, 0)
  | none => (zeroX, 2)

theorem run_len : ∀ (m : Nat) (acc : List Sp) (bs : List Int) (bad : Bool), (runSp m acc bs bad).1.length ≤ acc.length + m
  | 0, _, _, _ => Nat.le_refl _
  | m + 1, acc, bs, bad => by
    unfold runSp
    split
    · dsimp only; omega
    · have := run_len m (acc ++ [(spanS bs bad).1]) (spanS bs bad).2.1 (spanS bs bad).2.2
      simp at this
      omega
theorem readSp_len {s0 : Sp} {bs : List Int} {bad : Bool} (h : Byt bs) : (readSp s0 bs bad).1.length ≤ 256 := by
  have := run_len ((takeS 1 bs bad).1.toNat - 1) [s0] (takeS 1 bs bad).2.1 (takeS 1 bs bad).2.2
  have h2 := take1_rng (bad := bad) h
  unfold readSp
  simp at this ⊢
  omega
theorem fine_run {f : Int → List Int → Bool → Va × Int × List Int × Bool} (hf : ∀ left bs bad, Byt bs → FineV (f left bs bad).1 ∧ Byt (f left bs bad).2.2.1) :
    ∀ (m : Nat) (acc : List Va) (left : Int) (bs : List Int) (bad : Bool), Byt bs → (∀ x ∈ acc, FineV x) → (∀ x ∈ (runV f m acc left bs bad).1, FineV x) ∧ Byt (runV f m acc left bs bad).2.2.1 ∧ (runV f m acc left bs bad).1.length ≤ acc.length + m
  | 0, acc, left, bs, bad, hb, ha => ⟨ha, hb, Nat.le_refl _⟩
  | m + 1, acc, left, bs, bad, hb, ha => by
    unfold runV
    split
    · exact ⟨ha, hb, by dsimp only; omega⟩
    · obtain ⟨a1, a2⟩ := hf left bs bad hb
      obtain ⟨b1, b2, b3⟩ := fine_run hf m (acc ++ [(f left bs bad).1]) (f left bs bad).2.1 (f left bs bad).2.2.1 (f left bs bad).2.2.2 a2 (fun x hx => by
        rcases List.mem_append.1 hx with h | h
        · exact ha x h
        · simp only [List.mem_singleton] at h; rw [h]; exact a1)
      exact ⟨b1, b2, by simp at b3; omega⟩
theorem fine_val : ∀ (d : Nat) (left : Int) (bs : List Int) (bad : Bool), Byt bs → FineV (valT d left bs bad).1 ∧ Byt (valT d left bs bad).2.2.1
  | 0, left, bs, bad, hb => ⟨⟨by omega, by simp, trivial⟩, hb⟩
  | d + 1, left, bs, bad, hb => by
    simp only [valT]
    have h1 := headT_b (bad := bad || decide (left - 1 < 0)) hb
    have h2 := headT_n (bad := bad || decide (left - 1 < 0)) hb
    have h3 := headT_byt (bad := bad || decide (left - 1 < 0)) hb
    generalize headT bs (bad || decide (left - 1 < 0)) = p at h1 h2 h3 ⊢
    obtain ⟨c1, c2, c3⟩ := fine_run (fun left bs bad hb => fine_val d left bs bad hb) p.2.2.1.toNat [] (left - 1) p.2.2.2.1 p.2.2.2.2 h3 (fun x hx => by cases hx)
    exact ⟨⟨h1, by simp at c3; omega, fineVL.2 c1⟩, c2⟩
theorem of_e (bs : List Int) : (ofS bs).2 = 0 ∨ ((ofS bs).2 = 2) := by
  unfold ofS
  split <;> simp

structure HasGt (E : Env) : Prop where
  w : HasW E
  o : HasO E
  u : HasPut E
  rput : E.raw 28 = false
  nan : Has E 31 c31
  get : Has E 30 c30
  putc : Has E 28 c28

theorem nan_ok2 (HH : HasGt E) : limP E 31 [] = some [.flt .f64 nanC] := by
  have H := HH.nan
  have h1 := HH.o.ff 9221120237041090561
  have e : (9221120237041090561 : Int).toNat = nanC := rfl
  rw [e] at h1
  refine H.limQ (Nat.le_of_ble_eq_true rfl) ?_; unfold c31
  (repeat' first
 | apply X.retS
 | apply X.stepZ
 | (apply X.stepQ rfl; (focus (simp only [SB, reduceIte, Nat.reduceEqDiff]; with_reducible rfl)); (focus (simp [-getElem?_pos, HH.o.rff, h1]; with_reducible (first | rfl | exact ⟨rfl, rfl⟩))))
 | fail)
  all_goals (refine Fin.mkQ rfl (by simp only [resS, SB, reduceIte, Nat.reduceEqDiff]; with_reducible rfl) (by simp [oneOf, pureRes, snapFuel, snapL]; with_reducible rfl) ?_)
  all_goals rfl

theorem Fin.ofE {res : List AResult} {rs : List PV} {P : V → Heap → Prop} {ex : AExit} {st : Ab.St} (h : FinE res P ex st) (hp : ∀ v h, P v h → pureRes v h = some rs) : Fin res rs ex st := by
  obtain ⟨h1, us, h2, h3⟩ := h.run
  exact ⟨h1, us, h2, hp _ _ h3⟩
theorem Put_pure (H : Has E 28 c28) (HU : HasPut E) (e a b : Int) (sp : List Sp) (v : Va) (q : Nat) (hl : sp.length ≤ 9223372036854775807) (hf : FineV v) :
    limP E 28 [encR e a b sp v q] = some [.sl (encB (putS e a b sp v q))] := by
  refine H.limQ (Nat.le_of_ble_eq_true rfl) ((put_body HU e a b sp v q hl hf []).mono fun ex st hq => Fin.ofE hq fun r h' hr => ?_)
  obtain ⟨h2, h3⟩ := hr.1.snap (n := 998)
  rcases hr.1 with ⟨_, rfl⟩ | ⟨_, id, rfl, _⟩ <;> simp only [pureRes, snapFuel, h3] <;> rfl

theorem _root_.Ab.X.midQ {c rest : ACode} {st : Ab.St} {Q : AExit → Ab.St → Prop} (M : Ab.St → Prop) (h : X E (app c .skip) st (thenQ M Q)) (k : ∀ st', M st' → X E rest st' Q) : X E (app c rest) st Q := by
  simp only [x_eq] at h k ⊢
  rw [w_app] at h ⊢
  rw [w_seq] at h ⊢
  refine h.mono fun ex st hq => ?_
  cases ex with
  | normal => exact k st (w_skip.1 hq)
  | ret => exact hq
  | exit i => exact hq

def Shp (S : V) (es : List PV) : Prop := (es = [] ∧ S = .nils) ∨ S = .slx es ∨ ∃ tok, S = .slt es tok
theorem Rw.shp {b : Nat} {h : Heap} {v : V} {es : List PV} (r : Rw b h v es) : Shp v es := by
  rcases r with r | r | ⟨_, tok, r, _⟩
  · exact .inl r
  · exact .inr (.inl r)
  · exact .inr (.inr ⟨tok, r⟩)
def cellsR (e a b : Int) (S : V) (k c : Int) (L : V) (q : Nat) : List V := [.pv (.int .i64 e), .pv (.int .i64 a), .pv (.int .i64 b), S, .pv (.int .i64 k), .pv (.int .u8 c), L, .pv (.flt .f64 q)]

abbrev zeroB : Ent := .blk [.pv (.int .i64 0), .pv (.int .i64 0), .pv (.int .i64 0), .nils, .pv (.int .i64 0), .pv (.int .u8 0), .nils, .pv (.flt .f64 0)] (some 33)
structure GS (bs : List Int) (bad : Bool) (k5 : Nat) (cs : List V) (hh : Heap) : Prop where
  rd : Rd hh 1 bs bad
  z : ent hh 0 = zeroB
  k : 1 < k5
  c : ent hh k5 = .blk cs (some 33)
section
variable {bs bs' : List Int} {bad bad' : Bool} {k5 : Nat} {cs cs' : List V} {hh h' l : Heap}
theorem GS.take (g : GS bs bad k5 cs hh) (r : Rd h' 1 bs' bad') (o : But hh [1] h') : GS bs' bad' k5 cs h' :=
  ⟨r, (o.old 0 (Ab.ent_lt (by rw [g.z]; simp)) (by simp)).trans g.z, g.k, (o.old k5 (Rp.ent_lt g.c) (by have := g.k; simp; omega)).trans g.c⟩
theorem GS.put (g : GS bs bad k5 cs hh) (cs' : List V) : GS bs bad k5 cs' (hh.set k5 (.blk cs' (some 33))) := by
  obtain ⟨t, r⟩ := g.rd
  have hk := g.k
  refine ⟨⟨t, ?_⟩, ?_, hk, by rw [ent_set (Rp.ent_lt g.c)]⟩
  · rw [ent_set_ne (by omega)]; exact r
  · rw [ent_set_ne (by omega)]; exact g.z
theorem GS.more (g : GS bs bad k5 cs hh) : GS bs bad k5 cs (hh ++ l) :=
  ⟨g.rd.more, ent_app g.z (by simp), g.k, ent_app g.c (by simp)⟩
end
theorem store_cell {h : Heap} {k off : Nat} {v : V} {cs : List V} {t : Option TypeId} (hb : ent h k = .blk cs t) (h1 : v.cells = [v]) (h2 : v.isCell = true) (ho : off + 1 ≤ cs.length) : storeA h 1 (.ptr k off) v = some (h.set k (.blk (splice cs off [v]) t)) := by
  have hall : List.all [v] V.isCell = true := by simp only [List.all_cons, h2, List.all_nil, Bool.and_true]
  simp only [storeA, hb, h1]
  rw [if_pos ⟨rfl, ho, hall⟩]
theorem store_cells {h : Heap} {k off n : Nat} {v : V} {cs vs : List V} {t : Option TypeId} (hb : ent h k = .blk cs t) (h1 : v.cells = vs) (h2 : vs.all V.isCell = true) (hn : vs.length = n) (ho : off + n ≤ cs.length) : storeA h n (.ptr k off) v = some (h.set k (.blk (splice cs off vs) t)) := by
  simp only [storeA, hb, h1]
  rw [if_pos ⟨hn, ho, h2⟩]
theorem Shp.cells {S : V} {es : List PV} (h : Shp S es) : S.cells = [S] ∧ S.isCell = true := by
  rcases h with ⟨_, rfl⟩ | rfl | ⟨t, rfl⟩ <;> exact ⟨rfl, rfl⟩
def M2 (bs : List Int) (st : Ab.St) : Prop := ∃ (hh : Heap) (k5 : Nat) (S L : V) (x : Re) (bs2 : List Int) (bad2 : Bool) (f : Nat → V), (GS bs2 bad2 k5 (cellsR x.e x.a x.b S x.v.k x.v.b L x.q) hh ∧ candS bs = some (x, bad2) ∧ Shp S (x.sp.map encS) ∧ Shp L (x.v.l.map encV) ∧ x.sp.length ≤ 256 ∧ FineV x.v) ∧
  (fk (Fk.mk (f := f)) 0 = .pv (.sl (encB bs)) ∧ fk (Fk.mk (f := f)) 2 = .ptr 0 0 ∧ fk (Fk.mk (f := f)) 4 = .ptr 1 0 ∧ fk (Fk.mk (f := f)) 5 = .ptr k5 0) ∧ st = ⟨TL 70 f, hh⟩

set_option maxHeartbeats 16000000 in
theorem get_ok (HH : HasGt E) (bs : List Int) (hb : Byt bs) : limP E 30 [.sl (encB bs)] = some [encX (getR bs).1, .int .i64 (getR bs).2] := by
  have H := HH.get
  have hnan := nan_ok2 HH
  have hby := take_byt (k := 1) (bad := false) hb
  have hrg := take1_rng (bad := false) hb
  have hcd := @candS.eq_1 bs
  have htk := take1 HH.w.u.t [zeroB, .blk [.pv (.sl (encB bs)), .pv (.bool false)] none] 1 bs false hb ⟨none, rfl⟩
  generalize takeS 1 bs false = T at htk hby hcd hrg
  obtain ⟨e, bs1, bad1⟩ := T
  dsimp only at htk hby hcd hrg
  refine H.limQ (Nat.le_of_ble_eq_true rfl) ?_; unfold c30
  (repeat' first
 | apply X.stepZ
 | (apply X.stepQ rfl; (focus (simp only [SB, reduceIte, Nat.reduceEqDiff]; with_reducible rfl)); (focus (simp [-getElem?_pos]; with_reducible (first | rfl | exact ⟨rfl, rfl⟩))))
 | fail)
  refine X.callRQ (P := _) rfl (by simp only [SB, reduceIte, Nat.reduceEqDiff]; all_goals (first | with_reducible rfl | (simp <;> with_reducible rfl))) HH.w.u.t.take.raw (by simp [pures]) (htk) ?_
  rintro _ h1 ⟨rfl, R1, B1⟩
  have hl1 : 2 ≤ h1.length := B1.len
  have x0 : ent h1 0 = zeroB := B1.old 0 (by simp) (by simp)
  clear htk B1
  iterate 4 (first
 | apply X.retS
 | apply X.skipS
 | apply X.skipB
 | apply X.skipL
 | (apply X.exitS; first | apply X.here | (refine X.out (by decide) ?_; apply X.here))
 | apply X.blockS
 | (apply X.condQ rfl; (focus (simp only [SB, reduceIte, Nat.reduceEqDiff]; with_reducible rfl)); all_goals (intro hbr; first | exact absurd hbr (by decide) | ((try rw [hbr]); (try simp at hbr))))
 | apply X.stepZ
 | (apply X.stepQ rfl; (focus (simp only [SB, reduceIte, Nat.reduceEqDiff]; with_reducible rfl)); (focus (simp [-getElem?_pos, HH.nan.raw, hnan]; with_reducible (first | rfl | exact ⟨rfl, rfl⟩))))
 | (apply X.stepNQ rfl; (focus (simp only [SB, reduceIte, Nat.reduceEqDiff]; with_reducible rfl)))
 | ((first | apply X.stepGtQ rfl | apply X.stepGfQ rfl); (focus (simp only [SB, reduceIte, Nat.reduceEqDiff]; with_reducible rfl)); all_goals (intro hbr; first | exact absurd hbr (by decide) | ((try rw [hbr]); (try simp at hbr)))))
  refine X.stepZ ?_
  rw [app_seq]
  refine X.abs2 (fun st => ∃ (hh : Heap) (k5 : Nat) (f : Nat → V), GS bs1 bad1 k5 (cellsR e 0 0 .nils 0 0 .nils nanC) hh ∧ (fk (Fk.mk (f := f)) 0 = .pv (.sl (encB bs)) ∧ fk (Fk.mk (f := f)) 2 = .ptr 0 0 ∧ fk (Fk.mk (f := f)) 4 = .ptr 1 0 ∧ fk (Fk.mk (f := f)) 5 = .ptr k5 0) ∧ st = ⟨TL 70 f, hh⟩) ?_ ?_
  · refine ⟨_, h1.length, _, ⟨R1.more, ent_app x0 (by simp), by omega, ?_⟩, by simp, rfl⟩
    simp [ent_at0, ent, cellsR]
  clear R1 x0 hl1 h1 hnan
  rintro st ⟨hh, k5, f, G0, ⟨f0, f2, f4, f5⟩, rfl⟩
  refine X.midQ (M2 bs) ?_ ?_
  · by_cases he : e = 0
    · subst he
      rw [if_pos rfl] at hcd
      unfold bodyS at hcd
      have x5 := G0.c
      unfold cellsR at x5
      have htA := take4 HH.w.u.t hh 1 bs1 bad1 hby G0.rd
      have hbA := take_byt (k := 4) (bad := bad1) hby
      generalize takeS 4 bs1 bad1 = T at htA hbA hcd
      obtain ⟨a, bs2, bad2⟩ := T
      dsimp only at htA hbA hcd
      (repeat' first
 | (apply X.condQ rfl; (focus (simp only [SB, reduceIte, Nat.reduceEqDiff, f0, f2, f4, f5]; with_reducible rfl)); all_goals (intro hbr; first | exact absurd hbr (by decide) | ((try rw [hbr]); (try simp at hbr))))
 | apply X.stepZ
 | (apply X.stepQ rfl; (focus (simp only [SB, reduceIte, Nat.reduceEqDiff, f0, f2, f4, f5]; with_reducible rfl)); (focus (simp [-getElem?_pos, x5]; with_reducible (first | rfl | exact ⟨rfl, rfl⟩))))
 | fail)
      refine X.callRQ (P := _) rfl (by simp only [SB, reduceIte, Nat.reduceEqDiff, f0, f2, f4, f5]; all_goals (first | with_reducible rfl | (simp <;> with_reducible rfl))) HH.w.u.t.take.raw (by simp [pures]) (htA) ?_
      rintro _ h2 ⟨rfl, R2, B2⟩
      have G2 := G0.take R2 B2
      have htB := take4 HH.w.u.t h2 1 bs2 bad2 hbA G2.rd
      have hbB := take_byt (k := 4) (bad := bad2) hbA
      generalize takeS 4 bs2 bad2 = T at htB hbB hcd
      obtain ⟨b, bs3, bad3⟩ := T
      dsimp only at htB hbB hcd
      clear htA R2 B2 G0 x5
      (repeat' first
 | (apply X.stepQ rfl; (focus (simp only [SB, reduceIte, Nat.reduceEqDiff, f0, f2, f4, f5]; with_reducible rfl)); (focus (simp [-getElem?_pos]; with_reducible (first | rfl | exact ⟨rfl, rfl⟩))))
 | fail)
      refine X.callRQ (P := _) rfl (by simp only [SB, reduceIte, Nat.reduceEqDiff, f0, f2, f4, f5]; all_goals (first | with_reducible rfl | (simp <;> with_reducible rfl))) HH.w.u.t.take.raw (by simp [pures]) (htB) ?_
      rintro _ h3 ⟨rfl, R3, B3⟩
      have G3 := G2.take R3 B3
      have x5 := G3.c
      unfold cellsR at x5
      have hk3 := Rp.ent_lt G3.c
      have es3 := fun B => ent_set (e := B) hk3
      have G4 := G3.put (cellsR 0 a b .nils 0 0 .nils nanC)
      have hts := spansR_ok HH.w.u _ 1 (a, b) bs3 bad3 G4.rd hbB
      have hbC := readSp_byt (s0 := (a, b)) (bad := bad3) hbB
      have hlC := readSp_len (s0 := (a, b)) (bad := bad3) hbB
      generalize readSp (a, b) bs3 bad3 = T at hts hbC hlC hcd
      obtain ⟨sp, bs4, bad4⟩ := T
      dsimp only at hts hbC hlC hcd
      unfold encS at hts
      clear htB R3 B3 G2
      (repeat' first
 | apply X.stepZ
 | (apply X.stepQ rfl; (focus (simp only [SB, reduceIte, Nat.reduceEqDiff, f0, f2, f4, f5]; with_reducible rfl)); (focus (simp [-getElem?_pos, x5, es3]; with_reducible (first | rfl | exact ⟨rfl, rfl⟩))))
 | fail)
      refine X.callRQ (P := _) rfl (by simp only [SB, reduceIte, Nat.reduceEqDiff, f0, f2, f4, f5]; all_goals (first | with_reducible rfl | (simp <;> with_reducible rfl))) HH.w.u.spans.raw (by simp [pures]) (hts) ?_
      rintro S h5 ⟨W5, R5, B5⟩
      have hS := W5.shp
      have G5 := G4.take R5 B5
      have hst := store_cell (off := 3) G5.c hS.cells.1 hS.cells.2 (by simp [cellsR])
      clear W5 R5 B5 hts G4 G3 x5 es3 hk3
      iterate 2 (first
 | apply X.retS
 | apply X.skipS
 | apply X.skipB
 | apply X.skipL
 | (apply X.exitS; first | apply X.here | (refine X.out (by decide) ?_; apply X.here))
 | apply X.blockS
 | (apply X.condQ rfl; (focus (simp only [SB, reduceIte, Nat.reduceEqDiff, f0, f2, f4, f5]; with_reducible rfl)); all_goals (intro hbr; first | exact absurd hbr (by decide) | ((try rw [hbr]); (try simp at hbr))))
 | apply X.stepZ
 | (apply X.stepQ rfl; (focus (simp only [SB, reduceIte, Nat.reduceEqDiff, f0, f2, f4, f5]; with_reducible rfl)); (focus (simp [-getElem?_pos, -storeA, hst]; with_reducible (first | rfl | exact ⟨rfl, rfl⟩))))
 | (apply X.stepNQ rfl; (focus (simp only [SB, reduceIte, Nat.reduceEqDiff, f0, f2, f4, f5]; with_reducible rfl)))
 | ((first | apply X.stepGtQ rfl | apply X.stepGfQ rfl); (focus (simp only [SB, reduceIte, Nat.reduceEqDiff, f0, f2, f4, f5]; with_reducible rfl)); all_goals (intro hbr; first | exact absurd hbr (by decide) | ((try rw [hbr]); (try simp at hbr)))))
      have G6 := G5.put (cellsR 0 a b S 0 0 .nils nanC)
      refine X.abs2 (fun st => ∃ (h6 : Heap) (f : Nat → V), GS bs4 bad4 k5 (cellsR 0 a b S 0 0 .nils nanC) h6 ∧ (fk (Fk.mk (f := f)) 0 = .pv (.sl (encB bs)) ∧ fk (Fk.mk (f := f)) 2 = .ptr 0 0 ∧ fk (Fk.mk (f := f)) 4 = .ptr 1 0 ∧ fk (Fk.mk (f := f)) 5 = .ptr k5 0) ∧ st = ⟨TL 70 f, h6⟩) ?_ ?_
      · exact ⟨_, _, G6, by simp [f0, f2, f4, f5], rfl⟩
      clear G6 G5 hst f0 f2 f4 f5
      rintro st ⟨h6, f, G6, ⟨f0, f2, f4, f5⟩, rfl⟩
      have hk6 := Rp.ent_lt G6.c
      have h06 : 0 < h6.length := Ab.ent_lt (by rw [G6.z]; simp)
      have G7 := G6.more (l := [.blk [.pv (.int .i64 2000)] (some 3)])
      have htv := (value_ok HH.w 500 (by omega)) (h6 ++ [.blk [.pv (.int .i64 2000)] (some 3)]) 1 h6.length 2000 bs4 bad4 G7.rd ⟨_, ent_at0⟩ hbC (by omega) (by omega)
      have hfv := fine_val 500 2000 bs4 bad4 hbC
      generalize valT 500 2000 bs4 bad4 = T at htv hfv hcd
      obtain ⟨v, left', bs5, bad5⟩ := T
      dsimp only at htv hfv hcd
      obtain ⟨hfv, hbD⟩ := hfv
      (repeat' first
 | apply X.stepZ
 | (apply X.stepQ rfl; (focus (simp only [SB, reduceIte, Nat.reduceEqDiff, f0, f2, f4, f5]; with_reducible rfl)); (focus (simp [-getElem?_pos]; with_reducible (first | rfl | exact ⟨rfl, rfl⟩))))
 | fail)
      refine X.callRQ (P := _) rfl (by simp only [SB, reduceIte, Nat.reduceEqDiff, f0, f2, f4, f5]; all_goals (first | with_reducible rfl | (simp <;> with_reducible rfl))) HH.w.value.raw (by simp [pures]) (htv) ?_
      rintro r h7 ⟨⟨L, c1, c2⟩, S7⟩
      have hL := c2.shp
      have G8 : GS bs5 bad5 k5 (cellsR 0 a b S 0 0 .nils nanC) h7 := by
        have hne := S7.lo.2.2
        have hk := G6.k
        exact ⟨S7.rd, (S7.but.old 0 (by simp) (by simp; omega)).trans G7.z, hk, (S7.but.old k5 (by simp; omega) (by simp; omega)).trans G7.c⟩
      have hall : List.all [V.pv (.int .i64 v.k), .pv (.int .u8 v.b), L] V.isCell = true := by simp only [List.all_cons, hL.cells.2, List.all_nil, Bool.and_true]; rfl
      have hst := store_cells (off := 4) (n := 3) G8.c c1 hall rfl (by simp [cellsR])
      have G9 := G8.put (cellsR 0 a b S v.k v.b L nanC)
      clear htv c1 c2 S7 hall G7 G6 hk6 h06
      iterate 2 (first
 | apply X.retS
 | apply X.skipS
 | apply X.skipB
 | apply X.skipL
 | (apply X.exitS; first | apply X.here | (refine X.out (by decide) ?_; apply X.here))
 | apply X.blockS
 | (apply X.condQ rfl; (focus (simp only [SB, reduceIte, Nat.reduceEqDiff, f0, f2, f4, f5]; with_reducible rfl)); all_goals (intro hbr; first | exact absurd hbr (by decide) | ((try rw [hbr]); (try simp at hbr))))
 | apply X.stepZ
 | (apply X.stepQ rfl; (focus (simp only [SB, reduceIte, Nat.reduceEqDiff, f0, f2, f4, f5]; with_reducible rfl)); (focus (simp [-getElem?_pos, -storeA, hst]; with_reducible (first | rfl | exact ⟨rfl, rfl⟩))))
 | (apply X.stepNQ rfl; (focus (simp only [SB, reduceIte, Nat.reduceEqDiff, f0, f2, f4, f5]; with_reducible rfl)))
 | ((first | apply X.stepGtQ rfl | apply X.stepGfQ rfl); (focus (simp only [SB, reduceIte, Nat.reduceEqDiff, f0, f2, f4, f5]; with_reducible rfl)); all_goals (intro hbr; first | exact absurd hbr (by decide) | ((try rw [hbr]); (try simp at hbr)))))
      refine X.abs2 (fun st => ∃ (h8 : Heap) (f : Nat → V), GS bs5 bad5 k5 (cellsR 0 a b S v.k v.b L nanC) h8 ∧ (fk (Fk.mk (f := f)) 0 = .pv (.sl (encB bs)) ∧ fk (Fk.mk (f := f)) 2 = .ptr 0 0 ∧ fk (Fk.mk (f := f)) 4 = .ptr 1 0 ∧ fk (Fk.mk (f := f)) 5 = .ptr k5 0) ∧ st = ⟨TL 70 f, h8⟩) ?_ ?_
      · exact ⟨_, _, G9, by simp [f0, f2, f4, f5], rfl⟩
      clear G9 G8 hst f0 f2 f4 f5
      rintro st ⟨h8, f, G8, ⟨f0, f2, f4, f5⟩, rfl⟩
      obtain ⟨t1, y1⟩ := G8.rd
      have y0 := G8.z
      have y5 := G8.c
      unfold zeroB at y0
      have hl0 : 0 < h8.length := Ab.ent_lt (by rw [y0]; simp)
      have es0 := fun B => ent_set (e := B) hl0
      have hll := encB_len bs5
      have e0 : encX zeroX = .agg [.int .i64 0, .int .i64 0, .int .i64 0, .sl [], .int .i64 0, .int .u8 0, .sl [], .flt .f64 0] := by simp [encX, zeroX, encR, vk, vb, vl]
      by_cases hlen : bs5.length = 8
      · have hof := of_ok HH.o bs5 hbD
        have ho2 := of_e bs5
        have w1 : binA .neq .no (.pv (.int .i64 (bs5.length : Int))) (.pv (.int .i64 8)) = some (.pv (.bool false)) := by simp [binA, intBin]; omega
        generalize ofS bs5 = o at hof ho2 hcd
        obtain ⟨q, e2⟩ := o
        dsimp only at hof ho2 hcd
        rcases ho2 with rfl | rfl
        · rw [if_pos ⟨hlen, rfl⟩] at hcd
          have w2 : binA .neq .no (.pv (.int .i64 0)) (.pv (.int .i64 0)) = some (.pv (.bool false)) := by simp [binA, intBin]
          unfold cellsR at y5
          have hst := store_cell (off := 7) (v := .pv (.flt .f64 q)) y5 rfl rfl (by simp)
          (repeat' first
 | apply X.skipS
 | apply X.skipL
 | (apply X.condQ rfl; (focus (simp only [SB, reduceIte, Nat.reduceEqDiff, f0, f2, f4, f5]; with_reducible rfl)); all_goals (intro hbr; first | exact absurd hbr (by decide) | ((try rw [hbr]); (try simp at hbr))))
 | apply X.stepZ
 | (apply X.stepQ rfl; (focus (simp only [SB, reduceIte, Nat.reduceEqDiff, f0, f2, f4, f5]; with_reducible rfl)); (focus (simp [-getElem?_pos, -binA, -storeA, w1, w2, y1, hll, HH.o.of.raw, hof, hst]; with_reducible (first | rfl | exact ⟨rfl, rfl⟩))))
 | fail)
          exact ⟨_, k5, S, L, ⟨0, a, b, sp, v, q⟩, bs5, bad5, _, ⟨G8.put (cellsR 0 a b S v.k v.b L q), hcd, hS, hL, hlC, hfv⟩, by simp [f0, f2, f4, f5], rfl⟩
        · rw [if_neg (by simp)] at hcd
          have w2 : binA .neq .no (.pv (.int .i64 2)) (.pv (.int .i64 0)) = some (.pv (.bool true)) := by simp [binA, intBin]
          have hg : getR bs = (zeroX, 2) := by unfold getR getS; rw [hcd]
          rw [hg]
          dsimp only
          rw [e0]
          (repeat' first
 | apply X.retS
 | apply X.skipS
 | (apply X.condQ rfl; (focus (simp only [SB, reduceIte, Nat.reduceEqDiff, f0, f2, f4, f5]; with_reducible rfl)); all_goals (intro hbr; first | exact absurd hbr (by decide) | ((try rw [hbr]); (try simp at hbr))))
 | apply X.stepZ
 | (apply X.stepQ rfl; (focus (simp only [SB, reduceIte, Nat.reduceEqDiff, f0, f2, f4, f5]; with_reducible rfl)); (focus (simp [-getElem?_pos, -binA, w1, w2, y1, y0, es0, hll, HH.o.of.raw, hof]; with_reducible (first | rfl | exact ⟨rfl, rfl⟩))))
 | fail)
          all_goals refine Fin.mkQ (us := [.agg [.pv (.int .i64 0), .pv (.int .i64 0), .pv (.int .i64 0), .nils, .pv (.int .i64 0), .pv (.int .u8 0), .nils, .pv (.flt .f64 0)], .pv (.int .i64 2)]) rfl (by simp [resS, f2, es0, pures]) (by simp [oneOf, pureRes, snapFuel, snapL]) rfl
      · rw [if_neg (fun h => hlen h.1)] at hcd
        have hg : getR bs = (zeroX, 2) := by unfold getR getS; rw [hcd]
        have w1 : binA .neq .no (.pv (.int .i64 (bs5.length : Int))) (.pv (.int .i64 8)) = some (.pv (.bool true)) := by simp [binA, intBin]; omega
        rw [hg]
        dsimp only
        rw [e0]
        (repeat' first
 | apply X.retS
 | (apply X.condQ rfl; (focus (simp only [SB, reduceIte, Nat.reduceEqDiff, f0, f2, f4, f5]; with_reducible rfl)); all_goals (intro hbr; first | exact absurd hbr (by decide) | ((try rw [hbr]); (try simp at hbr))))
 | apply X.stepZ
 | (apply X.stepQ rfl; (focus (simp only [SB, reduceIte, Nat.reduceEqDiff, f0, f2, f4, f5]; with_reducible rfl)); (focus (simp [-getElem?_pos, -binA, w1, y1, y0, es0, hll]; with_reducible (first | rfl | exact ⟨rfl, rfl⟩))))
 | fail)
        all_goals refine Fin.mkQ (us := [.agg [.pv (.int .i64 0), .pv (.int .i64 0), .pv (.int .i64 0), .nils, .pv (.int .i64 0), .pv (.int .u8 0), .nils, .pv (.flt .f64 0)], .pv (.int .i64 2)]) rfl (by simp [resS, f2, es0, pures]) (by simp [oneOf, pureRes, snapFuel, snapL]) rfl
    · rw [if_neg he] at hcd
      have x5 := G0.c
      unfold cellsR at x5
      have w1 : binA .eql .no (.pv (.int .i64 e)) (.pv (.int .i64 0)) = some (.pv (.bool false)) := by simp [binA, intBin, he]
      (repeat' first
 | apply X.skipS
 | apply X.skipL
 | (apply X.condQ rfl; (focus (simp only [SB, reduceIte, Nat.reduceEqDiff, f0, f2, f4, f5]; with_reducible rfl)); all_goals (intro hbr; first | exact absurd hbr (by decide) | ((try rw [hbr]); (try simp at hbr))))
 | apply X.stepZ
 | (apply X.stepQ rfl; (focus (simp only [SB, reduceIte, Nat.reduceEqDiff, f0, f2, f4, f5]; with_reducible rfl)); (focus (simp [-getElem?_pos, -binA, w1, x5]; with_reducible (first | rfl | exact ⟨rfl, rfl⟩))))
 | fail)
      exact ⟨_, k5, .nils, .nils, ⟨e, 0, 0, [], .mk 0 0 [], nanC⟩, bs1, bad1, _, ⟨G0, hcd, .inl ⟨rfl, rfl⟩, .inl ⟨rfl, rfl⟩, by simp, ⟨by omega, by simp, trivial⟩⟩, by simp [f0, f2, f4, f5], rfl⟩
  · clear hcd G0 f0 f2 f4 f5 hby hrg
    rintro st ⟨hh, k5, S, L, x, bs2, bad2, f, ⟨G, hcd, hS, hL, hsp, hfv⟩, ⟨f0, f2, f4, f5⟩, rfl⟩
    obtain ⟨t1, y1⟩ := G.rd
    have y0 := G.z
    have y5 := G.c
    have hk5 := G.k
    have hl0 : 0 < hh.length := Ab.ent_lt (by rw [y0]; simp)
    have es0 := fun B => ent_set (e := B) hl0
    unfold cellsR at y5
    unfold zeroB at y0
    have hp := Put_pure HH.putc HH.u x.e x.a x.b x.sp x.v x.q (by omega) hfv
    have heq := equal_ok HH.o.eq (putX x) bs (byt_putS hfv) hb
    have hg : getR bs = if bad2 = false ∧ putX x = bs then (x, 0) else (zeroX, 2) := by
      unfold getR getS
      rw [hcd]
      dsimp only
      by_cases hq : bad2 = false ∧ putX x = bs
      · rw [if_pos hq, if_pos hq]
      · rw [if_neg hq, if_neg hq]
    rw [hg]
    have e0 : encX zeroX = .agg [.int .i64 0, .int .i64 0, .int .i64 0, .sl [], .int .i64 0, .int .u8 0, .sl [], .flt .f64 0] := by simp [encX, zeroX, encR, vk, vb, vl]
    have e1 : encX x = .agg [.int .i64 x.e, .int .i64 x.a, .int .i64 x.b, .sl (x.sp.map encS), .int .i64 x.v.k, .int .u8 x.v.b, .sl (x.v.l.map encV), .flt .f64 x.q] := rfl
    simp only [encR] at hp
    have e2 : putS x.e x.a x.b x.sp x.v x.q = putX x := rfl
    rw [e2] at hp
    clear hg hcd hsp hfv e2 G
    cases bad2 with
 | true =>
      rw [if_neg (by simp)]
      dsimp only
      rw [e0]
      clear e0 e1 hp heq
      (repeat' first
 | apply X.retS
 | (apply X.condQ rfl; (focus (simp only [SB, reduceIte, Nat.reduceEqDiff, f0, f2, f4, f5]; with_reducible rfl)); all_goals (intro hbr; first | exact absurd hbr (by decide) | ((try rw [hbr]); (try simp at hbr))))
 | apply X.stepZ
 | (apply X.stepQ rfl; (focus (simp only [SB, reduceIte, Nat.reduceEqDiff, f0, f2, f4, f5]; with_reducible rfl)); (focus (simp [-getElem?_pos, y1, y0, es0]; with_reducible (first | rfl | exact ⟨rfl, rfl⟩))))
 | ((first | apply X.stepGtQ rfl | apply X.stepGfQ rfl); (focus (simp only [SB, reduceIte, Nat.reduceEqDiff, f0, f2, f4, f5]; with_reducible rfl)); all_goals (intro hbr; first | exact absurd hbr (by decide) | ((try rw [hbr]); (try simp at hbr))))
 | fail)
      all_goals refine Fin.mkQ (us := [.agg [.pv (.int .i64 0), .pv (.int .i64 0), .pv (.int .i64 0), .nils, .pv (.int .i64 0), .pv (.int .u8 0), .nils, .pv (.flt .f64 0)], .pv (.int .i64 2)]) rfl (by simp [resS, f2, es0, pures]) (by simp [oneOf, pureRes, snapFuel, snapL]) rfl
 | false =>
      by_cases hpx : putX x = bs
      · rw [if_pos ⟨rfl, hpx⟩]
        rw [decide_eq_true hpx] at heq
        dsimp only
        rw [e1]
        clear e0 e1
        generalize putX x = pb at hp heq
        clear hpx
        obtain ⟨S', gS⟩ : ∃ S', S' = S := ⟨S, rfl⟩
        obtain ⟨L', gL⟩ : ∃ L', L' = L := ⟨L, rfl⟩
        rcases hS with ⟨eS, rfl⟩ | rfl | ⟨tS, rfl⟩ <;> rcases hL with ⟨eL, rfl⟩ | rfl | ⟨tL, rfl⟩ <;> (try rw [eS] at hp ⊢) <;> (try rw [eL] at hp ⊢)
        all_goals (repeat' first
 | apply X.retS
 | apply X.skipS
 | (apply X.condQ rfl; (focus (simp only [SB, reduceIte, Nat.reduceEqDiff, f0, f2, f4, f5]; with_reducible rfl)); all_goals (intro hbr; first | exact absurd hbr (by decide) | ((try rw [hbr]); (try simp at hbr))))
 | apply X.stepZ
 | (apply X.stepQ rfl; (focus (simp only [SB, reduceIte, Nat.reduceEqDiff, f0, f2, f4, f5]; with_reducible rfl)); (focus (simp [-getElem?_pos, y1, y0, y5, es0, HH.rput, hp, HH.o.eq.raw, heq]; with_reducible (first | rfl | exact ⟨rfl, rfl⟩))))
 | ((first | apply X.stepGtQ rfl | apply X.stepGfQ rfl); (focus (simp only [SB, reduceIte, Nat.reduceEqDiff, f0, f2, f4, f5]; with_reducible rfl)); all_goals (intro hbr; first | exact absurd hbr (by decide) | ((try rw [hbr]); (try simp at hbr))))
 | fail)
        all_goals refine Fin.mkQ (us := [.agg [.pv (.int .i64 x.e), .pv (.int .i64 x.a), .pv (.int .i64 x.b), S', .pv (.int .i64 x.v.k), .pv (.int .u8 x.v.b), L', .pv (.flt .f64 x.q)], .pv (.int .i64 0)]) rfl (by simp [resS, f2, es0, pures, gS, gL]) (by simp [oneOf, pureRes, snapFuel, snapL, gS, gL]) rfl
      · rw [if_neg (fun h => hpx h.2)]
        rw [decide_eq_false hpx] at heq
        dsimp only
        rw [e0]
        clear e0 e1
        generalize putX x = pb at hp heq
        clear hpx
        rcases hS with ⟨eS, rfl⟩ | rfl | ⟨tS, rfl⟩ <;> rcases hL with ⟨eL, rfl⟩ | rfl | ⟨tL, rfl⟩ <;> (try rw [eS] at hp) <;> (try rw [eL] at hp)
        all_goals (repeat' first
 | apply X.retS
 | (apply X.condQ rfl; (focus (simp only [SB, reduceIte, Nat.reduceEqDiff, f0, f2, f4, f5]; with_reducible rfl)); all_goals (intro hbr; first | exact absurd hbr (by decide) | ((try rw [hbr]); (try simp at hbr))))
 | apply X.stepZ
 | (apply X.stepQ rfl; (focus (simp only [SB, reduceIte, Nat.reduceEqDiff, f0, f2, f4, f5]; with_reducible rfl)); (focus (simp [-getElem?_pos, y1, y0, y5, es0, HH.rput, hp, HH.o.eq.raw, heq]; with_reducible (first | rfl | exact ⟨rfl, rfl⟩))))
 | ((first | apply X.stepGtQ rfl | apply X.stepGfQ rfl); (focus (simp only [SB, reduceIte, Nat.reduceEqDiff, f0, f2, f4, f5]; with_reducible rfl)); all_goals (intro hbr; first | exact absurd hbr (by decide) | ((try rw [hbr]); (try simp at hbr))))
 | fail)
        all_goals refine Fin.mkQ (us := [.agg [.pv (.int .i64 0), .pv (.int .i64 0), .pv (.int .i64 0), .nils, .pv (.int .i64 0), .pv (.int .u8 0), .nils, .pv (.flt .f64 0)], .pv (.int .i64 2)]) rfl (by simp [resS, f2, es0, pures]) (by simp [oneOf, pureRes, snapFuel, snapL]) rfl
end Rp
