/- SyI: steps, walks, laws: see the remarks within. -/
import Derived.Test.YtdacifedlemlmaaSyH
set_option linter.unusedSimpArgs false
set_option linter.unusedVariables false
-- The document's own reader: one byte, a number of four: walked.
namespace Rp
open Go Ab Go.Proofs.Ytdacifedlemlmaa.Mach
variable {E : Env}

def oneS (bs : List Int) (bad : Bool) : Int × List Int × Bool := match bs with
  | [] => (0, [], true)
  | x :: r => (x, r, bad)
def iterF : Nat → Int → List Int → Bool → Int × List Int × Bool
  | 0, n, bs, bad => (n, bs, bad)
  | k + 1, n, bs, bad => iterF k (or8 n (oneS bs bad).1) (oneS bs bad).2.1 (oneS bs bad).2.2
def fourS (bs : List Int) (bad : Bool) : Int × List Int × Bool := iterF 4 0 bs bad
theorem one_byt {bs : List Int} {bad : Bool} (h : Byt bs) : Byt (oneS bs bad).2.1 := by
  cases bs with
  | nil => exact h
  | cons x r => exact fun y hy => h y (by simp only [oneS] at hy; simp [hy])
theorem one_rng {bs : List Int} {bad : Bool} (h : Byt bs) : 0 ≤ (oneS bs bad).1 ∧ (oneS bs bad).1 < 256 := by
  cases bs with
  | nil => simp [oneS]
  | cons x r => exact h x (by simp)
theorem iter_byt : ∀ (k : Nat) {n : Int} {bs : List Int} {bad : Bool}, Byt bs → Byt (iterF k n bs bad).2.1
  | 0, _, _, _, h => h
  | k + 1, _, _, _, h => iter_byt k (one_byt h)

structure HasOn (E : Env) : Prop where
  one : HasR E 65 c65
  four : HasR E 66 c66

set_option maxHeartbeats 4000000 in
theorem one_ok (HH : HasOn E) (h : Heap) (ri : Nat) (bs : List Int) (bad : Bool) (hb : Byt bs) (hr : Rd h ri bs bad) :
    ∃ r h', limR E 65 [.ptr ri 0] h = some (r, h') ∧ (r = .pv (.int .i64 (oneS bs bad).1) ∧ Rd h' ri (oneS bs bad).2.1 (oneS bs bad).2.2 ∧ But h [ri] h') := by
  obtain ⟨t, x1⟩ := hr
  have hlt := ent_lt x1
  refine HH.one.limQE (Nat.le_of_ble_eq_true rfl) ?_; unfold c65
  cases bs with
  | nil =>
    have hll : (encB []).length = 0 := rfl
    (repeat' first
 | apply X.retS
 | (apply X.condQ rfl; (focus (simp only [SB, reduceIte, Nat.reduceEqDiff]; with_reducible rfl)); all_goals (intro hbr; first | exact absurd hbr (by decide) | ((try rw [hbr]); (try simp at hbr))))
 | apply X.stepZ
 | (apply X.stepQ rfl; (focus (simp only [SB, reduceIte, Nat.reduceEqDiff]; with_reducible rfl)); (focus (simp [-getElem?_pos, x1, hll]; with_reducible (first | rfl | exact ⟨rfl, rfl⟩))))
 | fail)
    all_goals exact FinE.retQ (us := [.pv (.int .i64 0)]) rfl (by simp [resS]) ⟨rfl, ⟨t, by simp [ent, hlt, oneS]⟩, But.set (by simp)⟩
  | cons x r =>
    have hxb := hb x (by simp)
    have hll : (encB (x :: r)).length = r.length + 1 := by simp [encB]
    have w1 : binA .eql .no (.pv (.int .i64 ((r.length : Int) + 1))) (.pv (.int .i64 0)) = some (.pv (.bool false)) := by simp [binA, intBin]; omega
    have hx2 : (encB (x :: r))[0]? = some (.int .u8 x) := rfl
    have hwx : IntKind.i64.wrap x = x := wrap_i64 (by omega)
    have s1 := sliceB_hi (s := x :: r) (j := 1) (by simp)
    have e1 : ((1 : Nat) : Int) = 1 := rfl
    rw [e1] at s1
    simp only [List.drop_succ_cons, List.drop_zero] at s1
    generalize encB (x :: r) = L at x1 hll hx2 s1
    (repeat' first
 | apply X.retS
 | apply X.skipS
 | (apply X.condQ rfl; (focus (simp only [SB, reduceIte, Nat.reduceEqDiff]; with_reducible rfl)); all_goals (intro hbr; first | exact absurd hbr (by decide) | ((try rw [hbr]); (try simp at hbr))))
 | apply X.stepZ
 | (apply X.stepQ rfl; (focus (simp only [SB, reduceIte, Nat.reduceEqDiff]; with_reducible rfl)); (focus (simp [-getElem?_pos, -binA, x1, hll, w1, hx2, hwx, -sliceSlA, s1]; with_reducible (first | rfl | exact ⟨rfl, rfl⟩))))
 | fail)
    all_goals exact FinE.retQ (us := [.pv (.int .i64 x)]) rfl (by simp [resS]) ⟨rfl, ⟨t, by simp [ent, hlt, oneS]⟩, But.set (by simp)⟩

set_option maxHeartbeats 4000000 in
theorem four_ok (HH : HasOn E) (h : Heap) (ri : Nat) (bs : List Int) (bad : Bool) (hb : Byt bs) (hr : Rd h ri bs bad) :
    ∃ r h', limR E 66 [.ptr ri 0] h = some (r, h') ∧ (r = .pv (.int .i64 (fourS bs bad).1) ∧ Rd h' ri (fourS bs bad).2.1 (fourS bs bad).2.2 ∧ But h [ri] h') := by
  refine HH.four.limQE (Nat.le_of_ble_eq_true rfl) ?_; unfold c66
  (repeat' first
 | apply X.blockS
 | apply X.stepZ
 | (apply X.stepQ rfl; (focus (simp only [SB, reduceIte, Nat.reduceEqDiff]; with_reducible rfl)); (focus (simp [-getElem?_pos]; with_reducible (first | rfl | exact ⟨rfl, rfl⟩))))
 | fail)
  refine X.forS 4 (fun j st => ∃ (hh : Heap) (n : Int) (bs2 : List Int) (bad2 : Bool) (f : Nat → V), (Rd hh ri bs2 bad2 ∧ But h [ri] hh ∧ Byt bs2 ∧ iterF (4 - j) n bs2 bad2 = fourS bs bad) ∧ (fk (Fk.mk (f := f)) 0 = .ptr ri 0 ∧ fk (Fk.mk (f := f)) 3 = .pv (.int .i64 n) ∧ fk (Fk.mk (f := f)) 4 = .pv (.int .i64 (j : Int))) ∧ st = ⟨TL 15 f, hh⟩) ?_ ?_
  · exact ⟨_, 0, bs, bad, _, ⟨hr, But.refl, hb, rfl⟩, by simp, rfl⟩
  rintro j st hj ⟨hh, n, bs2, bad2, f, ⟨R2, B2, hb2, hit⟩, ⟨f0, f3, f4⟩, rfl⟩
  rcases Nat.lt_or_ge j 4 with hj1 | hj1
  · have w1 : binA .lss .no (.pv (.int .i64 (j : Int))) (.pv (.int .i64 4)) = some (.pv (.bool true)) := by simp [binA, intBin]; omega
    have hww : IntKind.i64.wrap ((j : Int) + 1) = (j : Int) + 1 := wrap_i64 (by omega)
    have w3 : binA .add .no (.pv (.int .i64 (j : Int))) (.pv (.int .i64 1)) = some (.pv (.int .i64 ((j : Int) + 1))) := by simp [binA, intBin, hww]
    have h1 := one_ok HH hh ri bs2 bad2 hb2 R2
    have hby := one_byt (bad := bad2) hb2
    have e4 : 4 - j = (4 - (j + 1)) + 1 := by omega
    rw [e4] at hit
    simp only [iterF] at hit
    generalize oneS bs2 bad2 = T at h1 hit hby
    obtain ⟨x, bs3, bad3⟩ := T
    dsimp only at h1 hit hby
    have w4 := shlI n
    have w5 := orI8 (IntKind.i64.wrap (n * 256)) x
    have e8 : or8 n x = IntKind.i64.wrap (BitVec.ofInt 64 (IntKind.i64.wrap (n * 256)) ||| BitVec.ofInt 64 x).toNat := rfl
    rw [← e8] at w5
    clear e8 e4
    generalize or8 n x = n2 at w5 hit
    generalize IntKind.i64.wrap (n * 256) = n3 at w4 w5
    (repeat' first
 | apply X.skipS
 | apply X.blockS
 | (apply X.condQ rfl; (focus (simp only [SB, reduceIte, Nat.reduceEqDiff, f0, f3, f4]; with_reducible rfl)); all_goals (intro hbr; first | exact absurd hbr (by decide) | ((try rw [hbr]); (try simp at hbr))))
 | apply X.stepZ
 | (apply X.stepQ rfl; (focus (simp only [SB, reduceIte, Nat.reduceEqDiff, f0, f3, f4]; with_reducible rfl)); (focus (simp [-getElem?_pos, -binA, w1, w4]; with_reducible (first | rfl | exact ⟨rfl, rfl⟩))))
 | fail)
    refine X.callRQ (P := _) rfl (by simp only [SB, reduceIte, Nat.reduceEqDiff, f0, f3, f4]; all_goals (first | with_reducible rfl | (simp <;> with_reducible rfl))) HH.one.raw (by simp [pures]) (h1) ?_
    rintro _ h2 ⟨rfl, R3, B3⟩
    (repeat' first
 | apply X.skipB
 | apply X.skipL
 | apply X.stepZ
 | (apply X.stepQ rfl; (focus (simp only [SB, reduceIte, Nat.reduceEqDiff, f0, f3, f4]; with_reducible rfl)); (focus (simp [-getElem?_pos, -binA, w3, w5]; with_reducible (first | rfl | exact ⟨rfl, rfl⟩))))
 | fail)
    exact ⟨hj1, _, n2, bs3, bad3, _, ⟨R3, B2.trans B3, hby, hit⟩, by simp [f0], rfl⟩
  · have w1 : binA .lss .no (.pv (.int .i64 (j : Int))) (.pv (.int .i64 4)) = some (.pv (.bool false)) := by simp [binA, intBin]; omega
    have e4 : 4 - j = 0 := by omega
    rw [e4] at hit
    simp only [iterF] at hit
    rw [← hit]
    (repeat' first
 | apply X.retS
 | (apply X.exitS; first | apply X.here | (refine X.out (by decide) ?_; apply X.here))
 | (apply X.condQ rfl; (focus (simp only [SB, reduceIte, Nat.reduceEqDiff, f0, f3, f4]; with_reducible rfl)); all_goals (intro hbr; first | exact absurd hbr (by decide) | ((try rw [hbr]); (try simp at hbr))))
 | apply X.stepZ
 | (apply X.stepQ rfl; (focus (simp only [SB, reduceIte, Nat.reduceEqDiff, f0, f3, f4]; with_reducible rfl)); (focus (simp [-getElem?_pos, -binA, w1]; with_reducible (first | rfl | exact ⟨rfl, rfl⟩))))
 | fail)
    all_goals exact FinE.retQ (us := [.pv (.int .i64 n)]) rfl (by simp [resS]) ⟨rfl, R2, B2⟩
end Rp

-- The document's own reader: a value: walked.
namespace Rp
open Go Ab Go.Proofs.Ytdacifedlemlmaa.Mach
variable {E : Env}

def headR (bs : List Int) (bad : Bool) : Int × Int × Int × List Int × Bool :=
  let r := oneS bs bad
  if r.1 = 2 then
    let c := oneS r.2.1 r.2.2
    (r.1, c.1, 0, c.2.1, c.2.2)
  else if r.1 = 6 then
    let c := oneS r.2.1 r.2.2
    let e := oneS c.2.1 c.2.2
    (r.1, 0, or8 c.1 e.1, e.2.1, e.2.2)
  else (r.1, 0, ((manyS r.1 0).toNat : Int), r.2.1, r.2.2)
def runR (f : List Int → Bool → Va × List Int × Bool) : Nat → List Va → List Int → Bool → List Va × List Int × Bool
  | 0, acc, bs, bad => (acc, bs, bad)
  | m + 1, acc, bs, bad => if bad = true then (acc, bs, bad) else runR f m (acc ++ [(f bs bad).1]) (f bs bad).2.1 (f bs bad).2.2
def valR : Nat → List Int → Bool → Va × List Int × Bool
  | 0, bs, bad => (.mk (headR bs bad).1 (headR bs bad).2.1 [], (headR bs bad).2.2.2.1, true)
  | d + 1, bs, bad => (.mk (headR bs bad).1 (headR bs bad).2.1 (runR (valR d) (headR bs bad).2.2.1.toNat [] (headR bs bad).2.2.2.1 ((headR bs bad).2.2.2.2 || decide (2000 < (headR bs bad).2.2.1))).1,
      (runR (valR d) (headR bs bad).2.2.1.toNat [] (headR bs bad).2.2.2.1 ((headR bs bad).2.2.2.2 || decide (2000 < (headR bs bad).2.2.1))).2)
theorem headR_byt {bs : List Int} {bad : Bool} (h : Byt bs) : Byt (headR bs bad).2.2.2.1 := by
  unfold headR
  dsimp only
  split
  · exact one_byt (one_byt h)
  · split
    · exact one_byt (one_byt (one_byt h))
    · exact one_byt h
theorem headR_b {bs : List Int} {bad : Bool} (h : Byt bs) : 0 ≤ (headR bs bad).2.1 ∧ (headR bs bad).2.1 < 256 := by
  unfold headR
  dsimp only
  split
  · exact one_rng (one_byt h)
  · split <;> simp
theorem manyS_rng (k : Int) : -1 ≤ manyS k 0 ∧ manyS k 0 ≤ 2 := by
  unfold manyS
  split <;> (try split) <;> (try split) <;> (try split) <;> omega
theorem headR_n {bs : List Int} {bad : Bool} (h : Byt bs) : 0 ≤ (headR bs bad).2.2.1 ∧ (headR bs bad).2.2.1 < 65536 := by
  unfold headR
  dsimp only
  split
  · simp
  · split
    · have h1 := one_rng (bad := (oneS bs bad).2.2) (one_byt (bad := bad) h)
      have h2 := one_rng (bad := (oneS (oneS bs bad).2.1 (oneS bs bad).2.2).2.2) (one_byt (bad := (oneS bs bad).2.2) (one_byt (bad := bad) h))
      dsimp only
      rw [or8_eq (by omega) h2]
      omega
    · have := manyS_rng (oneS bs bad).1
      dsimp only
      omega

theorem runR_le {f : List Int → Bool → Va × List Int × Bool} : ∀ (m : Nat) (acc : List Va) (bs : List Int) (bad : Bool), (runR f m acc bs bad).1.length ≤ acc.length + m
  | 0, acc, _, _ => Nat.le_refl _
  | m + 1, acc, bs, bad => by
    simp only [runR]
    split
    · dsimp only; omega
    · have := runR_le m (acc ++ [(f bs bad).1]) (f bs bad).2.1 (f bs bad).2.2 (f := f)
      simp at this
      omega

def ReadR (E : Env) (d : Int) (f : List Int → Bool → Va × List Int × Bool) : Prop := ∀ (h : Heap) (ri : Nat) (bs : List Int) (bad : Bool), Rd h ri bs bad → Byt bs →
  ∃ r h', limR E 67 [.ptr ri 0, .pv (.int .i64 d)] h = some (r, h') ∧ (VOut h.length h' r (f bs bad).1 ∧ Rd h' ri (f bs bad).2.1 (f bs bad).2.2 ∧ But h [ri] h')
theorem reach_one {h : Heap} {ri : Nat} {bs : List Int} {bad : Bool} {d : Int} (hr : Rd h ri bs bad) :
    reach h h.length (addNew [] ([V.ptr ri 0, V.pv (.int .i64 d)].flatMap V.ids)) = [ri] := by
  have h1 : addNew [] ([V.ptr ri 0, V.pv (.int .i64 d)].flatMap V.ids) = [ri] := by
    simp [V.ids, addNew]
  rw [h1]
  obtain ⟨t2, hr⟩ := hr
  have hfm : ([ri]).flatMap (fun i => entIds (ent h i)) = [] := by
    simp [hr, entIds, V.ids.idsL, V.ids]
  cases h.length with
  | zero => rfl
  | succ n => simp only [reach, hfm, addNew, if_true]
theorem ReadR.masked {d : Int} {f : List Int → Bool → Va × List Int × Bool} (H : ReadR E d f) {h : Heap} {ri : Nat} {bs : List Int} {bad : Bool} (hr : Rd h ri bs bad) (hy : Byt bs) :
    ∃ r h', limR E 67 [.ptr ri 0, .pv (.int .i64 d)] (mask [ri] h) = some (r, h') ∧ h.length ≤ h'.length ∧ (VOut h.length (merge [ri] h h') r (f bs bad).1 ∧ Rd (merge [ri] h h') ri (f bs bad).2.1 (f bs bad).2.2 ∧ But h [ri] (merge [ri] h h')) := by
  have hri := rd_lt hr
  obtain ⟨t2, hr⟩ := hr
  obtain ⟨r, h', g1, ⟨L, g2, g3⟩, ⟨t3, r3⟩, g5⟩ := H (mask [ri] h) ri bs bad ⟨t2, by rw [ent_mask_in (by simp)]; exact hr⟩ hy
  rw [length_mask] at g3
  have hlen := g5.len
  rw [length_mask] at hlen
  refine ⟨r, h', g1, hlen, ⟨L, g2, ?_⟩, ⟨t3, by rw [ent_merge_in (.inl (by simp))]; exact r3⟩, ⟨by rw [merge_len]; exact hlen, fun i hi hn => ent_merge_out hn hi hlen⟩⟩
  rcases g3 with c | c | ⟨c1, tok, c2, c3, c4⟩
  · exact .inl c
  · exact .inr (.inl c)
  · exact .inr (.inr ⟨c1, tok, c2, by rw [ent_merge_in (.inr c4)]; exact c3, c4⟩)

structure HasRv (E : Env) : Prop where
  o : HasOn E
  value : HasR E 67 c67

abbrev zeroW : Ent := .blk [.pv (.int .i64 0), .pv (.int .u8 0), .nils] (some 68)
structure VR (h : Heap) (ri k5 : Nat) (bs : List Int) (bad : Bool) (cs : List V) (hh : Heap) : Prop where
  rd : Rd hh ri bs bad
  but : But h [ri] hh
  z : ent hh h.length = zeroW
  k : h.length < k5
  c : ent hh k5 = .blk cs (some 68)
  i : ri < h.length
section
variable {h hh h' : Heap} {ri k5 : Nat} {bs bs' : List Int} {bad bad' : Bool} {cs cs' : List V}
theorem VR.take (g : VR h ri k5 bs bad cs hh) (r : Rd h' ri bs' bad') (o : But hh [ri] h') : VR h ri k5 bs' bad' cs h' :=
  ⟨r, g.but.trans o, (o.old _ (Rp.ent_lt g.z) (by have := g.i; simp; omega)).trans g.z, g.k, (o.old _ (Rp.ent_lt g.c) (by have := g.i; have := g.k; simp; omega)).trans g.c, g.i⟩
theorem VR.put (g : VR h ri k5 bs bad cs hh) (cs' : List V) : VR h ri k5 bs bad cs' (hh.set k5 (.blk cs' (some 68))) := by
  obtain ⟨t, r⟩ := g.rd
  have h1 := g.k
  have h2 := g.i
  refine ⟨⟨t, by rw [ent_set_ne (by omega)]; exact r⟩, ⟨by simp; exact g.but.len, fun i hi hn => by rw [ent_set_ne (by omega)]; exact g.but.old i hi hn⟩, by rw [ent_set_ne (by omega)]; exact g.z, h1, by rw [ent_set (Rp.ent_lt g.c)], h2⟩
theorem VR.turn (g : VR h ri k5 bs bad cs hh) : ∃ t, ent hh ri = .blk [.pv (.sl (encB bs)), .pv (.bool bad)] t ∧ VR h ri k5 bs true cs (hh.set ri (.blk [.pv (.sl (encB bs)), .pv (.bool true)] t)) := by
  obtain ⟨t, r⟩ := g.rd
  have h1 := g.k
  have h2 := g.i
  refine ⟨t, r, ⟨t, by rw [ent_set (Rp.ent_lt r)]⟩, g.but.trans (But.set (by simp)), by rw [ent_set_ne (by omega)]; exact g.z, h1, by rw [ent_set_ne (by omega)]; exact g.c, h2⟩
end

set_option maxHeartbeats 16000000 in
theorem rval_body (HH : HasRv E) (d : Nat) (hd : d ≤ 1000) (F : List Int → Bool → Va × List Int × Bool) (hF : ∀ bs, Byt bs → Byt (F bs false).2.1)
    (ih : d = 0 ∨ ReadR E ((d : Int) - 1) F) : ReadR E d fun bs bad => (.mk (headR bs bad).1 (headR bs bad).2.1 (runR F (headR bs bad).2.2.1.toNat [] (headR bs bad).2.2.2.1 ((headR bs bad).2.2.2.2 || (decide (d < 1) || decide (2000 < (headR bs bad).2.2.1)))).1,
      (runR F (headR bs bad).2.2.1.toNat [] (headR bs bad).2.2.2.1 ((headR bs bad).2.2.2.2 || (decide (d < 1) || decide (2000 < (headR bs bad).2.2.1)))).2) := by
  intro h ri bs bad hr hb
  dsimp only
  refine HH.value.limQE (Nat.le_of_ble_eq_true rfl) ?_; unfold c67
  have hri := rd_lt hr
  have htk := one_ok HH.o (h ++ [zeroW]) ri bs bad hb hr.more
  have hby1 := one_byt (bad := bad) hb
  have hrg1 := one_rng (bad := bad) hb
  have hhd := @headR.eq_1 bs bad
  generalize hT : oneS bs bad = T at htk hby1 hhd hrg1
  obtain ⟨k, bs1, bad1⟩ := T
  dsimp only at htk hby1 hhd hrg1
  (repeat' first
 | apply X.stepZ
 | (apply X.stepQ rfl; (focus (simp only [SB, reduceIte, Nat.reduceEqDiff]; with_reducible rfl)); (focus (simp [-getElem?_pos]; with_reducible (first | rfl | exact ⟨rfl, rfl⟩))))
 | fail)
  refine X.callRQ (P := _) rfl (by simp only [SB, reduceIte, Nat.reduceEqDiff]; all_goals (first | with_reducible rfl | (simp <;> with_reducible rfl))) HH.o.one.raw (by simp [pures]) (htk) ?_
  rintro _ h2 ⟨rfl, R2, B2⟩
  have x4 : ent h2 h.length = zeroW := (B2.old _ (by simp) (by simp; omega)).trans ent_at0
  have hl2 : h.length < h2.length := Rp.ent_lt x4
  iterate 8 (first
 | apply X.retS
 | apply X.skipS
 | apply X.skipB
 | apply X.skipL
 | (apply X.exitS; first | apply X.here | (refine X.out (by decide) ?_; apply X.here))
 | apply X.blockS
 | (apply X.condQ rfl; (focus (simp only [SB, reduceIte, Nat.reduceEqDiff]; with_reducible rfl)); all_goals (intro hbr; first | exact absurd hbr (by decide) | ((try rw [hbr]); (try simp at hbr))))
 | apply X.stepZ
 | (apply X.stepQ rfl; (focus (simp only [SB, reduceIte, Nat.reduceEqDiff]; with_reducible rfl)); (focus (simp [-getElem?_pos]; with_reducible (first | rfl | exact ⟨rfl, rfl⟩))))
 | (apply X.stepNQ rfl; (focus (simp only [SB, reduceIte, Nat.reduceEqDiff]; with_reducible rfl)))
 | ((first | apply X.stepGtQ rfl | apply X.stepGfQ rfl); (focus (simp only [SB, reduceIte, Nat.reduceEqDiff]; with_reducible rfl)); all_goals (intro hbr; first | exact absurd hbr (by decide) | ((try rw [hbr]); (try simp at hbr)))))
  refine X.abs2 (fun st => ∃ (hh : Heap) (k5 : Nat) (f : Nat → V), VR h ri k5 bs1 bad1 [.pv (.int .i64 k), .pv (.int .u8 0), .nils] hh ∧ (fk (Fk.mk (f := f)) 0 = .ptr ri 0 ∧ fk (Fk.mk (f := f)) 1 = .pv (.int .i64 (d : Int)) ∧ fk (Fk.mk (f := f)) 4 = .ptr h.length 0 ∧ fk (Fk.mk (f := f)) 5 = .ptr k5 0 ∧ fk (Fk.mk (f := f)) 6 = .pv (.int .i64 0) ∧ fk (Fk.mk (f := f)) 12 = .pv (.int .i64 k)) ∧ st = ⟨TL 65 f, hh⟩) ?_ ?_
  · refine ⟨_, h2.length, _, ?_, ?_, rfl⟩
    · exact ⟨R2.more, (But.less B2).more, ent_app x4 (by intro hh; cases hh), hl2, ent_at0 (l := [.blk [.pv (.int .i64 k), .pv (.int .u8 0), .nils] (some 68)]), hri⟩
    · simp
  clear x4 hl2 R2 B2 h2 htk
  rintro st ⟨hh, k5, f, S0, ⟨f0, f1, f4, f5, f6, f12⟩, rfl⟩
  refine X.stepZ ?_
  refine X.midA (fun st => ∃ (hh : Heap) (f : Nat → V), VR h ri k5 (headR bs bad).2.2.2.1 (headR bs bad).2.2.2.2 [.pv (.int .i64 (headR bs bad).1), .pv (.int .u8 (headR bs bad).2.1), .nils] hh ∧ (fk (Fk.mk (f := f)) 0 = .ptr ri 0 ∧ fk (Fk.mk (f := f)) 1 = .pv (.int .i64 (d : Int)) ∧ fk (Fk.mk (f := f)) 4 = .ptr h.length 0 ∧ fk (Fk.mk (f := f)) 5 = .ptr k5 0 ∧ fk (Fk.mk (f := f)) 6 = .pv (.int .i64 (headR bs bad).2.2.1)) ∧ st = ⟨TL 65 f, hh⟩) ?_ ?_
  · rw [hhd]
    by_cases k2 : k = 2
    · subst k2
      rw [if_pos rfl]
      have hta := one_ok HH.o hh ri bs1 bad1 hby1 S0.rd
      have hrc := one_rng (bad := bad1) hby1
      generalize oneS bs1 bad1 = T at hta hrc ⊢
      obtain ⟨c, bs2, bad2⟩ := T
      dsimp only at hta hrc ⊢
      have hwc : IntKind.u8.wrap c = c := by rw [IntKind.wrap_u8]; omega
      (repeat' first
 | apply X.blockS
 | (apply X.condQ rfl; (focus (simp only [SB, reduceIte, Nat.reduceEqDiff, f0, f1, f4, f5, f6, f12]; with_reducible rfl)); all_goals (intro hbr; first | exact absurd hbr (by decide) | ((try rw [hbr]); (try simp at hbr))))
 | apply X.stepZ
 | (apply X.stepQ rfl; (focus (simp only [SB, reduceIte, Nat.reduceEqDiff, f0, f1, f4, f5, f6, f12]; with_reducible rfl)); (focus (simp [-getElem?_pos]; with_reducible (first | rfl | exact ⟨rfl, rfl⟩))))
 | fail)
      refine X.callRQ (P := _) rfl (by simp only [SB, reduceIte, Nat.reduceEqDiff, f0, f1, f4, f5, f6, f12]; all_goals (first | with_reducible rfl | (simp <;> with_reducible rfl))) HH.o.one.raw (by simp [pures]) (hta) ?_
      rintro _ h4 ⟨rfl, R4, B4⟩
      have S5 := S0.take R4 B4
      have x5 := S5.c
      (repeat' first
 | apply X.skipB
 | apply X.skipL
 | apply X.stepZ
 | (apply X.stepQ rfl; (focus (simp only [SB, reduceIte, Nat.reduceEqDiff, f0, f1, f4, f5, f6, f12]; with_reducible rfl)); (focus (simp [-getElem?_pos, x5, hwc]; with_reducible (first | rfl | exact ⟨rfl, rfl⟩))))
 | fail)
      exact ⟨_, _, S5.put [.pv (.int .i64 2), .pv (.int .u8 c), .nils], by simp [f0, f1, f4, f5, f6], rfl⟩
    rw [if_neg k2]
    have v2 : binA .eql .no (.pv (.int .i64 k)) (.pv (.int .i64 2)) = some (.pv (.bool false)) := by simp [binA, intBin, k2]
    by_cases k6 : k = 6
    · subst k6
      rw [if_pos rfl]
      have hta := one_ok HH.o hh ri bs1 bad1 hby1 S0.rd
      have hyc := one_byt (bad := bad1) hby1
      generalize oneS bs1 bad1 = T at hta hyc ⊢
      obtain ⟨c, bs2, bad2⟩ := T
      dsimp only at hta hyc ⊢
      (repeat' first
 | apply X.blockS
 | (apply X.condQ rfl; (focus (simp only [SB, reduceIte, Nat.reduceEqDiff, f0, f1, f4, f5, f6, f12]; with_reducible rfl)); all_goals (intro hbr; first | exact absurd hbr (by decide) | ((try rw [hbr]); (try simp at hbr))))
 | apply X.stepZ
 | (apply X.stepQ rfl; (focus (simp only [SB, reduceIte, Nat.reduceEqDiff, f0, f1, f4, f5, f6, f12]; with_reducible rfl)); (focus (simp [-getElem?_pos]; with_reducible (first | rfl | exact ⟨rfl, rfl⟩))))
 | fail)
      refine X.callRQ (P := _) rfl (by simp only [SB, reduceIte, Nat.reduceEqDiff, f0, f1, f4, f5, f6, f12]; all_goals (first | with_reducible rfl | (simp <;> with_reducible rfl))) HH.o.one.raw (by simp [pures]) (hta) ?_
      rintro _ h4 ⟨rfl, R4, B4⟩
      have S5 := S0.take R4 B4
      have htb := one_ok HH.o h4 ri bs2 bad2 hyc R4
      generalize oneS bs2 bad2 = T at htb ⊢
      obtain ⟨e, bs3, bad3⟩ := T
      dsimp only at htb ⊢
      have w4 := shlI c
      have w5 := orI8 (IntKind.i64.wrap (c * 256)) e
      have e8 : or8 c e = IntKind.i64.wrap (BitVec.ofInt 64 (IntKind.i64.wrap (c * 256)) ||| BitVec.ofInt 64 e).toNat := rfl
      rw [← e8] at w5
      clear e8
      generalize or8 c e = n2 at w5 ⊢
      generalize IntKind.i64.wrap (c * 256) = n3 at w4 w5
      (repeat' first
 | apply X.stepZ
 | (apply X.stepQ rfl; (focus (simp only [SB, reduceIte, Nat.reduceEqDiff, f0, f1, f4, f5, f6, f12]; with_reducible rfl)); (focus (simp [-getElem?_pos, -binA, w4]; with_reducible (first | rfl | exact ⟨rfl, rfl⟩))))
 | fail)
      refine X.callRQ (P := _) rfl (by simp only [SB, reduceIte, Nat.reduceEqDiff, f0, f1, f4, f5, f6, f12]; all_goals (first | with_reducible rfl | (simp <;> with_reducible rfl))) HH.o.one.raw (by simp [pures]) (htb) ?_
      rintro _ h5 ⟨rfl, R5, B5⟩
      have S6 := S5.take R5 B5
      (repeat' first
 | apply X.skipB
 | apply X.skipL
 | apply X.stepZ
 | (apply X.stepQ rfl; (focus (simp only [SB, reduceIte, Nat.reduceEqDiff, f0, f1, f4, f5, f6, f12]; with_reducible rfl)); (focus (simp [-getElem?_pos, -binA, w5]; with_reducible (first | rfl | exact ⟨rfl, rfl⟩))))
 | fail)
      exact ⟨_, _, S6, by simp [f0, f1, f4, f5], rfl⟩
    rw [if_neg k6]
    have v6 : binA .eql .no (.pv (.int .i64 k)) (.pv (.int .i64 6)) = some (.pv (.bool false)) := by simp [binA, intBin, k6]
    by_cases k3 : k = 3
    · subst k3
      (repeat' first
 | apply X.skipB
 | apply X.skipL
 | apply X.blockS
 | (apply X.condQ rfl; (focus (simp only [SB, reduceIte, Nat.reduceEqDiff, f0, f1, f4, f5, f6, f12]; with_reducible rfl)); all_goals (intro hbr; first | exact absurd hbr (by decide) | ((try rw [hbr]); (try simp at hbr))))
 | apply X.stepZ
 | (apply X.stepQ rfl; (focus (simp only [SB, reduceIte, Nat.reduceEqDiff, f0, f1, f4, f5, f6, f12]; with_reducible rfl)); (focus (simp [-getElem?_pos]; with_reducible (first | rfl | exact ⟨rfl, rfl⟩))))
 | fail)
      exact ⟨_, _, S0, by simp [f0, f1, f4, f5, manyS], rfl⟩
    have v3 : binA .eql .no (.pv (.int .i64 k)) (.pv (.int .i64 3)) = some (.pv (.bool false)) := by simp [binA, intBin, k3]
    by_cases k4 : k = 4
    · subst k4
      (repeat' first
 | apply X.skipS
 | apply X.skipB
 | apply X.skipL
 | apply X.blockS
 | (apply X.condQ rfl; (focus (simp only [SB, reduceIte, Nat.reduceEqDiff, f0, f1, f4, f5, f6, f12]; with_reducible rfl)); all_goals (intro hbr; first | exact absurd hbr (by decide) | ((try rw [hbr]); (try simp at hbr))))
 | apply X.stepZ
 | (apply X.stepQ rfl; (focus (simp only [SB, reduceIte, Nat.reduceEqDiff, f0, f1, f4, f5, f6, f12]; with_reducible rfl)); (focus (simp [-getElem?_pos]; with_reducible (first | rfl | exact ⟨rfl, rfl⟩))))
 | fail)
      exact ⟨_, _, S0, by simp [f0, f1, f4, f5, manyS], rfl⟩
    have v4 : binA .eql .no (.pv (.int .i64 k)) (.pv (.int .i64 4)) = some (.pv (.bool false)) := by simp [binA, intBin, k4]
    by_cases k5' : k = 5
    · subst k5'
      (repeat' first
 | apply X.skipS
 | apply X.skipB
 | apply X.skipL
 | apply X.blockS
 | (apply X.condQ rfl; (focus (simp only [SB, reduceIte, Nat.reduceEqDiff, f0, f1, f4, f5, f6, f12]; with_reducible rfl)); all_goals (intro hbr; first | exact absurd hbr (by decide) | ((try rw [hbr]); (try simp at hbr))))
 | apply X.stepZ
 | (apply X.stepQ rfl; (focus (simp only [SB, reduceIte, Nat.reduceEqDiff, f0, f1, f4, f5, f6, f12]; with_reducible rfl)); (focus (simp [-getElem?_pos]; with_reducible (first | rfl | exact ⟨rfl, rfl⟩))))
 | fail)
      exact ⟨_, _, S0, by simp [f0, f1, f4, f5, manyS], rfl⟩
    have v5 : binA .eql .no (.pv (.int .i64 k)) (.pv (.int .i64 5)) = some (.pv (.bool false)) := by simp [binA, intBin, k5']
    by_cases k7 : k = 7
    · subst k7
      (repeat' first
 | apply X.skipB
 | apply X.skipL
 | apply X.blockS
 | (apply X.condQ rfl; (focus (simp only [SB, reduceIte, Nat.reduceEqDiff, f0, f1, f4, f5, f6, f12]; with_reducible rfl)); all_goals (intro hbr; first | exact absurd hbr (by decide) | ((try rw [hbr]); (try simp at hbr))))
 | apply X.stepZ
 | (apply X.stepQ rfl; (focus (simp only [SB, reduceIte, Nat.reduceEqDiff, f0, f1, f4, f5, f6, f12]; with_reducible rfl)); (focus (simp [-getElem?_pos]; with_reducible (first | rfl | exact ⟨rfl, rfl⟩))))
 | fail)
      exact ⟨_, _, S0, by simp [f0, f1, f4, f5, manyS], rfl⟩
    have v7 : binA .eql .no (.pv (.int .i64 k)) (.pv (.int .i64 7)) = some (.pv (.bool false)) := by simp [binA, intBin, k7]
    have em : ((manyS k 0).toNat : Int) = 0 := by
      unfold manyS
      split <;> (try split) <;> (try split) <;> (try split) <;> omega
    rw [em]
    (repeat' first
 | apply X.skipS
 | apply X.skipB
 | apply X.skipL
 | apply X.blockS
 | (apply X.condQ rfl; (focus (simp only [SB, reduceIte, Nat.reduceEqDiff, f0, f1, f4, f5, f6, f12]; with_reducible rfl)); all_goals (intro hbr; first | exact absurd hbr (by decide) | ((try rw [hbr]); (try simp at hbr))))
 | apply X.stepZ
 | (apply X.stepQ rfl; (focus (simp only [SB, reduceIte, Nat.reduceEqDiff, f0, f1, f4, f5, f6, f12]; with_reducible rfl)); (focus (simp [-getElem?_pos, -binA, v2, v3, v4, v5, v6, v7]; with_reducible (first | rfl | exact ⟨rfl, rfl⟩))))
 | fail)
    exact ⟨_, _, S0, by simp [f0, f1, f4, f5, f6], rfl⟩
  have hpb := headR_byt (bad := bad) hb
  have hpn := headR_n (bad := bad) hb
  clear hhd S0 f0 f1 f4 f5 f6 f12 hby1 hT hrg1
  generalize headR bs bad = p at hpb hpn ⊢
  obtain ⟨k, c, n, bs2, bad2⟩ := p
  dsimp only at hpb hpn ⊢
  clear bs1 bad1 hh f
  rintro st ⟨hh, f, S0, ⟨f0, f1, f4, f5, f6⟩, rfl⟩
  rw [app_seq]
  refine X.midA (fun st => ∃ (hh : Heap) (f : Nat → V), VR h ri k5 bs2 (bad2 || (decide (d < 1) || decide (2000 < n))) [.pv (.int .i64 k), .pv (.int .u8 c), .nils] hh ∧ (fk (Fk.mk (f := f)) 0 = .ptr ri 0 ∧ fk (Fk.mk (f := f)) 1 = .pv (.int .i64 (d : Int)) ∧ fk (Fk.mk (f := f)) 4 = .ptr h.length 0 ∧ fk (Fk.mk (f := f)) 5 = .ptr k5 0 ∧ fk (Fk.mk (f := f)) 6 = .pv (.int .i64 n)) ∧ st = ⟨TL 65 f, hh⟩) ?_ ?_
  · obtain ⟨t1, y1, ST⟩ := S0.turn
    by_cases h1 : d < 1
    · have w1 : binA .leq .no (.pv (.int .i64 (d : Int))) (.pv (.int .i64 0)) = some (.pv (.bool true)) := by simp [binA, intBin]; omega
      have e0 : (bad2 || (decide (d < 1) || decide (2000 < n))) = true := by simp [h1]
      rw [e0]
      (repeat' first
 | apply X.skipL
 | (apply X.condQ rfl; (focus (simp only [SB, reduceIte, Nat.reduceEqDiff, f0, f1, f4, f5, f6]; with_reducible rfl)); all_goals (intro hbr; first | exact absurd hbr (by decide) | ((try rw [hbr]); (try simp at hbr))))
 | apply X.stepZ
 | (apply X.stepQ rfl; (focus (simp only [SB, reduceIte, Nat.reduceEqDiff, f0, f1, f4, f5, f6]; with_reducible rfl)); (focus (simp [-getElem?_pos, -binA, w1, y1]; with_reducible (first | rfl | exact ⟨rfl, rfl⟩))))
 | ((first | apply X.stepGtQ rfl | apply X.stepGfQ rfl); (focus (simp only [SB, reduceIte, Nat.reduceEqDiff, f0, f1, f4, f5, f6]; with_reducible rfl)); all_goals (intro hbr; first | exact absurd hbr (by decide) | ((try rw [hbr]); (try simp at hbr))))
 | fail)
      exact ⟨_, _, ST, by simp [f0, f1, f4, f5, f6], rfl⟩
    · have w1 : binA .leq .no (.pv (.int .i64 (d : Int))) (.pv (.int .i64 0)) = some (.pv (.bool false)) := by simp [binA, intBin]; omega
      by_cases h2 : 2000 < n
      · have w2 : binA .gtr .no (.pv (.int .i64 n)) (.pv (.int .i64 2000)) = some (.pv (.bool true)) := by simp [binA, intBin, h2]
        have e0 : (bad2 || (decide (d < 1) || decide (2000 < n))) = true := by simp [h2]
        rw [e0]
        (repeat' first
 | apply X.skipL
 | (apply X.condQ rfl; (focus (simp only [SB, reduceIte, Nat.reduceEqDiff, f0, f1, f4, f5, f6]; with_reducible rfl)); all_goals (intro hbr; first | exact absurd hbr (by decide) | ((try rw [hbr]); (try simp at hbr))))
 | apply X.stepZ
 | (apply X.stepQ rfl; (focus (simp only [SB, reduceIte, Nat.reduceEqDiff, f0, f1, f4, f5, f6]; with_reducible rfl)); (focus (simp [-getElem?_pos, -binA, w1, w2, y1]; with_reducible (first | rfl | exact ⟨rfl, rfl⟩))))
 | ((first | apply X.stepGtQ rfl | apply X.stepGfQ rfl); (focus (simp only [SB, reduceIte, Nat.reduceEqDiff, f0, f1, f4, f5, f6]; with_reducible rfl)); all_goals (intro hbr; first | exact absurd hbr (by decide) | ((try rw [hbr]); (try simp at hbr))))
 | fail)
        exact ⟨_, _, ST, by simp [f0, f1, f4, f5, f6], rfl⟩
      · have w2 : binA .gtr .no (.pv (.int .i64 n)) (.pv (.int .i64 2000)) = some (.pv (.bool false)) := by simp [binA, intBin, h2]
        have e0 : (bad2 || (decide (d < 1) || decide (2000 < n))) = bad2 := by simp [h1, h2]
        rw [e0]
        (repeat' first
 | apply X.skipS
 | apply X.skipL
 | (apply X.condQ rfl; (focus (simp only [SB, reduceIte, Nat.reduceEqDiff, f0, f1, f4, f5, f6]; with_reducible rfl)); all_goals (intro hbr; first | exact absurd hbr (by decide) | ((try rw [hbr]); (try simp at hbr))))
 | apply X.stepZ
 | (apply X.stepQ rfl; (focus (simp only [SB, reduceIte, Nat.reduceEqDiff, f0, f1, f4, f5, f6]; with_reducible rfl)); (focus (simp [-getElem?_pos, -binA, w1, w2, y1]; with_reducible (first | rfl | exact ⟨rfl, rfl⟩))))
 | ((first | apply X.stepGtQ rfl | apply X.stepGfQ rfl); (focus (simp only [SB, reduceIte, Nat.reduceEqDiff, f0, f1, f4, f5, f6]; with_reducible rfl)); all_goals (intro hbr; first | exact absurd hbr (by decide) | ((try rw [hbr]); (try simp at hbr))))
 | fail)
        exact ⟨_, _, S0, by simp [f0, f1, f4, f5, f6], rfl⟩
  have hbt : d = 0 → (bad2 || (decide (d < 1) || decide (2000 < n))) = true := fun h => by simp [h]
  have hbn : (bad2 || (decide (d < 1) || decide (2000 < n))) = false → n ≤ 2000 := fun h => by simp at h; omega
  generalize (bad2 || (decide (d < 1) || decide (2000 < n))) = bad0 at hbt hbn ⊢
  clear S0 f0 f1 f4 f5 f6 hh f
  rintro st ⟨hh, f, S0, ⟨f0, f1, f4, f5, f6⟩, rfl⟩
  (repeat' first
 | apply X.blockS
 | apply X.stepZ
 | (apply X.stepQ rfl; (focus (simp only [SB, reduceIte, Nat.reduceEqDiff, f0, f1, f4, f5, f6]; with_reducible rfl)); (focus (simp [-getElem?_pos]; with_reducible (first | rfl | exact ⟨rfl, rfl⟩))))
 | fail)
  generalize hQ : runR F n.toNat [] bs2 bad0 = Q
  refine X.forS n.toNat (fun j st => ∃ (hh : Heap) (L : V) (acc : List Va) (bs3 : List Int) (bad3 : Bool) (f : Nat → V), (VR h ri k5 bs3 bad3 [.pv (.int .i64 k), .pv (.int .u8 c), L] hh ∧ Rw h.length hh L (acc.map encV) ∧ Byt bs3 ∧ (bad3 = false → bad0 = false) ∧ runR F (n.toNat - j) acc bs3 bad3 = Q ∧ acc.length = j) ∧
    (fk (Fk.mk (f := f)) 0 = .ptr ri 0 ∧ fk (Fk.mk (f := f)) 1 = .pv (.int .i64 (d : Int)) ∧ fk (Fk.mk (f := f)) 4 = .ptr h.length 0 ∧ fk (Fk.mk (f := f)) 5 = .ptr k5 0 ∧ fk (Fk.mk (f := f)) 6 = .pv (.int .i64 n) ∧ fk (Fk.mk (f := f)) 7 = .pv (.int .i64 (j : Int))) ∧ st = ⟨TL 65 f, hh⟩) ?_ ?_
  · exact ⟨hh, .nils, [], bs2, bad0, _, ⟨S0, .inl ⟨rfl, rfl⟩, hpb, id, hQ, rfl⟩, by simp [f0, f1, f4, f5, f6], rfl⟩
  clear S0 f0 f1 f4 f5 f6 hpb hQ hh f
  rintro j st hj ⟨hh, L, acc, bs3, bad3, f, ⟨S0, W0, hb3, hb0, hru, hal⟩, ⟨f0, f1, f4, f5, f6, f7⟩, rfl⟩
  obtain ⟨t1, y1⟩ := S0.rd
  have x5 := S0.c
  have hk5' := Rp.ent_lt x5
  have hkk := S0.k
  have hww : IntKind.i64.wrap ((j : Int) + 1) = (j : Int) + 1 := wrap_i64 (by omega)
  by_cases hc : j < n.toNat ∧ bad3 = false
  · obtain ⟨hc1, rfl⟩ := hc
    have hn2 := hbn (hb0 rfl)
    have hd1 : d ≠ 0 := fun h => by have := hbt h; rw [hb0 rfl] at this; cases this
    have ih' : ReadR E ((d : Int) - 1) F := ih.resolve_left hd1
    have w1 : binA .lss .no (.pv (.int .i64 (j : Int))) (.pv (.int .i64 n)) = some (.pv (.bool true)) := by simp [binA, intBin]; omega
    have hwd : IntKind.i64.wrap ((d : Int) - 1) = (d : Int) - 1 := wrap_i64 (by omega)
    have w2 : binA .sub .no (.pv (.int .i64 (d : Int))) (.pv (.int .i64 1)) = some (.pv (.int .i64 ((d : Int) - 1))) := by simp [binA, intBin, hwd]
    have w3 : binA .add .no (.pv (.int .i64 (j : Int))) (.pv (.int .i64 1)) = some (.pv (.int .i64 ((j : Int) + 1))) := by simp [binA, intBin, hww]
    obtain ⟨m, hm⟩ : ∃ m, n.toNat - j = m + 1 := ⟨n.toNat - j - 1, by omega⟩
    rw [hm] at hru
    simp only [runR, Bool.false_eq_true, if_false] at hru
    have a3 := hF bs3 hb3
    have hms := ih'.masked S0.rd hb3
    have hre := reach_one (d := (d : Int) - 1) S0.rd
    have hrl := rd_lt S0.rd
    generalize F bs3 false = T at hru a3 hms
    obtain ⟨x, bs4, bad4⟩ := T
    dsimp only at hru a3 hms
    (repeat' first
 | apply X.skipS
 | apply X.blockS
 | (apply X.condQ rfl; (focus (simp only [SB, reduceIte, Nat.reduceEqDiff, f0, f1, f4, f5, f6, f7]; with_reducible rfl)); all_goals (intro hbr; first | exact absurd hbr (by decide) | ((try rw [hbr]); (try simp at hbr))))
 | apply X.stepZ
 | (apply X.stepQ rfl; (focus (simp only [SB, reduceIte, Nat.reduceEqDiff, f0, f1, f4, f5, f6, f7]; with_reducible rfl)); (focus (simp [-getElem?_pos, -binA, w1, y1]; with_reducible (first | rfl | exact ⟨rfl, rfl⟩))))
 | ((first | apply X.stepGtQ rfl | apply X.stepGfQ rfl); (focus (simp only [SB, reduceIte, Nat.reduceEqDiff, f0, f1, f4, f5, f6, f7]; with_reducible rfl)); all_goals (intro hbr; first | exact absurd hbr (by decide) | ((try rw [hbr]); (try simp at hbr))))
 | fail)
    refine X.drawC [67] [k5] rfl ?_
    (repeat' first
 | (apply XC.calmQ rfl rfl rfl; (focus (simp only [SB, reduceIte, Nat.reduceEqDiff, f0, f1, f4, f5, f6, f7]; with_reducible rfl)); (focus (simp [-getElem?_pos, -binA, x5, w2]; done)); (focus (simp [-getElem?_pos, -binA, x5, w2]; with_reducible (first | rfl | exact ⟨rfl, rfl⟩))))
 | fail)
    have hik := S0.i
    refine XC.callX (P := fun r h' => VOut hh.length h' r x ∧ Rd h' ri bs4 bad4 ∧ But hh [ri] h') rfl (by simp only [SB, reduceIte, Nat.reduceEqDiff, f0, f1, f4, f5, f6, f7]; all_goals (first | with_reducible rfl | (simp; done) | (simp <;> with_reducible rfl))) hre HH.value.raw HH.value.ext (by intro x hx; simp at hx ⊢; omega) (by intro x hx; simp at hx; omega) (by intro x hx; simp at hx; omega) hms ?_
    rintro r h4 ⟨⟨L2, c1, c2⟩, R4, B4⟩
    have S4 := S0.take R4 B4
    have z5 : ent h4 k5 = _ := S4.c
    have W4 : Rw h.length h4 L (acc.map encV) := W0.but B4 (by intro i hi; simp at hi; subst hi; simp [y1])
    have hl4 := B4.len
    obtain ⟨t4, y4⟩ := S4.rd
    have z4 := S4.z
    have hbo := S4.but
    have hcell : L2.isCell = true := c2.cell
    have hwk : weak L2 = some (.sl (x.l.map encV)) := c2.weak
    clear hms hre W0 c2
    have hbs : opA E (limP E) (limR E) [] (mask [] h4) (.buildSl true false 3 [.pv (.int .i64 0), .pv (.int .u8 0), .nils] 1 [(0, .val r)]) = some (.slx [.agg [.int .i64 x.k, .int .u8 x.b, .sl (x.l.map encV)]], mask [] h4) := by
      have hfi : fillA [.pv (.int .i64 0), .pv (.int .u8 0), .nils] [(0, 3, r)] = some [.pv (.int .i64 x.k), .pv (.int .u8 x.b), L2] := by
        have hall : List.all [V.pv (.int .i64 x.k), .pv (.int .u8 x.b), L2] V.isCell = true := by simp only [List.all_cons, hcell, List.all_nil, Bool.and_true]; rfl
        simp only [fillA, c1]
        rw [if_pos ⟨rfl, by simp, hall⟩]
        rfl
      have e : opA E (limP E) (limR E) [] (mask [] h4) (.buildSl true false 3 [.pv (.int .i64 0), .pv (.int .u8 0), .nils] 1 [(0, .val r)]) =
          (match fillA [.pv (.int .i64 0), .pv (.int .u8 0), .nils] [(0, 3, r)] with
            | some cs => (match weak.weakL cs with
              | some ps => some (.slx ((chunks 3 1 ps).map (mkPV true)), mask [] h4)
              | none => none)
            | none => none) := rfl
      rw [e, hfi]
      simp only [weak.weakL, weak, hwk]
      rfl
    refine XC.makeQ (h1 := mask [] h4) rfl rfl rfl rfl (by simp only [SB, reduceIte, Nat.reduceEqDiff]) rfl rfl (by simp; omega) hbs (by simp [length_mask]) (by rw [merge_mask]) ?_
    have hap := W4.append_maskedT (E := E) (te := 68) x (by omega)
    refine XC.growQ (F := L.ids) (vop := .append true false 3 40 68 (.val L) (.val (.slx [.agg [.int .i64 x.k, .int .u8 x.b, .sl (x.l.map encV)]]))) rfl rfl rfl (by simp only [SB, reduceIte, Nat.reduceEqDiff]) (by show L.ids ++ [] = _; rw [List.append_nil]) ?_ (by simp; omega) (fun x hx => Ab.ent_lt (by rw [(W4.ids x hx).1]; simp)) hap (by simp [length_kill, length_mask]) (kill_mask W4) ?_
    · rw [List.all_eq_true]
      intro y hy
      have := (W4.ids y hy).1
      have : y ≠ k5 := by rintro rfl; rw [z5] at this; cases this
      simpa using this
    have u5 : ent (kill h4 L ++ [.tok]) k5 = _ := (W4.keep (by rw [z5]; simp) (by omega)).trans z5
    have u4 : ent (kill h4 L ++ [.tok]) h.length = _ := (W4.keep (by rw [z4]; simp) (Rp.ent_lt z4)).trans z4
    have u1 : ent (kill h4 L ++ [.tok]) ri = _ := (W4.keep (by rw [y4]; simp) (by omega)).trans y4
    have ub := W4.butK (l := [.tok]) hbo (Nat.le_refl _)
    have W5 : Rw h.length (kill h4 L ++ [.tok]) (.slt ((acc ++ [x]).map encV) h4.length) ((acc ++ [x]).map encV) := Rw.done (by simp) rfl (by omega)
    have hH : h4.length < (kill h4 L ++ [Ent.tok]).length := by simp [length_kill]
    clear hap hbs W4 z5 y4 hbo S4
    generalize kill h4 L ++ [Ent.tok] = H at u5 u4 u1 ub W5 hH ⊢
    (repeat' first
 | (apply XC.calmQ rfl rfl rfl; (focus (simp only [SB, reduceIte, Nat.reduceEqDiff, f0, f1, f4, f5, f6, f7]; with_reducible rfl)); (focus (simp [-getElem?_pos, u5]; done)); (focus (simp [-getElem?_pos, u5]; with_reducible (first | rfl | exact ⟨rfl, rfl⟩))))
 | fail)
    have hkH : k5 < H.length := by omega
    have um : ent (mask [k5] H) k5 = _ := (ent_mask_in (by simp)).trans u5
    have hst : opA E (limP E) (limR E) [] (mask [k5] H) (.store 1 (.val (.ptr k5 2)) (.val (.slt ((acc ++ [x]).map encV) h4.length))) = some (.tup [], (mask [k5] H).set k5 (.blk [.pv (.int .i64 k), .pv (.int .u8 c), .slt ((acc ++ [x]).map encV) h4.length] (some 68))) := by
      simp [opA, um, St.eval]
    refine XC.loudQ (F := [k5]) (vop := .store 1 (.val (.ptr k5 2)) (.val (.slt ((acc ++ [x]).map encV) h4.length))) rfl rfl (by simp only [SB, reduceIte, Nat.reduceEqDiff, f5]) rfl hst (by simp [length_mask]) (merge_mask_set (by simp)) ?_
    apply XC.nil
    (repeat' first
 | apply X.skipB
 | apply X.skipL
 | apply X.stepZ
 | (apply X.stepQ rfl; (focus (simp only [SB, reduceIte, Nat.reduceEqDiff, f0, f1, f4, f5, f6, f7]; with_reducible rfl)); (focus (simp [-getElem?_pos, -binA, w3]; with_reducible (first | rfl | exact ⟨rfl, rfl⟩))))
 | fail)
    have SH : VR h ri k5 bs4 bad4 [.pv (.int .i64 k), .pv (.int .u8 c), L] H := ⟨⟨t4, u1⟩, ub, u4, hkk, u5, hik⟩
    refine ⟨hc1, _, .slt ((acc ++ [x]).map encV) h4.length, acc ++ [x], bs4, bad4, _, ⟨?_, ?_, a3, fun _ => hb0 rfl, ?_, by simp [hal]⟩, ?_, rfl⟩
    · simpa using SH.put [.pv (.int .i64 k), .pv (.int .u8 c), .slt ((acc ++ [x]).map encV) h4.length]
    · exact W5.but (S := [k5]) (But.set (by simp)) (by intro i hi; simp at hi; subst hi; rw [u5]; simp)
    · rw [← hru]
      congr 1
      omega
    · simp [f0, f1, f4, f5, f6]
  · have hfin : runR F (n.toNat - j) acc bs3 bad3 = (acc, bs3, bad3) := by
      cases hm : n.toNat - j with
      | zero => rfl
      | succ m =>
        have : bad3 = true := by
          cases bad3 with
          | true => rfl
          | false => exact absurd ⟨by omega, rfl⟩ hc
        simp [runR, this]
    rw [hfin] at hru
    subst hru
    dsimp only
    have x4 := S0.z
    have hh4 := Rp.ent_lt x4
    have hik := S0.i
    have hend : ∀ hh', hh' = hh.set h.length (.blk [.pv (.int .i64 k), .pv (.int .u8 c), L] (some 68)) → VOut h.length hh' (.agg [.pv (.int .i64 k), .pv (.int .u8 c), L]) (.mk k c acc) ∧ Rd hh' ri bs3 bad3 ∧ But h [ri] hh' := fun hh' he => by
      subst he
      refine ⟨⟨L, rfl, W0.but (S := [h.length]) (But.set (by simp)) (by intro i hi; simp at hi; subst hi; rw [x4]; simp)⟩, ⟨t1, by rw [ent_set_ne (by omega)]; exact y1⟩, ⟨by simp; exact S0.but.len, fun i hi hn => by rw [ent_set_ne (by omega)]; exact S0.but.old i hi hn⟩⟩
    have hS := W0.shp
    clear W0 hfin hF ih hbt hbn hb0
    have hw : binA .lss .no (.pv (.int .i64 (j : Int))) (.pv (.int .i64 n)) = some (.pv (.bool false)) ∨ (binA .lss .no (.pv (.int .i64 (j : Int))) (.pv (.int .i64 n)) = some (.pv (.bool true)) ∧ bad3 = true) := by
      by_cases h1 : j < n.toNat
      · refine .inr ⟨by simp [binA, intBin]; omega, ?_⟩
        cases bad3 with
        | true => rfl
        | false => exact absurd ⟨h1, rfl⟩ hc
      · exact .inl (by simp [binA, intBin]; omega)
    have es4 := fun B => ent_set (e := B) hh4
    obtain ⟨L', gL⟩ : ∃ L', L' = L := ⟨L, rfl⟩
    clear hc
    rcases hw with w1 | ⟨w1, rfl⟩
    · rcases hS with ⟨_, rfl⟩ | rfl | ⟨tok, rfl⟩
      all_goals (repeat' first
 | apply X.retS
 | (apply X.exitS; first | apply X.here | (refine X.out (by decide) ?_; apply X.here))
 | (apply X.condQ rfl; (focus (simp only [SB, reduceIte, Nat.reduceEqDiff, f0, f1, f4, f5, f6, f7]; with_reducible rfl)); all_goals (intro hbr; first | exact absurd hbr (by decide) | ((try rw [hbr]); (try simp at hbr))))
 | apply X.stepZ
 | (apply X.stepQ rfl; (focus (simp only [SB, reduceIte, Nat.reduceEqDiff, f0, f1, f4, f5, f6, f7]; with_reducible rfl)); (focus (simp [-getElem?_pos, -binA, w1, y1, x4, x5]; with_reducible (first | rfl | exact ⟨rfl, rfl⟩))))
 | ((first | apply X.stepGtQ rfl | apply X.stepGfQ rfl); (focus (simp only [SB, reduceIte, Nat.reduceEqDiff, f0, f1, f4, f5, f6, f7]; with_reducible rfl)); all_goals (intro hbr; first | exact absurd hbr (by decide) | ((try rw [hbr]); (try simp at hbr))))
 | fail)
      all_goals exact FinE.retQ (us := [.agg [.pv (.int .i64 k), .pv (.int .u8 c), L']]) rfl (by simp [resS, f4, es4, pures, gL]) (by rw [gL]; exact hend _ rfl)
    · rcases hS with ⟨_, rfl⟩ | rfl | ⟨tok, rfl⟩
      all_goals (repeat' first
 | apply X.retS
 | (apply X.exitS; first | apply X.here | (refine X.out (by decide) ?_; apply X.here))
 | (apply X.condQ rfl; (focus (simp only [SB, reduceIte, Nat.reduceEqDiff, f0, f1, f4, f5, f6, f7]; with_reducible rfl)); all_goals (intro hbr; first | exact absurd hbr (by decide) | ((try rw [hbr]); (try simp at hbr))))
 | apply X.stepZ
 | (apply X.stepQ rfl; (focus (simp only [SB, reduceIte, Nat.reduceEqDiff, f0, f1, f4, f5, f6, f7]; with_reducible rfl)); (focus (simp [-getElem?_pos, -binA, w1, y1, x4, x5]; with_reducible (first | rfl | exact ⟨rfl, rfl⟩))))
 | ((first | apply X.stepGtQ rfl | apply X.stepGfQ rfl); (focus (simp only [SB, reduceIte, Nat.reduceEqDiff, f0, f1, f4, f5, f6, f7]; with_reducible rfl)); all_goals (intro hbr; first | exact absurd hbr (by decide) | ((try rw [hbr]); (try simp at hbr))))
 | fail)
      all_goals exact FinE.retQ (us := [.agg [.pv (.int .i64 k), .pv (.int .u8 c), L']]) rfl (by simp [resS, f4, es4, pures, gL]) (by rw [gL]; exact hend _ rfl)

theorem ReadR.congr {d : Int} {f g : List Int → Bool → Va × List Int × Bool} (e : ∀ b x, f b x = g b x) (h : ReadR E d f) : ReadR E d g := by
  have : f = g := by funext b x; exact e b x
  rw [← this]
  exact h
theorem runR_byt {f : List Int → Bool → Va × List Int × Bool} (hf : ∀ bs, Byt bs → Byt (f bs false).2.1) : ∀ (m : Nat) (acc : List Va) (bs : List Int) (bad : Bool), Byt bs → Byt (runR f m acc bs bad).2.1
  | 0, _, _, _, h => h
  | m + 1, acc, bs, bad, h => by
    simp only [runR]
    cases bad with
 | true => exact h
 | false => exact runR_byt hf m _ _ _ (hf bs h)
theorem valR_byt : ∀ (d : Nat) (bs : List Int), Byt bs → Byt (valR d bs false).2.1
  | 0, bs, h => headR_byt h
  | d + 1, bs, h => by
    simp only [valR]
    exact runR_byt (valR_byt d) _ _ _ _ (headR_byt h)
theorem runR_bad {f : List Int → Bool → Va × List Int × Bool} (m : Nat) (acc : List Va) (bs : List Int) : runR f m acc bs true = (acc, bs, true) := by
  cases m <;> simp [runR]
theorem rvalue_ok (HH : HasRv E) : ∀ d : Nat, d ≤ 1000 → ReadR E d (valR d)
  | 0, _ => ReadR.congr (fun b x => by simp [valR, runR_bad]) (rval_body HH 0 (by omega) (fun bs _ => (.mk 0 0 [], bs, true)) (fun bs h => h) (.inl rfl))
  | d + 1, hd => ReadR.congr (fun b x => by simp [valR]) (rval_body HH (d + 1) hd (valR d) (valR_byt d) (.inr (by have := rvalue_ok HH d (by omega); simpa using this)))
end Rp

-- The document's own scores: what some bytes tell, a number's bytes: walked.
namespace Rp
open Go Ab Go.Proofs.Ytdacifedlemlmaa.Mach
variable {E : Env}

structure HasRo (E : Env) : Prop where
  g : HasGt E
  nan : Has E 69 c69
  of : Has E 68 c68
  bytes : Has E 75 c75

theorem rnan_ok (H : Has E 69 c69) (q : Nat) : limP E 69 [.flt .f64 q] = some [.bool (nanB .f64 q)] := by
  have h1 := neF q
  generalize nanB .f64 q = p at h1 ⊢
  refine H.limQ (Nat.le_of_ble_eq_true rfl) ?_; unfold c69
  (repeat' first
 | apply X.retS
 | apply X.stepZ
 | (apply X.stepQ rfl; (focus (simp only [SB, reduceIte, Nat.reduceEqDiff]; with_reducible rfl)); (focus (simp [-getElem?_pos, -binA, h1]; with_reducible (first | rfl | exact ⟨rfl, rfl⟩))))
 | fail)
  all_goals (refine Fin.mkQ rfl (by simp only [resS, SB, reduceIte, Nat.reduceEqDiff]; with_reducible rfl) (by simp [oneOf, pureRes, snapFuel, snapL]; with_reducible rfl) ?_)
  all_goals rfl
theorem shrW (n : Int) (k : Nat) (hk : k ≤ 64) {d : Int} (hd : d = 2 ^ k) : binA .shr .no (.pv (.int .u64 n)) (.pv (.int .u64 (k : Int))) = some (.pv (.int .u64 (n.fdiv d))) := by
  subst hd
  have : min ((k : Int).toNat) (IntKind.u64.bits) = k := by simp [IntKind.bits]; omega
  simp only [binA, intBin]
  rw [if_neg (by omega), this]
  rfl
def notU (n : Int) : Int := IntKind.u64.wrap (BitVec.ofInt 64 18446744073709551615 ^^^ BitVec.ofInt 64 n).toNat
def xorU (n : Int) : Int := IntKind.u64.wrap (BitVec.ofInt 64 n ^^^ BitVec.ofInt 64 topI).toNat
def ofR (bs : List Int) : Nat × Int :=
  if bs.length = 8 then
    if numU bs = 18446744073709551615 then (nanC, 0) else
    if nanB .f64 (if (numU bs).fdiv 9223372036854775808 = 1 then (xorU (numU bs)).toNat else (notU (numU bs)).toNat) = true then (0, 2)
    else ((if (numU bs).fdiv 9223372036854775808 = 1 then (xorU (numU bs)).toNat else (notU (numU bs)).toNat), 0)
  else (0, 2)

set_option maxHeartbeats 8000000 in
theorem ofr_ok (HH : HasRo E) (bs : List Int) (hb : Byt bs) : limP E 68 [.sl (encB bs)] = some [.flt .f64 (ofR bs).1, .int .i64 (ofR bs).2] := by
  have H := HH.of
  have hll := encB_len bs
  unfold ofR
  by_cases hl : bs.length = 8
  case neg =>
    rw [if_neg hl]
    have w1 : binA .neq .no (.pv (.int .i64 (bs.length : Int))) (.pv (.int .i64 8)) = some (.pv (.bool true)) := by simp [binA, intBin]; omega
    refine H.limQ (Nat.le_of_ble_eq_true rfl) ?_; unfold c68
    (repeat' first
 | apply X.retS
 | (apply X.condQ rfl; (focus (simp only [SB, reduceIte, Nat.reduceEqDiff]; with_reducible rfl)); all_goals (intro hbr; first | exact absurd hbr (by decide) | ((try rw [hbr]); (try simp at hbr))))
 | apply X.stepZ
 | (apply X.stepQ rfl; (focus (simp only [SB, reduceIte, Nat.reduceEqDiff]; with_reducible rfl)); (focus (simp [-getElem?_pos, -binA, hll, w1]; with_reducible (first | rfl | exact ⟨rfl, rfl⟩))))
 | fail)
    all_goals (refine Fin.mkQ rfl (by simp only [resS, SB, reduceIte, Nat.reduceEqDiff]; with_reducible rfl) (by simp [oneOf, pureRes, snapFuel, snapL]; with_reducible rfl) ?_)
    all_goals rfl
  rw [if_pos hl]
  have w1 : binA .neq .no (.pv (.int .i64 8)) (.pv (.int .i64 8)) = some (.pv (.bool false)) := by simp [binA, intBin]
  have hl8 : ((bs.length : Nat) : Int) = 8 := by omega
  refine H.limQ (Nat.le_of_ble_eq_true rfl) ?_; unfold c68
  (repeat' first
 | apply X.skipS
 | apply X.blockS
 | (apply X.condQ rfl; (focus (simp only [SB, reduceIte, Nat.reduceEqDiff]; with_reducible rfl)); all_goals (intro hbr; first | exact absurd hbr (by decide) | ((try rw [hbr]); (try simp at hbr))))
 | apply X.stepZ
 | (apply X.stepQ rfl; (focus (simp only [SB, reduceIte, Nat.reduceEqDiff]; with_reducible rfl)); (focus (simp [-getElem?_pos, -binA, hll, hl8, w1]; with_reducible (first | rfl | exact ⟨rfl, rfl⟩))))
 | fail)
  refine X.forS 8 (fun j st => ∃ (hh : Heap) (f : Nat → V), (fk (Fk.mk (f := f)) 0 = .pv (.sl (encB bs)) ∧ fk (Fk.mk (f := f)) 4 = .pv (.int .u64 (numU (bs.take j))) ∧ fk (Fk.mk (f := f)) 5 = .pv (.int .i64 (j : Int))) ∧ st = ⟨TL 37 f, hh⟩) ?_ ?_
  · exact ⟨_, _, by simp [numU], rfl⟩
  rintro j st hj ⟨hh, f, ⟨f0, f4, f5⟩, rfl⟩
  rcases Nat.lt_or_ge j 8 with hj1 | hj1
  · have w2 : binA .lss .no (.pv (.int .i64 (j : Int))) (.pv (.int .i64 8)) = some (.pv (.bool true)) := by simp [binA, intBin]; omega
    have hww : IntKind.i64.wrap ((j : Int) + 1) = (j : Int) + 1 := wrap_i64 (by omega)
    have w3 : binA .add .no (.pv (.int .i64 (j : Int))) (.pv (.int .i64 1)) = some (.pv (.int .i64 ((j : Int) + 1))) := by simp [binA, intBin, hww]
    obtain ⟨x, hx⟩ := at_of_lt (l := bs) (j := j) (by omega)
    have hxb := hb x (List.mem_of_getElem? hx)
    have hx2 : (encB bs)[j]? = some (.int .u8 x) := by simp only [encB, List.getElem?_map, hx]; rfl
    have hwx : IntKind.u64.wrap x = x := by simp [IntKind.wrap, IntKind.bits, IntKind.signed]; omega
    have htk : numU (bs.take (j + 1)) = orU (numU (bs.take j)) x := by
      rw [List.take_add_one, hx]
      simp [numU]
    have w4 := shlU (numU (bs.take j))
    have w5 := orUI (IntKind.u64.wrap (numU (bs.take j) * 256)) x
    have e8 : orU (numU (bs.take j)) x = IntKind.u64.wrap (BitVec.ofInt 64 (IntKind.u64.wrap (numU (bs.take j) * 256)) ||| BitVec.ofInt 64 x).toNat := rfl
    rw [← e8, ← htk] at w5
    clear e8 htk
    generalize numU (bs.take (j + 1)) = n2 at w5 ⊢
    generalize numU (bs.take j) = n1 at w4 w5 f4
    generalize IntKind.u64.wrap (n1 * 256) = n3 at w4 w5
    (repeat' first
 | apply X.skipS
 | apply X.skipB
 | apply X.skipL
 | apply X.blockS
 | (apply X.condQ rfl; (focus (simp only [SB, reduceIte, Nat.reduceEqDiff, f0, f4, f5]; with_reducible rfl)); all_goals (intro hbr; first | exact absurd hbr (by decide) | ((try rw [hbr]); (try simp at hbr))))
 | apply X.stepZ
 | (apply X.stepQ rfl; (focus (simp only [SB, reduceIte, Nat.reduceEqDiff, f0, f4, f5]; with_reducible rfl)); (focus (simp [-getElem?_pos, -binA, w2, w3, w4, w5, hx2, hwx]; with_reducible (first | rfl | exact ⟨rfl, rfl⟩))))
 | fail)
    all_goals exact ⟨hj1, _, _, by simp [f0], rfl⟩
  · have hjk : j = 8 := by omega
    subst hjk
    have w2 : binA .lss .no (.pv (.int .i64 8)) (.pv (.int .i64 8)) = some (.pv (.bool false)) := by simp [binA, intBin]
    have htk : bs.take 8 = bs := List.take_of_length_le (by omega)
    rw [htk] at f4
    have f5' : fk (Fk.mk (f := f)) 5 = .pv (.int .i64 8) := f5
    have v1 : unA .xor (.pv (.int .u64 (numU bs))) = some (.pv (.int .u64 (notU (numU bs)))) := rfl
    have v2 : binA .xor .no (.pv (.int .u64 (numU bs))) (.pv (.int .u64 9223372036854775808)) = some (.pv (.int .u64 (xorU (numU bs)))) := rfl
    have v3 := shrW (numU bs) 63 (by omega) (d := 9223372036854775808) rfl
    have e63 : ((63 : Nat) : Int) = 63 := rfl
    rw [e63] at v3
    have q1 := HH.g.o.ff (notU (numU bs))
    have q2 := HH.g.o.ff (xorU (numU bs))
    have hn0 := nan_ok2 HH.g
    have m1 := rnan_ok HH.nan (notU (numU bs)).toNat
    have m2 := rnan_ok HH.nan (xorU (numU bs)).toNat
    generalize notU (numU bs) = z1 at v1 q1 m1 ⊢
    generalize xorU (numU bs) = z2 at v2 q2 m2 ⊢
    generalize numU bs = n0 at v1 v2 v3 f4 ⊢
    by_cases hall : n0 = 18446744073709551615
    · have w6 : binA .eql .no (.pv (.int .u64 n0)) (.pv (.int .u64 18446744073709551615)) = some (.pv (.bool true)) := by simp [binA, intBin, hall]
      rw [if_pos hall]
      (repeat' first
 | apply X.retS
 | (apply X.exitS; first | apply X.here | (refine X.out (by decide) ?_; apply X.here))
 | (apply X.condQ rfl; (focus (simp only [SB, reduceIte, Nat.reduceEqDiff, f0, f4, f5']; with_reducible rfl)); all_goals (intro hbr; first | exact absurd hbr (by decide) | ((try rw [hbr]); (try simp at hbr))))
 | apply X.stepZ
 | (apply X.stepQ rfl; (focus (simp only [SB, reduceIte, Nat.reduceEqDiff, f0, f4, f5']; with_reducible rfl)); (focus (simp [-getElem?_pos, -binA, w2, w6, HH.g.nan.raw, hn0]; with_reducible (first | rfl | exact ⟨rfl, rfl⟩))))
 | fail)
      all_goals (refine Fin.mkQ rfl (by simp only [resS, SB, reduceIte, Nat.reduceEqDiff]; with_reducible rfl) (by simp [oneOf, pureRes, snapFuel, snapL]; with_reducible rfl) ?_)
      all_goals rfl
    have w6 : binA .eql .no (.pv (.int .u64 n0)) (.pv (.int .u64 18446744073709551615)) = some (.pv (.bool false)) := by simp [binA, intBin, hall]
    rw [if_neg hall]
    by_cases ht : n0.fdiv 9223372036854775808 = 1
    · have w7 : binA .eql .no (.pv (.int .u64 (n0.fdiv 9223372036854775808))) (.pv (.int .u64 1)) = some (.pv (.bool true)) := by simp [binA, intBin, ht]
      simp only [if_pos ht]
      cases hq : nanB .f64 z2.toNat with
      | true =>
        rw [hq] at m2
        rw [if_pos rfl]
        (repeat' first
 | apply X.retS
 | apply X.skipS
 | (apply X.exitS; first | apply X.here | (refine X.out (by decide) ?_; apply X.here))
 | (apply X.condQ rfl; (focus (simp only [SB, reduceIte, Nat.reduceEqDiff, f0, f4, f5']; with_reducible rfl)); all_goals (intro hbr; first | exact absurd hbr (by decide) | ((try rw [hbr]); (try simp at hbr))))
 | apply X.stepZ
 | (apply X.stepQ rfl; (focus (simp only [SB, reduceIte, Nat.reduceEqDiff, f0, f4, f5']; with_reducible rfl)); (focus (simp [-getElem?_pos, -binA, -unA, w2, w6, w7, v1, v2, v3, HH.g.o.rff, q1, q2, HH.nan.raw, m2]; with_reducible (first | rfl | exact ⟨rfl, rfl⟩))))
 | fail)
        all_goals (refine Fin.mkQ rfl (by simp only [resS, SB, reduceIte, Nat.reduceEqDiff]; with_reducible rfl) (by simp [oneOf, pureRes, snapFuel, snapL]; with_reducible rfl) ?_)
        all_goals rfl
      | false =>
        rw [hq] at m2
        rw [if_neg (by simp)]
        (repeat' first
 | apply X.retS
 | apply X.skipS
 | (apply X.exitS; first | apply X.here | (refine X.out (by decide) ?_; apply X.here))
 | (apply X.condQ rfl; (focus (simp only [SB, reduceIte, Nat.reduceEqDiff, f0, f4, f5']; with_reducible rfl)); all_goals (intro hbr; first | exact absurd hbr (by decide) | ((try rw [hbr]); (try simp at hbr))))
 | apply X.stepZ
 | (apply X.stepQ rfl; (focus (simp only [SB, reduceIte, Nat.reduceEqDiff, f0, f4, f5']; with_reducible rfl)); (focus (simp [-getElem?_pos, -binA, -unA, w2, w6, w7, v1, v2, v3, HH.g.o.rff, q1, q2, HH.nan.raw, m2]; with_reducible (first | rfl | exact ⟨rfl, rfl⟩))))
 | fail)
        all_goals (refine Fin.mkQ rfl (by simp only [resS, SB, reduceIte, Nat.reduceEqDiff]; with_reducible rfl) (by simp [oneOf, pureRes, snapFuel, snapL]; with_reducible rfl) ?_)
        all_goals rfl
    · have w7 : binA .eql .no (.pv (.int .u64 (n0.fdiv 9223372036854775808))) (.pv (.int .u64 1)) = some (.pv (.bool false)) := by simp [binA, intBin, ht]
      simp only [if_neg ht]
      cases hq : nanB .f64 z1.toNat with
      | true =>
        rw [hq] at m1
        rw [if_pos rfl]
        (repeat' first
 | apply X.retS
 | apply X.skipS
 | (apply X.exitS; first | apply X.here | (refine X.out (by decide) ?_; apply X.here))
 | (apply X.condQ rfl; (focus (simp only [SB, reduceIte, Nat.reduceEqDiff, f0, f4, f5']; with_reducible rfl)); all_goals (intro hbr; first | exact absurd hbr (by decide) | ((try rw [hbr]); (try simp at hbr))))
 | apply X.stepZ
 | (apply X.stepQ rfl; (focus (simp only [SB, reduceIte, Nat.reduceEqDiff, f0, f4, f5']; with_reducible rfl)); (focus (simp [-getElem?_pos, -binA, -unA, w2, w6, w7, v1, v2, v3, HH.g.o.rff, q1, q2, HH.nan.raw, m1]; with_reducible (first | rfl | exact ⟨rfl, rfl⟩))))
 | fail)
        all_goals (refine Fin.mkQ rfl (by simp only [resS, SB, reduceIte, Nat.reduceEqDiff]; with_reducible rfl) (by simp [oneOf, pureRes, snapFuel, snapL]; with_reducible rfl) ?_)
        all_goals rfl
      | false =>
        rw [hq] at m1
        rw [if_neg (by simp)]
        (repeat' first
 | apply X.retS
 | apply X.skipS
 | (apply X.exitS; first | apply X.here | (refine X.out (by decide) ?_; apply X.here))
 | (apply X.condQ rfl; (focus (simp only [SB, reduceIte, Nat.reduceEqDiff, f0, f4, f5']; with_reducible rfl)); all_goals (intro hbr; first | exact absurd hbr (by decide) | ((try rw [hbr]); (try simp at hbr))))
 | apply X.stepZ
 | (apply X.stepQ rfl; (focus (simp only [SB, reduceIte, Nat.reduceEqDiff, f0, f4, f5']; with_reducible rfl)); (focus (simp [-getElem?_pos, -binA, -unA, w2, w6, w7, v1, v2, v3, HH.g.o.rff, q1, q2, HH.nan.raw, m1]; with_reducible (first | rfl | exact ⟨rfl, rfl⟩))))
 | fail)
        all_goals (refine Fin.mkQ rfl (by simp only [resS, SB, reduceIte, Nat.reduceEqDiff]; with_reducible rfl) (by simp [oneOf, pureRes, snapFuel, snapL]; with_reducible rfl) ?_)
        all_goals rfl

def bitsR (q : Nat) : Int := if nanB .f64 q then 18446744073709551615 else if (q : Int).fdiv 9223372036854775808 = 1 then notU q else xorU q
def scoreR (q : Nat) : List Int := (List.range 8).map fun i => IntKind.u8.wrap ((bitsR q).fdiv (2 ^ (8 * (7 - i))))
theorem shrT (n : Int) (k : Nat) (hk : k ≤ 64) : binA .shr .no (.pv (.int .u64 n)) (.pv (.int .u64 (k : Int))) = some (.pv (.int .u64 (n.fdiv (2 ^ k)))) := shrW n k hk rfl

set_option maxHeartbeats 8000000 in
theorem bytesr_ok (HH : HasRo E) (q : Nat) (hq : q < 2 ^ 64) : limP E 75 [.flt .f64 q] = some [.sl (encB (scoreR q))] := by
  have H := HH.bytes
  have fb := HH.g.u.p.fb q
  have hn : nanOf .f64 = 101452588805775163393 := rfl
  rw [if_neg (by rw [hn]; omega)] at fb
  have m1 := rnan_ok HH.nan q
  have hbr0 : bitsR q = if nanB .f64 q then 18446744073709551615 else if (q : Int).fdiv 9223372036854775808 = 1 then notU q else xorU q := rfl
  have v1 : unA .xor (.pv (.int .u64 (q : Int))) = some (.pv (.int .u64 (notU q))) := rfl
  have v2 : binA .xor .no (.pv (.int .u64 (q : Int))) (.pv (.int .u64 9223372036854775808)) = some (.pv (.int .u64 (xorU q))) := rfl
  have v3 := shrW (q : Int) 63 (by omega) (d := 9223372036854775808) rfl
  have e63 : ((63 : Nat) : Int) = 63 := rfl
  rw [e63] at v3
  have hsc : scoreR q = (List.range 8).map fun i => IntKind.u8.wrap ((bitsR q).fdiv (2 ^ (8 * (7 - i)))) := rfl
  refine H.limQ (Nat.le_of_ble_eq_true rfl) ?_; unfold c75
  (repeat' first
 | apply X.stepZ
 | (apply X.stepQ rfl; (focus (simp only [SB, reduceIte, Nat.reduceEqDiff]; with_reducible rfl)); (focus (simp [-getElem?_pos, HH.g.u.p.rfb, fb]; with_reducible (first | rfl | exact ⟨rfl, rfl⟩))))
 | fail)
  refine X.blockMid (fun st => ∃ (hh : Heap) (f : Nat → V), (fk (Fk.mk (f := f)) 3 = .pv (.int .u64 (bitsR q))) ∧ st = ⟨TL 33 f, hh⟩) ?_ ?_
  · rw [hbr0]
    cases h1 : nanB .f64 q with
 | true =>
      rw [h1] at m1
      simp only [if_true]
      (repeat' first
 | apply X.skipB
 | (apply X.condQ rfl; (focus (simp only [SB, reduceIte, Nat.reduceEqDiff]; with_reducible rfl)); all_goals (intro hbr; first | exact absurd hbr (by decide) | ((try rw [hbr]); (try simp at hbr))))
 | apply X.stepZ
 | (apply X.stepQ rfl; (focus (simp only [SB, reduceIte, Nat.reduceEqDiff]; with_reducible rfl)); (focus (simp [-getElem?_pos, -binA, -unA, v1, v2, v3, HH.nan.raw, m1]; with_reducible (first | rfl | exact ⟨rfl, rfl⟩))))
 | fail)
      exact ⟨_, _, by simp, rfl⟩
 | false =>
      rw [h1] at m1
      simp only [Bool.false_eq_true, if_false]
      by_cases ht : (q : Int).fdiv 9223372036854775808 = 1
      · have w7 : binA .eql .no (.pv (.int .u64 ((q : Int).fdiv 9223372036854775808))) (.pv (.int .u64 1)) = some (.pv (.bool true)) := by simp [binA, intBin, ht]
        rw [if_pos ht]
        (repeat' first
 | apply X.skipB
 | (apply X.condQ rfl; (focus (simp only [SB, reduceIte, Nat.reduceEqDiff]; with_reducible rfl)); all_goals (intro hbr; first | exact absurd hbr (by decide) | ((try rw [hbr]); (try simp at hbr))))
 | apply X.stepZ
 | (apply X.stepQ rfl; (focus (simp only [SB, reduceIte, Nat.reduceEqDiff]; with_reducible rfl)); (focus (simp [-getElem?_pos, -binA, -unA, v1, v2, v3, w7, HH.nan.raw, m1]; with_reducible (first | rfl | exact ⟨rfl, rfl⟩))))
 | fail)
        exact ⟨_, _, by simp, rfl⟩
      · have w7 : binA .eql .no (.pv (.int .u64 ((q : Int).fdiv 9223372036854775808))) (.pv (.int .u64 1)) = some (.pv (.bool false)) := by simp [binA, intBin, ht]
        rw [if_neg ht]
        (repeat' first
 | apply X.skipB
 | (apply X.condQ rfl; (focus (simp only [SB, reduceIte, Nat.reduceEqDiff]; with_reducible rfl)); all_goals (intro hbr; first | exact absurd hbr (by decide) | ((try rw [hbr]); (try simp at hbr))))
 | apply X.stepZ
 | (apply X.stepQ rfl; (focus (simp only [SB, reduceIte, Nat.reduceEqDiff]; with_reducible rfl)); (focus (simp [-getElem?_pos, -binA, -unA, v1, v2, v3, w7, HH.nan.raw, m1]; with_reducible (first | rfl | exact ⟨rfl, rfl⟩))))
 | fail)
        exact ⟨_, _, by simp, rfl⟩
  clear hbr0 v1 v2 v3 m1 fb
  rintro st ⟨hh, f, f3, rfl⟩
  generalize bitsR q = z at hsc f3
  (repeat' first
 | apply X.blockS
 | apply X.stepZ
 | (apply X.stepQ rfl; (focus (simp only [SB, reduceIte, Nat.reduceEqDiff, f3]; with_reducible rfl)); (focus (simp [-getElem?_pos]; with_reducible (first | rfl | exact ⟨rfl, rfl⟩))))
 | fail)
  refine X.forS 8 (fun j st => ∃ (hh : Heap) (b1 : V) (f : Nat → V), Buf hh 5 b1 (encB ((scoreR q).take j)) ∧ (fk (Fk.mk (f := f)) 3 = .pv (.int .u64 z) ∧ fk (Fk.mk (f := f)) 4 = b1 ∧ fk (Fk.mk (f := f)) 5 = .pv (.int .i64 (7 - (j : Int)))) ∧ st = ⟨TL 33 f, hh⟩) ?_ ?_
  · exact ⟨_, _, _, Buf.nil, by simp [f3], rfl⟩
  clear f3 f hh
  rintro j st hj ⟨hh, b1, f, g1, ⟨f3, f4, f5⟩, rfl⟩
  rcases Nat.lt_or_ge j 8 with hj1 | hj1
  · have w1 : binA .geq .no (.pv (.int .i64 (7 - (j : Int)))) (.pv (.int .i64 0)) = some (.pv (.bool true)) := by simp [binA, intBin]; omega
    have hmul : IntKind.i64.wrap (8 * (7 - (j : Int))) = ((8 * (7 - j) : Nat) : Int) := by rw [wrap_i64 (by omega)]; omega
    have w2 : binA .mul .no (.pv (.int .i64 8)) (.pv (.int .i64 (7 - (j : Int)))) = some (.pv (.int .i64 ((8 * (7 - j) : Nat) : Int))) := by simp only [binA, intBin]; rw [hmul]; rfl
    have hwu : IntKind.u64.wrap ((8 * (7 - j) : Nat) : Int) = ((8 * (7 - j) : Nat) : Int) := by simp [IntKind.wrap, IntKind.bits, IntKind.signed]; omega
    have w3 := shrT z (8 * (7 - j)) (by omega)
    have w4 : binA .sub .no (.pv (.int .i64 (7 - (j : Int)))) (.pv (.int .i64 1)) = some (.pv (.int .i64 (7 - ((j + 1 : Nat) : Int)))) := by
      have : IntKind.i64.wrap (7 - (j : Int) - 1) = 7 - ((j + 1 : Nat) : Int) := by rw [wrap_i64 (by omega)]; omega
      simp only [binA, intBin]; rw [this]; rfl
    have htk : (scoreR q).take (j + 1) = (scoreR q).take j ++ [IntKind.u8.wrap (z.fdiv (2 ^ (8 * (7 - j))))] := by
      have hat : (scoreR q)[j]? = some (IntKind.u8.wrap (z.fdiv (2 ^ (8 * (7 - j))))) := by rw [hsc]; simp [hj1]
      rw [List.take_add_one, hat]; rfl
    have hln : ((scoreR q).take j).length = j := by rw [hsc]; simp; omega
    rw [htk]
    clear htk hsc hmul
    generalize hk : ((8 * (7 - j) : Nat) : Int) = k at w2 w3 hwu
    generalize z.fdiv (2 ^ (8 * (7 - j))) = y at w3 ⊢
    generalize hT : (scoreR q).take j = T at g1 hln ⊢
    obtain ⟨ty, happ⟩ : ∃ ty, ∀ l : Heap, appendA (hh ++ l) false true 1 1 5 b1 1 [.pv (.int .u8 (IntKind.u8.wrap y))] = some (.sln (hh.length + l.length) 0 (j + 1) 1 false, killB hh b1 ++ (l ++ [.blk ((encB T ++ encB [IntKind.u8.wrap y]).map .pv) ty])) := by
      have := g1.appB [IntKind.u8.wrap y] (by simp) (bytes := 1) (by simp [encB_len]; omega)
      simpa [encB_len, hln] using this
    (repeat' first
 | apply X.skipS
 | apply X.skipB
 | apply X.skipL
 | apply X.blockS
 | (apply X.condQ rfl; (focus (simp only [SB, reduceIte, Nat.reduceEqDiff, f3, f4, f5]; with_reducible rfl)); all_goals (intro hbr; first | exact absurd hbr (by decide) | ((try rw [hbr]); (try simp at hbr))))
 | apply X.stepZ
 | (apply X.stepQ rfl; (focus (simp only [SB, reduceIte, Nat.reduceEqDiff, f3, f4, f5]; with_reducible rfl)); (focus (simp [-getElem?_pos, -binA, w1, w2, w3, w4, hwu, happ, killB_at0, killB_at]; with_reducible (first | rfl | exact ⟨rfl, rfl⟩))))
 | fail)
    obtain ⟨c1, _, _, _, _⟩ := g1.grow [.blk [.pv (.int .u8 (IntKind.u8.wrap y))] none] [IntKind.u8.wrap y] (by simp) (ty := ty) rfl rfl rfl
    refine ⟨hj1, _, .sln (hh.length + 1) 0 (j + 1) 1 false, _, ?_, ?_, rfl⟩
    · rw [encB_app]; simpa [encB_len, hln] using c1
    · simp [f3]
  · have hj8 : j = 8 := by omega
    subst hj8
    have w1 : binA .geq .no (.pv (.int .i64 (-1))) (.pv (.int .i64 0)) = some (.pv (.bool false)) := by simp [binA, intBin]
    have e1 : (7 : Int) - ((8 : Nat) : Int) = -1 := rfl
    rw [e1] at f5
    have htk : (scoreR q).take 8 = scoreR q := List.take_of_length_le (by rw [hsc]; simp)
    rw [htk] at g1
    (repeat' first
 | apply X.retS
 | (apply X.exitS; first | apply X.here | (refine X.out (by decide) ?_; apply X.here))
 | (apply X.condQ rfl; (focus (simp only [SB, reduceIte, Nat.reduceEqDiff, f3, f4, f5]; with_reducible rfl)); all_goals (intro hbr; first | exact absurd hbr (by decide) | ((try rw [hbr]); (try simp at hbr))))
 | apply X.stepZ
 | (apply X.stepQ rfl; (focus (simp only [SB, reduceIte, Nat.reduceEqDiff, f3, f4, f5]; with_reducible rfl)); (focus (simp [-getElem?_pos, -binA, w1]; with_reducible (first | rfl | exact ⟨rfl, rfl⟩))))
 | fail)
    obtain ⟨h3, hs⟩ := g1.snap (n := 998)
    all_goals refine Fin.mkQ (us := [b1]) (rs' := [.sl (encB (scoreR q))]) rfl (by simp [resS, f4]) ?_ rfl
    rcases g1 with ⟨_, rfl⟩ | ⟨_, id, rfl, _⟩ <;> simp only [pureRes, oneOf, snapFuel, hs] <;> rfl
end Rp
