/- SyN: steps, walks, laws: see the remarks within. -/
import Derived.Test.YtdacifedlemlmaaSyM
import Derived.Test.YtdacifedlemlmaaSyG
set_option linter.unusedSimpArgs false
set_option linter.unusedVariables false
-- The document's own reading of a report: walked.
namespace Rp
open Go Ab Go.Proofs.Ytdacifedlemlmaa.Mach
variable {E : Env}

def runP : Nat → List Sp → List Int → Bool → List Sp × List Int × Bool
  | 0, acc, bs, bad => (acc, bs, bad)
  | m + 1, acc, bs, bad => if bad = true then (acc, bs, bad) else
    if (oneS bs bad).1 = 0 then runP m (acc ++ [(-1, -1)]) (oneS bs bad).2.1 (oneS bs bad).2.2
    else if (oneS bs bad).1 = 1 then
      runP m (acc ++ [((fourS (oneS bs bad).2.1 (oneS bs bad).2.2).1, (fourS (fourS (oneS bs bad).2.1 (oneS bs bad).2.2).2.1 (fourS (oneS bs bad).2.1 (oneS bs bad).2.2).2.2).1)])
        (fourS (fourS (oneS bs bad).2.1 (oneS bs bad).2.2).2.1 (fourS (oneS bs bad).2.1 (oneS bs bad).2.2).2.2).2.1 (fourS (fourS (oneS bs bad).2.1 (oneS bs bad).2.2).2.1 (fourS (oneS bs bad).2.1 (oneS bs bad).2.2).2.2).2.2
    else runP m acc (oneS bs bad).2.1 true
def lastR (a b : Int) (sp : List Sp) (bs : List Int) (bad : Bool) : Re × List Int × Bool :=
  let w := if bad = true then (Va.mk 0 0 [], bs, true) else valR 500 bs false
  let o := ofR w.2.1
  (⟨0, a, b, sp, w.1, o.1⟩, [], w.2.2 || !decide (o.2 = 0))
def candR (bs : List Int) : Re × List Int × Bool :=
  let r := oneS bs false
  if 0 < r.1 then (⟨r.1, 0, 0, [], .mk 0 0 [], nanC⟩, r.2.1, r.2.2) else
  let A := fourS r.2.1 r.2.2
  let B := fourS A.2.1 A.2.2
  let n := oneS B.2.1 B.2.2
  let s := runP (n.1.toNat - 1) [(A.1, B.1)] n.2.1 n.2.2
  lastR A.1 B.1 s.1 s.2.1 (s.2.2 || decide (n.1 < 1))
def refR (bs : List Int) : Re × Int :=
  if (candR bs).2.2 = false ∧ (candR bs).2.1 = [] ∧ goodX (candR bs).1 = true then ((candR bs).1, 0) else (zeroX, 2)

theorem runP_len : ∀ (m : Nat) (acc : List Sp) (bs : List Int) (bad : Bool), (runP m acc bs bad).1.length ≤ acc.length + m
  | 0, _, _, _ => Nat.le_refl _
  | m + 1, acc, bs, bad => by
    simp only [runP]
    split
    · dsimp only; omega
    · split
      · have := runP_len m (acc ++ [(-1, -1)]) (oneS bs bad).2.1 (oneS bs bad).2.2
        simp at this; omega
      · split
        · refine Nat.le_trans (runP_len m _ _ _) ?_
          simp; omega
        · have := runP_len m acc (oneS bs bad).2.1 true
          omega
theorem runP_byt : ∀ (m : Nat) (acc : List Sp) (bs : List Int) (bad : Bool), Byt bs → Byt (runP m acc bs bad).2.1
  | 0, _, _, _, h => h
  | m + 1, acc, bs, bad, h => by
    simp only [runP]
    split
    · exact h
    · split
      · exact runP_byt m _ _ _ (one_byt h)
      · split
        · exact runP_byt m _ _ _ (iter_byt 4 (iter_byt 4 (one_byt h)))
        · exact runP_byt m _ _ _ (one_byt h)
theorem four_byt {bs : List Int} {bad : Bool} (h : Byt bs) : Byt (fourS bs bad).2.1 := iter_byt 4 h

structure HasRg (E : Env) : Prop where
  p : HasPr E
  v : HasRv E
  get : Has E 35 c35

abbrev zeroRr : Ent := .blk [.pv (.int .i64 0), .pv (.int .i64 0), .pv (.int .i64 0), .nils, .pv (.int .i64 0), .pv (.int .u8 0), .nils, .pv (.flt .f64 0)] (some 70)
structure GR (bs : List Int) (bad : Bool) (k5 : Nat) (cs : List V) (hh : Heap) : Prop where
  rd : Rd hh 1 bs bad
  z : ent hh 0 = zeroRr
  k : 1 < k5
  c : ent hh k5 = .blk cs (some 70)
section
variable {bs bs' : List Int} {bad bad' : Bool} {k5 : Nat} {cs cs' : List V} {hh h' l : Heap}
theorem GR.take (g : GR bs bad k5 cs hh) (r : Rd h' 1 bs' bad') (o : But hh [1] h') : GR bs' bad' k5 cs h' :=
  ⟨r, (o.old 0 (Ab.ent_lt (by rw [g.z]; simp)) (by simp)).trans g.z, g.k, (o.old k5 (Rp.ent_lt g.c) (by have := g.k; simp; omega)).trans g.c⟩
theorem GR.put (g : GR bs bad k5 cs hh) (cs' : List V) : GR bs bad k5 cs' (hh.set k5 (.blk cs' (some 70))) := by
  obtain ⟨t, r⟩ := g.rd
  have hk := g.k
  refine ⟨⟨t, ?_⟩, ?_, hk, by rw [ent_set (Rp.ent_lt g.c)]⟩
  · rw [ent_set_ne (by omega)]; exact r
  · rw [ent_set_ne (by omega)]; exact g.z
theorem GR.turn (g : GR bs bad k5 cs hh) : ∃ t, ent hh 1 = .blk [.pv (.sl (encB bs)), .pv (.bool bad)] t ∧ ∀ bs' bad', GR bs' bad' k5 cs (hh.set 1 (.blk [.pv (.sl (encB bs')), .pv (.bool bad')] t)) := by
  obtain ⟨t, r⟩ := g.rd
  have hk := g.k
  refine ⟨t, r, fun bs' bad' => ⟨⟨t, by rw [ent_set (Rp.ent_lt r)]⟩, ?_, hk, ?_⟩⟩
  · rw [ent_set_ne (by omega)]; exact g.z
  · rw [ent_set_ne (by omega)]; exact g.c
theorem GR.kill {S : V} {es : List PV} (g : GR bs bad k5 cs hh) (w : Rw 0 hh S es) : GR bs bad k5 cs (kill hh S ++ [.tok]) := by
  obtain ⟨t, r⟩ := g.rd
  exact ⟨⟨t, (w.keep (by rw [r]; simp) (Rp.ent_lt r)).trans r⟩, (w.keep (by rw [g.z]; simp) (Ab.ent_lt (by rw [g.z]; simp))).trans g.z, g.k, (w.keep (by rw [g.c]; simp) (Rp.ent_lt g.c)).trans g.c⟩
end
def MR (bs : List Int) (st : Ab.St) : Prop := ∃ (hh : Heap) (k5 : Nat) (S L X : V) (x : Re) (bs2 : List Int) (bad2 : Bool) (t : Option TypeId) (f : Nat → V), (ent hh 1 = .blk [X, .pv (.bool bad2)] t ∧ (X = .pv (.sl (encB bs2)) ∨ (X = .nils ∧ bs2 = [])) ∧ ent hh 0 = zeroRr ∧ 1 < k5 ∧ ent hh k5 = .blk (cellsR x.e x.a x.b S x.v.k x.v.b L x.q) (some 70) ∧
    candR bs = (x, bs2, bad2) ∧ Shp S (x.sp.map encS) ∧ Shp L (x.v.l.map encV) ∧ x.sp.length ≤ 300 ∧ FineV x.v) ∧
  (fk (Fk.mk (f := f)) 2 = .ptr 0 0 ∧ fk (Fk.mk (f := f)) 4 = .ptr 1 0 ∧ fk (Fk.mk (f := f)) 5 = .ptr k5 0) ∧ st = ⟨TL 134 f, hh⟩
theorem reach_one1 {h : Heap} {ri : Nat} {bs : List Int} {bad : Bool} (hr : Rd h ri bs bad) :
    reach h h.length (addNew [] ([V.ptr ri 0].flatMap V.ids)) = [ri] := by
  have h1 : addNew [] ([V.ptr ri 0].flatMap V.ids) = [ri] := by
    simp [V.ids, addNew]
  rw [h1]
  obtain ⟨t2, hr⟩ := hr
  have hfm : ([ri]).flatMap (fun i => entIds (ent h i)) = [] := by
    simp [hr, entIds, V.ids.idsL, V.ids]
  cases h.length with
  | zero => rfl
  | succ n => simp only [reach, hfm, addNew, if_true]
theorem four_masked (HH : HasOn E) {h : Heap} {ri : Nat} {bs : List Int} {bad : Bool} (hr : Rd h ri bs bad) (hy : Byt bs) :
    ∃ r h', limR E 66 [.ptr ri 0] (mask [ri] h) = some (r, h') ∧ h.length ≤ h'.length ∧ (r = .pv (.int .i64 (fourS bs bad).1) ∧ Rd (merge [ri] h h') ri (fourS bs bad).2.1 (fourS bs bad).2.2 ∧ But h [ri] (merge [ri] h h')) := by
  have hri := rd_lt hr
  obtain ⟨t2, hr⟩ := hr
  obtain ⟨r, h', g1, g2, ⟨t3, r3⟩, g5⟩ := four_ok HH (mask [ri] h) ri bs bad hy ⟨t2, by rw [ent_mask_in (by simp)]; exact hr⟩
  have hlen := g5.len
  rw [length_mask] at hlen
  exact ⟨r, h', g1, hlen, g2, ⟨t3, by rw [ent_merge_in (.inl (by simp))]; exact r3⟩, ⟨by rw [merge_len]; exact hlen, fun i hi hn => ent_merge_out hn hi hlen⟩⟩

theorem headR_fine {bs : List Int} {bad : Bool} (h : Byt bs) : 0 ≤ (headR bs bad).2.1 ∧ (headR bs bad).2.1 < 256 := headR_b h
theorem fine_runR {f : List Int → Bool → Va × List Int × Bool} (hf : ∀ bs, Byt bs → FineV (f bs false).1 ∧ Byt (f bs false).2.1) :
    ∀ (m : Nat) (acc : List Va) (bs : List Int) (bad : Bool), Byt bs → (∀ x ∈ acc, FineV x) → ∀ x ∈ (runR f m acc bs bad).1, FineV x
  | 0, acc, bs, bad, _, h => h
  | m + 1, acc, bs, bad, hb, h => by
    simp only [runR]
    cases bad with
 | true => exact h
 | false =>
      exact fine_runR hf m _ _ _ (hf bs hb).2 fun x hx => by
        rcases List.mem_append.1 hx with h1 | h1
        · exact h x h1
        · simp only [List.mem_singleton] at h1; rw [h1]; exact (hf bs hb).1
theorem fine_valR : ∀ (d : Nat) (bs : List Int), Byt bs → FineV (valR d bs false).1
  | 0, bs, h => ⟨headR_b h, by simp, trivial⟩
  | d + 1, bs, h => by
    simp only [valR]
    have h1 := runR_le (f := valR d) (headR bs false).2.2.1.toNat [] (headR bs false).2.2.2.1 ((headR bs false).2.2.2.2 || decide (2000 < (headR bs false).2.2.1))
    have h2 := headR_n (bad := false) h
    simp at h1
    exact ⟨headR_b h, by omega, fineVL.2 (fine_runR (fun bs hb => ⟨fine_valR d bs hb, valR_byt d bs hb⟩) _ _ _ _ (headR_byt h) (fun x hx => by cases hx))⟩
theorem iter1 {k : Nat} {n : Int} {bs : List Int} {bad : Bool} : iterF (k + 1) n bs bad = iterF k (or8 n (oneS bs bad).1) (oneS bs bad).2.1 (oneS bs bad).2.2 := rfl

set_option maxHeartbeats 16000000 in
theorem getr_ok (HH : HasRg E) (bs : List Int) (hb : Byt bs) : limP E 35 [.sl (encB bs)] = some [encX (refR bs).1, .int .i64 (refR bs).2] := by
  have H := HH.get
  have HO := HH.v.o
  have hnan := nan_ok2 HH.p.w.g.o.g
  have hnr := HH.p.w.g.o.g.nan.raw
  have hby := one_byt (bad := false) hb
  have hrg := one_rng (bad := false) hb
  have hcd := @candR.eq_1 bs
  have htk := one_ok HO [zeroRr, .blk [.pv (.sl (encB bs)), .pv (.bool false)] none] 1 bs false hb ⟨none, rfl⟩
  generalize oneS bs false = T at htk hby hcd hrg
  obtain ⟨e, bs1, bad1⟩ := T
  dsimp only at htk hby hcd hrg
  refine H.limQ (Nat.le_of_ble_eq_true rfl) ?_; unfold c35
  (repeat' first
 | apply X.stepZ
 | (apply X.stepQ rfl; (focus (simp only [SB, reduceIte, Nat.reduceEqDiff]; with_reducible rfl)); (focus (simp [-getElem?_pos]; with_reducible (first | rfl | exact ⟨rfl, rfl⟩))))
 | fail)
  refine X.callRQ (P := _) rfl (by simp only [SB, reduceIte, Nat.reduceEqDiff]; all_goals (first | with_reducible rfl | (simp <;> with_reducible rfl))) HO.one.raw (by simp [pures]) (htk) ?_
  rintro _ h1 ⟨rfl, R1, B1⟩
  have hl1 : 2 ≤ h1.length := B1.len
  have x0 : ent h1 0 = zeroRr := B1.old 0 (by simp) (by simp)
  clear htk B1
  have w0 := gtrI e 0
  have hgt : ¬ (0 : Int) < e → e = 0 := fun h => by omega
  generalize hpe : decide (0 < e) = pe at w0
  (repeat' first
 | apply X.stepZ
 | (apply X.stepQ rfl; (focus (simp only [SB, reduceIte, Nat.reduceEqDiff]; with_reducible rfl)); (focus (simp [-getElem?_pos, -binA]; with_reducible (first | rfl | exact ⟨rfl, rfl⟩))))
 | fail)
  refine X.abs2 (fun st => ∃ (hh : Heap) (k5 : Nat) (f : Nat → V), GR bs1 bad1 k5 (cellsR e 0 0 .nils 0 0 .nils 0) hh ∧ (fk (Fk.mk (f := f)) 2 = .ptr 0 0 ∧ fk (Fk.mk (f := f)) 4 = .ptr 1 0 ∧ fk (Fk.mk (f := f)) 5 = .ptr k5 0 ∧ fk (Fk.mk (f := f)) 18 = .pv (.int .i64 e)) ∧ st = ⟨TL 134 f, hh⟩) ?_ ?_
  · refine ⟨_, h1.length, _, ⟨R1.more, ent_app x0 (by intro hh; cases hh), by omega, ?_⟩, by simp [ent_at0, ent], rfl⟩
    simp [ent_at0, ent, cellsR]
  clear R1 x0 hl1 h1
  rintro st ⟨hh, k5, f, G0, ⟨f2, f4, f5, f18⟩, rfl⟩
  (first
 | apply X.retS
 | apply X.skipS
 | apply X.skipB
 | apply X.skipL
 | (apply X.exitS; first | apply X.here | (refine X.out (by decide) ?_; apply X.here))
 | apply X.blockS
 | (apply X.condQ rfl; (focus (simp only [SB, reduceIte, Nat.reduceEqDiff, f2, f4, f5, f18]; with_reducible rfl)); all_goals (intro hbr; first | exact absurd hbr (by decide) | ((try rw [hbr]); (try simp at hbr))))
 | apply X.stepZ
 | (apply X.stepQ rfl; (focus (simp only [SB, reduceIte, Nat.reduceEqDiff, f2, f4, f5, f18]; with_reducible rfl)); (focus (simp [-getElem?_pos, -binA, w0]; with_reducible (first | rfl | exact ⟨rfl, rfl⟩))))
 | (apply X.stepNQ rfl; (focus (simp only [SB, reduceIte, Nat.reduceEqDiff, f2, f4, f5, f18]; with_reducible rfl)))
 | ((first | apply X.stepGtQ rfl | apply X.stepGfQ rfl); (focus (simp only [SB, reduceIte, Nat.reduceEqDiff, f2, f4, f5, f18]; with_reducible rfl)); all_goals (intro hbr; first | exact absurd hbr (by decide) | ((try rw [hbr]); (try simp at hbr)))))
  refine X.stepZ ?_
  refine X.midQ (MR bs) ?_ ?_
  · cases pe with
 | true =>
      have he : 0 < e := by simpa using hpe
      rw [if_pos he] at hcd
      have x5 := G0.c
      unfold cellsR at x5
      have G1 := G0.put (cellsR e 0 0 .nils 0 0 .nils nanC)
      (repeat' first
 | apply X.skipL
 | (apply X.condQ rfl; (focus (simp only [SB, reduceIte, Nat.reduceEqDiff, f2, f4, f5, f18]; with_reducible rfl)); all_goals (intro hbr; first | exact absurd hbr (by decide) | ((try rw [hbr]); (try simp at hbr))))
 | apply X.stepZ
 | (apply X.stepQ rfl; (focus (simp only [SB, reduceIte, Nat.reduceEqDiff, f2, f4, f5, f18]; with_reducible rfl)); (focus (simp [-getElem?_pos, x5, hnr, hnan]; with_reducible (first | rfl | exact ⟨rfl, rfl⟩))))
 | fail)
      obtain ⟨t1, y1⟩ := G1.rd
      exact ⟨_, k5, .nils, .nils, _, ⟨e, 0, 0, [], .mk 0 0 [], nanC⟩, bs1, bad1, t1, _, ⟨y1, .inl rfl, G1.z, G1.k, G1.c, hcd, .inl ⟨rfl, rfl⟩, .inl ⟨rfl, rfl⟩, by simp, ⟨by omega, by simp, trivial⟩⟩, by simp [f2, f4, f5], rfl⟩
 | false =>
    have he0 : ¬ (0 : Int) < e := by simpa using hpe
    have he : e = 0 := hgt he0
    rw [if_neg he0] at hcd
    subst he
    clear hgt hpe he0 w0 hnan hnr hrg
    have htA := four_ok HO hh 1 bs1 bad1 hby G0.rd
    have hbA := four_byt (bad := bad1) hby
    generalize fourS bs1 bad1 = T at htA hbA hcd
    obtain ⟨a, bs2, bad2⟩ := T
    dsimp only at htA hbA hcd
    (repeat' first
 | (apply X.condQ rfl; (focus (simp only [SB, reduceIte, Nat.reduceEqDiff, f2, f4, f5, f18]; with_reducible rfl)); all_goals (intro hbr; first | exact absurd hbr (by decide) | ((try rw [hbr]); (try simp at hbr))))
 | (apply X.stepQ rfl; (focus (simp only [SB, reduceIte, Nat.reduceEqDiff, f2, f4, f5, f18]; with_reducible rfl)); (focus (simp [-getElem?_pos]; with_reducible (first | rfl | exact ⟨rfl, rfl⟩))))
 | fail)
    refine X.callRQ (P := _) rfl (by simp only [SB, reduceIte, Nat.reduceEqDiff, f2, f4, f5, f18]; all_goals (first | with_reducible rfl | (simp <;> with_reducible rfl))) HO.four.raw (by simp [pures]) (htA) ?_
    rintro _ h2 ⟨rfl, R2, B2⟩
    have G2 := G0.take R2 B2
    have htB := four_ok HO h2 1 bs2 bad2 hbA G2.rd
    have hbB := four_byt (bad := bad2) hbA
    generalize fourS bs2 bad2 = T at htB hbB hcd
    obtain ⟨b, bs3, bad3⟩ := T
    dsimp only at htB hbB hcd
    clear htA R2 B2 G0
    (repeat' first
 | (apply X.stepQ rfl; (focus (simp only [SB, reduceIte, Nat.reduceEqDiff, f2, f4, f5, f18]; with_reducible rfl)); (focus (simp [-getElem?_pos]; with_reducible (first | rfl | exact ⟨rfl, rfl⟩))))
 | fail)
    refine X.callRQ (P := _) rfl (by simp only [SB, reduceIte, Nat.reduceEqDiff, f2, f4, f5, f18]; all_goals (first | with_reducible rfl | (simp <;> with_reducible rfl))) HO.four.raw (by simp [pures]) (htB) ?_
    rintro _ h3 ⟨rfl, R3, B3⟩
    have G3 := G2.take R3 B3
    have x5 := G3.c
    unfold cellsR at x5
    have hk3 := Rp.ent_lt G3.c
    have es3 := fun B => ent_set (e := B) hk3
    have G4 := G3.put (cellsR 0 a b .nils 0 0 .nils 0)
    have htN := one_ok HO _ 1 bs3 bad3 hbB G4.rd
    have hbN := one_byt (bad := bad3) hbB
    have hrN := one_rng (bad := bad3) hbB
    generalize oneS bs3 bad3 = T at htN hbN hrN hcd
    obtain ⟨n, bs4, bad4⟩ := T
    dsimp only at htN hbN hrN hcd
    clear htB R3 B3 G2
    (repeat' first
 | apply X.stepZ
 | (apply X.stepQ rfl; (focus (simp only [SB, reduceIte, Nat.reduceEqDiff, f2, f4, f5, f18]; with_reducible rfl)); (focus (simp [-getElem?_pos, x5, es3]; with_reducible (first | rfl | exact ⟨rfl, rfl⟩))))
 | fail)
    refine X.callRQ (P := _) rfl (by simp only [SB, reduceIte, Nat.reduceEqDiff, f2, f4, f5, f18]; all_goals (first | with_reducible rfl | (simp <;> with_reducible rfl))) HO.one.raw (by simp [pures]) (htN) ?_
    rintro _ h5 ⟨rfl, R5, B5⟩
    have G5 := G4.take R5 B5
    clear R5 B5 htN G4 G3 x5 es3 hk3
    have W0 : Rw 0 h5 V.nils (([] : List Sp).map encS) := .inl ⟨rfl, rfl⟩
    have hap : appendA h5 true false 2 16 109 V.nils 1 [.pv (.int .i64 a), .pv (.int .i64 b)] = some (.slt ([(a, b)].map encS) h5.length, kill h5 V.nils ++ [.tok]) := by
      rw [W0.app (by omega) (strideS []) rfl (by simp) rfl (ps := [.int .i64 a, .int .i64 b]) rfl]
      simp [chunks, mkPV, encS]
    have GK := G5.kill W0
    have W1 : Rw 0 (kill h5 V.nils ++ [Ent.tok]) (.slt ([(a, b)].map encS) h5.length) ([(a, b)].map encS) := Rw.done (by simp) rfl (by omega)
    have x5 := G5.c
    unfold cellsR at x5
    have u5 := GK.c
    unfold cellsR at u5
    clear W0 G5
    generalize kill h5 V.nils ++ [Ent.tok] = H at hap GK W1 u5
    (repeat' first
 | apply X.stepZ
 | (apply X.stepQ rfl; (focus (simp only [SB, reduceIte, Nat.reduceEqDiff, f2, f4, f5, f18]; with_reducible rfl)); (focus (simp [-getElem?_pos, x5, hap, u5]; with_reducible (first | rfl | exact ⟨rfl, rfl⟩))))
 | fail)
    have G6 := GK.put (cellsR 0 a b (.slt ([(a, b)].map encS) h5.length) 0 0 .nils 0)
    have W6 := W1.but (S := [k5]) (But.set (i := k5) (e := .blk (cellsR 0 a b (.slt ([(a, b)].map encS) h5.length) 0 0 .nils 0) (some 70)) (by simp)) (by intro i hi; simp at hi; subst hi; rw [u5]; simp)
    refine X.abs2 (fun st => ∃ (hh : Heap) (S : V) (f : Nat → V), (GR bs4 bad4 k5 (cellsR 0 a b S 0 0 .nils 0) hh ∧ Rw 0 hh S ([(a, b)].map encS)) ∧ (fk (Fk.mk (f := f)) 2 = .ptr 0 0 ∧ fk (Fk.mk (f := f)) 4 = .ptr 1 0 ∧ fk (Fk.mk (f := f)) 5 = .ptr k5 0 ∧ fk (Fk.mk (f := f)) 6 = .pv (.int .i64 n) ∧ fk (Fk.mk (f := f)) 7 = .pv (.int .i64 1)) ∧ st = ⟨TL 134 f, hh⟩) ?_ ?_
    · exact ⟨_, _, _, ⟨G6, W6⟩, by simp [f2, f4, f5], rfl⟩
    clear G6 W6 GK W1 hap x5 u5 f2 f4 f5 f18 f
    rintro st ⟨h6, S, f, ⟨G6, W6⟩, ⟨f2, f4, f5, f6, f7⟩, rfl⟩
    refine X.blockMid (fun st => ∃ (hh : Heap) (S : V) (sp : List Sp) (bs5 : List Int) (bad5 : Bool) (f : Nat → V), (GR bs5 bad5 k5 (cellsR 0 a b S 0 0 .nils 0) hh ∧ Shp S (sp.map encS) ∧ runP (n.toNat - 1) [(a, b)] bs4 bad4 = (sp, bs5, bad5)) ∧ (fk (Fk.mk (f := f)) 2 = .ptr 0 0 ∧ fk (Fk.mk (f := f)) 4 = .ptr 1 0 ∧ fk (Fk.mk (f := f)) 5 = .ptr k5 0 ∧ fk (Fk.mk (f := f)) 6 = .pv (.int .i64 n)) ∧ st = ⟨TL 134 f, hh⟩) ?_ ?_
    · clear hcd
      generalize hQ : runP (n.toNat - 1) [(a, b)] bs4 bad4 = Q
      refine X.forS (n.toNat - 1) (fun j st => ∃ (hh : Heap) (S : V) (acc : List Sp) (bs5 : List Int) (bad5 : Bool) (f : Nat → V), (GR bs5 bad5 k5 (cellsR 0 a b S 0 0 .nils 0) hh ∧ Rw 0 hh S (acc.map encS) ∧ Byt bs5 ∧ runP (n.toNat - 1 - j) acc bs5 bad5 = Q ∧ acc.length ≤ j + 1) ∧ (fk (Fk.mk (f := f)) 2 = .ptr 0 0 ∧ fk (Fk.mk (f := f)) 4 = .ptr 1 0 ∧ fk (Fk.mk (f := f)) 5 = .ptr k5 0 ∧ fk (Fk.mk (f := f)) 6 = .pv (.int .i64 n) ∧ fk (Fk.mk (f := f)) 7 = .pv (.int .i64 ((j : Int) + 1))) ∧ st = ⟨TL 134 f, hh⟩) ?_ ?_
      · exact ⟨_, S, [(a, b)], bs4, bad4, _, ⟨G6, W6, hbN, hQ, by simp⟩, by simp [f2, f4, f5, f6, f7], rfl⟩
      clear G6 W6 hQ f2 f4 f5 f6 f7 f S
      rintro j st hj ⟨hh, S, acc, bs5, bad5, f, ⟨G0, W0, hb5, hru, hal⟩, ⟨f2, f4, f5, f6, f7⟩, rfl⟩
      obtain ⟨k, hk⟩ : ∃ k, k = j + 1 := ⟨_, rfl⟩
      have ek : (j : Int) + 1 = (k : Int) := by omega
      rw [ek] at f7
      obtain ⟨t1, y1⟩ := G0.rd
      by_cases hc : j < n.toNat - 1 ∧ bad5 = false
      · obtain ⟨hc1, rfl⟩ := hc
        have w1 : binA .lss .no (.pv (.int .i64 (k : Int))) (.pv (.int .i64 n)) = some (.pv (.bool true)) := by simp [binA, intBin]; omega
        have hww : IntKind.i64.wrap ((k : Int) + 1) = (k : Int) + 1 := wrap_i64 (by omega)
        have w3 : binA .add .no (.pv (.int .i64 (k : Int))) (.pv (.int .i64 1)) = some (.pv (.int .i64 ((k : Int) + 1))) := by simp [binA, intBin, hww]
        obtain ⟨m, hm⟩ : ∃ m, n.toNat - 1 - j = m + 1 := ⟨n.toNat - 1 - j - 1, by omega⟩
        rw [hm] at hru
        simp only [runP, Bool.false_eq_true, if_false] at hru
        have hto := one_ok HO hh 1 bs5 false hb5 G0.rd
        have hbo := one_byt (bad := false) hb5
        generalize oneS bs5 false = T at hto hbo hru
        obtain ⟨g, bs6, bad6⟩ := T
        dsimp only at hto hbo hru
        (repeat' first
 | apply X.skipS
 | apply X.blockS
 | (apply X.condQ rfl; (focus (simp only [SB, reduceIte, Nat.reduceEqDiff, f2, f4, f5, f6, f7]; with_reducible rfl)); all_goals (intro hbr; first | exact absurd hbr (by decide) | ((try rw [hbr]); (try simp at hbr))))
 | apply X.stepZ
 | (apply X.stepQ rfl; (focus (simp only [SB, reduceIte, Nat.reduceEqDiff, f2, f4, f5, f6, f7]; with_reducible rfl)); (focus (simp [-getElem?_pos, -binA, w1, y1]; with_reducible (first | rfl | exact ⟨rfl, rfl⟩))))
 | ((first | apply X.stepGtQ rfl | apply X.stepGfQ rfl); (focus (simp only [SB, reduceIte, Nat.reduceEqDiff, f2, f4, f5, f6, f7]; with_reducible rfl)); all_goals (intro hbr; first | exact absurd hbr (by decide) | ((try rw [hbr]); (try simp at hbr))))
 | fail)
        refine X.callRQ (P := _) rfl (by simp only [SB, reduceIte, Nat.reduceEqDiff, f2, f4, f5, f6, f7]; all_goals (first | with_reducible rfl | (simp <;> with_reducible rfl))) HO.one.raw (by simp [pures]) (hto) ?_
        rintro _ h2 ⟨rfl, R2, B2⟩
        have G2 := G0.take R2 B2
        have W2 := W0.but B2 (by intro i hi; simp at hi; subst hi; rw [y1]; simp)
        clear hto R2 B2 W0
        have v1 := eqlI g 0
        have v2 := eqlI g 1
        by_cases g0 : g = 0
        · rw [decide_eq_true g0] at v1
          rw [if_pos g0] at hru
          have hap : appendA h2 true false 2 16 109 S 1 [.pv (.int .i64 (-1)), .pv (.int .i64 (-1))] = some (.slt ((acc ++ [(-1, -1)]).map encS) h2.length, kill h2 S ++ [.tok]) := by
            rw [W2.app (by omega) (strideS acc) rfl (by rw [List.length_map]; omega) rfl (ps := [.int .i64 (-1), .int .i64 (-1)]) rfl]
            simp [chunks, mkPV, encS]
          have GK := G2.kill W2
          have W3 : Rw 0 (kill h2 S ++ [Ent.tok]) (.slt ((acc ++ [(-1, -1)]).map encS) h2.length) ((acc ++ [(-1, -1)]).map encS) := Rw.done (by simp) rfl (by omega)
          have x5 := G2.c
          unfold cellsR at x5
          have u5 := GK.c
          unfold cellsR at u5
          generalize kill h2 S ++ [Ent.tok] = H at hap GK W3 u5
          obtain ⟨es2, hE⟩ : ∃ es2, es2 = (acc ++ [(-1, -1)]).map encS := ⟨_, rfl⟩
          rw [← hE] at hap W3
          (repeat' first
 | apply X.skipB
 | apply X.skipL
 | apply X.blockS
 | (apply X.condQ rfl; (focus (simp only [SB, reduceIte, Nat.reduceEqDiff, f2, f4, f5, f6, f7]; with_reducible rfl)); all_goals (intro hbr; first | exact absurd hbr (by decide) | ((try rw [hbr]); (try simp at hbr))))
 | apply X.stepZ
 | (apply X.stepQ rfl; (focus (simp only [SB, reduceIte, Nat.reduceEqDiff, f2, f4, f5, f6, f7]; with_reducible rfl)); (focus (simp [-getElem?_pos, -binA, v1, x5, hap, u5, w3]; with_reducible (first | rfl | exact ⟨rfl, rfl⟩))))
 | fail)
          refine ⟨hc1, _, .slt es2 h2.length, acc ++ [(-1, -1)], bs6, bad6, _, ⟨?_, ?_, hbo, ?_, by simp; omega⟩, ?_, rfl⟩
          · exact GK.put (cellsR 0 a b (.slt es2 h2.length) 0 0 .nils 0)
          · rw [← hE]
            exact W3.but (S := [k5]) (But.set (by simp)) (by intro i hi; simp at hi; subst hi; rw [u5]; simp)
          · rw [← hru]
            congr 1
            omega
          · simp [f2, f4, f5, f6, hk]
        rw [if_neg g0] at hru
        rw [decide_eq_false g0] at v1
        by_cases g1 : g = 1
        · rw [decide_eq_true g1] at v2
          rw [if_pos g1] at hru
          have htA := four_ok HO h2 1 bs6 bad6 hbo G2.rd
          have hbA := four_byt (bad := bad6) hbo
          generalize fourS bs6 bad6 = T at htA hbA hru
          obtain ⟨c, bs7, bad7⟩ := T
          dsimp only at htA hbA hru
          (repeat' first
 | apply X.blockS
 | (apply X.condQ rfl; (focus (simp only [SB, reduceIte, Nat.reduceEqDiff, f2, f4, f5, f6, f7]; with_reducible rfl)); all_goals (intro hbr; first | exact absurd hbr (by decide) | ((try rw [hbr]); (try simp at hbr))))
 | apply X.stepZ
 | (apply X.stepQ rfl; (focus (simp only [SB, reduceIte, Nat.reduceEqDiff, f2, f4, f5, f6, f7]; with_reducible rfl)); (focus (simp [-getElem?_pos, -binA, v1, v2]; with_reducible (first | rfl | exact ⟨rfl, rfl⟩))))
 | fail)
          refine X.callRQ (P := _) rfl (by simp only [SB, reduceIte, Nat.reduceEqDiff, f2, f4, f5, f6, f7]; all_goals (first | with_reducible rfl | (simp <;> with_reducible rfl))) HO.four.raw (by simp [pures]) (htA) ?_
          rintro _ h3 ⟨rfl, R3, B3⟩
          obtain ⟨t2, y2⟩ := G2.rd
          have G3 := G2.take R3 B3
          have W3 := W2.but B3 (by intro i hi; simp at hi; subst hi; rw [y2]; simp)
          clear htA R3 B3 W2 G2
          have htB := four_masked HO G3.rd hbA
          have hbB := four_byt (bad := bad7) hbA
          generalize fourS bs7 bad7 = T at htB hbB hru
          obtain ⟨d, bs8, bad8⟩ := T
          dsimp only at htB hbB hru
          have x5 := G3.c
          unfold cellsR at x5
          have hk3 := Rp.ent_lt G3.c
          have hk1 := G3.k
          have hr1 := rd_lt G3.rd
          obtain ⟨t3, y3⟩ := G3.rd
          (repeat' first
 | apply X.stepZ
 | (apply X.stepQ rfl; (focus (simp only [SB, reduceIte, Nat.reduceEqDiff, f2, f4, f5, f6, f7]; with_reducible rfl)); (focus (simp [-getElem?_pos]; with_reducible (first | rfl | exact ⟨rfl, rfl⟩))))
 | fail)
          refine X.drawC [66] [k5] rfl ?_
          (repeat' first
 | (apply XC.calmQ rfl rfl rfl; (focus (simp only [SB, reduceIte, Nat.reduceEqDiff, f2, f4, f5, f6, f7]; with_reducible rfl)); (focus (simp [-getElem?_pos, x5]; done)); (focus (simp [-getElem?_pos, x5]; with_reducible (first | rfl | exact ⟨rfl, rfl⟩))))
 | fail)
          refine XC.callX (P := fun r h' => r = .pv (.int .i64 d) ∧ Rd h' 1 bs8 bad8 ∧ But h3 [1] h') rfl (by simp only [SB, reduceIte, Nat.reduceEqDiff, f2, f4, f5, f6, f7]; all_goals (first | with_reducible rfl | (simp; done) | (simp <;> with_reducible rfl))) (reach_one1 G3.rd) HO.four.raw HO.four.ext (by intro x hx; simp at hx ⊢; omega) (by intro x hx; simp at hx; omega) (by intro x hx; simp at hx; omega) htB ?_
          rintro _ h4 ⟨rfl, R4, B4⟩
          have G4 := G3.take R4 B4
          have W4 := W3.but B4 (by intro i hi; simp at hi; subst hi; rw [y3]; simp)
          have hk4 := Rp.ent_lt G4.c
          clear htB R4 B4 W3 G3 x5 y3 hr1 hk3
          (repeat' first
 | (apply XC.calmQ rfl rfl rfl; (focus (simp only [SB, reduceIte, Nat.reduceEqDiff, f2, f4, f5, f6, f7]; with_reducible rfl)); (focus (simp [-getElem?_pos]; done)); (focus (simp [-getElem?_pos]; with_reducible (first | rfl | exact ⟨rfl, rfl⟩))))
 | (apply XC.makeQ rfl rfl rfl rfl; (focus (simp only [SB, reduceIte, Nat.reduceEqDiff, f2, f4, f5, f6, f7]; with_reducible rfl)); (focus rfl); (focus (simp; done)); (focus (first | (simp; done) | (simp; omega))); (focus (simp [-getElem?_pos]; with_reducible (first | rfl | exact ⟨rfl, rfl⟩))); (focus (simp; done)); (focus (simp [-getElem?_pos]; with_reducible rfl)))
 | fail)
          have hap := W4.append_maskedS (E := E) (te := 109) (c, d) (by omega)
          have z5 := G4.c
          refine XC.growQ (F := S.ids) (vop := .append true false 2 16 109 (.val S) (.val (.slx [.agg [.int .i64 c, .int .i64 d]]))) rfl rfl rfl (by simp only [SB, reduceIte, Nat.reduceEqDiff]) (by show S.ids ++ [] = _; rw [List.append_nil]) ?_ (by simp; omega) (fun x hx => Ab.ent_lt (by rw [(W4.ids x hx).1]; simp)) hap (by simp [length_kill, length_mask]) (kill_mask W4) ?_
          · rw [List.all_eq_true]
            intro y hy
            have := (W4.ids y hy).1
            have : y ≠ k5 := by rintro rfl; rw [z5] at this; cases this
            simpa using this
          have GK := G4.kill W4
          have W5 : Rw 0 (kill h4 S ++ [.tok]) (.slt ((acc ++ [(c, d)]).map encS) h4.length) ((acc ++ [(c, d)]).map encS) := Rw.done (by simp) rfl (by omega)
          have hH : h4.length < (kill h4 S ++ [Ent.tok]).length := by simp [length_kill]
          clear hap W4 z5 G4
          generalize kill h4 S ++ [Ent.tok] = H at GK W5 hH ⊢
          have u5 := GK.c
          unfold cellsR at u5
          (repeat' first
 | (apply XC.calmQ rfl rfl rfl; (focus (simp only [SB, reduceIte, Nat.reduceEqDiff, f2, f4, f5, f6, f7]; with_reducible rfl)); (focus (simp [-getElem?_pos, u5]; done)); (focus (simp [-getElem?_pos, u5]; with_reducible (first | rfl | exact ⟨rfl, rfl⟩))))
 | fail)
          have um : ent (mask [k5] H) k5 = _ := (ent_mask_in (by simp)).trans u5
          have hst : opA E (limP E) (limR E) [] (mask [k5] H) (.store 1 (.val (.ptr k5 3)) (.val (.slt ((acc ++ [(c, d)]).map encS) h4.length))) = some (.tup [], (mask [k5] H).set k5 (.blk (cellsR 0 a b (.slt ((acc ++ [(c, d)]).map encS) h4.length) 0 0 .nils 0) (some 70))) := by
            simp [opA, um, St.eval, cellsR]
          have hkH : k5 < H.length := by omega
          refine XC.loudQ (F := [k5]) (vop := .store 1 (.val (.ptr k5 3)) (.val (.slt ((acc ++ [(c, d)]).map encS) h4.length))) rfl rfl (by simp only [SB, reduceIte, Nat.reduceEqDiff, f5]) rfl hst (by simp [length_mask]) (merge_mask_set (by simp)) ?_
          apply XC.nil
          (repeat' first
 | apply X.skipB
 | apply X.skipL
 | apply X.stepZ
 | (apply X.stepQ rfl; (focus (simp only [SB, reduceIte, Nat.reduceEqDiff, f2, f4, f5, f6, f7]; with_reducible rfl)); (focus (simp [-getElem?_pos, -binA, w3]; with_reducible (first | rfl | exact ⟨rfl, rfl⟩))))
 | fail)
          refine ⟨hc1, _, .slt ((acc ++ [(c, d)]).map encS) h4.length, acc ++ [(c, d)], bs8, bad8, _, ⟨?_, ?_, hbB, ?_, by simp; omega⟩, ?_, rfl⟩
          · simpa using GK.put (cellsR 0 a b (.slt ((acc ++ [(c, d)]).map encS) h4.length) 0 0 .nils 0)
          · exact W5.but (S := [k5]) (But.set (by simp)) (by intro i hi; simp at hi; subst hi; rw [u5]; simp)
          · rw [← hru]
            congr 1
            omega
          · simp [f2, f4, f5, f6, hk]
        · rw [decide_eq_false g1] at v2
          rw [if_neg g1] at hru
          obtain ⟨t3, y3, GT⟩ := G2.turn
          have y3' := y3
          (repeat' first
 | apply X.skipB
 | apply X.skipL
 | apply X.blockS
 | (apply X.condQ rfl; (focus (simp only [SB, reduceIte, Nat.reduceEqDiff, f2, f4, f5, f6, f7]; with_reducible rfl)); all_goals (intro hbr; first | exact absurd hbr (by decide) | ((try rw [hbr]); (try simp at hbr))))
 | apply X.stepZ
 | (apply X.stepQ rfl; (focus (simp only [SB, reduceIte, Nat.reduceEqDiff, f2, f4, f5, f6, f7]; with_reducible rfl)); (focus (simp [-getElem?_pos, -binA, v1, v2, y3, w3]; with_reducible (first | rfl | exact ⟨rfl, rfl⟩))))
 | fail)
          refine ⟨hc1, _, S, acc, bs6, true, _, ⟨GT bs6 true, ?_, hbo, ?_, by omega⟩, by simp [f2, f4, f5, f6, hk], rfl⟩
          · exact W2.but (S := [1]) (But.set (by simp)) (by intro i hi; simp at hi; subst hi; rw [y3]; simp)
          · rw [← hru]
            congr 1
            omega
      · have hfin : runP (n.toNat - 1 - j) acc bs5 bad5 = (acc, bs5, bad5) := by
          cases hm : n.toNat - 1 - j with
          | zero => rfl
          | succ m =>
            have : bad5 = true := by
              cases bad5 with
              | true => rfl
              | false => exact absurd ⟨by omega, rfl⟩ hc
            simp [runP, this]
        rw [hfin] at hru
        subst hru
        have hS := W0.shp
        have hw : binA .lss .no (.pv (.int .i64 (k : Int))) (.pv (.int .i64 n)) = some (.pv (.bool false)) ∨ (binA .lss .no (.pv (.int .i64 (k : Int))) (.pv (.int .i64 n)) = some (.pv (.bool true)) ∧ bad5 = true) := by
          by_cases h1 : j < n.toNat - 1
          · refine .inr ⟨by simp [binA, intBin]; omega, ?_⟩
            cases bad5 with
            | true => rfl
            | false => exact absurd ⟨h1, rfl⟩ hc
          · exact .inl (by simp [binA, intBin]; omega)
        clear hc hfin W0
        rcases hw with w1 | ⟨w1, rfl⟩
        · (repeat' first
 | (apply X.exitS; first | apply X.here | (refine X.out (by decide) ?_; apply X.here))
 | (apply X.condQ rfl; (focus (simp only [SB, reduceIte, Nat.reduceEqDiff, f2, f4, f5, f6, f7]; with_reducible rfl)); all_goals (intro hbr; first | exact absurd hbr (by decide) | ((try rw [hbr]); (try simp at hbr))))
 | apply X.stepZ
 | (apply X.stepQ rfl; (focus (simp only [SB, reduceIte, Nat.reduceEqDiff, f2, f4, f5, f6, f7]; with_reducible rfl)); (focus (simp [-getElem?_pos, -binA, w1, y1]; with_reducible (first | rfl | exact ⟨rfl, rfl⟩))))
 | ((first | apply X.stepGtQ rfl | apply X.stepGfQ rfl); (focus (simp only [SB, reduceIte, Nat.reduceEqDiff, f2, f4, f5, f6, f7]; with_reducible rfl)); all_goals (intro hbr; first | exact absurd hbr (by decide) | ((try rw [hbr]); (try simp at hbr))))
 | fail)
          exact ⟨_, S, acc, bs5, bad5, _, ⟨G0, hS, rfl⟩, by simp [f2, f4, f5, f6], rfl⟩
        · (repeat' first
 | (apply X.exitS; first | apply X.here | (refine X.out (by decide) ?_; apply X.here))
 | (apply X.condQ rfl; (focus (simp only [SB, reduceIte, Nat.reduceEqDiff, f2, f4, f5, f6, f7]; with_reducible rfl)); all_goals (intro hbr; first | exact absurd hbr (by decide) | ((try rw [hbr]); (try simp at hbr))))
 | apply X.stepZ
 | (apply X.stepQ rfl; (focus (simp only [SB, reduceIte, Nat.reduceEqDiff, f2, f4, f5, f6, f7]; with_reducible rfl)); (focus (simp [-getElem?_pos, -binA, w1, y1]; with_reducible (first | rfl | exact ⟨rfl, rfl⟩))))
 | ((first | apply X.stepGtQ rfl | apply X.stepGfQ rfl); (focus (simp only [SB, reduceIte, Nat.reduceEqDiff, f2, f4, f5, f6, f7]; with_reducible rfl)); all_goals (intro hbr; first | exact absurd hbr (by decide) | ((try rw [hbr]); (try simp at hbr))))
 | fail)
          exact ⟨_, S, acc, bs5, true, _, ⟨G0, hS, rfl⟩, by simp [f2, f4, f5, f6], rfl⟩
    · clear G6 W6 f2 f4 f5 f6 f7
      have hln := runP_len (n.toNat - 1) [(a, b)] bs4 bad4
      have hbP := runP_byt (n.toNat - 1) [(a, b)] bs4 bad4 hbN
      rintro st ⟨hh, S, sp, bs5, bad5, f, ⟨G0, hS, hrun⟩, ⟨f2, f4, f5, f6⟩, rfl⟩
      rw [hrun] at hcd hln hbP
      dsimp only at hcd hln hbP
      clear hrun
      rw [app_seq]
      refine X.midA (fun st => ∃ (hh : Heap) (f : Nat → V), GR bs5 (bad5 || decide (n < 1)) k5 (cellsR 0 a b S 0 0 .nils 0) hh ∧ (fk (Fk.mk (f := f)) 2 = .ptr 0 0 ∧ fk (Fk.mk (f := f)) 4 = .ptr 1 0 ∧ fk (Fk.mk (f := f)) 5 = .ptr k5 0) ∧ st = ⟨TL 134 f, hh⟩) ?_ ?_
      · obtain ⟨t1, y1, GT⟩ := G0.turn
        have v1 := lssI n 1
        generalize decide (n < 1) = p1 at v1 ⊢
        cases p1 with
        | true =>
          rw [Bool.or_true]
          (repeat' first
 | apply X.skipL
 | (apply X.condQ rfl; (focus (simp only [SB, reduceIte, Nat.reduceEqDiff, f2, f4, f5, f6]; with_reducible rfl)); all_goals (intro hbr; first | exact absurd hbr (by decide) | ((try rw [hbr]); (try simp at hbr))))
 | apply X.stepZ
 | (apply X.stepQ rfl; (focus (simp only [SB, reduceIte, Nat.reduceEqDiff, f2, f4, f5, f6]; with_reducible rfl)); (focus (simp [-getElem?_pos, -binA, v1, y1]; with_reducible (first | rfl | exact ⟨rfl, rfl⟩))))
 | fail)
          exact ⟨_, _, GT bs5 true, by simp [f2, f4, f5], rfl⟩
        | false =>
          rw [Bool.or_false]
          (repeat' first
 | apply X.skipS
 | apply X.skipL
 | (apply X.condQ rfl; (focus (simp only [SB, reduceIte, Nat.reduceEqDiff, f2, f4, f5, f6]; with_reducible rfl)); all_goals (intro hbr; first | exact absurd hbr (by decide) | ((try rw [hbr]); (try simp at hbr))))
 | apply X.stepZ
 | (apply X.stepQ rfl; (focus (simp only [SB, reduceIte, Nat.reduceEqDiff, f2, f4, f5, f6]; with_reducible rfl)); (focus (simp [-getElem?_pos, -binA, v1, y1]; with_reducible (first | rfl | exact ⟨rfl, rfl⟩))))
 | fail)
          exact ⟨_, _, G0, by simp [f2, f4, f5], rfl⟩
      generalize (bad5 || decide (n < 1)) = bad6 at hcd ⊢
      clear G0 f2 f4 f5 f6 f hh
      rintro st ⟨hh, f, G0, ⟨f2, f4, f5⟩, rfl⟩
      unfold lastR at hcd
      have hwb : Byt (if bad6 = true then (Va.mk 0 0 [], bs5, true) else valR 500 bs5 false).2.1 := by
        split
        · exact hbP
        · exact valR_byt 500 bs5 hbP
      have hwf : FineV (if bad6 = true then (Va.mk 0 0 [], bs5, true) else valR 500 bs5 false).1 := by
        split
        · exact ⟨by omega, by simp, trivial⟩
        · exact fine_valR 500 bs5 hbP
      rw [app_seq]
      refine X.midA (fun st => ∃ (hh : Heap) (L : V) (f : Nat → V), (GR (if bad6 = true then (Va.mk 0 0 [], bs5, true) else valR 500 bs5 false).2.1 (if bad6 = true then (Va.mk 0 0 [], bs5, true) else valR 500 bs5 false).2.2 k5 (cellsR 0 a b S (if bad6 = true then (Va.mk 0 0 [], bs5, true) else valR 500 bs5 false).1.k (if bad6 = true then (Va.mk 0 0 [], bs5, true) else valR 500 bs5 false).1.b L 0) hh ∧ Shp L ((if bad6 = true then (Va.mk 0 0 [], bs5, true) else valR 500 bs5 false).1.l.map encV)) ∧ (fk (Fk.mk (f := f)) 2 = .ptr 0 0 ∧ fk (Fk.mk (f := f)) 4 = .ptr 1 0 ∧ fk (Fk.mk (f := f)) 5 = .ptr k5 0) ∧ st = ⟨TL 134 f, hh⟩) ?_ ?_
      · clear hcd hwb hwf
        obtain ⟨t1, y1⟩ := G0.rd
        cases bad6 with
        | true =>
          simp only [if_true]
          (repeat' first
 | apply X.skipS
 | apply X.skipL
 | (apply X.condQ rfl; (focus (simp only [SB, reduceIte, Nat.reduceEqDiff, f2, f4, f5]; with_reducible rfl)); all_goals (intro hbr; first | exact absurd hbr (by decide) | ((try rw [hbr]); (try simp at hbr))))
 | apply X.stepZ
 | (apply X.stepQ rfl; (focus (simp only [SB, reduceIte, Nat.reduceEqDiff, f2, f4, f5]; with_reducible rfl)); (focus (simp [-getElem?_pos, y1]; with_reducible (first | rfl | exact ⟨rfl, rfl⟩))))
 | fail)
          exact ⟨_, .nils, _, ⟨G0, .inl ⟨rfl, rfl⟩⟩, by simp [f2, f4, f5], rfl⟩
        | false =>
          simp only [Bool.false_eq_true, if_false]
          have htv := (rvalue_ok HH.v 500 (by omega)) hh 1 bs5 false G0.rd hbP
          generalize valR 500 bs5 false = T at htv ⊢
          obtain ⟨v, bs7, bad7⟩ := T
          dsimp only at htv ⊢
          have e500 : ((500 : Nat) : Int) = 500 := rfl
          rw [e500] at htv
          (repeat' first
 | (apply X.condQ rfl; (focus (simp only [SB, reduceIte, Nat.reduceEqDiff, f2, f4, f5]; with_reducible rfl)); all_goals (intro hbr; first | exact absurd hbr (by decide) | ((try rw [hbr]); (try simp at hbr))))
 | apply X.stepZ
 | (apply X.stepQ rfl; (focus (simp only [SB, reduceIte, Nat.reduceEqDiff, f2, f4, f5]; with_reducible rfl)); (focus (simp [-getElem?_pos, y1]; with_reducible (first | rfl | exact ⟨rfl, rfl⟩))))
 | fail)
          refine X.callRQ (P := _) rfl (by simp only [SB, reduceIte, Nat.reduceEqDiff, f2, f4, f5]; all_goals (first | with_reducible rfl | (simp <;> with_reducible rfl))) HH.v.value.raw (by simp [pures]) (htv) ?_
          rintro r h7 ⟨⟨L, c1, c2⟩, R7, B7⟩
          have hL := c2.shp
          have G8 := G0.take R7 B7
          have hall : List.all [V.pv (.int .i64 v.k), .pv (.int .u8 v.b), L] V.isCell = true := by simp only [List.all_cons, hL.cells.2, List.all_nil, Bool.and_true]; rfl
          have hst := store_cells (off := 4) (n := 3) G8.c c1 hall rfl (by simp [cellsR])
          have G9 := G8.put (cellsR 0 a b S v.k v.b L 0)
          (repeat' first
 | apply X.skipL
 | apply X.stepZ
 | (apply X.stepQ rfl; (focus (simp only [SB, reduceIte, Nat.reduceEqDiff, f2, f4, f5]; with_reducible rfl)); (focus (simp [-getElem?_pos, -storeA, hst]; with_reducible (first | rfl | exact ⟨rfl, rfl⟩))))
 | fail)
          exact ⟨_, L, _, ⟨G9, hL⟩, by simp [f2, f4, f5], rfl⟩
      dsimp only at hcd
      generalize (if bad6 = true then (Va.mk 0 0 [], bs5, true) else valR 500 bs5 false) = T at hcd hwb hwf ⊢
      obtain ⟨v, bs7, bad7⟩ := T
      dsimp only at hcd hwb hwf ⊢
      clear G0 f2 f4 f5 f hh
      rintro st ⟨hh, L, f, ⟨G0, hL⟩, ⟨f2, f4, f5⟩, rfl⟩
      have hof := ofr_ok HH.p.w.g.o bs7 hwb
      have ho2 : (ofR bs7).2 = 0 ∨ (ofR bs7).2 = 2 := by
        unfold ofR
        (repeat' split) <;> simp
      generalize ofR bs7 = T at hcd hof ho2
      obtain ⟨q, e2⟩ := T
      dsimp only at hcd hof ho2
      obtain ⟨t1, y1⟩ := G0.rd
      have x5 := G0.c
      unfold cellsR at x5
      have hst := store_cell (off := 7) (v := .pv (.flt .f64 q)) x5 rfl rfl (by simp)
      have G1 := G0.put (cellsR 0 a b S v.k v.b L q)
      (repeat' first
 | apply X.stepZ
 | (apply X.stepQ rfl; (focus (simp only [SB, reduceIte, Nat.reduceEqDiff, f2, f4, f5]; with_reducible rfl)); (focus (simp [-getElem?_pos, -storeA, y1, HH.p.w.g.o.of.raw, hof, hst]; with_reducible (first | rfl | exact ⟨rfl, rfl⟩))))
 | fail)
      refine X.abs2 (fun st => ∃ (hh : Heap) (f : Nat → V), GR bs7 bad7 k5 (cellsR 0 a b S v.k v.b L q) hh ∧ (fk (Fk.mk (f := f)) 2 = .ptr 0 0 ∧ fk (Fk.mk (f := f)) 4 = .ptr 1 0 ∧ fk (Fk.mk (f := f)) 5 = .ptr k5 0 ∧ fk (Fk.mk (f := f)) 10 = .pv (.int .i64 e2) ∧ fk (Fk.mk (f := f)) 101 = .ptr 1 0 ∧ fk (Fk.mk (f := f)) 104 = .ptr 1 1) ∧ st = ⟨TL 134 f, hh⟩) ?_ ?_
      · exact ⟨_, _, G1, by simp [f2, f4, f5], rfl⟩
      clear G0 G1 y1 x5 hst f2 f4 f5 f hh hof
      rintro st ⟨hh, f, G0, ⟨f2, f4, f5, f10, f101, f104⟩, rfl⟩
      obtain ⟨t1, y1⟩ := G0.rd
      have hlt1 := Rp.ent_lt y1
      have es1 := fun B => ent_set (e := B) hlt1
      have hk5 := G0.k
      have z0 := G0.z
      have c5 := G0.c
      have fin : ∀ hh', hh' = hh.set 1 (.blk [.nils, .pv (.bool (bad7 || !decide (e2 = 0)))] t1) → ent hh' 1 = .blk [.nils, .pv (.bool (bad7 || !decide (e2 = 0)))] t1 ∧ ent hh' 0 = zeroRr ∧ ent hh' k5 = .blk (cellsR 0 a b S v.k v.b L q) (some 70) := fun hh' h => by
        subst h
        exact ⟨es1 _, by rw [ent_set_ne (by omega)]; exact z0, by rw [ent_set_ne (by omega)]; exact c5⟩
      have v1 : binA .neq .no (.pv (.int .i64 e2)) (.pv (.int .i64 0)) = some (.pv (.bool (!decide (e2 = 0)))) := neI e2 0
      generalize (!decide (e2 = 0)) = p2 at v1 fin hcd
      clear G0 z0 c5 ho2
      cases bad7 with
      | true =>
        rw [Bool.true_or] at hcd fin
        (repeat' first
 | apply X.skipL
 | apply X.stepZ
 | (apply X.stepQ rfl; (focus (simp only [SB, reduceIte, Nat.reduceEqDiff, f2, f4, f5, f10, f101, f104]; with_reducible rfl)); (focus (simp [-getElem?_pos, -binA, y1, es1]; with_reducible (first | rfl | exact ⟨rfl, rfl⟩))))
 | ((first | apply X.stepGtQ rfl | apply X.stepGfQ rfl); (focus (simp only [SB, reduceIte, Nat.reduceEqDiff, f2, f4, f5, f10, f101, f104]; with_reducible rfl)); all_goals (intro hbr; first | exact absurd hbr (by decide) | ((try rw [hbr]); (try simp at hbr))))
 | fail)
        obtain ⟨g1, g2, g3⟩ := fin _ rfl
        exact ⟨_, k5, S, L, .nils, ⟨0, a, b, sp, v, q⟩, [], true, t1, _, ⟨g1, .inr ⟨rfl, rfl⟩, g2, hk5, g3, hcd, hS, hL, (show sp.length ≤ 300 by simp at hln; omega), hwf⟩, by simp [f2, f4, f5], rfl⟩
      | false =>
        rw [Bool.false_or] at hcd fin
        (repeat' first
 | apply X.skipL
 | apply X.stepZ
 | (apply X.stepQ rfl; (focus (simp only [SB, reduceIte, Nat.reduceEqDiff, f2, f4, f5, f10, f101, f104]; with_reducible rfl)); (focus (simp [-getElem?_pos, -binA, y1, es1, v1]; with_reducible (first | rfl | exact ⟨rfl, rfl⟩))))
 | ((first | apply X.stepGtQ rfl | apply X.stepGfQ rfl); (focus (simp only [SB, reduceIte, Nat.reduceEqDiff, f2, f4, f5, f10, f101, f104]; with_reducible rfl)); all_goals (intro hbr; first | exact absurd hbr (by decide) | ((try rw [hbr]); (try simp at hbr))))
 | fail)
        obtain ⟨g1, g2, g3⟩ := fin _ rfl
        exact ⟨_, k5, S, L, .nils, ⟨0, a, b, sp, v, q⟩, [], p2, t1, _, ⟨g1, .inr ⟨rfl, rfl⟩, g2, hk5, g3, hcd, hS, hL, (show sp.length ≤ 300 by simp at hln; omega), hwf⟩, by simp [f2, f4, f5], rfl⟩
  · clear hcd G0 f2 f4 f5 f18 hby hrg hnan w0 hgt hpe
    rintro st ⟨hh, k5, S, L, Xb, x, bs2, bad2, t1, f, ⟨y1, hX, y0, hk5, y5, hcd, hS, hL, hsp, hfv⟩, ⟨f2, f4, f5⟩, rfl⟩
    have hl0 : 0 < hh.length := Ab.ent_lt (by rw [y0]; simp)
    have es0 := fun B => ent_set (e := B) hl0
    unfold cellsR at y5
    unfold zeroRr at y0
    have hgd := goodr_ok HH.p.w.g x.e x.a x.b x.sp x.v x.q (by omega) hfv
    rw [goodRS_eq] at hgd
    have egx : goodS x.e x.a x.b x.sp x.v x.q = goodX x := rfl
    have e0 : encX zeroX = .agg [.int .i64 0, .int .i64 0, .int .i64 0, .sl [], .int .i64 0, .int .u8 0, .sl [], .flt .f64 0] := by simp [encX, zeroX, encR, vk, vb, vl]
    have e1 : encX x = .agg [.int .i64 x.e, .int .i64 x.a, .int .i64 x.b, .sl (x.sp.map encS), .int .i64 x.v.k, .int .u8 x.v.b, .sl (x.v.l.map encV), .flt .f64 x.q] := rfl
    have hgr := HH.p.w.g.good.raw
    rw [egx] at hgd
    simp only [encR] at hgd
    unfold refR
    rw [hcd]
    dsimp only
    clear hcd hsp hfv egx HO hnr
    cases bad2 with
 | true =>
      rw [if_neg (by simp)]
      dsimp only
      rw [e0]
      clear hgd e0 e1
      (repeat' first
 | apply X.retS
 | (apply X.condQ rfl; (focus (simp only [SB, reduceIte, Nat.reduceEqDiff, f2, f4, f5]; with_reducible rfl)); all_goals (intro hbr; first | exact absurd hbr (by decide) | ((try rw [hbr]); (try simp at hbr))))
 | apply X.stepZ
 | (apply X.stepQ rfl; (focus (simp only [SB, reduceIte, Nat.reduceEqDiff, f2, f4, f5]; with_reducible rfl)); (focus (simp [-getElem?_pos, y1, y0, es0]; with_reducible (first | rfl | exact ⟨rfl, rfl⟩))))
 | ((first | apply X.stepGtQ rfl | apply X.stepGfQ rfl); (focus (simp only [SB, reduceIte, Nat.reduceEqDiff, f2, f4, f5]; with_reducible rfl)); all_goals (intro hbr; first | exact absurd hbr (by decide) | ((try rw [hbr]); (try simp at hbr))))
 | fail)
      all_goals refine Fin.mkQ (us := [.agg [.pv (.int .i64 0), .pv (.int .i64 0), .pv (.int .i64 0), .nils, .pv (.int .i64 0), .pv (.int .u8 0), .nils, .pv (.flt .f64 0)], .pv (.int .i64 2)]) rfl (by simp [resS, f2, es0, pures]) (by simp [oneOf, pureRes, snapFuel, snapL]) rfl
 | false =>
    by_cases hne : bs2 = []
    case neg =>
      have hX1 : Xb = .pv (.sl (encB bs2)) := hX.resolve_right fun h => hne h.2
      subst hX1
      rw [if_neg (fun h => hne h.2.1)]
      have hlb : (encB bs2).length = bs2.length := encB_len bs2
      have hpos : 0 < bs2.length := List.length_pos_iff.2 hne
      have v1 : binA .gtr .no (.pv (.int .i64 (bs2.length : Int))) (.pv (.int .i64 0)) = some (.pv (.bool true)) := by simp [binA, intBin]; omega
      dsimp only
      rw [e0]
      clear hgd e0 e1 hX
      (repeat' first
 | apply X.retS
 | (apply X.condQ rfl; (focus (simp only [SB, reduceIte, Nat.reduceEqDiff, f2, f4, f5]; with_reducible rfl)); all_goals (intro hbr; first | exact absurd hbr (by decide) | ((try rw [hbr]); (try simp at hbr))))
 | apply X.stepZ
 | (apply X.stepQ rfl; (focus (simp only [SB, reduceIte, Nat.reduceEqDiff, f2, f4, f5]; with_reducible rfl)); (focus (simp [-getElem?_pos, -binA, y1, y0, es0, hlb, v1]; with_reducible (first | rfl | exact ⟨rfl, rfl⟩))))
 | ((first | apply X.stepGtQ rfl | apply X.stepGfQ rfl); (focus (simp only [SB, reduceIte, Nat.reduceEqDiff, f2, f4, f5]; with_reducible rfl)); all_goals (intro hbr; first | exact absurd hbr (by decide) | ((try rw [hbr]); (try simp at hbr))))
 | fail)
      all_goals refine Fin.mkQ (us := [.agg [.pv (.int .i64 0), .pv (.int .i64 0), .pv (.int .i64 0), .nils, .pv (.int .i64 0), .pv (.int .u8 0), .nils, .pv (.flt .f64 0)], .pv (.int .i64 2)]) rfl (by simp [resS, f2, es0, pures]) (by simp [oneOf, pureRes, snapFuel, snapL]) rfl
    subst hne
    have henc : encB [] = [] := rfl
    generalize goodX x = gx at hgd
    obtain ⟨S', gS⟩ : ∃ S', S' = S := ⟨S, rfl⟩
    obtain ⟨L', gL⟩ : ∃ L', L' = L := ⟨L, rfl⟩
    cases gx with
 | false =>
      rw [if_neg (by simp)]
      dsimp only
      rw [e0]
      clear e0 e1
      rcases hX with rfl | ⟨rfl, _⟩ <;> rcases hS with ⟨eS, rfl⟩ | rfl | ⟨tS, rfl⟩ <;> rcases hL with ⟨eL, rfl⟩ | rfl | ⟨tL, rfl⟩ <;> (try rw [eS] at hgd) <;> (try rw [eL] at hgd) <;> (try rw [henc] at y1)
      all_goals (repeat' first
 | apply X.retS
 | (apply X.condQ rfl; (focus (simp only [SB, reduceIte, Nat.reduceEqDiff, f2, f4, f5]; with_reducible rfl)); all_goals (intro hbr; first | exact absurd hbr (by decide) | ((try rw [hbr]); (try simp at hbr))))
 | apply X.stepZ
 | (apply X.stepQ rfl; (focus (simp only [SB, reduceIte, Nat.reduceEqDiff, f2, f4, f5]; with_reducible rfl)); (focus (simp [-getElem?_pos, y1, y0, y5, es0, hgr, hgd]; with_reducible (first | rfl | exact ⟨rfl, rfl⟩))))
 | ((first | apply X.stepGtQ rfl | apply X.stepGfQ rfl); (focus (simp only [SB, reduceIte, Nat.reduceEqDiff, f2, f4, f5]; with_reducible rfl)); all_goals (intro hbr; first | exact absurd hbr (by decide) | ((try rw [hbr]); (try simp at hbr))))
 | fail)
      all_goals refine Fin.mkQ (us := [.agg [.pv (.int .i64 0), .pv (.int .i64 0), .pv (.int .i64 0), .nils, .pv (.int .i64 0), .pv (.int .u8 0), .nils, .pv (.flt .f64 0)], .pv (.int .i64 2)]) rfl (by simp [resS, f2, es0, pures]) (by simp [oneOf, pureRes, snapFuel, snapL]) rfl
 | true =>
      rw [if_pos ⟨rfl, rfl, rfl⟩]
      dsimp only
      rw [e1]
      clear e0 e1
      rcases hX with rfl | ⟨rfl, _⟩ <;> rcases hS with ⟨eS, rfl⟩ | rfl | ⟨tS, rfl⟩ <;> rcases hL with ⟨eL, rfl⟩ | rfl | ⟨tL, rfl⟩ <;> (try rw [eS] at hgd ⊢) <;> (try rw [eL] at hgd ⊢) <;> (try rw [henc] at y1)
      all_goals (repeat' first
 | apply X.retS
 | apply X.skipS
 | (apply X.condQ rfl; (focus (simp only [SB, reduceIte, Nat.reduceEqDiff, f2, f4, f5]; with_reducible rfl)); all_goals (intro hbr; first | exact absurd hbr (by decide) | ((try rw [hbr]); (try simp at hbr))))
 | apply X.stepZ
 | (apply X.stepQ rfl; (focus (simp only [SB, reduceIte, Nat.reduceEqDiff, f2, f4, f5]; with_reducible rfl)); (focus (simp [-getElem?_pos, y1, y0, y5, es0, hgr, hgd]; with_reducible (first | rfl | exact ⟨rfl, rfl⟩))))
 | ((first | apply X.stepGtQ rfl | apply X.stepGfQ rfl); (focus (simp only [SB, reduceIte, Nat.reduceEqDiff, f2, f4, f5]; with_reducible rfl)); all_goals (intro hbr; first | exact absurd hbr (by decide) | ((try rw [hbr]); (try simp at hbr))))
 | fail)
      all_goals refine Fin.mkQ (us := [.agg [.pv (.int .i64 x.e), .pv (.int .i64 x.a), .pv (.int .i64 x.b), S', .pv (.int .i64 x.v.k), .pv (.int .u8 x.v.b), L', .pv (.flt .f64 x.q)], .pv (.int .i64 0)]) rfl (by simp [resS, f2, es0, pures, gS, gL]) (by simp [oneOf, pureRes, snapFuel, snapL, gS, gL]) rfl
end Rp
