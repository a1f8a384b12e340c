/- SyM: steps, walks, laws: see the remarks within. -/
import Derived.Test.YtdacifedlemlmaaSyK
set_option linter.unusedSimpArgs false
set_option linter.unusedVariables false
-- The document's own bytes of numbers and values: walked.
namespace Rp
open Go Ab Go.Proofs.Ytdacifedlemlmaa.Mach
variable {E : Env}

structure HasRw (E : Env) : Prop where
  g : HasGr E
  four : HasR E 73 c73
  putv : HasR E 74 c74

set_option maxHeartbeats 2000000 in
theorem fourr_ok (HH : HasRw E) (n : Int) (h : Heap) (b : V) (es : List PV) (hb : Buf h 5 b es) (hle : es.length + 4 ≤ 35184372088832) :
    ∃ b' h', limR E 73 [b, .pv (.int .i64 n)] h = some (b', h') ∧ (Buf h' 5 b' (es ++ encB (putN n)) ∧ Fr h b h' b') := by
  refine HH.four.limQE (Nat.le_of_ble_eq_true rfl) ?_; unfold c73
  have s1 := shrI n 24 (by omega) (d := 16777216) rfl
  have s2 := shrI n 16 (by omega) (d := 65536) rfl
  have s3 := shrI n 8 (by omega) (d := 256) rfl
  have e24 : ((24 : Nat) : Int) = 24 := rfl
  have e16 : ((16 : Nat) : Int) = 16 := rfl
  have e8 : ((8 : Nat) : Int) = 8 := rfl
  rw [e24] at s1
  rw [e16] at s2
  rw [e8] at s3
  obtain ⟨ty, happ⟩ : ∃ ty, ∀ l : Heap, appendA (h ++ l) false true 1 1 5 b 4 [.pv (.int .u8 (IntKind.u8.wrap (n.fdiv 16777216))), .pv (.int .u8 (IntKind.u8.wrap (n.fdiv 65536))), .pv (.int .u8 (IntKind.u8.wrap (n.fdiv 256))), .pv (.int .u8 (IntKind.u8.wrap n))] = some (.sln (h.length + l.length) 0 (es.length + 4) 1 false, killB h b ++ (l ++ [.blk ((es ++ encB (putN n)).map .pv) ty])) :=
    hb.appB (putN n) (by simp [putN]) (bytes := 1) (by simp [putN]; omega)
  clear e24 e16 e8
  (repeat' first
 | apply X.retS
 | apply X.stepZ
 | (apply X.stepQ rfl; (focus (simp only [SB, reduceIte, Nat.reduceEqDiff]; with_reducible rfl)); (focus (simp [-getElem?_pos, -binA, s1, s2, s3, happ]; with_reducible (first | rfl | exact ⟨rfl, rfl⟩))))
 | fail)
  all_goals refine FinE.retQ rfl (by simp [resS]; with_reducible rfl) ⟨?_, ?_⟩
  · have := Buf.appN_buf (h := h) (v := b) (es := es) (t := 5) (ty := ty) (ps := encB (putN n)) (by simp [putN, encB]) (n := h.length + 1) (m := es.length + 4) (l := []) (g := [Ent.blk [.pv (.int .u8 (IntKind.u8.wrap (n.fdiv 16777216))), .pv (.int .u8 (IntKind.u8.wrap (n.fdiv 65536))), .pv (.int .u8 (IntKind.u8.wrap (n.fdiv 256))), .pv (.int .u8 (IntKind.u8.wrap n))] none]) rfl (by simp [encB, putN])
    simpa [oneOf] using this
  · exact Buf.app_fr (by omega)

structure QS (h : Heap) (b : V) (k : Nat) (Y : List V) (hh : Heap) (b1 : V) (es : List PV) : Prop where
  buf : Buf hh 5 b1 es
  fr : Fr h b hh b1
  box : ent hh k = .blk Y none
  ne : idOf b1 ≠ some k
theorem QS.step {h hh h2 : Heap} {k : Nat} {Y : List V} {b b1 b2 : V} {es es2 : List PV} (P : QS h b k Y hh b1 es) (B : Buf h2 5 b2 es2) (F : Fr hh b1 h2 b2) : QS h b k Y h2 b2 es2 := by
  have hlt := Rp.ent_lt P.box
  refine ⟨B, P.fr.trans F, (F.old _ hlt P.ne).trans P.box, fun hk => ?_⟩
  rcases F.id k hk with h1 | h1
  · exact P.ne h1
  · omega

theorem formL_iff : ∀ {l : List Va}, formR.formL l = true ↔ ∀ x ∈ l, formR x = true
  | [] => by simp [formR.formL]
  | x :: l => by simp [formR.formL, formL_iff (l := l)]
set_option maxHeartbeats 8000000 in
theorem putvr_ok (HH : HasRw E) : ∀ v, FineV v → formR v = true → ∀ (h : Heap) (b : V) (es : List PV), Buf h 5 b es → es.length + (valS v).length ≤ 35184372088832 →
    ∃ b' h', limR E 74 [b, .pv (encV v)] h = some (b', h') ∧ (Buf h' 5 b' (es ++ encB (valS v)) ∧ Fr h b h' b') := by
  refine Va.ind fun v ih hf hfm h b es hb hle => ?_
  obtain ⟨hvb, hf1, hf2⟩ := fineV hf
  rw [formR_eq] at hfm
  simp only [Bool.and_eq_true, decide_eq_true_eq] at hfm
  obtain ⟨⟨hm1, _⟩, hm2⟩ := hfm
  have hm3 := formL_iff.1 hm2
  rw [valS_eq] at hle ⊢
  rw [eV]
  refine HH.putv.limQE (Nat.le_of_ble_eq_true rfl) ?_; unfold c74
  have hll : (v.l.map encV).length = v.l.length := by simp
  obtain ⟨ty1, hh1⟩ : ∃ ty, ∀ l : Heap, appendA (h ++ l) false true 1 1 5 b 1 [.pv (.int .u8 (IntKind.u8.wrap v.k))] = some (.sln (h.length + l.length) 0 (es.length + 1) 1 false, killB h b ++ (l ++ [.blk ((es ++ encB [by8 v.k]).map .pv) ty])) :=
    hb.appB [by8 v.k] (by simp) (bytes := 1) (by simp [headS] at hle ⊢; omega)
  (repeat' first
 | apply X.stepZ
 | (apply X.stepQ rfl; (focus (simp only [SB, reduceIte, Nat.reduceEqDiff]; with_reducible rfl)); (focus (simp [-getElem?_pos, -binA, hh1, killB_at0, killB_at]; with_reducible (first | rfl | exact ⟨rfl, rfl⟩))))
 | fail)
  refine X.abs2 (fun st => ∃ (hh : Heap) (b1 : V) (f : Nat → V), QS h b h.length [.pv (.int .i64 v.k), .pv (.int .u8 v.b), .pv (.sl (v.l.map encV))] hh b1 (es ++ encB [by8 v.k]) ∧ (fk (Fk.mk (f := f)) 0 = b1 ∧ fk (Fk.mk (f := f)) 3 = .ptr h.length 0 ∧ fk (Fk.mk (f := f)) 13 = .pv (.int .i64 v.k)) ∧ st = ⟨TL 50 f, hh⟩) ?_ ?_
  · obtain ⟨a1, a2, a3, a4, a5⟩ := hb.grow [.blk [.pv (.int .i64 v.k), .pv (.int .u8 v.b), .pv (.sl (v.l.map encV))] none, .blk [.pv (.int .u8 (IntKind.u8.wrap v.k))] none] [by8 v.k] (by simp) (ty := ty1) rfl rfl rfl
    refine ⟨_, .sln (h.length + 2) 0 (es.length + 1) 1 false, _, ⟨?_, ?_, ?_, ?_⟩, ?_, rfl⟩
    · simpa using a1
    · simpa using a2
    · simpa using a5 0 (by simp)
    · simp [idOf]
    · simp
  rintro st ⟨hh, b1, f, P1, ⟨f0, f3, f13⟩, rfl⟩
  clear hh1
  have x1 := P1.box
  have q2 := eqlI v.k 2
  by_cases k2 : v.k = 2
  · rw [decide_eq_true k2] at q2
    have hl0 : v.l = [] := by
      rw [k2] at hm1
      have : (v.l.length : Int) = 0 := hm1
      exact List.length_eq_zero_iff.1 (by omega)
    obtain ⟨ty2, hh2⟩ : ∃ ty, ∀ l : Heap, appendA (hh ++ l) false true 1 1 5 b1 1 [.pv (.int .u8 v.b)] = some (.sln (hh.length + l.length) 0 (es.length + 2) 1 false, killB hh b1 ++ (l ++ [.blk (((es ++ encB [by8 v.k]) ++ encB [v.b]).map .pv) ty])) := by
      have := P1.buf.appB [v.b] (by simp) (bytes := 1) (by simp [headS, k2, encB] at hle ⊢; omega)
      simpa [encB] using this
    (repeat' first
 | apply X.retS
 | (apply X.condQ rfl; (focus (simp only [SB, reduceIte, Nat.reduceEqDiff, f0, f3, f13]; with_reducible rfl)); all_goals (intro hbr; first | exact absurd hbr (by decide) | ((try rw [hbr]); (try simp at hbr))))
 | apply X.stepZ
 | (apply X.stepQ rfl; (focus (simp only [SB, reduceIte, Nat.reduceEqDiff, f0, f3, f13]; with_reducible rfl)); (focus (simp [-getElem?_pos, -binA, q2, x1, ent_app x1, hh2]; with_reducible (first | rfl | exact ⟨rfl, rfl⟩))))
 | fail)
    obtain ⟨c1, c2, _, _, _⟩ := P1.buf.grow [.blk [.pv (.int .u8 v.b)] none] [v.b] (by simp) (ty := ty2) rfl rfl rfl
    have P2 := P1.step c1 c2
    all_goals refine FinE.retQ (us := [.sln (hh.length + 1) 0 (es.length + 2) 1 false]) rfl (by simp [resS]) ⟨?_, ?_⟩
    · have := P2.buf
      rw [hl0]
      simpa [headS, k2, encB, valS.valL, oneOf, Nat.add_assoc] using this
    · have := P2.fr
      simpa [encB, oneOf, Nat.add_assoc] using this
  rw [decide_eq_false k2] at q2
  have q6 := eqlI v.k 6
  generalize hp6 : decide (v.k = 6) = p6 at q6
  (repeat' first
 | apply X.skipS
 | (apply X.condQ rfl; (focus (simp only [SB, reduceIte, Nat.reduceEqDiff, f0, f3, f13]; with_reducible rfl)); all_goals (intro hbr; first | exact absurd hbr (by decide) | ((try rw [hbr]); (try simp at hbr))))
 | apply X.stepZ
 | (apply X.stepQ rfl; (focus (simp only [SB, reduceIte, Nat.reduceEqDiff, f0, f3, f13]; with_reducible rfl)); (focus (simp [-getElem?_pos, -binA, q2, x1]; with_reducible (first | rfl | exact ⟨rfl, rfl⟩))))
 | fail)
  (first
 | apply X.retS
 | apply X.skipS
 | apply X.skipB
 | apply X.skipL
 | (apply X.exitS; first | apply X.here | (refine X.out (by decide) ?_; apply X.here))
 | apply X.blockS
 | (apply X.condQ rfl; (focus (simp only [SB, reduceIte, Nat.reduceEqDiff]; with_reducible rfl)); all_goals (intro hbr; first | exact absurd hbr (by decide) | ((try rw [hbr]); (try simp at hbr))))
 | apply X.stepZ
 | (apply X.stepQ rfl; (focus (simp only [SB, reduceIte, Nat.reduceEqDiff]; with_reducible rfl)); (focus (simp [-getElem?_pos, -binA, q6]; with_reducible (first | rfl | exact ⟨rfl, rfl⟩))))
 | (apply X.stepNQ rfl; (focus (simp only [SB, reduceIte, Nat.reduceEqDiff]; with_reducible rfl)))
 | ((first | apply X.stepGtQ rfl | apply X.stepGfQ rfl); (focus (simp only [SB, reduceIte, Nat.reduceEqDiff]; with_reducible rfl)); all_goals (intro hbr; first | exact absurd hbr (by decide) | ((try rw [hbr]); (try simp at hbr)))))
  refine X.stepZ ?_
  refine X.midA (fun st => ∃ (hh : Heap) (b1 : V) (f : Nat → V), QS h b h.length [.pv (.int .i64 v.k), .pv (.int .u8 v.b), .pv (.sl (v.l.map encV))] hh b1 (es ++ encB (headS v)) ∧ (fk (Fk.mk (f := f)) 0 = b1 ∧ fk (Fk.mk (f := f)) 3 = .ptr h.length 0) ∧ st = ⟨TL 50 f, hh⟩) ?_ ?_
  · cases p6 with
 | true =>
      have k6 : v.k = 6 := by simpa using hp6
      have s8 := shrI (v.l.length : Int) 8 (by omega) (d := 256) rfl
      have e8 : ((8 : Nat) : Int) = 8 := rfl
      rw [e8] at s8
      have hHs : (headS v).length = 3 := by simp [headS, k6]
      obtain ⟨ty2, hh2⟩ : ∃ ty, ∀ l : Heap, appendA (hh ++ l) false true 1 1 5 b1 2 [.pv (.int .u8 (IntKind.u8.wrap ((v.l.length : Int).fdiv 256))), .pv (.int .u8 (IntKind.u8.wrap (v.l.length : Int)))] = some (.sln (hh.length + l.length) 0 (es.length + 3) 1 false, killB hh b1 ++ (l ++ [.blk (((es ++ encB [by8 v.k]) ++ encB [by8 ((v.l.length : Int).fdiv 256), by8 v.l.length]).map .pv) ty])) := by
        have := P1.buf.appB [by8 ((v.l.length : Int).fdiv 256), by8 v.l.length] (by simp) (bytes := 1) (by simp [encB]; simp [hHs] at hle; omega)
        simpa [encB, by8] using this
      (repeat' first
 | apply X.skipL
 | (apply X.condQ rfl; (focus (simp only [SB, reduceIte, Nat.reduceEqDiff, f0, f3, f13]; with_reducible rfl)); all_goals (intro hbr; first | exact absurd hbr (by decide) | ((try rw [hbr]); (try simp at hbr))))
 | apply X.stepZ
 | (apply X.stepQ rfl; (focus (simp only [SB, reduceIte, Nat.reduceEqDiff, f0, f3, f13]; with_reducible rfl)); (focus (simp [-getElem?_pos, -binA, s8, x1, ent_app x1, hll, hh2]; with_reducible (first | rfl | exact ⟨rfl, rfl⟩))))
 | fail)
      obtain ⟨c1, c2, _, _, _⟩ := P1.buf.grow [.blk [.pv (.int .u8 (IntKind.u8.wrap ((v.l.length : Int).fdiv 256))), .pv (.int .u8 (IntKind.u8.wrap (v.l.length : Int)))] none] [by8 ((v.l.length : Int).fdiv 256), by8 v.l.length] (by simp) (ty := ty2) rfl rfl rfl
      have P2 := P1.step c1 c2
      refine ⟨_, .sln (hh.length + 1) 0 (es.length + 3) 1 false, _, ?_, by simp [f3], rfl⟩
      simpa [headS, k6, encB] using P2
 | false =>
      have k6 : ¬ v.k = 6 := by simpa using hp6
      (repeat' first
 | apply X.skipS
 | apply X.skipL
 | (apply X.condQ rfl; (focus (simp only [SB, reduceIte, Nat.reduceEqDiff, f0, f3, f13]; with_reducible rfl)); all_goals (intro hbr; first | exact absurd hbr (by decide) | ((try rw [hbr]); (try simp at hbr))))
 | fail)
      exact ⟨_, b1, _, by simpa [headS, k2, k6, encB] using P1, by simp [f0, f3], rfl⟩
  clear P1 x1 f0 f3 f13 f hh b1 q2 q6
  rintro st ⟨hh, b1, f, P1, ⟨f0, f3⟩, rfl⟩
  (repeat' first
 | apply X.blockS
 | apply X.stepZ
 | (apply X.stepQ rfl; (focus (simp only [SB, reduceIte, Nat.reduceEqDiff, f0, f3]; with_reducible rfl)); (focus (simp [-getElem?_pos]; with_reducible (first | rfl | exact ⟨rfl, rfl⟩))))
 | fail)
  refine X.forS v.l.length (fun j st => ∃ (hh : Heap) (b1 : V) (es1 : List PV) (f : Nat → V), (QS h b h.length [.pv (.int .i64 v.k), .pv (.int .u8 v.b), .pv (.sl (v.l.map encV))] hh b1 es1 ∧ es1.length + (valS.valL (v.l.drop j)).length ≤ 35184372088832 ∧
    es1 ++ encB (valS.valL (v.l.drop j)) = es ++ encB (headS v ++ valS.valL v.l)) ∧ (fk (Fk.mk (f := f)) 0 = b1 ∧ fk (Fk.mk (f := f)) 3 = .ptr h.length 0 ∧ fk (Fk.mk (f := f)) 5 = .pv (.int .i64 (j : Int))) ∧ st = ⟨TL 50 f, hh⟩) ?_ ?_
  · refine ⟨_, b1, _, _, ⟨P1, ?_, by simp [encB_app]⟩, by simp [f0, f3], rfl⟩
    simp only [List.length_append, encB_len, List.drop_zero] at hle ⊢
    omega
  clear P1 f0 f3 f hh b1
  rintro j st hj ⟨hh, b1, es1, f, ⟨P1, g3, g4⟩, ⟨f0, f3, f5⟩, rfl⟩
  have x1 := P1.box
  rcases Nat.lt_or_ge j v.l.length with hj1 | hj1
  · have hww : IntKind.i64.wrap ((j : Int) + 1) = (j : Int) + 1 := wrap_i64 (by omega)
    have w3 : binA .add .no (.pv (.int .i64 (j : Int))) (.pv (.int .i64 1)) = some (.pv (.int .i64 ((j : Int) + 1))) := by simp [binA, intBin, hww]
    have w1 : binA .lss .no (.pv (.int .i64 (j : Int))) (.pv (.int .i64 (v.l.length : Int))) = some (.pv (.bool true)) := by simp [binA, intBin]; omega
    obtain ⟨x, hx⟩ := at_of_lt hj1
    have hxm := List.mem_of_getElem? hx
    have hx2 : (v.l.map encV)[j]? = some (.agg [.int .i64 x.k, .int .u8 x.b, .sl (x.l.map encV)]) := by simp [hx, eV]
    rw [drop_at hx] at g3 g4
    simp only [valS.valL, List.length_append] at g3 g4
    have hc := ih x hxm (hf2 x hxm) (hm3 x hxm) hh b1 es1 P1.buf (by omega)
    clear ih
    rw [eV x] at hc
    (repeat' first
 | apply X.skipS
 | apply X.blockS
 | (apply X.condQ rfl; (focus (simp only [SB, reduceIte, Nat.reduceEqDiff, f0, f3, f5]; with_reducible rfl)); all_goals (intro hbr; first | exact absurd hbr (by decide) | ((try rw [hbr]); (try simp at hbr))))
 | apply X.stepZ
 | (apply X.stepQ rfl; (focus (simp only [SB, reduceIte, Nat.reduceEqDiff, f0, f3, f5]; with_reducible rfl)); (focus (simp [-getElem?_pos, -binA, hll, w1, x1, hx2]; with_reducible (first | rfl | exact ⟨rfl, rfl⟩))))
 | fail)
    refine X.callRQ (P := _) rfl (by simp only [SB, reduceIte, Nat.reduceEqDiff, f0, f3, f5]; all_goals (first | with_reducible rfl | (simp; done) | (simp <;> with_reducible rfl))) HH.putv.raw P1.buf.pures hc ?_
    rintro b3 h3 ⟨k1, k2⟩
    (repeat' first
 | apply X.skipB
 | apply X.skipL
 | apply X.stepZ
 | (apply X.stepQ rfl; (focus (simp only [SB, reduceIte, Nat.reduceEqDiff, f0, f3, f5]; with_reducible rfl)); (focus (simp [-getElem?_pos, -binA, w3]; with_reducible (first | rfl | exact ⟨rfl, rfl⟩))))
 | fail)
    refine ⟨hj1, h3, b3, _, _, ⟨P1.step k1 k2, ?_, ?_⟩, by simp [f3], rfl⟩
    · simp only [List.length_append, encB_len]; omega
    · rw [← g4, encB_app, List.append_assoc]
  · have w1 : binA .lss .no (.pv (.int .i64 (j : Int))) (.pv (.int .i64 (v.l.length : Int))) = some (.pv (.bool false)) := by simp [binA, intBin]; omega
    rw [List.drop_eq_nil_of_le hj1] at g4
    simp only [valS.valL, encB, List.map_nil, List.append_nil] at g4
    clear ih
    (repeat' first
 | apply X.retS
 | (apply X.exitS; first | apply X.here | (refine X.out (by decide) ?_; apply X.here))
 | (apply X.condQ rfl; (focus (simp only [SB, reduceIte, Nat.reduceEqDiff, f0, f3, f5]; with_reducible rfl)); all_goals (intro hbr; first | exact absurd hbr (by decide) | ((try rw [hbr]); (try simp at hbr))))
 | apply X.stepZ
 | (apply X.stepQ rfl; (focus (simp only [SB, reduceIte, Nat.reduceEqDiff, f0, f3, f5]; with_reducible rfl)); (focus (simp [-getElem?_pos, -binA, hll, w1, x1]; with_reducible (first | rfl | exact ⟨rfl, rfl⟩))))
 | fail)
    all_goals refine FinE.retQ (us := [b1]) rfl (by simp [resS, f0]) ⟨?_, ?_⟩
    · rw [encB, ← g4]; exact P1.buf
    · exact P1.fr
end Rp

-- The document's own bytes of a report: walked.
namespace Rp
open Go Ab Go.Proofs.Ytdacifedlemlmaa.Mach
variable {E : Env}

theorem bits_eq {q : Nat} (h : q < 2 ^ 64) : bitsR q = bitsS q := by
  unfold bitsR bitsS notU xorU
  cases hn : nanB .f64 q with
  | true => rfl
  | false =>
    simp only [Bool.false_eq_true, if_false]
    have ht : (9223372036854775808 : Int) = topI := rfl
    obtain ⟨Q, hQ⟩ : ∃ Q : BitVec 64, BitVec.ofInt 64 (q : Int) = Q := ⟨_, rfl⟩
    have hq : Q.toNat = q := by rw [← hQ, BitVec.toNat_ofInt]; omega
    have e1 : BitVec.ofInt 64 (9223372036854775808 : Int) = BitVec.twoPow 64 63 := topT
    rw [hQ, e1, topT, wrU, wrU, wrU, wrU]
    have hand : (Q &&& BitVec.twoPow 64 63).toNat = (q.testBit 63).toNat * 2 ^ 63 := by
      rw [BitVec.and_twoPow]
      have : Q.getLsbD 63 = q.testBit 63 := by rw [← hq]; rfl
      rw [this]
      cases q.testBit 63 <;> rfl
    rw [hand]
    have hfd : (q : Int).fdiv 9223372036854775808 = (q : Int) / 9223372036854775808 := Int.fdiv_eq_ediv_of_nonneg _ (by omega)
    rw [hfd]
    by_cases hlt : q < 2 ^ 63
    · have hb : q.testBit 63 = false := Nat.testBit_lt_two_pow hlt
      rw [hb, if_neg (by omega)]
      simp only [Bool.toNat_false, Nat.zero_mul, Int.ofNat_zero, Int.cast_ofNat_Int, if_true]
      have hz : Q &&& BitVec.twoPow 64 63 = 0#64 := BitVec.eq_of_toNat_eq (by rw [hand, hb]; rfl)
      have : Q ^^^ BitVec.twoPow 64 63 = Q ||| BitVec.twoPow 64 63 := by
        ext i hi
        have h' := congrArg (fun b => b.getLsbD i) hz
        simp [BitVec.getLsbD_eq_getElem hi] at h' ⊢
        cases hq1 : Q[i] <;> simp_all
      rw [this]
    · have hb : q.testBit 63 = true := by
        have : q = 2 ^ 63 + (q - 2 ^ 63) := by omega
        rw [this, Nat.testBit_two_pow_add_eq, Nat.testBit_lt_two_pow (by omega)]
        rfl
      rw [hb, if_pos (by omega), if_neg (by decide)]
theorem score_eq {q : Nat} (h : q < 2 ^ 64) : scoreR q = scoreB q := by
  unfold scoreR scoreB
  rw [bits_eq h]
structure HasPr (E : Env) : Prop where
  w : HasRw E
  put : Has E 37 c37

set_option maxHeartbeats 16000000 in
theorem putr_body (HH : HasRw E) (e a b : Int) (sp : List Sp) (v : Va) (q : Nat) (hl : sp.length ≤ 9223372036854775807) (hf : FineV v) (hq64 : q < 2 ^ 64) (h : Heap) :
    X E (app c37.body .skip) ⟨TL c37.ntmps (argF [.pv (encR e a b sp v q)]), h⟩ (FinE c37.results fun r h' => Buf h' 5 r (encB (putS e a b sp v q)) ∧ Old h h') := by
  have hg := goodr_ok HH.g e a b sp v q hl hf
  rw [goodRS_eq] at hg
  have hgr := HH.g.good.raw
  unfold putS
  unfold c37
  simp only [encR] at hg ⊢
  cases hgd : goodS e a b sp v q with
  | false =>
    rw [hgd] at hg
    simp only [Bool.false_eq_true, if_false]
    (repeat' first
 | apply X.retS
 | (apply X.condQ rfl; (focus (simp only [SB, reduceIte, Nat.reduceEqDiff]; with_reducible rfl)); all_goals (intro hbr; first | exact absurd hbr (by decide) | ((try rw [hbr]); (try simp at hbr))))
 | apply X.stepZ
 | (apply X.stepQ rfl; (focus (simp only [SB, reduceIte, Nat.reduceEqDiff]; with_reducible rfl)); (focus (simp [-getElem?_pos, hgr, hg]; with_reducible (first | rfl | exact ⟨rfl, rfl⟩))))
 | fail)
    all_goals exact FinE.retQ (us := [.nils]) rfl (by simp [resS]) ⟨Buf.nil, ⟨by simp, fun i hi => by simp [ent, List.getElem?_append_left hi]⟩⟩
  | true =>
  rw [hgd] at hg
  simp only [if_true]
  have he7 : 0 ≤ e := by
    simp only [goodS] at hgd
    split at hgd
    · cases hgd
    · omega
  by_cases he : e ≠ 0
  · rw [if_pos he]
    have w1 : binA .gtr .no (.pv (.int .i64 e)) (.pv (.int .i64 0)) = some (.pv (.bool true)) := by simp [binA, intBin]; omega
    (repeat' first
 | apply X.retS
 | apply X.skipS
 | (apply X.condQ rfl; (focus (simp only [SB, reduceIte, Nat.reduceEqDiff]; with_reducible rfl)); all_goals (intro hbr; first | exact absurd hbr (by decide) | ((try rw [hbr]); (try simp at hbr))))
 | apply X.stepZ
 | (apply X.stepQ rfl; (focus (simp only [SB, reduceIte, Nat.reduceEqDiff]; with_reducible rfl)); (focus (simp [-getElem?_pos, -binA, hgr, hg, w1]; with_reducible (first | rfl | exact ⟨rfl, rfl⟩))))
 | fail)
    all_goals refine FinE.retQ (us := [.sln (h.length + 1) 0 1 1 false]) rfl (by simp [resS]) ⟨?_, ⟨by simp, fun i hi => by simp [ent, List.getElem?_append_left hi]⟩⟩
    all_goals exact .inr ⟨by simp [encB], h.length + 1, rfl, none, by simp [ent_at, encB, by8, ent]⟩
  · rw [if_neg he]
    have he0 : e = 0 := by omega
    subst he0
    have w1 : binA .gtr .no (.pv (.int .i64 0)) (.pv (.int .i64 0)) = some (.pv (.bool false)) := by simp [binA, intBin]
    generalize hL : sp.map encS = L at hg ⊢
    generalize hN : sp.length = N at hl ⊢
    have hll : L.length = N := by rw [← hL, List.length_map, hN]
    have hgd2 : spansS a b sp = true ∧ (shS v 500 2000).1 = true := by
      simp only [goodS] at hgd
      rw [if_neg (by omega), if_neg (by simp)] at hgd
      simp only [Bool.and_eq_true] at hgd
      exact hgd.2
    obtain ⟨hspS, hshS⟩ := hgd2
    have hvl : (valS v).length ≤ 6003 := by
      have h1 := val_len v 500 2000 hshS
      have h2 := (shS_le v 500 2000).2.1 (by omega)
      omega
    have hfm : formR v = true := ((sh_iff v 500 2000).1.1 hshS).2.2
    have hsl : N ≤ 33 := by
      rw [← hN]
      unfold spansS at hspS
      split at hspS
      · cases hspS
      · simp only [Bool.and_eq_true, decide_eq_true_eq] at hspS; omega
    obtain ⟨s0, r, hsr⟩ : ∃ s r, sp = s :: r := by
      cases sp with
      | nil => cases hspS
      | cons s r => exact ⟨s, r, rfl⟩
    have hall : r.all spanOk = true := by
      rw [hsr] at hspS
      unfold spansS at hspS
      simp only [Bool.and_eq_true] at hspS
      exact hspS.2
    clear hspS hshS
    (repeat' first
 | apply X.skipS
 | (apply X.condQ rfl; (focus (simp only [SB, reduceIte, Nat.reduceEqDiff]; with_reducible rfl)); all_goals (intro hbr; first | exact absurd hbr (by decide) | ((try rw [hbr]); (try simp at hbr))))
 | apply X.stepZ
 | (apply X.stepQ rfl; (focus (simp only [SB, reduceIte, Nat.reduceEqDiff]; with_reducible rfl)); (focus (simp [-getElem?_pos, -binA, hgr, hg, w1]; with_reducible (first | rfl | exact ⟨rfl, rfl⟩))))
 | fail)
    refine X.abs2 (fun st => ∃ (hh : Heap) (b1 : V) (f : Nat → V), PS h h.length [.pv (.int .i64 0), .pv (.int .i64 a), .pv (.int .i64 b), .pv (.sl L), .pv (.int .i64 v.k), .pv (.int .u8 v.b), .pv (.sl (v.l.map encV)), .pv (.flt .f64 q)] hh b1 (encB [by8 0]) ∧ (fk (Fk.mk (f := f)) 1 = .ptr h.length 0 ∧ fk (Fk.mk (f := f)) 3 = b1) ∧ st = ⟨TL 71 f, hh⟩) ?_ ?_
    · refine ⟨_, .sln (h.length + 1) 0 1 1 false, _, ⟨.inr ⟨by simp [encB], h.length + 1, rfl, none, ?_⟩, ⟨none, ?_⟩, by simp, by simp [idOf], fun i hi => ?_, ⟨by simp, fun i hi => ?_⟩⟩, by simp, rfl⟩
      · simp [ent_at, encB, by8, ent]
      · exact ent_at0
      · cases hi; omega
      · simp [ent, List.getElem?_append_left hi]
    rintro st ⟨h1, b1, f, P1, ⟨f1, f3⟩, rfl⟩
    clear hg
    refine X.drawC [73, 74] [h.length] rfl ?_
    have l1 := P1.lt
    obtain ⟨t1, x1⟩ := P1.box
    (repeat' first
 | (apply XC.calmQ rfl rfl rfl; (focus (simp only [SB, reduceIte, Nat.reduceEqDiff, f1, f3]; with_reducible rfl)); (focus (simp [-getElem?_pos, x1]; done)); (focus (simp [-getElem?_pos, x1]; with_reducible (first | rfl | exact ⟨rfl, rfl⟩))))
 | fail)
    refine XC.callX (P := fun b' h' => Buf h' 5 b' (encB [by8 0] ++ encB (putN a)) ∧ Fr h1 b1 h' b') rfl (by simp only [SB, reduceIte, Nat.reduceEqDiff, f1, f3]; all_goals (first | with_reducible rfl | (simp; done) | (simp <;> with_reducible rfl))) (reach_buf P1.buf (by simp [V.ids])) HH.four.raw HH.four.ext P1.off (by intro x hx; simp at hx; subst hx; exact P1.lt) P1.low (Buf.call_masked P1.buf fun hx hbx => fourr_ok HH a hx _ _ hbx (by simp [encB_len])) ?_
    rintro b2 h2 ⟨B2, F2⟩
    have P2 := P1.step B2 F2
    have l2 := P2.lt
    obtain ⟨t2, x2⟩ := P2.box
    (repeat' first
 | (apply XC.calmQ rfl rfl rfl; (focus (simp only [SB, reduceIte, Nat.reduceEqDiff, f1, f3]; with_reducible rfl)); (focus (simp [-getElem?_pos, x2]; done)); (focus (simp [-getElem?_pos, x2]; with_reducible (first | rfl | exact ⟨rfl, rfl⟩))))
 | fail)
    refine XC.callX (P := fun b' h' => Buf h' 5 b' (encB [by8 0] ++ encB (putN a) ++ encB (putN b)) ∧ Fr h2 b2 h' b') rfl (by simp only [SB, reduceIte, Nat.reduceEqDiff, f1, f3]; all_goals (first | with_reducible rfl | (simp; done) | (simp <;> with_reducible rfl))) (reach_buf P2.buf (by simp [V.ids])) HH.four.raw HH.four.ext P2.off (by intro x hx; simp at hx; subst hx; exact P2.lt) P2.low (Buf.call_masked P2.buf fun hx hbx => fourr_ok HH b hx _ _ hbx (by simp [encB_len, putN])) ?_
    rintro b3 h3 ⟨B3, F3⟩
    have P3 := P2.step B3 F3
    have l3 := P3.lt
    obtain ⟨t3, x3⟩ := P3.box
    (repeat' first
 | (apply XC.calmQ rfl rfl rfl; (focus (simp only [SB, reduceIte, Nat.reduceEqDiff, f1, f3]; with_reducible rfl)); (focus (simp [-getElem?_pos, x3, hll]; done)); (focus (simp [-getElem?_pos, x3, hll]; with_reducible (first | rfl | exact ⟨rfl, rfl⟩))))
 | (apply XC.makeQ rfl rfl rfl rfl; (focus (simp only [SB, reduceIte, Nat.reduceEqDiff, f1, f3]; with_reducible rfl)); (focus rfl); (focus (simp; done)); (focus (first | (simp; done) | (simp; omega))); (focus (simp [-getElem?_pos, x3, hll]; with_reducible (first | rfl | exact ⟨rfl, rfl⟩))); (focus (simp; done)); (focus (simp [-getElem?_pos, x3, hll]; with_reducible rfl)))
 | fail)
    obtain ⟨ty, g1, e1, e2, e3⟩ := P3.buf.append_masked (E := E) (p := limP E) (r := limR E) [by8 (N : Int)] (by simp) (by simp [encB_len, putN]) rfl
    refine XC.growQ (h1 := g1) (F := FB b3 ++ [h3.length]) (vop := .append false true 1 1 5 (.val b3) (.val (.sln h3.length 0 1 1 false))) rfl rfl rfl (by simp only [SB, reduceIte, Nat.reduceEqDiff, f1, f3]; all_goals (first | with_reducible rfl | (simp; done) | (simp <;> with_reducible rfl))) (by show V.ids b3 ++ [h3.length] = _; rw [P3.buf.ids]) ?_ ?_ ?_ e1 e2 e3 ?_
    · rw [List.all_eq_true]
      intro x hx
      have hlt := P3.lt
      rcases List.mem_append.1 hx with hx | hx
      · have := P3.off x hx
        simpa using this
      · simp only [List.mem_singleton] at hx
        subst hx
        simp
        omega
    · intro x hx
      have hlt := P3.lt
      simp only [List.mem_singleton] at hx
      subst hx
      simp
      omega
    · intro x hx
      rcases List.mem_append.1 hx with hx | hx
      · have := P3.low x hx
        simp
        omega
      · simp only [List.mem_singleton] at hx
        subst hx
        simp
    obtain ⟨c1, c2, _, _, _⟩ := P3.buf.grow [.blk ([by8 (N : Int)].map fun x => V.pv (.int .u8 x)) none] [by8 (N : Int)] (by simp) (ty := ty) (n := h3.length + 1) (m := (encB [by8 0] ++ encB (putN a) ++ encB (putN b)).length + ([by8 (N : Int)]).length) rfl rfl rfl
    clear e1 e2 e3
    generalize killB h3 b3 ++ ([Ent.blk ([by8 (N : Int)].map fun x => V.pv (.int .u8 x)) none] ++ [Ent.blk ((encB [by8 0] ++ encB (putN a) ++ encB (putN b) ++ encB [by8 (N : Int)]).map V.pv) ty]) = H at c1 c2 ⊢
    generalize V.sln (h3.length + 1) 0 ((encB [by8 0] ++ encB (putN a) ++ encB (putN b)).length + ([by8 (N : Int)]).length) 1 false = B at c1 c2 ⊢
    have P4 := P3.step c1 c2
    clear c1 c2 P1 P2 B2 F2 B3 F3
    have hes : encB [by8 0] ++ encB (putN a) ++ encB (putN b) ++ encB [by8 (N : Int)] = encB (by8 0 :: (putN a ++ (putN b ++ [by8 (N : Int)]))) := by simp [encB]
    rw [hes] at P4
    have hhd : (by8 0 :: (putN a ++ (putN b ++ [by8 (N : Int)]))).length = 10 := by simp [putN]
    generalize by8 0 :: (putN a ++ (putN b ++ [by8 (N : Int)])) = hd at P4 hhd ⊢
    (repeat' first
 | apply XC.nil
 | (apply XC.calmQ rfl rfl rfl; (focus (simp only [SB, reduceIte, Nat.reduceEqDiff, f1, f3]; with_reducible rfl)); (focus (simp [-getElem?_pos]; done)); (focus (simp [-getElem?_pos]; with_reducible (first | rfl | exact ⟨rfl, rfl⟩))))
 | fail)
    refine X.abs2 (fun st => ∃ (hh : Heap) (b1 : V) (f : Nat → V), PS h h.length [.pv (.int .i64 0), .pv (.int .i64 a), .pv (.int .i64 b), .pv (.sl L), .pv (.int .i64 v.k), .pv (.int .u8 v.b), .pv (.sl (v.l.map encV)), .pv (.flt .f64 q)] hh b1 (encB hd) ∧ (fk (Fk.mk (f := f)) 1 = .ptr h.length 0 ∧ fk (Fk.mk (f := f)) 3 = b1) ∧ st = ⟨TL 71 f, hh⟩) ?_ ?_
    · refine ⟨_, _, _, P4, ?_, rfl⟩
      simp [f1]
    clear P4 P3 l1 l2 l3 x1 x2 x3 f1 f3
    rintro st ⟨h1, b1, f, P1, ⟨f1, f3⟩, rfl⟩
    have htail : sp.tail = r := by rw [hsr]; rfl
    have hrN : N = r.length + 1 := by rw [← hN, hsr]; rfl
    rw [htail]
    clear htail hN
    (repeat' first
 | apply X.blockS
 | apply X.stepZ
 | (apply X.stepQ rfl; (focus (simp only [SB, reduceIte, Nat.reduceEqDiff, f1, f3]; with_reducible rfl)); (focus (simp [-getElem?_pos]; with_reducible (first | rfl | exact ⟨rfl, rfl⟩))))
 | fail)
    refine X.forS r.length (fun j st => ∃ (hh : Heap) (b1 : V) (es : List Int) (f : Nat → V), (PS h h.length [.pv (.int .i64 0), .pv (.int .i64 a), .pv (.int .i64 b), .pv (.sl L), .pv (.int .i64 v.k), .pv (.int .u8 v.b), .pv (.sl (v.l.map encV)), .pv (.flt .f64 q)] hh b1 (encB es) ∧ es ++ (r.drop j).flatMap spanB = hd ++ r.flatMap spanB ∧ es.length ≤ 10 + 9 * j) ∧ (fk (Fk.mk (f := f)) 1 = .ptr h.length 0 ∧ fk (Fk.mk (f := f)) 3 = b1 ∧ fk (Fk.mk (f := f)) 4 = .pv (.int .i64 ((j : Int) + 1))) ∧ st = ⟨TL 71 f, hh⟩) ?_ ?_
    · exact ⟨_, _, hd, _, ⟨P1, rfl, by omega⟩, by simp [f1, f3], rfl⟩
    clear P1 f1 f3
    rintro j st hj ⟨h1, b1, es, f, ⟨P1, hi, hlen⟩, ⟨f1, f3, f4⟩, rfl⟩
    obtain ⟨k, hk⟩ : ∃ k, k = j + 1 := ⟨_, rfl⟩
    have ek : (j : Int) + 1 = (k : Int) := by omega
    rw [ek] at f4
    have l1 := P1.lt
    obtain ⟨t1, x1⟩ := P1.box
    rcases Nat.lt_or_ge j r.length with hj1 | hj1
    · have hww : IntKind.i64.wrap ((k : Int) + 1) = (k : Int) + 1 := wrap_i64 (by omega)
      have w4 : binA .add .no (.pv (.int .i64 (k : Int))) (.pv (.int .i64 1)) = some (.pv (.int .i64 ((k : Int) + 1))) := by simp [binA, intBin, hww]
      have w3 : binA .lss .no (.pv (.int .i64 (k : Int))) (.pv (.int .i64 (N : Int))) = some (.pv (.bool true)) := by simp [binA, intBin]; omega
      obtain ⟨x, hx⟩ := at_of_lt hj1
      have hx2 : L[k]? = some (.agg [.int .i64 x.1, .int .i64 x.2]) := by rw [← hL, hsr, hk]; simp [hx, encS]
      have hxo := List.all_eq_true.1 hall x (List.mem_of_getElem? hx)
      rw [drop_at hx, List.flatMap_cons] at hi
      by_cases hx1 : x.1 = -1
      · have hsb : spanB x = [0] := by simp [spanB, hx1]
        have w2 : binA .lss .no (.pv (.int .i64 x.1)) (.pv (.int .i64 0)) = some (.pv (.bool true)) := by simp [binA, intBin, hx1]
        rw [hsb] at hi
        obtain ⟨ty, happ⟩ : ∃ ty, ∀ l : Heap, appendA (h1 ++ l) false true 1 1 5 b1 1 [.pv (.int .u8 0)] = some (.sln (h1.length + l.length) 0 (es.length + 1) 1 false, killB h1 b1 ++ (l ++ [.blk ((encB es ++ encB [0]).map .pv) ty])) := by
          have := P1.buf.appB [0] (by simp) (bytes := 1) (by simp [encB_len]; omega)
          simpa [encB_len] using this
        (repeat' first
 | apply X.skipS
 | apply X.skipL
 | (apply X.exitS; first | apply X.here | (refine X.out (by decide) ?_; apply X.here))
 | apply X.blockS
 | (apply X.condQ rfl; (focus (simp only [SB, reduceIte, Nat.reduceEqDiff, f1, f3, f4]; with_reducible rfl)); all_goals (intro hbr; first | exact absurd hbr (by decide) | ((try rw [hbr]); (try simp at hbr))))
 | apply X.stepZ
 | (apply X.stepQ rfl; (focus (simp only [SB, reduceIte, Nat.reduceEqDiff, f1, f3, f4]; with_reducible rfl)); (focus (simp [-getElem?_pos, -binA, w2, w3, w4, x1, hll, hx2, happ]; with_reducible (first | rfl | exact ⟨rfl, rfl⟩))))
 | fail)
        obtain ⟨c1, c2, _, _, _⟩ := P1.buf.grow [.blk [.pv (.int .u8 0)] none] [0] (by simp) (ty := ty) rfl rfl rfl
        have P2 := P1.step c1 c2
        rw [← encB_app] at P2
        refine ⟨hj1, _, .sln (h1.length + 1) 0 (es.length + 1) 1 false, es ++ [0], _, ⟨?_, by rw [← hi]; simp, by simp; omega⟩, ?_, rfl⟩
        · simpa [encB_len, encB_app] using P2
        · simp [f1, hk]
      · have hsb : spanB x = 1 :: (putN x.1 ++ putN x.2) := by simp [spanB, hx1]
        rw [hsb] at hi
        have hx0 : ¬ x.1 < 0 := by
          unfold spanOk betweenS at hxo
          simp only [Bool.or_eq_true, Bool.and_eq_true, decide_eq_true_eq] at hxo
          omega
        have w2 : binA .lss .no (.pv (.int .i64 x.1)) (.pv (.int .i64 0)) = some (.pv (.bool false)) := by simp [binA, intBin]; omega
        (repeat' first
 | apply X.skipS
 | apply X.blockS
 | (apply X.condQ rfl; (focus (simp only [SB, reduceIte, Nat.reduceEqDiff, f1, f3, f4]; with_reducible rfl)); all_goals (intro hbr; first | exact absurd hbr (by decide) | ((try rw [hbr]); (try simp at hbr))))
 | apply X.stepZ
 | (apply X.stepQ rfl; (focus (simp only [SB, reduceIte, Nat.reduceEqDiff, f1, f3, f4]; with_reducible rfl)); (focus (simp [-getElem?_pos, -binA, w2, w3, x1, hll, hx2]; with_reducible (first | rfl | exact ⟨rfl, rfl⟩))))
 | fail)
        refine X.drawC [73, 74] [h.length] rfl ?_
        (repeat' first
 | (apply XC.calmQ rfl rfl rfl; (focus (simp only [SB, reduceIte, Nat.reduceEqDiff, f1, f3, f4]; with_reducible rfl)); (focus (simp [-getElem?_pos, x1]; done)); (focus (simp [-getElem?_pos, x1]; with_reducible (first | rfl | exact ⟨rfl, rfl⟩))))
 | (apply XC.makeQ rfl rfl rfl rfl; (focus (simp only [SB, reduceIte, Nat.reduceEqDiff, f1, f3, f4]; with_reducible rfl)); (focus rfl); (focus (simp; done)); (focus (first | (simp; done) | (simp; omega))); (focus (simp [-getElem?_pos, x1]; with_reducible (first | rfl | exact ⟨rfl, rfl⟩))); (focus (simp; done)); (focus (simp [-getElem?_pos, x1]; with_reducible rfl)))
 | fail)
        obtain ⟨ty, g1, e1, e2, e3⟩ := P1.buf.append_masked (E := E) (p := limP E) (r := limR E) [(1 : Int)] (by simp) (by simp [encB_len]; omega) rfl
        refine XC.growQ (h1 := g1) (F := FB b1 ++ [h1.length]) (vop := .append false true 1 1 5 (.val b1) (.val (.sln h1.length 0 1 1 false))) rfl rfl rfl (by simp only [SB, reduceIte, Nat.reduceEqDiff, f1, f3, f4]; all_goals (first | with_reducible rfl | (simp; done) | (simp <;> with_reducible rfl))) (by show V.ids b1 ++ [h1.length] = _; rw [P1.buf.ids]) ?_ ?_ ?_ e1 e2 e3 ?_
        · rw [List.all_eq_true]
          intro x hx
          have hlt := P1.lt
          rcases List.mem_append.1 hx with hx | hx
          · have := P1.off x hx
            simpa using this
          · simp only [List.mem_singleton] at hx
            subst hx
            simp
            omega
        · intro x hx
          have hlt := P1.lt
          simp only [List.mem_singleton] at hx
          subst hx
          simp
          omega
        · intro x hx
          rcases List.mem_append.1 hx with hx | hx
          · have := P1.low x hx
            simp
            omega
          · simp only [List.mem_singleton] at hx
            subst hx
            simp
        obtain ⟨c1, c2, _, _, _⟩ := P1.buf.grow [.blk ([(1 : Int)].map fun x => V.pv (.int .u8 x)) none] [(1 : Int)] (by simp) (ty := ty) (n := h1.length + 1) (m := (encB es).length + ([(1 : Int)]).length) rfl rfl rfl
        clear e1 e2 e3
        generalize killB h1 b1 ++ ([Ent.blk ([(1 : Int)].map fun x => V.pv (.int .u8 x)) none] ++ [Ent.blk ((encB es ++ encB [(1 : Int)]).map V.pv) ty]) = H at c1 c2 ⊢
        generalize V.sln (h1.length + 1) 0 ((encB es).length + ([(1 : Int)]).length) 1 false = B at c1 c2 ⊢
        have P2 := P1.step c1 c2
        clear c1 c2 P1
        have l2 := P2.lt
        obtain ⟨t2, x2⟩ := P2.box
        (repeat' first
 | (apply XC.calmQ rfl rfl rfl; (focus (simp only [SB, reduceIte, Nat.reduceEqDiff, f1, f3, f4]; with_reducible rfl)); (focus (simp [-getElem?_pos, x2, hx2]; done)); (focus (simp [-getElem?_pos, x2, hx2]; with_reducible (first | rfl | exact ⟨rfl, rfl⟩))))
 | fail)
        refine XC.callX (P := fun b' h' => Buf h' 5 b' ((encB es ++ encB [(1 : Int)]) ++ encB (putN x.1)) ∧ Fr H B h' b') rfl (by simp only [SB, reduceIte, Nat.reduceEqDiff, f1, f3, f4]; all_goals (first | with_reducible rfl | (simp; done) | (simp <;> with_reducible rfl))) (reach_buf P2.buf (by simp [V.ids])) HH.four.raw HH.four.ext P2.off (by intro x hx; simp at hx; subst hx; exact P2.lt) P2.low (Buf.call_masked P2.buf fun hx hbx => fourr_ok HH x.1 hx _ _ hbx (by simp [encB_len]; omega)) ?_
        rintro b3 h3 ⟨B3, F3⟩
        have P3 := P2.step B3 F3
        have l3 := P3.lt
        obtain ⟨t3, x3⟩ := P3.box
        (repeat' first
 | (apply XC.calmQ rfl rfl rfl; (focus (simp only [SB, reduceIte, Nat.reduceEqDiff, f1, f3, f4]; with_reducible rfl)); (focus (simp [-getElem?_pos, x3, hx2]; done)); (focus (simp [-getElem?_pos, x3, hx2]; with_reducible (first | rfl | exact ⟨rfl, rfl⟩))))
 | fail)
        refine XC.callX (P := fun b' h' => Buf h' 5 b' ((encB es ++ encB [(1 : Int)] ++ encB (putN x.1)) ++ encB (putN x.2)) ∧ Fr h3 b3 h' b') rfl (by simp only [SB, reduceIte, Nat.reduceEqDiff, f1, f3, f4]; all_goals (first | with_reducible rfl | (simp; done) | (simp <;> with_reducible rfl))) (reach_buf P3.buf (by simp [V.ids])) HH.four.raw HH.four.ext P3.off (by intro x hx; simp at hx; subst hx; exact P3.lt) P3.low (Buf.call_masked P3.buf fun hx hbx => fourr_ok HH x.2 hx _ _ hbx (by simp [encB_len, putN]; omega)) ?_
        rintro b4 h4 ⟨B4, F4⟩
        have P4 := P3.step B4 F4
        have hes : encB es ++ encB [(1 : Int)] ++ encB (putN x.1) ++ encB (putN x.2) = encB (es ++ (1 :: (putN x.1 ++ putN x.2))) := by simp [encB]
        rw [hes] at P4
        (repeat' first
 | apply XC.nil
 | (apply XC.calmQ rfl rfl rfl; (focus (simp only [SB, reduceIte, Nat.reduceEqDiff, f1, f3, f4]; with_reducible rfl)); (focus (simp [-getElem?_pos]; done)); (focus (simp [-getElem?_pos]; with_reducible (first | rfl | exact ⟨rfl, rfl⟩))))
 | fail)
        (repeat' first
 | apply X.skipB
 | apply X.skipL
 | apply X.stepZ
 | (apply X.stepQ rfl; (focus (simp only [SB, reduceIte, Nat.reduceEqDiff, f1, f3, f4]; with_reducible rfl)); (focus (simp [-getElem?_pos, -binA, w4]; with_reducible (first | rfl | exact ⟨rfl, rfl⟩))))
 | fail)
        refine ⟨hj1, h4, b4, es ++ (1 :: (putN x.1 ++ putN x.2)), _, ⟨P4, by rw [← hi]; simp, by simp [putN]; omega⟩, ?_, rfl⟩
        simp [f1, hk]
    · have w3 : binA .lss .no (.pv (.int .i64 (k : Int))) (.pv (.int .i64 (N : Int))) = some (.pv (.bool false)) := by simp [binA, intBin]; omega
      rw [List.drop_eq_nil_of_le hj1] at hi
      simp only [List.flatMap_nil, List.append_nil] at hi
      have hle : es.length ≤ 400 := by omega
      (repeat' first
 | (apply X.exitS; first | apply X.here | (refine X.out (by decide) ?_; apply X.here))
 | (apply X.condQ rfl; (focus (simp only [SB, reduceIte, Nat.reduceEqDiff, f1, f3, f4]; with_reducible rfl)); all_goals (intro hbr; first | exact absurd hbr (by decide) | ((try rw [hbr]); (try simp at hbr))))
 | apply X.stepZ
 | (apply X.stepQ rfl; (focus (simp only [SB, reduceIte, Nat.reduceEqDiff, f1, f3, f4]; with_reducible rfl)); (focus (simp [-getElem?_pos, -binA, w3, x1, hll]; with_reducible (first | rfl | exact ⟨rfl, rfl⟩))))
 | fail)
      refine X.drawC [73, 74] [h.length] rfl ?_
      (repeat' first
 | (apply XC.calmQ rfl rfl rfl; (focus (simp only [SB, reduceIte, Nat.reduceEqDiff, f1, f3, f4]; with_reducible rfl)); (focus (simp [-getElem?_pos, x1]; done)); (focus (simp [-getElem?_pos, x1]; with_reducible (first | rfl | exact ⟨rfl, rfl⟩))))
 | fail)
      refine XC.callX (P := fun b' h' => Buf h' 5 b' (encB es ++ encB (valS v)) ∧ Fr h1 b1 h' b') rfl (by simp only [SB, reduceIte, Nat.reduceEqDiff, f1, f3, f4]; all_goals (first | with_reducible rfl | (simp; done) | (simp <;> with_reducible rfl))) (reach_buf P1.buf (by simp [V.ids])) HH.putv.raw HH.putv.ext P1.off (by intro x hx; simp at hx; subst hx; exact P1.lt) P1.low (Buf.call_masked P1.buf fun hx hbx => by have := putvr_ok HH v hf hfm hx _ _ hbx (by simp [encB_len]; omega); rw [eV] at this; exact this) ?_
      rintro b2 h2 ⟨B2, F2⟩
      have P2 := P1.step B2 F2
      have l2 := P2.lt
      obtain ⟨t2, x2⟩ := P2.box
      have hby := bytesr_ok HH.g.o q hq64
      rw [score_eq hq64] at hby
      (repeat' first
 | (apply XC.calmQ rfl rfl rfl; (focus (simp only [SB, reduceIte, Nat.reduceEqDiff, f1, f3, f4]; with_reducible rfl)); (focus (simp [-getElem?_pos, x2, HH.g.o.bytes.raw, hby]; done)); (focus (simp [-getElem?_pos, x2, HH.g.o.bytes.raw, hby]; with_reducible (first | rfl | exact ⟨rfl, rfl⟩))))
 | (apply XC.callP rfl; (focus (simp only [SB, reduceIte, Nat.reduceEqDiff, f1, f3, f4]; simp; with_reducible rfl)); (focus (simp; with_reducible rfl)); (focus (simp [-getElem?_pos, x2, HH.g.o.bytes.raw, hby]; done)); (focus (simp [-getElem?_pos, x2, HH.g.o.bytes.raw, hby]; with_reducible rfl)))
 | fail)
      obtain ⟨ty, g1, e1, e2, e3⟩ := P2.buf.append_pure (E := E) (p := limP E) (r := limR E) (scoreB q) (by simp [scoreB]) (by simp [encB_len, scoreB]; omega) rfl
      refine XC.growQ (h1 := g1) (F := FB b2) (vop := .append false true 1 1 5 (.val b2) (.val (.pv (.sl (encB (scoreB q)))))) rfl rfl rfl (by simp only [SB, reduceIte, Nat.reduceEqDiff, f1, f3, f4]; all_goals (first | with_reducible rfl | (simp; done) | (simp <;> with_reducible rfl))) (by show V.ids b2 ++ [] = _; rw [P2.buf.ids, List.append_nil]) ?_ (by intro x hx; simp at hx; subst hx; exact P2.lt) P2.low e1 e2 e3 ?_
      · rw [List.all_eq_true]
        intro x hx
        have := P2.off x hx
        simpa using this
      obtain ⟨c1, c2, _, _, _⟩ := P2.buf.grow [] (scoreB q) (by simp [scoreB]) (ty := ty) (n := h2.length) (m := (encB es ++ encB (valS v)).length + (scoreB q).length) rfl rfl rfl
      have P3 := P2.step c1 c2
      have hes : encB es ++ encB (valS v) ++ encB (scoreB q) = encB (hd ++ r.flatMap spanB ++ valS v ++ scoreB q) := by rw [← hi]; simp [encB]
      (repeat' first
 | apply XC.nil
 | (apply XC.calmQ rfl rfl rfl; (focus (simp only [SB, reduceIte, Nat.reduceEqDiff, f1, f3, f4]; with_reducible rfl)); (focus (simp [-getElem?_pos]; done)); (focus (simp [-getElem?_pos]; with_reducible (first | rfl | exact ⟨rfl, rfl⟩))))
 | fail)
      (repeat' first
 | apply X.retS
 | fail)
      all_goals refine FinE.retQ (us := [.sln h2.length 0 ((encB es ++ encB (valS v)).length + (scoreB q).length) 1 false]) rfl (by simp [resS]) ⟨?_, P3.old⟩
      all_goals (rw [← hes]; exact P3.buf)
theorem putr_ok (HH : HasPr E) (x : Re) (hl : x.sp.length ≤ 9223372036854775807) (hf : FineV x.v) (hq : x.q < 2 ^ 64) :
    limP E 37 [encX x] = some [.sl (encB (putX x))] := by
  refine HH.put.limQ (Nat.le_of_ble_eq_true rfl) ((putr_body HH.w x.e x.a x.b x.sp x.v x.q hl hf hq []).mono fun ex st hq => Fin.ofE hq fun r h' hr => ?_)
  obtain ⟨h2, h3⟩ := hr.1.snap (n := 998)
  rcases hr.1 with ⟨_, rfl⟩ | ⟨_, id, rfl, _⟩ <;> simp only [pureRes, snapFuel, h3] <;> rfl
end Rp
