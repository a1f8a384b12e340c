/- SyD: steps, walks, laws: see the remarks within. -/
import Derived.Test.YtdacifedlemlmaaSyC
set_option linter.unusedSimpArgs false
set_option linter.unusedVariables false
-- report's reader: take: walked.
namespace Rp
open Go Ab Go.Proofs.Ytdacifedlemlmaa.Mach
variable {E : Env}

def or8 (n x : Int) : Int := IntKind.i64.wrap (BitVec.ofInt 64 (IntKind.i64.wrap (n * 256)) ||| BitVec.ofInt 64 x).toNat
def numI (l : List Int) : Int := l.foldl or8 0
def takeS (k : Nat) (bs : List Int) (bad : Bool) : Int × List Int × Bool :=
  if bad = true ∨ bs.length < k then (0, bs, true) else (numI (bs.take k), bs.drop k, false)

def Rd (h : Heap) (ri : Nat) (bs : List Int) (bad : Bool) : Prop := ∃ t, ent h ri = .blk [.pv (.sl (encB bs)), .pv (.bool bad)] t
structure But (h : Heap) (S : List Nat) (h' : Heap) : Prop where
  len : h.length ≤ h'.length
  old : ∀ i, i < h.length → i ∉ S → ent h' i = ent h i
theorem But.refl {h : Heap} {S : List Nat} : But h S h := ⟨Nat.le_refl _, fun _ _ _ => rfl⟩
theorem But.trans {h h1 h2 : Heap} {S : List Nat} (a : But h S h1) (b : But h1 S h2) : But h S h2 :=
  ⟨Nat.le_trans a.len b.len, fun i hi hn => (b.old i (Nat.lt_of_lt_of_le hi a.len) hn).trans (a.old i hi hn)⟩
theorem But.more {h h1 l : Heap} {S : List Nat} (a : But h S h1) : But h S (h1 ++ l) :=
  ⟨by have := a.len; simp; omega, fun i hi hn => by
    rw [← a.old i hi hn]
    have : i < h1.length := Nat.lt_of_lt_of_le hi a.len
    simp only [ent, List.getElem?_append_left this]⟩
theorem But.less {h h1 l : Heap} {S : List Nat} (a : But (h ++ l) S h1) : But h S h1 :=
  ⟨by have := a.len; simp at this; omega, fun i hi hn => by rw [a.old i (by simp; omega) hn]; simp only [ent, List.getElem?_append_left hi]⟩
theorem But.set {h : Heap} {i : Nat} {e : Ent} {S : List Nat} (hi : i ∈ S) : But h S (h.set i e) :=
  ⟨by simp, fun j hj hn => by
    simp only [ent]
    rw [List.getElem?_set_ne]
    rintro rfl
    exact hn hi⟩
theorem But.wide {h h1 : Heap} {S S' : List Nat} (a : But h S h1) (hs : ∀ x ∈ S, x ∈ S') : But h S' h1 := ⟨a.len, fun i hi hn => a.old i hi fun h => hn (hs i h)⟩
theorem rd_lt {h : Heap} {ri : Nat} {bs : List Int} {bad : Bool} (r : Rd h ri bs bad) : ri < h.length := by
  obtain ⟨t, r⟩ := r
  exact ent_lt r

theorem strideB (s : List Int) : strideOk 1 (encB s) = true := strideOk_of fun e he => by
  simp [encB] at he
  obtain ⟨x, _, rfl⟩ := he
  rfl
theorem sliceB_lo {s : List Int} {j : Nat} (h : j ≤ s.length) : sliceSlA 1 (.pv (.sl (encB s))) none (some (.pv (.int .i64 (j : Int)))) = some (.pv (.sl (encB (s.take j)))) := by
  have hl := encB_len s
  have e : (encB s).take j = encB (s.take j) := by simp [encB]
  simp [sliceSlA, bounds, natOf?, hl, h, -strideOk, strideB, ← e]
theorem sliceB_hi {s : List Int} {j : Nat} (h : j ≤ s.length) : sliceSlA 1 (.pv (.sl (encB s))) (some (.pv (.int .i64 (j : Int)))) none = some (.pv (.sl (encB (s.drop j)))) := by
  have hl := encB_len s
  have h2 : ((encB s).drop j).take (s.length - j) = encB (s.drop j) := by
    have e : (encB s).drop j = encB (s.drop j) := by simp [encB]
    rw [e, List.take_of_length_le]
    rw [encB_len]; simp
  simp [sliceSlA, bounds, natOf?, hl, h, -strideOk, strideB, h2]

structure HasT (E : Env) : Prop where
  take : HasR E 55 c55

theorem shlI (n : Int) : binA .shl .no (.pv (.int .i64 n)) (.pv (.int .u64 8)) = some (.pv (.int .i64 (IntKind.i64.wrap (n * 256)))) := by
  have : min ((8 : Int).toNat) (IntKind.i64.bits) = 8 := by simp [IntKind.bits]
  simp only [binA, intBin]
  rw [if_neg (by omega), this]
  rfl
theorem orI8 (m x : Int) : binA .or .no (.pv (.int .i64 m)) (.pv (.int .i64 x)) = some (.pv (.int .i64 (IntKind.i64.wrap (BitVec.ofInt 64 m ||| BitVec.ofInt 64 x).toNat))) := rfl

set_option maxHeartbeats 8000000 in
theorem take_ok (HH : HasT E) (h : Heap) (ri k : Nat) (bs : List Int) (bad : Bool) (hr : Rd h ri bs bad) (hb : Byt bs) (hk : k ≤ 8) :
    ∃ r h', limR E 55 [.ptr ri 0, .pv (.int .i64 (k : Int))] h = some (r, h') ∧ (r = .pv (.int .i64 (takeS k bs bad).1) ∧ Rd h' ri (takeS k bs bad).2.1 (takeS k bs bad).2.2 ∧ But h [ri] h') := by
  obtain ⟨t, x1⟩ := hr
  have hlt := ent_lt x1
  have hll := encB_len bs
  refine HH.take.limQE (Nat.le_of_ble_eq_true rfl) ?_; unfold c55
  unfold takeS
  cases bad with
  | true =>
    rw [if_pos (.inl rfl)]
    (repeat' first
 | apply X.retS
 | (apply X.condQ rfl; (focus (simp only [SB, reduceIte, Nat.reduceEqDiff]; with_reducible rfl)); all_goals (intro hbr; first | exact absurd hbr (by decide) | ((try rw [hbr]); (try simp at hbr))))
 | apply X.stepZ
 | (apply X.stepQ rfl; (focus (simp only [SB, reduceIte, Nat.reduceEqDiff]; with_reducible rfl)); (focus (simp [-getElem?_pos, x1]; with_reducible (first | rfl | exact ⟨rfl, rfl⟩))))
 | ((first | apply X.stepGtQ rfl | apply X.stepGfQ rfl); (focus (simp only [SB, reduceIte, Nat.reduceEqDiff]; with_reducible rfl)); all_goals (intro hbr; first | exact absurd hbr (by decide) | ((try rw [hbr]); (try simp at hbr))))
 | fail)
    all_goals exact FinE.retQ (us := [.pv (.int .i64 0)]) rfl (by simp [resS]) ⟨rfl, ⟨t, by simp [ent, hlt]⟩, But.set (by simp)⟩
  | false =>
  by_cases hlk : bs.length < k
  · have w1 : binA .lss .no (.pv (.int .i64 (bs.length : Int))) (.pv (.int .i64 (k : Int))) = some (.pv (.bool true)) := by simp [binA, intBin]; omega
    rw [if_pos (.inr hlk)]
    (repeat' first
 | apply X.retS
 | (apply X.condQ rfl; (focus (simp only [SB, reduceIte, Nat.reduceEqDiff]; with_reducible rfl)); all_goals (intro hbr; first | exact absurd hbr (by decide) | ((try rw [hbr]); (try simp at hbr))))
 | apply X.stepZ
 | (apply X.stepQ rfl; (focus (simp only [SB, reduceIte, Nat.reduceEqDiff]; with_reducible rfl)); (focus (simp [-getElem?_pos, -binA, x1, hll, w1]; with_reducible (first | rfl | exact ⟨rfl, rfl⟩))))
 | ((first | apply X.stepGtQ rfl | apply X.stepGfQ rfl); (focus (simp only [SB, reduceIte, Nat.reduceEqDiff]; with_reducible rfl)); all_goals (intro hbr; first | exact absurd hbr (by decide) | ((try rw [hbr]); (try simp at hbr))))
 | fail)
    all_goals exact FinE.retQ (us := [.pv (.int .i64 0)]) rfl (by simp [resS]) ⟨rfl, ⟨t, by simp [ent, hlt]⟩, But.set (by simp)⟩
  · have w1 : binA .lss .no (.pv (.int .i64 (bs.length : Int))) (.pv (.int .i64 (k : Int))) = some (.pv (.bool false)) := by simp [binA, intBin]; omega
    rw [if_neg (by simp [hlk])]
    have s1 := sliceB_lo (s := bs) (j := k) (by omega)
    have s2 := sliceB_hi (s := bs) (j := k) (by omega)
    have hll2 : (encB (bs.take k)).length = k := by rw [encB_len, List.length_take]; omega
    (repeat' first
 | apply X.skipS
 | apply X.blockS
 | (apply X.condQ rfl; (focus (simp only [SB, reduceIte, Nat.reduceEqDiff]; with_reducible rfl)); all_goals (intro hbr; first | exact absurd hbr (by decide) | ((try rw [hbr]); (try simp at hbr))))
 | apply X.stepZ
 | (apply X.stepQ rfl; (focus (simp only [SB, reduceIte, Nat.reduceEqDiff]; with_reducible rfl)); (focus (simp [-getElem?_pos, -binA, x1, hll, w1, -sliceSlA, s1, hll2]; with_reducible (first | rfl | exact ⟨rfl, rfl⟩))))
 | ((first | apply X.stepGtQ rfl | apply X.stepGfQ rfl); (focus (simp only [SB, reduceIte, Nat.reduceEqDiff]; with_reducible rfl)); all_goals (intro hbr; first | exact absurd hbr (by decide) | ((try rw [hbr]); (try simp at hbr))))
 | fail)
    refine X.forS k (fun j st => ∃ (f : Nat → V), (fk (Fk.mk (f := f)) 0 = .ptr ri 0 ∧ fk (Fk.mk (f := f)) 1 = .pv (.int .i64 (k : Int)) ∧ fk (Fk.mk (f := f)) 5 = .pv (.int .i64 (numI ((bs.take k).take j))) ∧ fk (Fk.mk (f := f)) 29 = .pv (.sl (encB (bs.take k))) ∧ fk (Fk.mk (f := f)) 30 = .pv (.int .i64 (k : Int)) ∧ fk (Fk.mk (f := f)) 31 = .pv (.int .i64 (j : Int))) ∧ st = ⟨TL 51 f, h⟩) ?_ ?_
    · exact ⟨_, by simp [numI], rfl⟩
    rintro j st hj ⟨f, ⟨f0, f1, f5, f29, f30, f31⟩, rfl⟩
    rcases Nat.lt_or_ge j k with hj1 | hj1
    · have w2 : binA .lss .no (.pv (.int .i64 (j : Int))) (.pv (.int .i64 (k : Int))) = some (.pv (.bool true)) := by simp [binA, intBin]; omega
      have hww : IntKind.i64.wrap ((j : Int) + 1) = (j : Int) + 1 := wrap_i64 (by omega)
      have w3 : binA .add .no (.pv (.int .i64 (j : Int))) (.pv (.int .i64 1)) = some (.pv (.int .i64 ((j : Int) + 1))) := by simp [binA, intBin, hww]
      obtain ⟨x, hx⟩ := at_of_lt (l := bs.take k) (j := j) (by rw [List.length_take]; omega)
      have hxb := hb x (List.mem_of_mem_take (List.mem_of_getElem? hx))
      have hx2 : (encB (bs.take k))[j]? = some (.int .u8 x) := by simp only [encB, List.getElem?_map, hx]; rfl
      have hwx : IntKind.i64.wrap x = x := wrap_i64 (by omega)
      have htk : numI ((bs.take k).take (j + 1)) = or8 (numI ((bs.take k).take j)) x := by
        rw [List.take_add_one, hx]
        simp [numI]
      have w4 := shlI (numI ((bs.take k).take j))
      have w5 := orI8 (IntKind.i64.wrap (numI ((bs.take k).take j) * 256)) x
      have e8 : or8 (numI ((bs.take k).take j)) x = IntKind.i64.wrap (BitVec.ofInt 64 (IntKind.i64.wrap (numI ((bs.take k).take j) * 256)) ||| BitVec.ofInt 64 x).toNat := rfl
      rw [← e8, ← htk] at w5
      clear e8 htk
      generalize numI ((bs.take k).take (j + 1)) = n2 at w5 ⊢
      generalize numI ((bs.take k).take j) = n1 at w4 w5 f5
      generalize IntKind.i64.wrap (n1 * 256) = n3 at w4 w5
      generalize encB (bs.take k) = L at hx2 f29 ⊢
      (repeat' first
 | apply X.skipS
 | apply X.skipB
 | apply X.skipL
 | apply X.blockS
 | (apply X.condQ rfl; (focus (simp only [SB, reduceIte, Nat.reduceEqDiff, f0, f1, f5, f29, f30, f31]; with_reducible rfl)); all_goals (intro hbr; first | exact absurd hbr (by decide) | ((try rw [hbr]); (try simp at hbr))))
 | apply X.stepZ
 | (apply X.stepQ rfl; (focus (simp only [SB, reduceIte, Nat.reduceEqDiff, f0, f1, f5, f29, f30, f31]; with_reducible rfl)); (focus (simp [-getElem?_pos, -binA, w2, w3, w4, w5, hx2, hwx]; with_reducible (first | rfl | exact ⟨rfl, rfl⟩))))
 | fail)
      all_goals exact ⟨hj1, _, by simp [f0, f1, f29, f30], rfl⟩
    · have hjk : j = k := by omega
      subst hjk
      have w2 : binA .lss .no (.pv (.int .i64 (j : Int))) (.pv (.int .i64 (j : Int))) = some (.pv (.bool false)) := by simp [binA, intBin]
      have htk : (bs.take j).take j = bs.take j := List.take_of_length_le (by simp; omega)
      rw [htk] at f5
      generalize numI (bs.take j) = n1 at f5 ⊢
      (repeat' first
 | apply X.retS
 | (apply X.exitS; first | apply X.here | (refine X.out (by decide) ?_; apply X.here))
 | (apply X.condQ rfl; (focus (simp only [SB, reduceIte, Nat.reduceEqDiff, f0, f1, f5, f29, f30, f31]; with_reducible rfl)); all_goals (intro hbr; first | exact absurd hbr (by decide) | ((try rw [hbr]); (try simp at hbr))))
 | apply X.stepZ
 | (apply X.stepQ rfl; (focus (simp only [SB, reduceIte, Nat.reduceEqDiff, f0, f1, f5, f29, f30, f31]; with_reducible rfl)); (focus (simp [-getElem?_pos, -binA, w2, x1, -sliceSlA, s2]; with_reducible (first | rfl | exact ⟨rfl, rfl⟩))))
 | fail)
      all_goals refine FinE.retQ (us := [.pv (.int .i64 n1)]) rfl (by simp [resS, f5]) ⟨rfl, ⟨t, ?_⟩, But.set (by simp)⟩
      all_goals simp [ent, hlt]
end Rp

-- report's reader: spans: walked.
namespace Rp
open Go Ab Go.Proofs.Ytdacifedlemlmaa.Mach
variable {E : Env}

def Rw (b : Nat) (h : Heap) (v : V) (es : List PV) : Prop := (es = [] ∧ v = .nils) ∨ v = .slx es ∨ (es ≠ [] ∧ ∃ tok, v = .slt es tok ∧ ent h tok = .tok ∧ b ≤ tok)
section
variable {b : Nat} {h h' l : Heap} {v : V} {es : List PV}
theorem Rw.mono (r : Rw b h v es) : Rw b (h ++ l) v es := by
  rcases r with r | r | ⟨h1, tok, h2, h3, h4⟩
  · exact .inl r
  · exact .inr (.inl r)
  · exact .inr (.inr ⟨h1, tok, h2, ent_tok h3, h4⟩)
theorem Rw.but {S : List Nat} (r : Rw b h v es) (o : But h S h') (hs : ∀ i ∈ S, ent h i ≠ .tok) : Rw b h' v es := by
  rcases r with r | r | ⟨h1, tok, h2, h3, h4⟩
  · exact .inl r
  · exact .inr (.inl r)
  · refine .inr (.inr ⟨h1, tok, h2, ?_, h4⟩)
    rw [o.old tok (Ab.ent_lt (by rw [h3]; simp)) fun hm => hs tok hm h3]; exact h3
theorem Rw.lenA (r : Rw b h v es) : lenA v = some es.length := by
  rcases r with ⟨rfl, rfl⟩ | rfl | ⟨_, tok, rfl, _⟩ <;> simp [Ab.lenA]
theorem Rw.isSl (r : Rw b h v es) : isSlV v = true := by
  rcases r with ⟨rfl, rfl⟩ | rfl | ⟨_, tok, rfl, _⟩ <;> simp [isSlV]
theorem Rw.weak (r : Rw b h v es) : weak v = some (.sl es) := by
  rcases r with ⟨rfl, rfl⟩ | rfl | ⟨_, tok, rfl, _⟩ <;> rfl
theorem Rw.snap (r : Rw b h v es) (n : Nat) (h2 : Heap) : snap (n + 1) v h2 = some (.sl es, h2) := by
  rcases r with ⟨rfl, rfl⟩ | rfl | ⟨_, tok, rfl, _⟩ <;> simp [Ab.snap]
theorem Rw.app (r : Rw b h v es) {ag : Bool} {sz bytes : Nat} {te : TypeId} {n : Nat} {new : List V} {ps : List PV} (hn : n ≠ 0) (hs : strideOk sz es = true) (ha : (ag || sz == 1) = true)
    (hb : (es.length + n) * bytes ≤ 35184372088832) (hl : new.length = n * sz) (hw : weak.weakL new = some ps) :
    appendA h ag false sz bytes te v n new = some (.slt (es ++ (chunks sz n ps).map (mkPV ag)) h.length, kill h v ++ [.tok]) := by
  rcases r with ⟨rfl, rfl⟩ | rfl | ⟨h1, tok, rfl, h3, _⟩
  · simp only [appendA, if_neg hn, Bool.false_eq_true, if_false, hs, ha, Bool.and_self, hl, growMax, hb, decide_true, if_true, hw, kill]
  · simp only [appendA, if_neg hn, Bool.false_eq_true, if_false, hs, ha, Bool.and_self, hl, growMax, hb, decide_true, if_true, hw, kill]
  · have : es.isEmpty = false := by cases es with
      | nil => exact absurd rfl h1
      | cons => rfl
    simp only [appendA, if_neg hn, h3, this, Bool.false_eq_true, if_false, hs, ha, Bool.and_self, hl, growMax, hb, decide_true, if_true, hw, kill, List.length_set]
theorem Rw.done {n : Nat} (he : es ≠ []) (hn : n = h.length) (hb : b ≤ h.length) : Rw b (kill h v ++ .tok :: l) (.slt es n) es := by
  subst hn
  refine .inr (.inr ⟨he, h.length, rfl, ?_, hb⟩)
  have e : h.length = (kill h v).length := length_kill.symm
  rw [e]
  exact ent_at0
theorem Rw.keep (r : Rw b h v es) {n : Nat} (he : ent h n ≠ .tok) (hn : n < h.length) : ent (kill h v ++ l) n = ent h n := by
  simp only [ent, List.getElem?_append_left (by rw [length_kill]; exact hn : n < (kill h v).length)]
  rcases r with ⟨_, rfl⟩ | rfl | ⟨_, tok, rfl, h3, _⟩
  · rfl
  · rfl
  · simp only [kill]
    rw [List.getElem?_set_ne]
    rintro rfl
    exact he h3
theorem Rw.butK {h0 : Heap} {S : List Nat} (r : Rw b h v es) (o : But h0 S h) (hb : h0.length ≤ b) : But h0 S (kill h v ++ l) := by
  refine ⟨by have := o.len; simp [length_kill]; omega, fun i hi hn => ?_⟩
  have hlt : i < h.length := Nat.lt_of_lt_of_le hi o.len
  rw [← o.old i hi hn]
  simp only [ent, List.getElem?_append_left (by rw [length_kill]; exact hlt : i < (kill h v).length)]
  rcases r with ⟨_, rfl⟩ | rfl | ⟨_, tok, rfl, h3, h4⟩
  · rfl
  · rfl
  · simp only [kill]
    rw [List.getElem?_set_ne]
    omega
theorem Rd.but {ri : Nat} {bs : List Int} {bad : Bool} {S : List Nat} (r : Rd h ri bs bad) (o : But h S h') (hs : ri ∉ S) : Rd h' ri bs bad := by
  obtain ⟨t, r⟩ := r
  exact ⟨t, by rw [o.old ri (Rp.ent_lt r) hs]; exact r⟩
theorem Rd.more {ri : Nat} {bs : List Int} {bad : Bool} (r : Rd h ri bs bad) : Rd (h ++ l) ri bs bad := by
  obtain ⟨t, r⟩ := r
  exact ⟨t, ent_app r (by simp)⟩
theorem Rd.ntok {ri : Nat} {bs : List Int} {bad : Bool} (r : Rd h ri bs bad) : ∀ i ∈ [ri], ent h i ≠ .tok := by
  obtain ⟨t, r⟩ := r
  intro i hi
  simp only [List.mem_singleton] at hi
  subst hi
  rw [r]; simp
theorem Rd.killed {ri : Nat} {bs : List Int} {bad : Bool} (r : Rd h ri bs bad) (w : Rw b h v es) : Rd (kill h v ++ l) ri bs bad := by
  obtain ⟨t, r⟩ := r
  exact ⟨t, by rw [w.keep (by rw [r]; simp) (Rp.ent_lt r)]; exact r⟩
end

theorem take1 (HH : HasT E) (h : Heap) (ri : Nat) (bs : List Int) (bad : Bool) (hb : Byt bs) (hr : Rd h ri bs bad) :
    ∃ r h', limR E 55 [.ptr ri 0, .pv (.int .i64 1)] h = some (r, h') ∧ (r = .pv (.int .i64 (takeS 1 bs bad).1) ∧ Rd h' ri (takeS 1 bs bad).2.1 (takeS 1 bs bad).2.2 ∧ But h [ri] h') := take_ok HH h ri 1 bs bad hr hb (by omega)
theorem take2 (HH : HasT E) (h : Heap) (ri : Nat) (bs : List Int) (bad : Bool) (hb : Byt bs) (hr : Rd h ri bs bad) :
    ∃ r h', limR E 55 [.ptr ri 0, .pv (.int .i64 2)] h = some (r, h') ∧ (r = .pv (.int .i64 (takeS 2 bs bad).1) ∧ Rd h' ri (takeS 2 bs bad).2.1 (takeS 2 bs bad).2.2 ∧ But h [ri] h') := take_ok HH h ri 2 bs bad hr hb (by omega)
theorem take4 (HH : HasT E) (h : Heap) (ri : Nat) (bs : List Int) (bad : Bool) (hb : Byt bs) (hr : Rd h ri bs bad) :
    ∃ r h', limR E 55 [.ptr ri 0, .pv (.int .i64 4)] h = some (r, h') ∧ (r = .pv (.int .i64 (takeS 4 bs bad).1) ∧ Rd h' ri (takeS 4 bs bad).2.1 (takeS 4 bs bad).2.2 ∧ But h [ri] h') := take_ok HH h ri 4 bs bad hr hb (by omega)
theorem byt_drop {l : List Int} (h : Byt l) (k : Nat) : Byt (l.drop k) := fun x hx => h x (List.mem_of_mem_drop hx)
theorem take_byt {k : Nat} {bs : List Int} {bad : Bool} (h : Byt bs) : Byt (takeS k bs bad).2.1 := by
  unfold takeS
  split
  · exact h
  · exact byt_drop h k
theorem or8_zero {x : Int} (h : 0 ≤ x ∧ x < 256) : or8 0 x = x := by
  have e : IntKind.i64.wrap (0 * 256) = 0 := rfl
  unfold or8
  rw [e]
  have e2 : BitVec.ofInt 64 0 ||| BitVec.ofInt 64 x = BitVec.ofInt 64 x := by simp
  rw [e2, BitVec.toNat_ofInt]
  rw [wrap_i64] <;> omega
theorem take1_rng {bs : List Int} {bad : Bool} (h : Byt bs) : 0 ≤ (takeS 1 bs bad).1 ∧ (takeS 1 bs bad).1 < 256 := by
  unfold takeS
  split
  · simp
  · cases bs with
 | nil => simp_all
 | cons x l =>
      have hx := h x (by simp)
      have : numI ([x]) = x := by simp [numI, or8_zero hx]
      simp [this]
      omega

def spanS (bs : List Int) (bad : Bool) : Sp × List Int × Bool :=
  let r := takeS 1 bs bad
  if r.1 = 0 then ((-1, -1), r.2.1, r.2.2) else
  if r.1 = 1 then
    let a := takeS 4 r.2.1 r.2.2
    let c := takeS 4 a.2.1 a.2.2
    ((a.1, c.1), c.2.1, c.2.2)
  else ((-1, -1), r.2.1, true)
theorem span_byt {bs : List Int} {bad : Bool} (h : Byt bs) : Byt (spanS bs bad).2.1 := by
  unfold spanS
  dsimp only
  split
  · exact take_byt h
  · split
    · exact take_byt (take_byt (take_byt h))
    · exact take_byt h
def runSp : Nat → List Sp → List Int → Bool → List Sp × List Int × Bool
  | 0, acc, bs, bad => (acc, bs, bad)
  | m + 1, acc, bs, bad => if bad = true then (acc, bs, bad) else runSp m (acc ++ [(spanS bs bad).1]) (spanS bs bad).2.1 (spanS bs bad).2.2
def readSp (s0 : Sp) (bs : List Int) (bad : Bool) : List Sp × List Int × Bool :=
  let r := takeS 1 bs bad
  runSp (r.1.toNat - 1) [s0] r.2.1 r.2.2
theorem run_byt : ∀ (m : Nat) (acc : List Sp) (bs : List Int) (bad : Bool), Byt bs → Byt (runSp m acc bs bad).2.1
  | 0, _, _, _, h => h
  | m + 1, acc, bs, bad, h => by
    unfold runSp
    split
    · exact h
    · exact run_byt m _ _ _ (span_byt h)
theorem readSp_byt {s0 : Sp} {bs : List Int} {bad : Bool} (h : Byt bs) : Byt (readSp s0 bs bad).2.1 := run_byt _ _ _ _ (take_byt h)

structure HasU (E : Env) : Prop where
  t : HasT E
  spans : HasR E 56 c56

set_option maxHeartbeats 16000000 in
theorem spansR_ok (HH : HasU E) (h : Heap) (ri : Nat) (s0 : Sp) (bs : List Int) (bad : Bool) (hr : Rd h ri bs bad) (hb : Byt bs) :
    ∃ r h', limR E 56 [.ptr ri 0, .pv (encS s0)] h = some (r, h') ∧ (Rw h.length h' r ((readSp s0 bs bad).1.map encS) ∧ Rd h' ri (readSp s0 bs bad).2.1 (readSp s0 bs bad).2.2 ∧ But h [ri] h') := by
  have hlt := rd_lt hr
  unfold encS readSp
  refine HH.spans.limQE (Nat.le_of_ble_eq_true rfl) ?_; unfold c56
  have hrg := take1_rng (bad := bad) hb
  have hby := take_byt (k := 1) (bad := bad) hb
  have htk := take1 HH.t (h ++ [.blk [.pv (.int .i64 s0.1), .pv (.int .i64 s0.2)] none]) ri bs bad hb hr.more
  generalize takeS 1 bs bad = T at hrg hby htk ⊢
  obtain ⟨n, bs1, bad1⟩ := T
  dsimp only at hrg hby htk ⊢
  (repeat' first
 | apply X.stepZ
 | (apply X.stepQ rfl; (focus (simp only [SB, reduceIte, Nat.reduceEqDiff]; with_reducible rfl)); (focus (simp [-getElem?_pos]; with_reducible (first | rfl | exact ⟨rfl, rfl⟩))))
 | fail)
  refine X.callRQ (P := _) rfl (by simp only [SB, reduceIte, Nat.reduceEqDiff]; all_goals (first | with_reducible rfl | (simp <;> with_reducible rfl))) HH.t.take.raw (by simp [pures]) (htk) ?_
  rintro _ h1 ⟨rfl, R1, B1⟩
  have B1' := B1.less
  clear htk hr hb B1
  (repeat' first
 | apply X.blockS
 | apply X.stepZ
 | (apply X.stepQ rfl; (focus (simp only [SB, reduceIte, Nat.reduceEqDiff]; with_reducible rfl)); (focus (simp [-getElem?_pos]; with_reducible (first | rfl | exact ⟨rfl, rfl⟩))))
 | fail)
  refine X.forS 256 (fun j st => ∃ (hh : Heap) (S : V) (acc : List Sp) (bs2 : List Int) (bad2 : Bool) (f : Nat → V), (Rw h.length hh S (acc.map encS) ∧ Rd hh ri bs2 bad2 ∧ But h [ri] hh ∧ Byt bs2 ∧ runSp (n.toNat - acc.length) acc bs2 bad2 = runSp (n.toNat - 1) [s0] bs1 bad1 ∧ acc.length = j + 1) ∧
    (fk (Fk.mk (f := f)) 0 = .ptr ri 0 ∧ fk (Fk.mk (f := f)) 5 = S ∧ fk (Fk.mk (f := f)) 6 = .pv (.int .i64 n)) ∧ st = ⟨TL 43 f, hh⟩) ?_ ?_
  · exact ⟨h1, .slx [encS s0], [s0], bs1, bad1, _, ⟨.inr (.inl rfl), R1, B1', hby, rfl, rfl⟩, by simp [encS], rfl⟩
  clear R1 B1' h1 hby
  rintro j st hj ⟨hh, S, acc, bs2, bad2, f, ⟨W1, R1, B1, hb2, hru, hal⟩, ⟨f0, f5, f6⟩, rfl⟩
  have e1 := W1.lenA
  have e2 := W1.isSl
  rw [List.length_map] at e1
  obtain ⟨ty, x1⟩ := R1
  have R1 : Rd hh ri bs2 bad2 := ⟨ty, x1⟩
  by_cases hc : (acc.length : Int) < n ∧ bad2 = false
  · obtain ⟨hc1, rfl⟩ := hc
    have w1 : binA .lss .no (.pv (.int .i64 (acc.length : Int))) (.pv (.int .i64 n)) = some (.pv (.bool true)) := by simp [binA, intBin, hc1]
    obtain ⟨m, hm⟩ : ∃ m, n.toNat - acc.length = m + 1 := ⟨n.toNat - acc.length - 1, by omega⟩
    rw [hm] at hru
    simp only [runSp, Bool.false_eq_true, if_false] at hru
    have hsb := span_byt (bad := false) hb2
    have hrg2 := take1_rng (bad := false) hb2
    have hby2 := take_byt (k := 1) (bad := false) hb2
    have htk := take1 HH.t (hh ++ [.blk [.pv (.int .i64 (-1)), .pv (.int .i64 (-1))] (some 62)]) ri bs2 false hb2 R1.more
    have hri := rd_lt R1
    (repeat' first
 | apply X.skipS
 | apply X.blockS
 | (apply X.condQ rfl; (focus (simp only [SB, reduceIte, Nat.reduceEqDiff, f0, f5, f6]; with_reducible rfl)); all_goals (intro hbr; first | exact absurd hbr (by decide) | ((try rw [hbr]); (try simp at hbr))))
 | apply X.stepZ
 | (apply X.stepQ rfl; (focus (simp only [SB, reduceIte, Nat.reduceEqDiff, f0, f5, f6]; with_reducible rfl)); (focus (simp [-getElem?_pos, -binA, -lenA, -isSlV, e1, e2, w1, x1]; with_reducible (first | rfl | exact ⟨rfl, rfl⟩))))
 | ((first | apply X.stepGtQ rfl | apply X.stepGfQ rfl); (focus (simp only [SB, reduceIte, Nat.reduceEqDiff, f0, f5, f6]; with_reducible rfl)); all_goals (intro hbr; first | exact absurd hbr (by decide) | ((try rw [hbr]); (try simp at hbr))))
 | fail)
    refine X.callRQ (P := _) rfl (by simp only [SB, reduceIte, Nat.reduceEqDiff, f0, f5, f6]; all_goals (first | with_reducible rfl | (simp <;> with_reducible rfl))) HH.t.take.raw (by simp [pures]) (htk) ?_
    rintro _ h3 ⟨rfl, R3, B3⟩
    have x3 : ent h3 hh.length = .blk [.pv (.int .i64 (-1)), .pv (.int .i64 (-1))] (some 62) := (B3.old _ (by simp) (by simp; omega)).trans ent_at0
    have W3 := (W1.mono (l := [.blk [.pv (.int .i64 (-1)), .pv (.int .i64 (-1))] (some 62)])).but B3 (R1.more.ntok)
    have B4 := B1.trans B3.less
    have hl3 : hh.length < h3.length := by have := B3.len; simp at this; omega
    have hkn : h.length ≤ hh.length := B1.len
    clear htk x1 R1 B3 B1 W1
    iterate 1 (first
 | apply X.retS
 | apply X.skipS
 | apply X.skipB
 | apply X.skipL
 | (apply X.exitS; first | apply X.here | (refine X.out (by decide) ?_; apply X.here))
 | apply X.blockS
 | (apply X.condQ rfl; (focus (simp only [SB, reduceIte, Nat.reduceEqDiff, f0, f5, f6]; with_reducible rfl)); all_goals (intro hbr; first | exact absurd hbr (by decide) | ((try rw [hbr]); (try simp at hbr))))
 | apply X.stepZ
 | (apply X.stepQ rfl; (focus (simp only [SB, reduceIte, Nat.reduceEqDiff, f0, f5, f6]; with_reducible rfl)); (focus (simp [-getElem?_pos]; with_reducible (first | rfl | exact ⟨rfl, rfl⟩))))
 | (apply X.stepNQ rfl; (focus (simp only [SB, reduceIte, Nat.reduceEqDiff, f0, f5, f6]; with_reducible rfl)))
 | ((first | apply X.stepGtQ rfl | apply X.stepGfQ rfl); (focus (simp only [SB, reduceIte, Nat.reduceEqDiff, f0, f5, f6]; with_reducible rfl)); all_goals (intro hbr; first | exact absurd hbr (by decide) | ((try rw [hbr]); (try simp at hbr)))))
    refine X.blockMid (fun st => ∃ (H : Heap) (f : Nat → V), (Rw h.length H S (acc.map encS) ∧ Rd H ri (spanS bs2 false).2.1 (spanS bs2 false).2.2 ∧ But h [ri] H ∧ (∃ ty, ent H hh.length = .blk [.pv (.int .i64 (spanS bs2 false).1.1), .pv (.int .i64 (spanS bs2 false).1.2)] ty)) ∧
      (fk (Fk.mk (f := f)) 0 = .ptr ri 0 ∧ fk (Fk.mk (f := f)) 5 = S ∧ fk (Fk.mk (f := f)) 6 = .pv (.int .i64 n) ∧ fk (Fk.mk (f := f)) 7 = .ptr hh.length 0) ∧ st = ⟨TL 43 f, H⟩) ?_ ?_
    · unfold spanS
      generalize takeS 1 bs2 false = T at hrg2 hby2 R3 ⊢
      obtain ⟨g, bs3, bad3⟩ := T
      dsimp only at hrg2 hby2 R3 ⊢
      have hne : ri ≠ hh.length := by omega
      by_cases g0 : g = 0
      · subst g0
        simp only [if_true]
        (repeat' first
 | apply X.skipS
 | apply X.skipB
 | (apply X.condQ rfl; (focus (simp only [SB, reduceIte, Nat.reduceEqDiff, f0, f5, f6]; with_reducible rfl)); all_goals (intro hbr; first | exact absurd hbr (by decide) | ((try rw [hbr]); (try simp at hbr))))
 | apply X.stepZ
 | (apply X.stepQ rfl; (focus (simp only [SB, reduceIte, Nat.reduceEqDiff, f0, f5, f6]; with_reducible rfl)); (focus (simp [-getElem?_pos]; with_reducible (first | rfl | exact ⟨rfl, rfl⟩))))
 | fail)
        exact ⟨_, _, ⟨W3, R3, B4, _, x3⟩, by simp [f0, f5, f6], rfl⟩
      · rw [if_neg g0]
        have v1 : binA .eql .no (.pv (.int .i64 g)) (.pv (.int .i64 0)) = some (.pv (.bool false)) := by simp [binA, intBin, g0]
        by_cases g1 : g = 1
        · subst g1
          simp only [if_true]
          have v2 : binA .eql .no (.pv (.int .i64 1)) (.pv (.int .i64 1)) = some (.pv (.bool true)) := by simp [binA, intBin]
          have hta := take4 HH.t h3 ri bs3 bad3 hby2 R3
          have hbya := take_byt (k := 4) (bad := bad3) hby2
          generalize takeS 4 bs3 bad3 = T at hta hbya ⊢
          obtain ⟨a, bs4, bad4⟩ := T
          dsimp only at hta hbya ⊢
          (repeat' first
 | (apply X.condQ rfl; (focus (simp only [SB, reduceIte, Nat.reduceEqDiff, f0, f5, f6]; with_reducible rfl)); all_goals (intro hbr; first | exact absurd hbr (by decide) | ((try rw [hbr]); (try simp at hbr))))
 | apply X.stepZ
 | (apply X.stepQ rfl; (focus (simp only [SB, reduceIte, Nat.reduceEqDiff, f0, f5, f6]; with_reducible rfl)); (focus (simp [-getElem?_pos, -binA, v1, v2]; with_reducible (first | rfl | exact ⟨rfl, rfl⟩))))
 | fail)
          refine X.callRQ (P := _) rfl (by simp only [SB, reduceIte, Nat.reduceEqDiff, f0, f5, f6]; all_goals (first | with_reducible rfl | (simp <;> with_reducible rfl))) HH.t.take.raw (by simp [pures]) (hta) ?_
          rintro _ h4 ⟨rfl, R4, B5⟩
          have htc := take4 HH.t h4 ri bs4 bad4 hbya R4
          generalize takeS 4 bs4 bad4 = T at htc ⊢
          obtain ⟨c, bs5, bad5⟩ := T
          dsimp only at htc ⊢
          (repeat' first
 | (apply X.stepQ rfl; (focus (simp only [SB, reduceIte, Nat.reduceEqDiff, f0, f5, f6]; with_reducible rfl)); (focus (simp [-getElem?_pos]; with_reducible (first | rfl | exact ⟨rfl, rfl⟩))))
 | fail)
          refine X.callRQ (P := _) rfl (by simp only [SB, reduceIte, Nat.reduceEqDiff, f0, f5, f6]; all_goals (first | with_reducible rfl | (simp <;> with_reducible rfl))) HH.t.take.raw (by simp [pures]) (htc) ?_
          rintro _ h5 ⟨rfl, R5, B6⟩
          have x5 : ent h5 hh.length = _ := (B6.old _ (by have := B5.len; omega) (by simp; omega)).trans ((B5.old _ hl3 (by simp; omega)).trans x3)
          have W5 := (W3.but B5 R3.ntok).but B6 R4.ntok
          have B7 := (B4.trans B5).trans B6
          have l5 : hh.length < h5.length := by have := B5.len; have := B6.len; omega
          clear htc hta B5 B6 R4 x3 W3 B4 R3
          (repeat' first
 | apply X.skipB
 | apply X.stepZ
 | (apply X.stepQ rfl; (focus (simp only [SB, reduceIte, Nat.reduceEqDiff, f0, f5, f6]; with_reducible rfl)); (focus (simp [-getElem?_pos, x5]; with_reducible (first | rfl | exact ⟨rfl, rfl⟩))))
 | fail)
          have x6 : But h5 [hh.length] (h5.set hh.length (.blk [.pv (.int .i64 a), .pv (.int .i64 c)] (some 62))) := But.set (by simp)
          refine ⟨_, _, ⟨W5.but x6 ?_, R5.but x6 (by simp; omega), ⟨by simp; exact B7.len, fun i hi hn => ?_⟩, _, by simp [ent, l5]; rfl⟩, by simp [f0, f5, f6], rfl⟩
          · intro i hi
            simp only [List.mem_singleton] at hi
            subst hi
            rw [x5]; simp
          · rw [x6.old i (by have := B7.len; omega) (by simp; omega)]
            exact B7.old i hi hn
        · rw [if_neg g1]
          have v2 : binA .eql .no (.pv (.int .i64 g)) (.pv (.int .i64 1)) = some (.pv (.bool false)) := by simp [binA, intBin, g1]
          obtain ⟨ty3, y3⟩ := R3
          have hl4 : ri < h3.length := Rp.ent_lt y3
          (repeat' first
 | apply X.skipB
 | (apply X.condQ rfl; (focus (simp only [SB, reduceIte, Nat.reduceEqDiff, f0, f5, f6]; with_reducible rfl)); all_goals (intro hbr; first | exact absurd hbr (by decide) | ((try rw [hbr]); (try simp at hbr))))
 | apply X.stepZ
 | (apply X.stepQ rfl; (focus (simp only [SB, reduceIte, Nat.reduceEqDiff, f0, f5, f6]; with_reducible rfl)); (focus (simp [-getElem?_pos, -binA, v1, v2, y3]; with_reducible (first | rfl | exact ⟨rfl, rfl⟩))))
 | fail)
          have x6 : But h3 [ri] (h3.set ri (.blk [.pv (.sl (encB bs3)), .pv (.bool true)] ty3)) := But.set (by simp)
          refine ⟨_, _, ⟨W3.but x6 ?_, ⟨ty3, by simp [ent, hl4]⟩, B4.trans x6, some 62, ?_⟩, by simp [f0, f5, f6], rfl⟩
          · intro i hi
            simp only [List.mem_singleton] at hi
            subst hi
            rw [y3]; simp
          · rw [x6.old _ hl3 (by simp; omega)]; exact x3
    · clear W3 R3 B4 x3 hl3 f0 f5 f6 hri hrg2 hby2
      rintro st ⟨H, f, ⟨W3, R3, B4, ty3, x3⟩, ⟨f0, f5, f6, f7⟩, rfl⟩
      generalize spanS bs2 false = T at hsb hru R3 x3
      obtain ⟨s, bs3, bad3⟩ := T
      dsimp only at hsb hru R3 x3
      have hap : appendA H true false 2 16 62 S 1 [.pv (.int .i64 s.1), .pv (.int .i64 s.2)] = some (.slt (acc.map encS ++ [encS s]) H.length, kill H S ++ [.tok]) := by
        rw [W3.app (by omega) (strideS acc) rfl (by rw [List.length_map]; omega) rfl (ps := [.int .i64 s.1, .int .i64 s.2]) rfl]
        simp [chunks, mkPV, encS]
      (repeat' first
 | apply X.skipB
 | apply X.skipL
 | apply X.stepZ
 | (apply X.stepQ rfl; (focus (simp only [SB, reduceIte, Nat.reduceEqDiff, f0, f5, f6, f7]; with_reducible rfl)); (focus (simp [-getElem?_pos, x3, hap]; with_reducible (first | rfl | exact ⟨rfl, rfl⟩))))
 | fail)
      refine ⟨by omega, _, _, acc ++ [s], bs3, bad3, _, ⟨?_, R3.killed W3, W3.butK B4 (Nat.le_refl _), hsb, ?_, by simp; omega⟩, by simp [f0, f6]; rfl, rfl⟩
      · rw [List.map_append, List.map_cons, List.map_nil]
        exact Rw.done (by simp) rfl B4.len
      · rw [← hru]
        congr 1
        simp
        omega
  · have hfin : runSp (n.toNat - acc.length) acc bs2 bad2 = (acc, bs2, bad2) := by
      cases hm : n.toNat - acc.length with
      | zero => rfl
      | succ m =>
        have : bad2 = true := by
          cases bad2 with
          | true => rfl
          | false => exact absurd ⟨by omega, rfl⟩ hc
        simp [runSp, this]
    rw [hfin] at hru
    rw [← hru]
    by_cases hc1 : (acc.length : Int) < n
    · have hbt : bad2 = true := by
        cases bad2 with
        | true => rfl
        | false => exact absurd ⟨hc1, rfl⟩ hc
      subst hbt
      have w1 : binA .lss .no (.pv (.int .i64 (acc.length : Int))) (.pv (.int .i64 n)) = some (.pv (.bool true)) := by simp [binA, intBin, hc1]
      (repeat' first
 | apply X.retS
 | (apply X.exitS; first | apply X.here | (refine X.out (by decide) ?_; apply X.here))
 | (apply X.condQ rfl; (focus (simp only [SB, reduceIte, Nat.reduceEqDiff, f0, f5, f6]; with_reducible rfl)); all_goals (intro hbr; first | exact absurd hbr (by decide) | ((try rw [hbr]); (try simp at hbr))))
 | apply X.stepZ
 | (apply X.stepQ rfl; (focus (simp only [SB, reduceIte, Nat.reduceEqDiff, f0, f5, f6]; with_reducible rfl)); (focus (simp [-getElem?_pos, -binA, -lenA, -isSlV, e1, e2, w1, x1]; with_reducible (first | rfl | exact ⟨rfl, rfl⟩))))
 | ((first | apply X.stepGtQ rfl | apply X.stepGfQ rfl); (focus (simp only [SB, reduceIte, Nat.reduceEqDiff, f0, f5, f6]; with_reducible rfl)); all_goals (intro hbr; first | exact absurd hbr (by decide) | ((try rw [hbr]); (try simp at hbr))))
 | fail)
      all_goals exact FinE.retQ (us := [S]) rfl (by simp [resS, f5]) ⟨W1, R1, B1⟩
    · have w1 : binA .lss .no (.pv (.int .i64 (acc.length : Int))) (.pv (.int .i64 n)) = some (.pv (.bool false)) := by simp [binA, intBin, hc1]
      (repeat' first
 | apply X.retS
 | (apply X.exitS; first | apply X.here | (refine X.out (by decide) ?_; apply X.here))
 | (apply X.condQ rfl; (focus (simp only [SB, reduceIte, Nat.reduceEqDiff, f0, f5, f6]; with_reducible rfl)); all_goals (intro hbr; first | exact absurd hbr (by decide) | ((try rw [hbr]); (try simp at hbr))))
 | apply X.stepZ
 | (apply X.stepQ rfl; (focus (simp only [SB, reduceIte, Nat.reduceEqDiff, f0, f5, f6]; with_reducible rfl)); (focus (simp [-getElem?_pos, -binA, -lenA, -isSlV, e1, e2, w1, x1]; with_reducible (first | rfl | exact ⟨rfl, rfl⟩))))
 | ((first | apply X.stepGtQ rfl | apply X.stepGfQ rfl); (focus (simp only [SB, reduceIte, Nat.reduceEqDiff, f0, f5, f6]; with_reducible rfl)); all_goals (intro hbr; first | exact absurd hbr (by decide) | ((try rw [hbr]); (try simp at hbr))))
 | fail)
      all_goals exact FinE.retQ (us := [S]) rfl (by simp [resS, f5]) ⟨W1, R1, B1⟩
end Rp

-- report's reader: value: walked.
namespace Rp
open Go Ab Go.Proofs.Ytdacifedlemlmaa.Mach
variable {E : Env}

theorem or8_eq {n x : Int} (hn : 0 ≤ n ∧ n < 36028797018963968) (h : 0 ≤ x ∧ x < 256) : or8 n x = n * 256 + x := by
  obtain ⟨a, rfl⟩ : ∃ a : Nat, n = a := ⟨n.toNat, by omega⟩
  obtain ⟨c, rfl⟩ : ∃ c : Nat, x = c := ⟨x.toNat, by omega⟩
  have hc : c < 2 ^ 8 := by omega
  unfold or8
  have e0 : IntKind.i64.wrap ((a : Int) * 256) = (a : Int) * 256 := wrap_i64 (by omega)
  rw [e0]
  have e1 : ((a : Int) * 256) = ((a * 256 : Nat) : Int) := by simp
  rw [e1]
  have t1 : (BitVec.ofInt 64 ((a * 256 : Nat) : Int)).toNat = a * 256 := by rw [BitVec.toNat_ofInt]; omega
  have t2 : (BitVec.ofInt 64 (c : Int)).toNat = c := by rw [BitVec.toNat_ofInt]; omega
  have t3 : (BitVec.ofInt 64 ((a * 256 : Nat) : Int) ||| BitVec.ofInt 64 (c : Int)).toNat = a * 256 ||| c := by rw [BitVec.toNat_or, t1, t2]
  rw [t3]
  have e2 : a * 256 ||| c = a * 256 + c := by
    have := Nat.two_pow_add_eq_or_of_lt hc a
    rw [Nat.mul_comm]
    exact this.symm
  rw [e2, wrap_i64 (by omega)]
  simp
theorem take2_rng {bs : List Int} {bad : Bool} (h : Byt bs) : 0 ≤ (takeS 2 bs bad).1 ∧ (takeS 2 bs bad).1 < 65536 := by
  unfold takeS
  split
  · simp
  · rcases bs with _ | ⟨x, _ | ⟨y, l⟩⟩
    · simp_all
    · simp_all
    · have hx := h x (by simp)
      have hy := h y (by simp)
      have : numI ([x, y]) = x * 256 + y := by simp [numI, or8_zero hx, or8_eq (n := x) (by omega) hy]
      simp [this]
      omega

theorem _root_.Ab.X.midA {c rest : ACode} {st : Ab.St} {Q : AExit → Ab.St → Prop} (M : Ab.St → Prop) (h : X E (app c .skip) st (thenQ M fun _ _ => False)) (k : ∀ st', M st' → X E rest st' Q) : X E (app c rest) st Q := by
  have h2 : X E (.seq c .skip) st (thenQ M fun _ _ => False) := by
    simp only [x_eq] at h ⊢
    exact w_app c |>.1 h
  have h3 := X.mid M h2 k
  simp only [x_eq] at h3 ⊢
  exact w_app c |>.2 h3
theorem app_seq {a b c : ACode} : app (.seq a b) c = app a (app b c) := rfl
def runV (f : Int → List Int → Bool → Va × Int × List Int × Bool) : Nat → List Va → Int → List Int → Bool → List Va × Int × List Int × Bool
  | 0, acc, left, bs, bad => (acc, left, bs, bad)
  | m + 1, acc, left, bs, bad => if bad = true then (acc, left, bs, bad) else runV f m (acc ++ [(f left bs bad).1]) (f left bs bad).2.1 (f left bs bad).2.2.1 (f left bs bad).2.2.2
def headT (bs : List Int) (bad : Bool) : Int × Int × Int × List Int × Bool :=
  let r := takeS 1 bs bad
  if r.1 = 2 then
    let c := takeS 1 r.2.1 r.2.2
    (r.1, c.1, 0, c.2.1, c.2.2)
  else if r.1 = 6 then
    let c := takeS 2 r.2.1 r.2.2
    (r.1, 0, c.1, c.2.1, c.2.2)
  else (r.1, 0, manyS r.1 0, r.2.1, r.2.2)
def valT : Nat → Int → List Int → Bool → Va × Int × List Int × Bool
  | 0, left, bs, _ => (.mk 0 0 [], left - 1, bs, true)
  | d + 1, left, bs, bad =>
    let p := headT bs (bad || decide (left - 1 < 0))
    let q := runV (valT d) p.2.2.1.toNat [] (left - 1) p.2.2.2.1 p.2.2.2.2
    (.mk p.1 p.2.1 q.1, q.2)
theorem headT_byt {bs : List Int} {bad : Bool} (h : Byt bs) : Byt (headT bs bad).2.2.2.1 := by
  unfold headT
  dsimp only
  split
  · exact take_byt (take_byt h)
  · split
    · exact take_byt (take_byt h)
    · exact take_byt h
theorem headT_b {bs : List Int} {bad : Bool} (h : Byt bs) : 0 ≤ (headT bs bad).2.1 ∧ (headT bs bad).2.1 < 256 := by
  unfold headT
  dsimp only
  split
  · exact take1_rng (take_byt h)
  · split <;> simp
theorem headT_n {bs : List Int} {bad : Bool} (h : Byt bs) : -1 ≤ (headT bs bad).2.2.1 ∧ (headT bs bad).2.2.1 < 65536 := by
  unfold headT
  dsimp only
  split
  · simp
  · split
    · have := take2_rng (bad := (takeS 1 bs bad).2.2) (take_byt (k := 1) (bad := bad) h)
      dsimp only
      omega
    · dsimp only
      unfold manyS
      repeat' split
      all_goals omega
theorem takeS_bad {k : Nat} {bs : List Int} : takeS k bs true = (0, bs, true) := by simp [takeS]
theorem headT_bad {bs : List Int} : headT bs true = (0, 0, -1, bs, true) := by simp [headT, takeS_bad, manyS]
theorem valT_bad {d : Nat} {left : Int} {bs : List Int} : valT d left bs true = (.mk 0 0 [], left - 1, bs, true) := by
  cases d with
  | zero => rfl
  | succ d => simp [valT, headT_bad, runV]
theorem run_left {f : Int → List Int → Bool → Va × Int × List Int × Bool} (hf : ∀ left bs, 0 ≤ left → Byt bs → (f left bs false).2.1 ≤ left ∧ ((f left bs false).2.2.2 = false → 0 ≤ (f left bs false).2.1) ∧ Byt (f left bs false).2.2.1) :
    ∀ (m : Nat) (acc : List Va) (left : Int) (bs : List Int) (bad : Bool), Byt bs → (bad = false → 0 ≤ left) → (runV f m acc left bs bad).2.1 ≤ left ∧ ((runV f m acc left bs bad).2.2.2 = false → 0 ≤ (runV f m acc left bs bad).2.1) ∧ Byt (runV f m acc left bs bad).2.2.1
  | 0, acc, left, bs, bad, hb, hl => ⟨Int.le_refl _, hl, hb⟩
  | m + 1, acc, left, bs, bad, hb, hl => by
    unfold runV
    cases bad with
 | true => exact ⟨Int.le_refl _, fun h => (by cases h), hb⟩
 | false =>
      obtain ⟨a1, a2, a3⟩ := hf left bs (hl rfl) hb
      obtain ⟨b1, b2, b3⟩ := run_left hf m (acc ++ [(f left bs false).1]) _ _ (f left bs false).2.2.2 a3 a2
      simp only [Bool.false_eq_true, if_false]
      exact ⟨Int.le_trans b1 a1, b2, b3⟩
theorem val_left : ∀ (d : Nat) (left : Int) (bs : List Int), 0 ≤ left → Byt bs → (valT d left bs false).2.1 ≤ left ∧ ((valT d left bs false).2.2.2 = false → 0 ≤ (valT d left bs false).2.1) ∧ Byt (valT d left bs false).2.2.1
  | 0, left, bs, hl, hb => ⟨by simp only [valT]; omega, fun h => (by simp [valT] at h), hb⟩
  | d + 1, left, bs, hl, hb => by
    simp only [valT]
    by_cases h1 : left - 1 < 0
    · have : (false || decide (left - 1 < 0)) = true := by simp [h1]
      rw [this, headT_bad]
      simp [runV, hb]
      omega
    · have : (false || decide (left - 1 < 0)) = false := by simp [h1]
      rw [this]
      obtain ⟨b1, b2, b3⟩ := run_left (fun left bs => val_left d left bs) (headT bs false).2.2.1.toNat [] (left - 1) (headT bs false).2.2.2.1 (headT bs false).2.2.2.2 (headT_byt hb) (fun _ => by omega)
      exact ⟨by omega, b2, b3⟩

structure VS (h : Heap) (ri li : Nat) (left : Int) (bs : List Int) (bad : Bool) (hh : Heap) : Prop where
  rd : Rd hh ri bs bad
  box : ∃ t, ent hh li = .blk [.pv (.int .i64 left)] t
  but : But h [ri, li] hh
  lo : ri < h.length ∧ li < h.length ∧ ri ≠ li
section
variable {h hh hh' : Heap} {ri li : Nat} {left : Int} {bs bs' : List Int} {bad bad' : Bool} {l : Heap}
theorem VS.more (s : VS h ri li left bs bad hh) : VS h ri li left bs bad (hh ++ l) := by
  obtain ⟨t, hb⟩ := s.box
  exact ⟨s.rd.more, ⟨t, ent_app hb (by simp)⟩, s.but.more, s.lo⟩
theorem VS.take (s : VS h ri li left bs bad hh) (r : Rd hh' ri bs' bad') (o : But hh [ri] hh') : VS h ri li left bs' bad' hh' := by
  obtain ⟨t, hb⟩ := s.box
  have hne := s.lo.2.2
  exact ⟨r, ⟨t, by rw [o.old li (Rp.ent_lt hb) (by simp; omega)]; exact hb⟩, s.but.trans (o.wide (by simp)), s.lo⟩
theorem VS.up {k : Nat} {B : Ent} (s : VS h ri li left bs bad hh) (hk : h.length ≤ k) : VS h ri li left bs bad (hh.set k B) := by
  obtain ⟨t, hb⟩ := s.box
  obtain ⟨t2, hr⟩ := s.rd
  have hlo := s.lo
  refine ⟨⟨t2, ?_⟩, ⟨t, ?_⟩, ⟨by simp; exact s.but.len, fun i hi hn => ?_⟩, hlo⟩
  · rw [ent_set_ne (by omega)]; exact hr
  · rw [ent_set_ne (by omega)]; exact hb
  · rw [ent_set_ne (by omega)]; exact s.but.old i hi hn
theorem VS.count {left' : Int} {t : Option TypeId} (s : VS h ri li left bs bad hh) : VS h ri li left' bs bad (hh.set li (.blk [.pv (.int .i64 left')] t)) := by
  obtain ⟨t1, hb⟩ := s.box
  obtain ⟨t2, hr⟩ := s.rd
  have hlo := s.lo
  have hlt := Rp.ent_lt hb
  refine ⟨⟨t2, ?_⟩, ⟨t, ?_⟩, ⟨by simp; exact s.but.len, fun i hi hn => ?_⟩, hlo⟩
  · rw [ent_set_ne (by omega)]; exact hr
  · simp [ent, hlt]
  · rw [ent_set_ne (by simp at hn; omega)]; exact s.but.old i hi hn
theorem VS.turn {t : Option TypeId} (s : VS h ri li left bs bad hh) : VS h ri li left bs true (hh.set ri (.blk [.pv (.sl (encB bs)), .pv (.bool true)] t)) := by
  obtain ⟨t1, hb⟩ := s.box
  obtain ⟨t2, hr⟩ := s.rd
  have hlo := s.lo
  have hlt := Rp.ent_lt hr
  refine ⟨⟨t, ?_⟩, ⟨t1, ?_⟩, ⟨by simp; exact s.but.len, fun i hi hn => ?_⟩, hlo⟩
  · simp [ent, hlt]
  · rw [ent_set_ne (by omega)]; exact hb
  · rw [ent_set_ne (by simp at hn; omega)]; exact s.but.old i hi hn
end

structure HasW (E : Env) : Prop where
  u : HasU E
  many : Has E 77 c77
  value : HasR E 57 c57

theorem Rw.cell {b : Nat} {h : Heap} {v : V} {es : List PV} (r : Rw b h v es) : v.isCell = true := by
  rcases r with ⟨rfl, rfl⟩ | rfl | ⟨_, tok, rfl, _⟩ <;> rfl
theorem kill_mask {b : Nat} {h l : Heap} {v : V} {es : List PV} (r : Rw b h v es) : merge v.ids h (kill (mask v.ids h) v ++ l) = kill h v ++ l := by
  rcases r with ⟨rfl, rfl⟩ | rfl | ⟨_, tok, rfl, _⟩
  · exact merge_mask_app
  · exact merge_mask_app
  · exact merge_mask_set_app (by simp [V.ids])
theorem Rw.masked {b : Nat} {h : Heap} {v : V} {es : List PV} (r : Rw b h v es) : Rw b (mask v.ids h) v es := by
  rcases r with r | r | ⟨h1, tok, rfl, h3, h4⟩
  · exact .inl r
  · exact .inr (.inl r)
  · exact .inr (.inr ⟨h1, tok, rfl, by rw [ent_mask_in (by simp [V.ids])]; exact h3, h4⟩)
theorem Rw.ids {b : Nat} {h : Heap} {v : V} {es : List PV} (r : Rw b h v es) : ∀ x ∈ v.ids, ent h x = .tok ∧ b ≤ x := by
  rcases r with ⟨_, rfl⟩ | rfl | ⟨_, tok, rfl, h3, h4⟩
  · intro x hx; cases hx
  · intro x hx; cases hx
  · intro x hx
    simp only [V.ids, List.mem_singleton] at hx
    subst hx
    exact ⟨h3, h4⟩
theorem strideV (l : List Va) : strideOk 3 (l.map encV) = true := strideOk_of fun e he => by
  obtain ⟨x, _, rfl⟩ := List.mem_map.1 he
  rw [eV]
  rfl
theorem Rw.append_masked {b : Nat} {h : Heap} {v : V} {l : List Va} (r : Rw b h v (l.map encV)) (x : Va) (hl : l.length ≤ 100000) :
    opA E (limP E) (limR E) [] (mask v.ids h) (.append true false 3 40 24 (.val v) (.val (.slx [.agg [.int .i64 x.k, .int .u8 x.b, .sl (x.l.map encV)]]))) = some (.slt ((l ++ [x]).map encV) h.length, kill (mask v.ids h) v ++ [.tok]) := by
  have h1 := r.masked.app (ag := true) (sz := 3) (bytes := 40) (te := 24) (n := 1) (new := [.pv (.int .i64 x.k), .pv (.int .u8 x.b), .pv (.sl (x.l.map encV))]) (ps := [.int .i64 x.k, .int .u8 x.b, .sl (x.l.map encV)]) (by omega) (strideV l) rfl (by rw [List.length_map]; omega) rfl rfl
  have h2 : (l ++ [x]).map encV = l.map encV ++ (chunks 3 1 [.int .i64 x.k, .int .u8 x.b, .sl (x.l.map encV)]).map (mkPV true) := by simp [chunks, mkPV, eV]
  rw [h2, ← length_mask (F := v.ids) (h := h)]
  have h3 : srcCells (mask v.ids h) 3 (.slx [.agg [.int .i64 x.k, .int .u8 x.b, .sl (x.l.map encV)]]) = some [.pv (.int .i64 x.k), .pv (.int .u8 x.b), .pv (.sl (x.l.map encV))] := by simp [srcCells, strideOk, PV.cells]
  simp only [opA, St.eval, Ab.lenA, h3, List.length_cons, List.length_nil, Nat.zero_add]
  exact h1
def VOut (b : Nat) (hh : Heap) (r : V) (v : Va) : Prop := ∃ L, V.cells r = [.pv (.int .i64 v.k), .pv (.int .u8 v.b), L] ∧ Rw b hh L (v.l.map encV)
def ReadOk (E : Env) (d : Int) (f : Int → List Int → Bool → Va × Int × List Int × Bool) : Prop := ∀ (h : Heap) (ri li : Nat) (left : Int) (bs : List Int) (bad : Bool), Rd h ri bs bad → (∃ t, ent h li = .blk [.pv (.int .i64 left)] t) → Byt bs → 0 ≤ left → left ≤ 4000 →
  ∃ r h', limR E 57 [.ptr ri 0, .pv (.int .i64 d), .ptr li 0] h = some (r, h') ∧ (VOut h.length h' r (f left bs bad).1 ∧ VS h ri li (f left bs bad).2.1 (f left bs bad).2.2.1 (f left bs bad).2.2.2 h')
theorem reach_two2 {h : Heap} {ri li : Nat} {left : Int} {bs : List Int} {bad : Bool} {t : Option TypeId} {d : Int} (hr : Rd h ri bs bad) (hb : ent h li = .blk [.pv (.int .i64 left)] t) (hne : ri ≠ li) :
    reach h h.length (addNew [] ([V.ptr ri 0, V.pv (.int .i64 d), V.ptr li 0].flatMap V.ids)) = [ri, li] := by
  have h1 : addNew [] ([V.ptr ri 0, V.pv (.int .i64 d), V.ptr li 0].flatMap V.ids) = [ri, li] := by
    have : li ≠ ri := fun h => hne h.symm
    simp [V.ids, addNew, this]
  rw [h1]
  obtain ⟨t2, hr⟩ := hr
  have hfm : ([ri, li]).flatMap (fun i => entIds (ent h i)) = [] := by
    simp [hr, hb, entIds, V.ids.idsL, V.ids]
  cases h.length with
  | zero => rfl
  | succ n => simp only [reach, hfm, addNew, if_true]
theorem ReadOk.masked {d : Int} {f : Int → List Int → Bool → Va × Int × List Int × Bool} (H : ReadOk E d f) {h : Heap} {ri li : Nat} {left : Int} {bs : List Int} {bad : Bool} {t : Option TypeId} (hr : Rd h ri bs bad) (hb : ent h li = .blk [.pv (.int .i64 left)] t) (hy : Byt bs) (h0 : 0 ≤ left) (h1 : left ≤ 4000) (hne : ri ≠ li) :
    ∃ r h', limR E 57 [.ptr ri 0, .pv (.int .i64 d), .ptr li 0] (mask [ri, li] h) = some (r, h') ∧ h.length ≤ h'.length ∧ (VOut h.length (merge [ri, li] h h') r (f left bs bad).1 ∧ VS h ri li (f left bs bad).2.1 (f left bs bad).2.2.1 (f left bs bad).2.2.2 (merge [ri, li] h h')) := by
  have hri := rd_lt hr
  have hli := Rp.ent_lt hb
  obtain ⟨t2, hr⟩ := hr
  obtain ⟨r, h', g1, ⟨L, g2, g3⟩, g4⟩ := H (mask [ri, li] h) ri li left bs bad ⟨t2, by rw [ent_mask_in (by simp)]; exact hr⟩ ⟨t, by rw [ent_mask_in (by simp)]; exact hb⟩ hy h0 h1
  rw [length_mask] at g3
  have hlen := g4.but.len
  rw [length_mask] at hlen
  refine ⟨r, h', g1, hlen, ⟨L, g2, ?_⟩, ?_⟩
  · rcases g3 with c | c | ⟨c1, tok, c2, c3, c4⟩
    · exact .inl c
    · exact .inr (.inl c)
    · exact .inr (.inr ⟨c1, tok, c2, by rw [ent_merge_in (.inr c4)]; exact c3, c4⟩)
  · obtain ⟨t3, r3⟩ := g4.rd
    obtain ⟨t4, r4⟩ := g4.box
    exact ⟨⟨t3, by rw [ent_merge_in (.inl (by simp))]; exact r3⟩, ⟨t4, by rw [ent_merge_in (.inl (by simp))]; exact r4⟩, ⟨by rw [merge_len]; exact hlen, fun i hi hn => ent_merge_out hn hi hlen⟩, hri, hli, hne⟩
theorem many0_ok (H : Has E 77 c77) (k : Int) : limP E 77 [.agg [.int .i64 k, .int .u8 0, .sl []]] = some [.int .i64 (manyS k 0)] := many_ok H (.mk k 0 [])

set_option maxHeartbeats 16000000 in
theorem value_body (HH : HasW E) (d : Nat) (hd : d ≤ 1000) (F : Int → List Int → Bool → Va × Int × List Int × Bool) (hF : ∀ left bs, 0 ≤ left → Byt bs → (F left bs false).2.1 ≤ left ∧ ((F left bs false).2.2.2 = false → 0 ≤ (F left bs false).2.1) ∧ Byt (F left bs false).2.2.1)
    (ih : d = 0 ∨ ReadOk E ((d : Int) - 1) F) : ReadOk E d fun left bs bad => (.mk (headT bs (bad || (decide (d < 1) || decide (left - 1 < 0)))).1 (headT bs (bad || (decide (d < 1) || decide (left - 1 < 0)))).2.1 (runV F (headT bs (bad || (decide (d < 1) || decide (left - 1 < 0)))).2.2.1.toNat [] (left - 1) (headT bs (bad || (decide (d < 1) || decide (left - 1 < 0)))).2.2.2.1 (headT bs (bad || (decide (d < 1) || decide (left - 1 < 0)))).2.2.2.2).1,
      (runV F (headT bs (bad || (decide (d < 1) || decide (left - 1 < 0)))).2.2.1.toNat [] (left - 1) (headT bs (bad || (decide (d < 1) || decide (left - 1 < 0)))).2.2.2.1 (headT bs (bad || (decide (d < 1) || decide (left - 1 < 0)))).2.2.2.2).2) := by
  intro h ri li left bs bad hr hbx hb hl0 hl1
  obtain ⟨t, hbx⟩ := hbx
  dsimp only
  refine HH.value.limQE (Nat.le_of_ble_eq_true rfl) ?_; unfold c57
  have hri := rd_lt hr
  have hli := Rp.ent_lt hbx
  have hne : ri ≠ li := by
    rintro rfl
    obtain ⟨t2, h2⟩ := hr
    rw [hbx] at h2
    simp at h2
  have hww : IntKind.i64.wrap (left - 1) = left - 1 := wrap_i64 (by omega)
  have w1 : binA .sub .no (.pv (.int .i64 left)) (.pv (.int .i64 1)) = some (.pv (.int .i64 (left - 1))) := by simp [binA, intBin, hww]
  have hbx1 : ∀ l, ent (h ++ l) li = .blk [.pv (.int .i64 left)] t := fun l => ent_app hbx (by simp)
  have hv0 : VS h ri li left bs bad (h ++ [.blk [.pv (.int .i64 0), .pv (.int .u8 0), .nils] (some 24)]) := ⟨hr.more, ⟨t, hbx1 _⟩, But.refl.more, hri, hli, hne⟩
  iterate 8 (first
 | apply X.retS
 | apply X.skipS
 | apply X.skipB
 | apply X.skipL
 | (apply X.exitS; first | apply X.here | (refine X.out (by decide) ?_; apply X.here))
 | apply X.blockS
 | (apply X.condQ rfl; (focus (simp only [SB, reduceIte, Nat.reduceEqDiff]; with_reducible rfl)); all_goals (intro hbr; first | exact absurd hbr (by decide) | ((try rw [hbr]); (try simp at hbr))))
 | apply X.stepZ
 | (apply X.stepQ rfl; (focus (simp only [SB, reduceIte, Nat.reduceEqDiff]; with_reducible rfl)); (focus (simp [-getElem?_pos, -binA, w1, hbx1]; with_reducible (first | rfl | exact ⟨rfl, rfl⟩))))
 | (apply X.stepNQ rfl; (focus (simp only [SB, reduceIte, Nat.reduceEqDiff]; with_reducible rfl)))
 | ((first | apply X.stepGtQ rfl | apply X.stepGfQ rfl); (focus (simp only [SB, reduceIte, Nat.reduceEqDiff]; with_reducible rfl)); all_goals (intro hbr; first | exact absurd hbr (by decide) | ((try rw [hbr]); (try simp at hbr)))))
  refine X.abs2 (fun st => ∃ (hh : Heap) (f : Nat → V), (VS h ri li (left - 1) bs bad hh ∧ ent hh h.length = .blk [.pv (.int .i64 0), .pv (.int .u8 0), .nils] (some 24)) ∧ (fk (Fk.mk (f := f)) 0 = .ptr ri 0 ∧ fk (Fk.mk (f := f)) 1 = .pv (.int .i64 (d : Int)) ∧ fk (Fk.mk (f := f)) 2 = .ptr li 0 ∧ fk (Fk.mk (f := f)) 6 = .ptr h.length 0) ∧ st = ⟨TL 66 f, hh⟩) ?_ ?_
  · refine ⟨_, _, ⟨hv0.count, ?_⟩, by simp, rfl⟩
    rw [ent_set_ne (by omega)]
    exact ent_at0
  clear hv0 hbx hbx1 hww w1 hr
  rintro st ⟨hh, f, ⟨S0, x6⟩, ⟨f0, f1, f2, f6⟩, rfl⟩
  refine X.stepZ ?_
  rw [app_seq]
  refine X.midA (fun st => ∃ (hh : Heap) (f : Nat → V), (VS h ri li (left - 1) bs (bad || (decide (d < 1) || decide (left - 1 < 0))) hh ∧ ent hh h.length = .blk [.pv (.int .i64 0), .pv (.int .u8 0), .nils] (some 24)) ∧ (fk (Fk.mk (f := f)) 0 = .ptr ri 0 ∧ fk (Fk.mk (f := f)) 1 = .pv (.int .i64 (d : Int)) ∧ fk (Fk.mk (f := f)) 2 = .ptr li 0 ∧ fk (Fk.mk (f := f)) 6 = .ptr h.length 0) ∧ st = ⟨TL 66 f, hh⟩) ?_ ?_
  · obtain ⟨t1, y1⟩ := S0.rd
    obtain ⟨t2, y2⟩ := S0.box
    by_cases h1 : d < 1
    · have w1 : binA .lss .no (.pv (.int .i64 (d : Int))) (.pv (.int .i64 1)) = some (.pv (.bool true)) := by simp [binA, intBin]; omega
      have e0 : (bad || (decide (d < 1) || decide (left - 1 < 0))) = true := by simp [h1]
      rw [e0]
      (repeat' first
 | apply X.skipL
 | (apply X.condQ rfl; (focus (simp only [SB, reduceIte, Nat.reduceEqDiff, f0, f1, f2, f6]; with_reducible rfl)); all_goals (intro hbr; first | exact absurd hbr (by decide) | ((try rw [hbr]); (try simp at hbr))))
 | apply X.stepZ
 | (apply X.stepQ rfl; (focus (simp only [SB, reduceIte, Nat.reduceEqDiff, f0, f1, f2, f6]; with_reducible rfl)); (focus (simp [-getElem?_pos, -binA, w1, y1]; with_reducible (first | rfl | exact ⟨rfl, rfl⟩))))
 | ((first | apply X.stepGtQ rfl | apply X.stepGfQ rfl); (focus (simp only [SB, reduceIte, Nat.reduceEqDiff, f0, f1, f2, f6]; with_reducible rfl)); all_goals (intro hbr; first | exact absurd hbr (by decide) | ((try rw [hbr]); (try simp at hbr))))
 | fail)
      refine ⟨_, _, ⟨S0.turn, ?_⟩, by simp [f0, f1, f2, f6], rfl⟩
      rw [ent_set_ne (by omega)]
      exact x6
    · have w1 : binA .lss .no (.pv (.int .i64 (d : Int))) (.pv (.int .i64 1)) = some (.pv (.bool false)) := by simp [binA, intBin]; omega
      by_cases h2 : left - 1 < 0
      · have w2 : binA .lss .no (.pv (.int .i64 (left - 1))) (.pv (.int .i64 0)) = some (.pv (.bool true)) := by simp [binA, intBin, h2]
        have e0 : (bad || (decide (d < 1) || decide (left - 1 < 0))) = true := by simp [h2]
        rw [e0]
        (repeat' first
 | apply X.skipL
 | (apply X.condQ rfl; (focus (simp only [SB, reduceIte, Nat.reduceEqDiff, f0, f1, f2, f6]; with_reducible rfl)); all_goals (intro hbr; first | exact absurd hbr (by decide) | ((try rw [hbr]); (try simp at hbr))))
 | apply X.stepZ
 | (apply X.stepQ rfl; (focus (simp only [SB, reduceIte, Nat.reduceEqDiff, f0, f1, f2, f6]; with_reducible rfl)); (focus (simp [-getElem?_pos, -binA, w1, w2, y1, y2]; with_reducible (first | rfl | exact ⟨rfl, rfl⟩))))
 | ((first | apply X.stepGtQ rfl | apply X.stepGfQ rfl); (focus (simp only [SB, reduceIte, Nat.reduceEqDiff, f0, f1, f2, f6]; with_reducible rfl)); all_goals (intro hbr; first | exact absurd hbr (by decide) | ((try rw [hbr]); (try simp at hbr))))
 | fail)
        refine ⟨_, _, ⟨S0.turn, ?_⟩, by simp [f0, f1, f2, f6], rfl⟩
        rw [ent_set_ne (by omega)]
        exact x6
      · have w2 : binA .lss .no (.pv (.int .i64 (left - 1))) (.pv (.int .i64 0)) = some (.pv (.bool false)) := by simp [binA, intBin, h2]
        have e0 : (bad || (decide (d < 1) || decide (left - 1 < 0))) = bad := by simp [h1, h2]
        rw [e0]
        (repeat' first
 | apply X.skipS
 | apply X.skipL
 | (apply X.condQ rfl; (focus (simp only [SB, reduceIte, Nat.reduceEqDiff, f0, f1, f2, f6]; with_reducible rfl)); all_goals (intro hbr; first | exact absurd hbr (by decide) | ((try rw [hbr]); (try simp at hbr))))
 | apply X.stepZ
 | (apply X.stepQ rfl; (focus (simp only [SB, reduceIte, Nat.reduceEqDiff, f0, f1, f2, f6]; with_reducible rfl)); (focus (simp [-getElem?_pos, -binA, w1, w2, y1, y2]; with_reducible (first | rfl | exact ⟨rfl, rfl⟩))))
 | ((first | apply X.stepGtQ rfl | apply X.stepGfQ rfl); (focus (simp only [SB, reduceIte, Nat.reduceEqDiff, f0, f1, f2, f6]; with_reducible rfl)); all_goals (intro hbr; first | exact absurd hbr (by decide) | ((try rw [hbr]); (try simp at hbr))))
 | fail)
        exact ⟨_, _, ⟨S0, x6⟩, by simp [f0, f1, f2, f6], rfl⟩
  have hbt : d = 0 → (bad || (decide (d < 1) || decide (left - 1 < 0))) = true := fun h => by simp [h]
  have hlt : (bad || (decide (d < 1) || decide (left - 1 < 0))) = false → 0 ≤ left - 1 := fun h => by simp at h; omega
  generalize (bad || (decide (d < 1) || decide (left - 1 < 0))) = bad0 at hbt hlt ⊢
  clear S0 x6 f0 f1 f2 f6
  rintro st ⟨hh, f, ⟨S0, x6⟩, ⟨f0, f1, f2, f6⟩, rfl⟩
  have htk := take1 HH.u.t hh ri bs bad0 hb S0.rd
  have hby1 := take_byt (k := 1) (bad := bad0) hb
  have hhd := @headT.eq_1 bs bad0
  generalize hT : takeS 1 bs bad0 = T at htk hby1 hhd
  obtain ⟨k, bs1, bad1⟩ := T
  dsimp only at htk hby1 hhd
  (repeat' first
 | (apply X.stepQ rfl; (focus (simp only [SB, reduceIte, Nat.reduceEqDiff, f0, f1, f2, f6]; with_reducible rfl)); (focus (simp [-getElem?_pos]; with_reducible (first | rfl | exact ⟨rfl, rfl⟩))))
 | fail)
  refine X.callRQ (P := _) rfl (by simp only [SB, reduceIte, Nat.reduceEqDiff, f0, f1, f2, f6]; all_goals (first | with_reducible rfl | (simp <;> with_reducible rfl))) HH.u.t.take.raw (by simp [pures]) (htk) ?_
  rintro _ h3 ⟨rfl, R3, B3⟩
  have S3 := S0.take R3 B3
  have x3 : ent h3 h.length = _ := (B3.old _ (Rp.ent_lt x6) (by simp; omega)).trans x6
  clear htk hT S0 R3 B3 x6
  have hmany := many0_ok HH.many k
  iterate 8 (first
 | apply X.retS
 | apply X.skipS
 | apply X.skipB
 | apply X.skipL
 | (apply X.exitS; first | apply X.here | (refine X.out (by decide) ?_; apply X.here))
 | apply X.blockS
 | (apply X.condQ rfl; (focus (simp only [SB, reduceIte, Nat.reduceEqDiff, f0, f1, f2, f6]; with_reducible rfl)); all_goals (intro hbr; first | exact absurd hbr (by decide) | ((try rw [hbr]); (try simp at hbr))))
 | apply X.stepZ
 | (apply X.stepQ rfl; (focus (simp only [SB, reduceIte, Nat.reduceEqDiff, f0, f1, f2, f6]; with_reducible rfl)); (focus (simp [-getElem?_pos, HH.many.raw, hmany]; with_reducible (first | rfl | exact ⟨rfl, rfl⟩))))
 | (apply X.stepNQ rfl; (focus (simp only [SB, reduceIte, Nat.reduceEqDiff, f0, f1, f2, f6]; with_reducible rfl)))
 | ((first | apply X.stepGtQ rfl | apply X.stepGfQ rfl); (focus (simp only [SB, reduceIte, Nat.reduceEqDiff, f0, f1, f2, f6]; with_reducible rfl)); all_goals (intro hbr; first | exact absurd hbr (by decide) | ((try rw [hbr]); (try simp at hbr)))))
  rw [app_seq]
  refine X.midA (fun st => ∃ (hh : Heap) (k7 : Nat) (f : Nat → V), (VS h ri li (left - 1) (headT bs bad0).2.2.2.1 (headT bs bad0).2.2.2.2 hh ∧ ent hh h.length = .blk [.pv (.int .i64 0), .pv (.int .u8 0), .nils] (some 24) ∧ h.length < k7 ∧ ∃ ty, ent hh k7 = .blk [.pv (.int .i64 (headT bs bad0).1), .pv (.int .u8 (headT bs bad0).2.1), .nils] ty) ∧
    (fk (Fk.mk (f := f)) 0 = .ptr ri 0 ∧ fk (Fk.mk (f := f)) 1 = .pv (.int .i64 (d : Int)) ∧ fk (Fk.mk (f := f)) 2 = .ptr li 0 ∧ fk (Fk.mk (f := f)) 6 = .ptr h.length 0 ∧ fk (Fk.mk (f := f)) 7 = .ptr k7 0 ∧ fk (Fk.mk (f := f)) 8 = .pv (.int .i64 (headT bs bad0).2.2.1)) ∧ st = ⟨TL 66 f, hh⟩) ?_ ?_
  · have hl3 : h.length < h3.length := Rp.ent_lt x3
    have S4 := S3.more (l := [.blk [.pv (.int .i64 k), .pv (.int .u8 0), .nils] (some 24)])
    have x4 : ∀ l, ent (h3 ++ l) h.length = _ := fun l => ent_app x3 (by simp)
    rw [hhd]
    by_cases k2 : k = 2
    · subst k2
      simp only [if_true]
      have hta := take1 HH.u.t (h3 ++ [.blk [.pv (.int .i64 2), .pv (.int .u8 0), .nils] (some 24)]) ri bs1 bad1 hby1 S4.rd
      have hrc := take1_rng (bad := bad1) hby1
      generalize takeS 1 bs1 bad1 = T at hta hrc ⊢
      obtain ⟨c, bs2, bad2⟩ := T
      dsimp only at hta hrc ⊢
      have hwc : IntKind.u8.wrap c = c := by rw [IntKind.wrap_u8]; omega
      (repeat' first
 | apply X.blockS
 | (apply X.condQ rfl; (focus (simp only [SB, reduceIte, Nat.reduceEqDiff, f0, f1, f2, f6]; with_reducible rfl)); all_goals (intro hbr; first | exact absurd hbr (by decide) | ((try rw [hbr]); (try simp at hbr))))
 | apply X.stepZ
 | (apply X.stepQ rfl; (focus (simp only [SB, reduceIte, Nat.reduceEqDiff, f0, f1, f2, f6]; with_reducible rfl)); (focus (simp [-getElem?_pos]; with_reducible (first | rfl | exact ⟨rfl, rfl⟩))))
 | fail)
      refine X.callRQ (P := _) rfl (by simp only [SB, reduceIte, Nat.reduceEqDiff, f0, f1, f2, f6]; all_goals (first | with_reducible rfl | (simp <;> with_reducible rfl))) HH.u.t.take.raw (by simp [pures]) (hta) ?_
      rintro _ h4 ⟨rfl, R4, B4⟩
      have S5 := S4.take R4 B4
      have x7 : ent h4 h3.length = .blk [.pv (.int .i64 2), .pv (.int .u8 0), .nils] (some 24) := (B4.old _ (by simp) (by simp; omega)).trans ent_at0
      have x6 : ent h4 h.length = _ := (B4.old _ (by simp; omega) (by simp; omega)).trans (x4 _)
      have hl4 := Rp.ent_lt x7
      clear hta R4 B4 S4 x4 x3 S3
      (repeat' first
 | apply X.skipB
 | apply X.skipL
 | apply X.stepZ
 | (apply X.stepQ rfl; (focus (simp only [SB, reduceIte, Nat.reduceEqDiff, f0, f1, f2, f6]; with_reducible rfl)); (focus (simp [-getElem?_pos, x7, hwc]; with_reducible (first | rfl | exact ⟨rfl, rfl⟩))))
 | fail)
      refine ⟨_, h3.length, _, ⟨S5.up (by omega), ?_, hl3, some 24, by simp [ent, hl4]⟩, by simp [f0, f1, f2, f6, manyS], rfl⟩
      rw [ent_set_ne (by omega)]
      exact x6
    · rw [if_neg k2]
      have v1 : binA .eql .no (.pv (.int .i64 k)) (.pv (.int .i64 2)) = some (.pv (.bool false)) := by simp [binA, intBin, k2]
      by_cases k6 : k = 6
      · subst k6
        simp only [if_true]
        have v2 : binA .eql .no (.pv (.int .i64 6)) (.pv (.int .i64 6)) = some (.pv (.bool true)) := by simp [binA, intBin]
        have hta := take2 HH.u.t (h3 ++ [.blk [.pv (.int .i64 6), .pv (.int .u8 0), .nils] (some 24)]) ri bs1 bad1 hby1 S4.rd
        generalize takeS 2 bs1 bad1 = T at hta ⊢
        obtain ⟨c, bs2, bad2⟩ := T
        dsimp only at hta ⊢
        (repeat' first
 | apply X.blockS
 | (apply X.condQ rfl; (focus (simp only [SB, reduceIte, Nat.reduceEqDiff, f0, f1, f2, f6]; with_reducible rfl)); all_goals (intro hbr; first | exact absurd hbr (by decide) | ((try rw [hbr]); (try simp at hbr))))
 | apply X.stepZ
 | (apply X.stepQ rfl; (focus (simp only [SB, reduceIte, Nat.reduceEqDiff, f0, f1, f2, f6]; with_reducible rfl)); (focus (simp [-getElem?_pos, -binA, v1, v2]; with_reducible (first | rfl | exact ⟨rfl, rfl⟩))))
 | fail)
        refine X.callRQ (P := _) rfl (by simp only [SB, reduceIte, Nat.reduceEqDiff, f0, f1, f2, f6]; all_goals (first | with_reducible rfl | (simp <;> with_reducible rfl))) HH.u.t.take.raw (by simp [pures]) (hta) ?_
        rintro _ h4 ⟨rfl, R4, B4⟩
        have S5 := S4.take R4 B4
        have x7 : ent h4 h3.length = .blk [.pv (.int .i64 6), .pv (.int .u8 0), .nils] (some 24) := (B4.old _ (by simp) (by simp; omega)).trans ent_at0
        have x6 : ent h4 h.length = _ := (B4.old _ (by simp; omega) (by simp; omega)).trans (x4 _)
        clear hta R4 B4 S4 x4 x3 S3
        (repeat' first
 | apply X.skipB
 | apply X.skipL
 | apply X.stepZ
 | (apply X.stepQ rfl; (focus (simp only [SB, reduceIte, Nat.reduceEqDiff, f0, f1, f2, f6]; with_reducible rfl)); (focus (simp [-getElem?_pos]; with_reducible (first | rfl | exact ⟨rfl, rfl⟩))))
 | fail)
        exact ⟨_, h3.length, _, ⟨S5, x6, hl3, _, x7⟩, by simp [f0, f1, f2, f6], rfl⟩
      · rw [if_neg k6]
        have v2 : binA .eql .no (.pv (.int .i64 k)) (.pv (.int .i64 6)) = some (.pv (.bool false)) := by simp [binA, intBin, k6]
        (repeat' first
 | apply X.skipS
 | apply X.skipB
 | apply X.skipL
 | apply X.blockS
 | (apply X.condQ rfl; (focus (simp only [SB, reduceIte, Nat.reduceEqDiff, f0, f1, f2, f6]; with_reducible rfl)); all_goals (intro hbr; first | exact absurd hbr (by decide) | ((try rw [hbr]); (try simp at hbr))))
 | apply X.stepZ
 | (apply X.stepQ rfl; (focus (simp only [SB, reduceIte, Nat.reduceEqDiff, f0, f1, f2, f6]; with_reducible rfl)); (focus (simp [-getElem?_pos, -binA, v1, v2]; with_reducible (first | rfl | exact ⟨rfl, rfl⟩))))
 | fail)
        exact ⟨_, h3.length, _, ⟨S4, x4 _, hl3, _, ent_at0⟩, by simp [f0, f1, f2, f6], rfl⟩
  have hpb := headT_byt (bad := bad0) hb
  have hpn := headT_n (bad := bad0) hb
  have hp0 : bad0 = true → (headT bs bad0).2.2.1 = -1 ∧ (headT bs bad0).2.2.2.2 = true := fun h => by rw [h, headT_bad]; exact ⟨rfl, rfl⟩
  clear hhd S3 x3 f0 f1 f2 f6 hby1 hmany
  generalize headT bs bad0 = p at hpb hpn hp0 ⊢
  obtain ⟨k, c, n, bs2, bad2⟩ := p
  dsimp only at hpb hpn hp0 ⊢
  rintro st ⟨hh, k7, f, ⟨S0, x6, hk7, ty7, x7⟩, ⟨f0, f1, f2, f6, f7, f8⟩, rfl⟩
  (repeat' first
 | apply X.blockS
 | apply X.stepZ
 | (apply X.stepQ rfl; (focus (simp only [SB, reduceIte, Nat.reduceEqDiff, f0, f1, f2, f6, f7, f8]; with_reducible rfl)); (focus (simp [-getElem?_pos]; with_reducible (first | rfl | exact ⟨rfl, rfl⟩))))
 | fail)
  have hst : bad2 = false → 0 ≤ left - 1 := fun h => hlt (by
    cases hb0 : bad0 with
 | false => rfl
 | true => have := (hp0 hb0).2; rw [h] at this; cases this)
  have hd0 : d = 0 → n = -1 := fun h => (hp0 (hbt h)).1
  clear hp0 hlt hbt
  generalize hQ : runV F n.toNat [] (left - 1) bs2 bad2 = Q
  refine X.forS n.toNat (fun j st => ∃ (hh : Heap) (L : V) (acc : List Va) (left2 : Int) (bs3 : List Int) (bad3 : Bool) (f : Nat → V), (VS h ri li left2 bs3 bad3 hh ∧ ent hh h.length = .blk [.pv (.int .i64 0), .pv (.int .u8 0), .nils] (some 24) ∧ (∃ ty, ent hh k7 = .blk [.pv (.int .i64 k), .pv (.int .u8 c), L] ty) ∧
      Rw h.length hh L (acc.map encV) ∧ Byt bs3 ∧ (bad3 = false → 0 ≤ left2) ∧ left2 ≤ 4000 ∧ runV F (n.toNat - j) acc left2 bs3 bad3 = Q ∧ acc.length = j) ∧
    (fk (Fk.mk (f := f)) 0 = .ptr ri 0 ∧ fk (Fk.mk (f := f)) 1 = .pv (.int .i64 (d : Int)) ∧ fk (Fk.mk (f := f)) 2 = .ptr li 0 ∧ fk (Fk.mk (f := f)) 6 = .ptr h.length 0 ∧ fk (Fk.mk (f := f)) 7 = .ptr k7 0 ∧ fk (Fk.mk (f := f)) 8 = .pv (.int .i64 n) ∧ fk (Fk.mk (f := f)) 9 = .pv (.int .i64 (j : Int))) ∧ st = ⟨TL 66 f, hh⟩) ?_ ?_
  · exact ⟨hh, .nils, [], left - 1, bs2, bad2, _, ⟨S0, x6, ⟨ty7, x7⟩, .inl ⟨rfl, rfl⟩, hpb, hst, by omega, hQ, rfl⟩, by simp [f0, f1, f2, f6, f7, f8], rfl⟩
  clear S0 x6 x7 ty7 f0 f1 f2 f6 f7 f8 hpb hst hQ
  rintro j st hj ⟨hh, L, acc, left2, bs3, bad3, f, ⟨S0, x6, ⟨ty7, x7⟩, W0, hb3, hl2, hl3, hru, hal⟩, ⟨f0, f1, f2, f6, f7, f8, f9⟩, rfl⟩
  obtain ⟨t1, y1⟩ := S0.rd
  have hk7' := Rp.ent_lt x7
  have hww : IntKind.i64.wrap ((j : Int) + 1) = (j : Int) + 1 := wrap_i64 (by omega)
  by_cases hc : j < n.toNat ∧ bad3 = false
  · obtain ⟨hc1, rfl⟩ := hc
    have hd1 : d ≠ 0 := fun h => by have := hd0 h; omega
    have ih' : ReadOk E ((d : Int) - 1) F := ih.resolve_left hd1
    have w1 : binA .lss .no (.pv (.int .i64 (j : Int))) (.pv (.int .i64 n)) = some (.pv (.bool true)) := by simp [binA, intBin]; omega
    have hwd : IntKind.i64.wrap ((d : Int) - 1) = (d : Int) - 1 := wrap_i64 (by omega)
    have w2 : binA .sub .no (.pv (.int .i64 (d : Int))) (.pv (.int .i64 1)) = some (.pv (.int .i64 ((d : Int) - 1))) := by simp [binA, intBin, hwd]
    have w3 : binA .add .no (.pv (.int .i64 (j : Int))) (.pv (.int .i64 1)) = some (.pv (.int .i64 ((j : Int) + 1))) := by simp [binA, intBin, hww]
    obtain ⟨m, hm⟩ : ∃ m, n.toNat - j = m + 1 := ⟨n.toNat - j - 1, by omega⟩
    rw [hm] at hru
    simp only [runV, Bool.false_eq_true, if_false] at hru
    obtain ⟨a1, a2, a3⟩ := hF left2 bs3 (hl2 rfl) hb3
    obtain ⟨t2, y2⟩ := S0.box
    have hms := ih'.masked (t := t2) S0.rd y2 hb3 (hl2 rfl) hl3 hne
    have hre := reach_two2 (d := (d : Int) - 1) S0.rd y2 hne
    have hrl := rd_lt S0.rd
    have hll := Rp.ent_lt y2
    generalize F left2 bs3 false = T at hru a1 a2 a3 hms
    obtain ⟨x, left4, bs4, bad4⟩ := T
    dsimp only at hru a1 a2 a3 hms
    (repeat' first
 | apply X.skipS
 | apply X.blockS
 | (apply X.condQ rfl; (focus (simp only [SB, reduceIte, Nat.reduceEqDiff, f0, f1, f2, f6, f7, f8, f9]; with_reducible rfl)); all_goals (intro hbr; first | exact absurd hbr (by decide) | ((try rw [hbr]); (try simp at hbr))))
 | apply X.stepZ
 | (apply X.stepQ rfl; (focus (simp only [SB, reduceIte, Nat.reduceEqDiff, f0, f1, f2, f6, f7, f8, f9]; with_reducible rfl)); (focus (simp [-getElem?_pos, -binA, w1, y1]; with_reducible (first | rfl | exact ⟨rfl, rfl⟩))))
 | ((first | apply X.stepGtQ rfl | apply X.stepGfQ rfl); (focus (simp only [SB, reduceIte, Nat.reduceEqDiff, f0, f1, f2, f6, f7, f8, f9]; with_reducible rfl)); all_goals (intro hbr; first | exact absurd hbr (by decide) | ((try rw [hbr]); (try simp at hbr))))
 | fail)
    refine X.drawC [57] [k7] rfl ?_
    (repeat' first
 | (apply XC.calmQ rfl rfl rfl; (focus (simp only [SB, reduceIte, Nat.reduceEqDiff, f0, f1, f2, f6, f7, f8, f9]; with_reducible rfl)); (focus (simp [-getElem?_pos, -binA, x7, w2]; done)); (focus (simp [-getElem?_pos, -binA, x7, w2]; with_reducible (first | rfl | exact ⟨rfl, rfl⟩))))
 | fail)
    refine XC.callX (P := fun r h' => VOut hh.length h' r x ∧ VS hh ri li left4 bs4 bad4 h') rfl (by simp only [SB, reduceIte, Nat.reduceEqDiff, f0, f1, f2, f6, f7, f8, f9]; all_goals (first | with_reducible rfl | (simp; done) | (simp <;> with_reducible rfl))) hre HH.value.raw HH.value.ext (by intro x hx; simp at hx ⊢; omega) (by intro x hx; simp at hx; omega) (by intro x hx; simp at hx; omega) hms ?_
    rintro r h4 ⟨⟨L2, c1, c2⟩, S4⟩
    have z6 : ent h4 h.length = _ := (S4.but.old _ (Rp.ent_lt x6) (by simp; omega)).trans x6
    have z7 : ent h4 k7 = _ := (S4.but.old _ hk7' (by simp; omega)).trans x7
    have W4 : Rw h.length h4 L (acc.map encV) := W0.but S4.but (by intro i hi; simp at hi; rcases hi with rfl | rfl <;> simp [y1, y2])
    have hl4 := S4.but.len
    have hbo := S0.but.trans S4.but
    obtain ⟨t3, y3⟩ := S4.box
    obtain ⟨t4, y4⟩ := S4.rd
    have hcell : L2.isCell = true := c2.cell
    have hwk : weak L2 = some (.sl (x.l.map encV)) := c2.weak
    clear hms hre W0 c2
    have hbs : opA E (limP E) (limR E) [] (mask [] h4) (.buildSl true false 3 [.pv (.int .i64 0), .pv (.int .u8 0), .nils] 1 [(0, .val r)]) = some (.slx [.agg [.int .i64 x.k, .int .u8 x.b, .sl (x.l.map encV)]], mask [] h4) := by
      have hfi : fillA [.pv (.int .i64 0), .pv (.int .u8 0), .nils] [(0, 3, r)] = some [.pv (.int .i64 x.k), .pv (.int .u8 x.b), L2] := by
        have hall : List.all [V.pv (.int .i64 x.k), .pv (.int .u8 x.b), L2] V.isCell = true := by simp only [List.all_cons, hcell, List.all_nil, Bool.and_true]; rfl
        simp only [fillA, c1]
        rw [if_pos ⟨rfl, by simp, hall⟩]
        rfl
      have e : opA E (limP E) (limR E) [] (mask [] h4) (.buildSl true false 3 [.pv (.int .i64 0), .pv (.int .u8 0), .nils] 1 [(0, .val r)]) =
          (match fillA [.pv (.int .i64 0), .pv (.int .u8 0), .nils] [(0, 3, r)] with
            | some cs => (match weak.weakL cs with
              | some ps => some (.slx ((chunks 3 1 ps).map (mkPV true)), mask [] h4)
              | none => none)
            | none => none) := rfl
      rw [e, hfi]
      simp only [weak.weakL, weak, hwk]
      rfl
    refine XC.makeQ (h1 := mask [] h4) rfl rfl rfl rfl (by simp only [SB, reduceIte, Nat.reduceEqDiff]) rfl rfl (by simp; omega) hbs (by simp [length_mask]) (by rw [merge_mask]) ?_
    have hap := W4.append_masked (E := E) x (by omega)
    refine XC.growQ (F := L.ids) (vop := .append true false 3 40 24 (.val L) (.val (.slx [.agg [.int .i64 x.k, .int .u8 x.b, .sl (x.l.map encV)]]))) rfl rfl rfl (by simp only [SB, reduceIte, Nat.reduceEqDiff]) (by show L.ids ++ [] = _; rw [List.append_nil]) ?_ (by simp; omega) (fun x hx => Ab.ent_lt (by rw [(W4.ids x hx).1]; simp)) hap (by simp [length_kill, length_mask]) (kill_mask W4) ?_
    · rw [List.all_eq_true]
      intro y hy
      have := (W4.ids y hy).1
      have : y ≠ k7 := by rintro rfl; rw [z7] at this; cases this
      simpa using this
    have u7 : ent (kill h4 L ++ [.tok]) k7 = _ := (W4.keep (by rw [z7]; simp) (by omega)).trans z7
    have u6 : ent (kill h4 L ++ [.tok]) h.length = _ := (W4.keep (by rw [z6]; simp) (Rp.ent_lt z6)).trans z6
    have u3 : ent (kill h4 L ++ [.tok]) li = _ := (W4.keep (by rw [y3]; simp) (by omega)).trans y3
    have u4 : ent (kill h4 L ++ [.tok]) ri = _ := (W4.keep (by rw [y4]; simp) (by omega)).trans y4
    have ub := W4.butK (l := [.tok]) hbo (Nat.le_refl _)
    have W5 : Rw h.length (kill h4 L ++ [.tok]) (.slt ((acc ++ [x]).map encV) h4.length) ((acc ++ [x]).map encV) := Rw.done (by simp) rfl (by omega)
    have hH : h4.length < (kill h4 L ++ [Ent.tok]).length := by simp [length_kill]
    clear hap hbs W4 z6 z7 y3 y4 hbo S4
    generalize kill h4 L ++ [Ent.tok] = H at u7 u6 u3 u4 ub W5 hH ⊢
    (repeat' first
 | (apply XC.calmQ rfl rfl rfl; (focus (simp only [SB, reduceIte, Nat.reduceEqDiff, f0, f1, f2, f6, f7, f8, f9]; with_reducible rfl)); (focus (simp [-getElem?_pos, u7]; done)); (focus (simp [-getElem?_pos, u7]; with_reducible (first | rfl | exact ⟨rfl, rfl⟩))))
 | fail)
    have hkH : k7 < H.length := by omega
    have um : ent (mask [k7] H) k7 = _ := (ent_mask_in (by simp)).trans u7
    have hst : opA E (limP E) (limR E) [] (mask [k7] H) (.store 1 (.val (.ptr k7 2)) (.val (.slt ((acc ++ [x]).map encV) h4.length))) = some (.tup [], (mask [k7] H).set k7 (.blk [.pv (.int .i64 k), .pv (.int .u8 c), .slt ((acc ++ [x]).map encV) h4.length] ty7)) := by
      simp [opA, um, St.eval]
    refine XC.loudQ (F := [k7]) (vop := .store 1 (.val (.ptr k7 2)) (.val (.slt ((acc ++ [x]).map encV) h4.length))) rfl rfl (by simp only [SB, reduceIte, Nat.reduceEqDiff, f7]) rfl hst (by simp [length_mask]) (merge_mask_set (by simp)) ?_
    apply XC.nil
    (repeat' first
 | apply X.skipB
 | apply X.skipL
 | apply X.stepZ
 | (apply X.stepQ rfl; (focus (simp only [SB, reduceIte, Nat.reduceEqDiff, f0, f1, f2, f6, f7, f8, f9]; with_reducible rfl)); (focus (simp [-getElem?_pos, -binA, w3]; with_reducible (first | rfl | exact ⟨rfl, rfl⟩))))
 | fail)
    refine ⟨hc1, _, .slt ((acc ++ [x]).map encV) h4.length, acc ++ [x], left4, bs4, bad4, _, ⟨⟨⟨t4, ?_⟩, ⟨t3, ?_⟩, ⟨by simp; exact ub.len, fun i hi hn => ?_⟩, hri, hli, hne⟩, ?_, ⟨ty7, by simp [ent, hkH]⟩, ?_, a3, a2, by omega, ?_, by simp [hal]⟩, by simp [f0, f1, f2, f6, f7, f8], rfl⟩
    · rw [ent_set_ne (by omega)]; exact u4
    · rw [ent_set_ne (by omega)]; exact u3
    · rw [ent_set_ne (by omega)]; exact ub.old i hi hn
    · rw [ent_set_ne (by omega)]; exact u6
    · exact W5.but (S := [k7]) (But.set (by simp)) (by intro i hi; simp at hi; subst hi; rw [u7]; simp)
    · rw [← hru]
      congr 1
      omega
  · have hfin : runV F (n.toNat - j) acc left2 bs3 bad3 = (acc, left2, bs3, bad3) := by
      cases hm : n.toNat - j with
      | zero => rfl
      | succ m =>
        have : bad3 = true := by
          cases bad3 with
          | true => rfl
          | false => exact absurd ⟨by omega, rfl⟩ hc
        simp [runV, this]
    rw [hfin] at hru
    subst hru
    have S6 := fun B => S0.up (B := B) (Nat.le_refl h.length)
    have W6 := fun B => W0.but (S := [h.length]) (But.set (i := h.length) (e := B) (by simp)) (by intro i hi; simp at hi; subst hi; rw [x6]; simp)
    have hh6 := Rp.ent_lt x6
    have hend : ∀ hh', hh' = hh.set h.length (.blk [.pv (.int .i64 k), .pv (.int .u8 c), L] (some 24)) → VOut h.length hh' (.agg [.pv (.int .i64 k), .pv (.int .u8 c), L]) (.mk k c acc) ∧ VS h ri li left2 bs3 bad3 hh' := fun hh' he => by
      subst he
      exact ⟨⟨L, rfl, W6 _⟩, S6 _⟩
    clear S6 W6 S0 hfin
    have hw : binA .lss .no (.pv (.int .i64 (j : Int))) (.pv (.int .i64 n)) = some (.pv (.bool false)) ∨ (binA .lss .no (.pv (.int .i64 (j : Int))) (.pv (.int .i64 n)) = some (.pv (.bool true)) ∧ bad3 = true) := by
      by_cases h1 : j < n.toNat
      · refine .inr ⟨by simp [binA, intBin]; omega, ?_⟩
        cases bad3 with
        | true => rfl
        | false => exact absurd ⟨h1, rfl⟩ hc
      · exact .inl (by simp [binA, intBin]; omega)
    clear hc ih hF
    rcases hw with w1 | ⟨w1, rfl⟩
    · rcases W0 with ⟨_, rfl⟩ | rfl | ⟨_, tok, rfl, _⟩
      · (repeat' first
 | apply X.retS
 | (apply X.exitS; first | apply X.here | (refine X.out (by decide) ?_; apply X.here))
 | (apply X.condQ rfl; (focus (simp only [SB, reduceIte, Nat.reduceEqDiff, f0, f1, f2, f6, f7, f8, f9]; with_reducible rfl)); all_goals (intro hbr; first | exact absurd hbr (by decide) | ((try rw [hbr]); (try simp at hbr))))
 | apply X.stepZ
 | (apply X.stepQ rfl; (focus (simp only [SB, reduceIte, Nat.reduceEqDiff, f0, f1, f2, f6, f7, f8, f9]; with_reducible rfl)); (focus (simp [-getElem?_pos, -binA, w1, y1, x6, x7]; with_reducible (first | rfl | exact ⟨rfl, rfl⟩))))
 | ((first | apply X.stepGtQ rfl | apply X.stepGfQ rfl); (focus (simp only [SB, reduceIte, Nat.reduceEqDiff, f0, f1, f2, f6, f7, f8, f9]; with_reducible rfl)); all_goals (intro hbr; first | exact absurd hbr (by decide) | ((try rw [hbr]); (try simp at hbr))))
 | fail)
        all_goals exact FinE.retQ (us := [.agg [.pv (.int .i64 k), .pv (.int .u8 c), .nils]]) rfl (by simp [resS, f6, ent_set hh6, pures]) (hend _ rfl)
      · (repeat' first
 | apply X.retS
 | (apply X.exitS; first | apply X.here | (refine X.out (by decide) ?_; apply X.here))
 | (apply X.condQ rfl; (focus (simp only [SB, reduceIte, Nat.reduceEqDiff, f0, f1, f2, f6, f7, f8, f9]; with_reducible rfl)); all_goals (intro hbr; first | exact absurd hbr (by decide) | ((try rw [hbr]); (try simp at hbr))))
 | apply X.stepZ
 | (apply X.stepQ rfl; (focus (simp only [SB, reduceIte, Nat.reduceEqDiff, f0, f1, f2, f6, f7, f8, f9]; with_reducible rfl)); (focus (simp [-getElem?_pos, -binA, w1, y1, x6, x7]; with_reducible (first | rfl | exact ⟨rfl, rfl⟩))))
 | ((first | apply X.stepGtQ rfl | apply X.stepGfQ rfl); (focus (simp only [SB, reduceIte, Nat.reduceEqDiff, f0, f1, f2, f6, f7, f8, f9]; with_reducible rfl)); all_goals (intro hbr; first | exact absurd hbr (by decide) | ((try rw [hbr]); (try simp at hbr))))
 | fail)
        all_goals exact FinE.retQ (us := [.agg [.pv (.int .i64 k), .pv (.int .u8 c), .slx (acc.map encV)]]) rfl (by simp [resS, f6, ent_set hh6, pures]) (hend _ rfl)
      · (repeat' first
 | apply X.retS
 | (apply X.exitS; first | apply X.here | (refine X.out (by decide) ?_; apply X.here))
 | (apply X.condQ rfl; (focus (simp only [SB, reduceIte, Nat.reduceEqDiff, f0, f1, f2, f6, f7, f8, f9]; with_reducible rfl)); all_goals (intro hbr; first | exact absurd hbr (by decide) | ((try rw [hbr]); (try simp at hbr))))
 | apply X.stepZ
 | (apply X.stepQ rfl; (focus (simp only [SB, reduceIte, Nat.reduceEqDiff, f0, f1, f2, f6, f7, f8, f9]; with_reducible rfl)); (focus (simp [-getElem?_pos, -binA, w1, y1, x6, x7]; with_reducible (first | rfl | exact ⟨rfl, rfl⟩))))
 | ((first | apply X.stepGtQ rfl | apply X.stepGfQ rfl); (focus (simp only [SB, reduceIte, Nat.reduceEqDiff, f0, f1, f2, f6, f7, f8, f9]; with_reducible rfl)); all_goals (intro hbr; first | exact absurd hbr (by decide) | ((try rw [hbr]); (try simp at hbr))))
 | fail)
        all_goals exact FinE.retQ (us := [.agg [.pv (.int .i64 k), .pv (.int .u8 c), .slt (acc.map encV) tok]]) rfl (by simp [resS, f6, ent_set hh6, pures]) (hend _ rfl)
    · rcases W0 with ⟨_, rfl⟩ | rfl | ⟨_, tok, rfl, _⟩
      · (repeat' first
 | apply X.retS
 | (apply X.exitS; first | apply X.here | (refine X.out (by decide) ?_; apply X.here))
 | (apply X.condQ rfl; (focus (simp only [SB, reduceIte, Nat.reduceEqDiff, f0, f1, f2, f6, f7, f8, f9]; with_reducible rfl)); all_goals (intro hbr; first | exact absurd hbr (by decide) | ((try rw [hbr]); (try simp at hbr))))
 | apply X.stepZ
 | (apply X.stepQ rfl; (focus (simp only [SB, reduceIte, Nat.reduceEqDiff, f0, f1, f2, f6, f7, f8, f9]; with_reducible rfl)); (focus (simp [-getElem?_pos, -binA, w1, y1, x6, x7]; with_reducible (first | rfl | exact ⟨rfl, rfl⟩))))
 | ((first | apply X.stepGtQ rfl | apply X.stepGfQ rfl); (focus (simp only [SB, reduceIte, Nat.reduceEqDiff, f0, f1, f2, f6, f7, f8, f9]; with_reducible rfl)); all_goals (intro hbr; first | exact absurd hbr (by decide) | ((try rw [hbr]); (try simp at hbr))))
 | fail)
        all_goals exact FinE.retQ (us := [.agg [.pv (.int .i64 k), .pv (.int .u8 c), .nils]]) rfl (by simp [resS, f6, ent_set hh6, pures]) (hend _ rfl)
      · (repeat' first
 | apply X.retS
 | (apply X.exitS; first | apply X.here | (refine X.out (by decide) ?_; apply X.here))
 | (apply X.condQ rfl; (focus (simp only [SB, reduceIte, Nat.reduceEqDiff, f0, f1, f2, f6, f7, f8, f9]; with_reducible rfl)); all_goals (intro hbr; first | exact absurd hbr (by decide) | ((try rw [hbr]); (try simp at hbr))))
 | apply X.stepZ
 | (apply X.stepQ rfl; (focus (simp only [SB, reduceIte, Nat.reduceEqDiff, f0, f1, f2, f6, f7, f8, f9]; with_reducible rfl)); (focus (simp [-getElem?_pos, -binA, w1, y1, x6, x7]; with_reducible (first | rfl | exact ⟨rfl, rfl⟩))))
 | ((first | apply X.stepGtQ rfl | apply X.stepGfQ rfl); (focus (simp only [SB, reduceIte, Nat.reduceEqDiff, f0, f1, f2, f6, f7, f8, f9]; with_reducible rfl)); all_goals (intro hbr; first | exact absurd hbr (by decide) | ((try rw [hbr]); (try simp at hbr))))
 | fail)
        all_goals exact FinE.retQ (us := [.agg [.pv (.int .i64 k), .pv (.int .u8 c), .slx (acc.map encV)]]) rfl (by simp [resS, f6, ent_set hh6, pures]) (hend _ rfl)
      · (repeat' first
 | apply X.retS
 | (apply X.exitS; first | apply X.here | (refine X.out (by decide) ?_; apply X.here))
 | (apply X.condQ rfl; (focus (simp only [SB, reduceIte, Nat.reduceEqDiff, f0, f1, f2, f6, f7, f8, f9]; with_reducible rfl)); all_goals (intro hbr; first | exact absurd hbr (by decide) | ((try rw [hbr]); (try simp at hbr))))
 | apply X.stepZ
 | (apply X.stepQ rfl; (focus (simp only [SB, reduceIte, Nat.reduceEqDiff, f0, f1, f2, f6, f7, f8, f9]; with_reducible rfl)); (focus (simp [-getElem?_pos, -binA, w1, y1, x6, x7]; with_reducible (first | rfl | exact ⟨rfl, rfl⟩))))
 | ((first | apply X.stepGtQ rfl | apply X.stepGfQ rfl); (focus (simp only [SB, reduceIte, Nat.reduceEqDiff, f0, f1, f2, f6, f7, f8, f9]; with_reducible rfl)); all_goals (intro hbr; first | exact absurd hbr (by decide) | ((try rw [hbr]); (try simp at hbr))))
 | fail)
        all_goals exact FinE.retQ (us := [.agg [.pv (.int .i64 k), .pv (.int .u8 c), .slt (acc.map encV) tok]]) rfl (by simp [resS, f6, ent_set hh6, pures]) (hend _ rfl)

theorem ReadOk.congr {d : Int} {f g : Int → List Int → Bool → Va × Int × List Int × Bool} (e : ∀ l b x, f l b x = g l b x) (h : ReadOk E d f) : ReadOk E d g := by
  have : f = g := by funext l b x; exact e l b x
  rw [← this]
  exact h
theorem value_ok (HH : HasW E) : ∀ d : Nat, d ≤ 1000 → ReadOk E d (valT d)
  | 0, _ => ReadOk.congr (fun l b x => by simp [headT_bad, runV, valT]) (value_body HH 0 (by omega) (fun left bs _ => (.mk 0 0 [], left, bs, true)) (fun left bs h1 h2 => ⟨Int.le_refl _, fun h => (by cases h), h2⟩) (.inl rfl))
  | d + 1, hd => ReadOk.congr (fun l b x => by simp [valT]) (value_body HH (d + 1) hd (valT d) (fun left bs h1 h2 => val_left d left bs h1 h2) (.inr (by have := value_ok HH d (by omega); simpa using this)))
end Rp
