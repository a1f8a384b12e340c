/- SyC: steps, walks, laws: see the remarks within. -/
import Derived.Test.YtdacifedlemlmaaSyB
set_option linter.unusedSimpArgs false
set_option linter.unusedVariables false
-- report.Put: walked.
namespace Rp
open Go Ab Go.Proofs.Ytdacifedlemlmaa.Mach
variable {E : Env}

def spanB (s : Sp) : List Int := if s.1 = -1 then [0] else 1 :: (putN s.1 ++ putN s.2)
def putS (e a b : Int) (sp : List Sp) (v : Va) (q : Nat) : List Int :=
  if goodS e a b sp v q = true then (if e ≠ 0 then [by8 e] else (by8 0 :: (putN a ++ (putN b ++ [by8 (sp.length : Int)]))) ++ sp.tail.flatMap spanB ++ valS v ++ scoreB q) else []

structure HasPut (E : Env) : Prop where
  p : HasP E
  g : HasG E
  rg : E.raw 16 = false

structure Old (h h' : Heap) : Prop where
  len : h.length ≤ h'.length
  old : ∀ i, i < h.length → ent h' i = ent h i

structure PS (h : Heap) (k : Nat) (Y : List V) (hh : Heap) (b : V) (es : List PV) : Prop where
  buf : Buf hh 5 b es
  box : ∃ ty, ent hh k = .blk Y ty
  lt : k < hh.length
  ne : idOf b ≠ some k
  id : ∀ i, idOf b = some i → h.length ≤ i
  old : Old h hh
theorem PS.step {h hh h2 : Heap} {k : Nat} {Y : List V} {b b2 : V} {es es2 : List PV} (P : PS h k Y hh b es) (B : Buf h2 5 b2 es2) (F : Fr hh b h2 b2) : PS h k Y h2 b2 es2 := by
  refine ⟨B, ?_, Nat.lt_of_lt_of_le P.lt F.len, fun hh => ?_, fun i hi => ?_, ⟨Nat.le_trans P.old.len F.len, fun i hi => ?_⟩⟩
  · rw [F.old _ P.lt P.ne]; exact P.box
  · rcases F.id k hh with h1 | h1
    · exact P.ne h1
    · have := P.lt; omega
  · rcases F.id i hi with h1 | h1
    · exact P.id i h1
    · have := P.old.len; omega
  · rw [F.old i (Nat.lt_of_lt_of_le hi P.old.len) (fun hh => by have := P.id _ hh; omega)]; exact P.old.old i hi
theorem PS.more {h hh l : Heap} {k : Nat} {Y : List V} {b : V} {es : List PV} (P : PS h k Y hh b es) : PS h k Y (hh ++ l) b es := by
  obtain ⟨ty, hb⟩ := P.box
  refine ⟨P.buf.more, ⟨ty, ent_app hb (by simp)⟩, by have := P.lt; simp; omega, P.ne, P.id, ⟨by have := P.old.len; simp; omega, fun i hi => ?_⟩⟩
  rw [← P.old.old i hi]
  have : i < hh.length := Nat.lt_of_lt_of_le hi P.old.len
  simp only [ent, List.getElem?_append_left this]
theorem PS.put {h hh : Heap} {k : Nat} {Y Z : List V} {b : V} {es : List PV} {t : Option TypeId} (P : PS h k Y hh b es) : PS h hh.length Z (hh ++ [.blk Z t]) b es :=
  ⟨P.buf.more, ⟨t, ent_at0⟩, by simp, fun hk => by have := P.buf.lt hk; omega, P.id, (P.more (l := [.blk Z t])).old⟩
theorem PS.off {h hh : Heap} {k : Nat} {Y : List V} {b : V} {es : List PV} (P : PS h k Y hh b es) : ∀ x ∈ FB b, x ∉ [k] := fun x hx => by
  unfold FB at hx
  split at hx
  · rename_i i hi
    simp only [List.mem_singleton] at hx ⊢
    subst hx
    rintro rfl
    exact P.ne hi
  · cases hx
theorem PS.low {h hh : Heap} {k : Nat} {Y : List V} {b : V} {es : List PV} (P : PS h k Y hh b es) : ∀ x ∈ FB b, x < hh.length := fun x hx => by
  unfold FB at hx
  split at hx
  · rename_i i hi
    simp only [List.mem_singleton] at hx
    subst hx
    exact P.buf.lt hi
  · cases hx

theorem valL_len (l : List Va) (d : Int) (ih : ∀ x ∈ l, ∀ n : Int, (shS x d n).1 = true → ((valS x).length : Int) ≤ 3 * (n - (shS x d n).2)) : ∀ n : Int, (shS.shL l d n).1 = true → ((valS.valL l).length : Int) ≤ 3 * (n - (shS.shL l d n).2) := by
  induction l with
  | nil => intro n _; simp [shS.shL, valS.valL]
  | cons x l ihl =>
    intro n h
    simp only [shS.shL] at h ⊢
    by_cases hx : (shS x d n).1 = true
    · rw [if_pos hx] at h ⊢
      have h1 := ih x (by simp) n hx
      have h2 := ihl (fun y hy => ih y (by simp [hy])) _ h
      simp only [valS.valL, List.length_append]
      omega
    · rw [if_neg hx] at h; cases h
theorem val_len : ∀ v, ∀ d n : Int, (shS v d n).1 = true → ((valS v).length : Int) ≤ 3 * (n - (shS v d n).2) := by
  refine Va.ind fun v ih d n h => ?_
  rw [shS_eq] at h ⊢
  split at h
  · cases h
  · rename_i hc
    rw [if_neg hc]
    have h1 := valL_len v.l (d - 1) (fun x hx n hn => ih x hx (d - 1) n hn) (n - 1) h
    have h2 : ((headS v).length : Int) ≤ 3 := by
      unfold headS
      split
      · simp
      · split <;> simp
    rw [valS_eq, List.length_append]
    omega

set_option maxHeartbeats 16000000 in
theorem put_body (HH : HasPut E) (e a b : Int) (sp : List Sp) (v : Va) (q : Nat) (hl : sp.length ≤ 9223372036854775807) (hf : FineV v) (h : Heap) :
    X E (app c28.body .skip) ⟨TL c28.ntmps (argF [.pv (encR e a b sp v q)]), h⟩ (FinE c28.results fun r h' => Buf h' 5 r (encB (putS e a b sp v q)) ∧ Old h h') := by
  have hg := good_ok HH.g e a b sp v q hl hf
  unfold putS
  unfold c28
  simp only [encR] at hg ⊢
  cases hgd : goodS e a b sp v q with
  | false =>
    rw [hgd] at hg
    simp only [Bool.false_eq_true, if_false]
    (repeat' first
 | apply X.retS
 | (apply X.condQ rfl; (focus (simp only [SB, reduceIte, Nat.reduceEqDiff]; with_reducible rfl)); all_goals (intro hbr; first | exact absurd hbr (by decide) | ((try rw [hbr]); (try simp at hbr))))
 | apply X.stepZ
 | (apply X.stepQ rfl; (focus (simp only [SB, reduceIte, Nat.reduceEqDiff]; with_reducible rfl)); (focus (simp [-getElem?_pos, HH.rg, hg]; with_reducible (first | rfl | exact ⟨rfl, rfl⟩))))
 | fail)
    all_goals exact FinE.retQ (us := [.nils]) rfl (by simp [resS]) ⟨Buf.nil, ⟨by simp, fun i hi => by simp [ent, List.getElem?_append_left hi]⟩⟩
  | true =>
  rw [hgd] at hg
  simp only [if_true]
  by_cases he : e ≠ 0
  · rw [if_pos he]
    have w1 : binA .neq .no (.pv (.int .i64 e)) (.pv (.int .i64 0)) = some (.pv (.bool true)) := by simp [binA, intBin, he]
    (repeat' first
 | apply X.retS
 | apply X.skipS
 | (apply X.condQ rfl; (focus (simp only [SB, reduceIte, Nat.reduceEqDiff]; with_reducible rfl)); all_goals (intro hbr; first | exact absurd hbr (by decide) | ((try rw [hbr]); (try simp at hbr))))
 | apply X.stepZ
 | (apply X.stepQ rfl; (focus (simp only [SB, reduceIte, Nat.reduceEqDiff]; with_reducible rfl)); (focus (simp [-getElem?_pos, -binA, HH.rg, hg, w1]; with_reducible (first | rfl | exact ⟨rfl, rfl⟩))))
 | fail)
    all_goals refine FinE.retQ (us := [.sln (h.length + 1) 0 1 1 false]) rfl (by simp [resS]) ⟨?_, ⟨by simp, fun i hi => by simp [ent, List.getElem?_append_left hi]⟩⟩
    all_goals exact .inr ⟨by simp [encB], h.length + 1, rfl, none, by simp [ent_at, encB, by8, ent]⟩
  · rw [if_neg he]
    have he0 : e = 0 := by omega
    subst he0
    have w1 : binA .neq .no (.pv (.int .i64 0)) (.pv (.int .i64 0)) = some (.pv (.bool false)) := by simp [binA, intBin]
    have hll : (sp.map encS).length = sp.length := by simp
    have hgd2 : spansS a b sp = true ∧ (shS v 500 2000).1 = true := by
      simp only [goodS] at hgd
      rw [if_neg (by omega), if_neg (by simp)] at hgd
      simp only [Bool.and_eq_true] at hgd
      exact hgd.2
    obtain ⟨hspS, hshS⟩ := hgd2
    have hvl : (valS v).length ≤ 6003 := by
      have h1 := val_len v 500 2000 hshS
      have h2 := (shS_le v 500 2000).2.1 (by omega)
      omega
    have hsl : sp.length ≤ 33 := by
      unfold spansS at hspS
      split at hspS
      · cases hspS
      · simp only [Bool.and_eq_true, decide_eq_true_eq] at hspS; omega
    obtain ⟨s0, r, hsr⟩ : ∃ s r, sp = s :: r := by
      cases sp with
      | nil => cases hspS
      | cons s r => exact ⟨s, r, rfl⟩
    clear hspS hshS
    (repeat' first
 | apply X.skipS
 | (apply X.condQ rfl; (focus (simp only [SB, reduceIte, Nat.reduceEqDiff]; with_reducible rfl)); all_goals (intro hbr; first | exact absurd hbr (by decide) | ((try rw [hbr]); (try simp at hbr))))
 | apply X.stepZ
 | (apply X.stepQ rfl; (focus (simp only [SB, reduceIte, Nat.reduceEqDiff]; with_reducible rfl)); (focus (simp [-getElem?_pos, -binA, HH.rg, hg, w1]; with_reducible (first | rfl | exact ⟨rfl, rfl⟩))))
 | fail)
    refine X.abs2 (fun st => ∃ (hh : Heap) (b1 : V) (f : Nat → V), PS h h.length [.pv (.int .i64 0), .pv (.int .i64 a), .pv (.int .i64 b), .pv (.sl (sp.map encS)), .pv (.int .i64 v.k), .pv (.int .u8 v.b), .pv (.sl (v.l.map encV)), .pv (.flt .f64 q)] hh b1 (encB [by8 0]) ∧ (fk (Fk.mk (f := f)) 1 = .ptr h.length 0 ∧ fk (Fk.mk (f := f)) 3 = b1) ∧ st = ⟨TL 62 f, hh⟩) ?_ ?_
    · refine ⟨_, .sln (h.length + 1) 0 1 1 false, _, ⟨.inr ⟨by simp [encB], h.length + 1, rfl, none, ?_⟩, ⟨none, ?_⟩, by simp, by simp [idOf], fun i hi => ?_, ⟨by simp, fun i hi => ?_⟩⟩, by simp, rfl⟩
      · simp [ent_at, encB, by8, ent]
      · exact ent_at0
      · cases hi; omega
      · simp [ent, List.getElem?_append_left hi]
    rintro st ⟨h1, b1, f, P1, ⟨f1, f3⟩, rfl⟩
    clear hg
    refine X.drawC [52, 53] [h.length] rfl ?_
    have l1 := P1.lt
    obtain ⟨t1, x1⟩ := P1.box
    (repeat' first
 | (apply XC.calmQ rfl rfl rfl; (focus (simp only [SB, reduceIte, Nat.reduceEqDiff, f1, f3]; with_reducible rfl)); (focus (simp [-getElem?_pos, x1]; done)); (focus (simp [-getElem?_pos, x1]; with_reducible (first | rfl | exact ⟨rfl, rfl⟩))))
 | fail)
    refine XC.callX (P := fun b' h' => Buf h' 5 b' (encB [by8 0] ++ encB (putN a)) ∧ Fr h1 b1 h' b') rfl (by simp only [SB, reduceIte, Nat.reduceEqDiff, f1, f3]; all_goals (first | with_reducible rfl | (simp; done) | (simp <;> with_reducible rfl))) (reach_buf P1.buf (by simp [V.ids])) HH.p.put.raw HH.p.put.ext P1.off (by intro x hx; simp at hx; subst hx; exact P1.lt) P1.low (Buf.call_masked P1.buf fun hx hbx => put_ok HH.p a hx _ _ hbx (by simp [encB_len])) ?_
    rintro b2 h2 ⟨B2, F2⟩
    have P2 := P1.step B2 F2
    have l2 := P2.lt
    obtain ⟨t2, x2⟩ := P2.box
    (repeat' first
 | (apply XC.calmQ rfl rfl rfl; (focus (simp only [SB, reduceIte, Nat.reduceEqDiff, f1, f3]; with_reducible rfl)); (focus (simp [-getElem?_pos, x2]; done)); (focus (simp [-getElem?_pos, x2]; with_reducible (first | rfl | exact ⟨rfl, rfl⟩))))
 | fail)
    refine XC.callX (P := fun b' h' => Buf h' 5 b' (encB [by8 0] ++ encB (putN a) ++ encB (putN b)) ∧ Fr h2 b2 h' b') rfl (by simp only [SB, reduceIte, Nat.reduceEqDiff, f1, f3]; all_goals (first | with_reducible rfl | (simp; done) | (simp <;> with_reducible rfl))) (reach_buf P2.buf (by simp [V.ids])) HH.p.put.raw HH.p.put.ext P2.off (by intro x hx; simp at hx; subst hx; exact P2.lt) P2.low (Buf.call_masked P2.buf fun hx hbx => put_ok HH.p b hx _ _ hbx (by simp [encB_len, putN])) ?_
    rintro b3 h3 ⟨B3, F3⟩
    have P3 := P2.step B3 F3
    have l3 := P3.lt
    obtain ⟨t3, x3⟩ := P3.box
    (repeat' first
 | (apply XC.calmQ rfl rfl rfl; (focus (simp only [SB, reduceIte, Nat.reduceEqDiff, f1, f3]; with_reducible rfl)); (focus (simp [-getElem?_pos, x3, hll]; done)); (focus (simp [-getElem?_pos, x3, hll]; with_reducible (first | rfl | exact ⟨rfl, rfl⟩))))
 | (apply XC.makeQ rfl rfl rfl rfl; (focus (simp only [SB, reduceIte, Nat.reduceEqDiff, f1, f3]; with_reducible rfl)); (focus rfl); (focus (simp; done)); (focus (first | (simp; done) | (simp; omega))); (focus (simp [-getElem?_pos, x3, hll]; with_reducible (first | rfl | exact ⟨rfl, rfl⟩))); (focus (simp; done)); (focus (simp [-getElem?_pos, x3, hll]; with_reducible rfl)))
 | fail)
    obtain ⟨ty, g1, e1, e2, e3⟩ := P3.buf.append_masked (E := E) (p := limP E) (r := limR E) [by8 (sp.length : Int)] (by simp) (by simp [encB_len, putN]) rfl
    refine XC.growQ (h1 := g1) (F := FB b3 ++ [h3.length]) (vop := .append false true 1 1 5 (.val b3) (.val (.sln h3.length 0 1 1 false))) rfl rfl rfl (by simp only [SB, reduceIte, Nat.reduceEqDiff, f1, f3]; all_goals (first | with_reducible rfl | (simp; done) | (simp <;> with_reducible rfl))) (by show V.ids b3 ++ [h3.length] = _; rw [P3.buf.ids]) ?_ ?_ ?_ e1 e2 e3 ?_
    · rw [List.all_eq_true]
      intro x hx
      have hlt := P3.lt
      rcases List.mem_append.1 hx with hx | hx
      · have := P3.off x hx
        simpa using this
      · simp only [List.mem_singleton] at hx
        subst hx
        simp
        omega
    · intro x hx
      have hlt := P3.lt
      simp only [List.mem_singleton] at hx
      subst hx
      simp
      omega
    · intro x hx
      rcases List.mem_append.1 hx with hx | hx
      · have := P3.low x hx
        simp
        omega
      · simp only [List.mem_singleton] at hx
        subst hx
        simp
    obtain ⟨c1, c2, _, _, _⟩ := P3.buf.grow [.blk ([by8 (sp.length : Int)].map fun x => V.pv (.int .u8 x)) none] [by8 (sp.length : Int)] (by simp) (ty := ty) (n := h3.length + 1) (m := (encB [by8 0] ++ encB (putN a) ++ encB (putN b)).length + ([by8 (sp.length : Int)]).length) rfl rfl rfl
    clear e1 e2 e3
    generalize killB h3 b3 ++ ([Ent.blk ([by8 (sp.length : Int)].map fun x => V.pv (.int .u8 x)) none] ++ [Ent.blk ((encB [by8 0] ++ encB (putN a) ++ encB (putN b) ++ encB [by8 (sp.length : Int)]).map V.pv) ty]) = H at c1 c2 ⊢
    generalize V.sln (h3.length + 1) 0 ((encB [by8 0] ++ encB (putN a) ++ encB (putN b)).length + ([by8 (sp.length : Int)]).length) 1 false = B at c1 c2 ⊢
    have P4 := P3.step c1 c2
    clear c1 c2 P1 P2 B2 F2 B3 F3
    have hes : encB [by8 0] ++ encB (putN a) ++ encB (putN b) ++ encB [by8 (sp.length : Int)] = encB (by8 0 :: (putN a ++ (putN b ++ [by8 (sp.length : Int)]))) := by simp [encB]
    rw [hes] at P4
    have hhd : (by8 0 :: (putN a ++ (putN b ++ [by8 (sp.length : Int)]))).length = 10 := by simp [putN]
    generalize by8 0 :: (putN a ++ (putN b ++ [by8 (sp.length : Int)])) = hd at P4 hhd ⊢
    (repeat' first
 | apply XC.nil
 | (apply XC.calmQ rfl rfl rfl; (focus (simp only [SB, reduceIte, Nat.reduceEqDiff, f1, f3]; with_reducible rfl)); (focus (simp [-getElem?_pos]; done)); (focus (simp [-getElem?_pos]; with_reducible (first | rfl | exact ⟨rfl, rfl⟩))))
 | fail)
    refine X.abs2 (fun st => ∃ (hh : Heap) (b1 : V) (f : Nat → V), PS h h.length [.pv (.int .i64 0), .pv (.int .i64 a), .pv (.int .i64 b), .pv (.sl (sp.map encS)), .pv (.int .i64 v.k), .pv (.int .u8 v.b), .pv (.sl (v.l.map encV)), .pv (.flt .f64 q)] hh b1 (encB hd) ∧ (fk (Fk.mk (f := f)) 1 = .ptr h.length 0 ∧ fk (Fk.mk (f := f)) 3 = b1) ∧ st = ⟨TL 62 f, hh⟩) ?_ ?_
    · refine ⟨_, _, _, P4, ?_, rfl⟩
      simp [f1]
    clear P4 P3 l1 l2 l3 x1 x2 x3 f1 f3
    rintro st ⟨h1, b1, f, P1, ⟨f1, f3⟩, rfl⟩
    obtain ⟨ty, x1⟩ := P1.box
    have htl := slice_tl s0 r
    rw [← hsr] at htl
    have hrl : r.length ≤ 32 := by rw [hsr] at hsl; simp at hsl; omega
    have hlr : (r.map encS).length = r.length := by simp
    have htail : sp.tail = r := by rw [hsr]; rfl
    rw [htail]
    clear htail hsr hsl hll
    (repeat' first
 | apply X.blockS
 | apply X.stepZ
 | (apply X.stepQ rfl; (focus (simp only [SB, reduceIte, Nat.reduceEqDiff, f1, f3]; with_reducible rfl)); (focus (simp [-getElem?_pos, x1, ent_app x1, -sliceSlA, htl, hlr]; with_reducible (first | rfl | exact ⟨rfl, rfl⟩))))
 | fail)
    clear x1 htl
    refine X.forS r.length (fun j st => ∃ (hh : Heap) (b1 : V) (es : List Int) (f : Nat → V), (PS h h.length [.pv (.int .i64 0), .pv (.int .i64 a), .pv (.int .i64 b), .pv (.sl (sp.map encS)), .pv (.int .i64 v.k), .pv (.int .u8 v.b), .pv (.sl (v.l.map encV)), .pv (.flt .f64 q)] hh b1 (encB es) ∧ es ++ (r.drop j).flatMap spanB = hd ++ r.flatMap spanB ∧ es.length ≤ 10 + 9 * j) ∧ (fk (Fk.mk (f := f)) 1 = .ptr h.length 0 ∧ fk (Fk.mk (f := f)) 3 = b1 ∧ fk (Fk.mk (f := f)) 32 = .pv (.sl (r.map encS)) ∧ fk (Fk.mk (f := f)) 33 = .pv (.int .i64 (r.length : Int)) ∧ fk (Fk.mk (f := f)) 34 = .pv (.int .i64 (j : Int))) ∧ st = ⟨TL 62 f, hh⟩) ?_ ?_
    · exact ⟨_, _, hd, _, ⟨P1, rfl, by omega⟩, by simp [f1, f3], rfl⟩
    clear P1 f1 f3
    rintro j st hj ⟨h1, b1, es, f, ⟨P1, hi, hlen⟩, ⟨f1, f3, f32, f33, f34⟩, rfl⟩
    rcases Nat.lt_or_ge j r.length with hj1 | hj1
    · have hj2 : (j : Int) < (r.length : Int) := by omega
      have hww : IntKind.i64.wrap ((j : Int) + 1) = (j : Int) + 1 := wrap_i64 (by omega)
      obtain ⟨x, hx⟩ := at_of_lt hj1
      have hx2 : (r.map encS)[j]? = some (.agg [.int .i64 x.1, .int .i64 x.2]) := by simp [hx, encS]
      rw [drop_at hx, List.flatMap_cons] at hi
      by_cases hx1 : x.1 = -1
      · have hsb : spanB x = [0] := by simp [spanB, hx1]
        rw [hsb] at hi
        obtain ⟨ty, happ⟩ : ∃ ty, ∀ l : Heap, appendA (h1 ++ l) false true 1 1 5 b1 1 [.pv (.int .u8 0)] = some (.sln (h1.length + l.length) 0 (es.length + 1) 1 false, killB h1 b1 ++ (l ++ [.blk ((encB es ++ encB [0]).map .pv) ty])) := by
          have := P1.buf.appB [0] (by simp) (bytes := 1) (by simp [encB_len]; omega)
          simpa [encB_len] using this
        (repeat' first
 | apply X.skipS
 | apply X.skipL
 | (apply X.exitS; first | apply X.here | (refine X.out (by decide) ?_; apply X.here))
 | apply X.blockS
 | (apply X.condQ rfl; (focus (simp only [SB, reduceIte, Nat.reduceEqDiff, f1, f3, f32, f33, f34]; with_reducible rfl)); all_goals (intro hbr; first | exact absurd hbr (by decide) | ((try rw [hbr]); (try simp at hbr))))
 | apply X.stepZ
 | (apply X.stepQ rfl; (focus (simp only [SB, reduceIte, Nat.reduceEqDiff, f1, f3, f32, f33, f34]; with_reducible rfl)); (focus (simp [-getElem?_pos, hj1, hj2, hx, hx2, encS, hx1, happ, killB_at0, killB_at, hww]; with_reducible (first | rfl | exact ⟨rfl, rfl⟩))))
 | fail)
        obtain ⟨c1, c2, _, _, _⟩ := P1.buf.grow [.blk [.pv (.int .i64 (-1)), .pv (.int .i64 x.2)] (some 62), .blk [.pv (.int .u8 0)] none] [0] (by simp) (ty := ty) rfl rfl rfl
        have P2 := P1.step c1 c2
        rw [← encB_app] at P2
        refine ⟨hj1, _, .sln (h1.length + 2) 0 (es.length + 1) 1 false, es ++ [0], _, ⟨?_, by rw [← hi]; simp, by simp; omega⟩, ?_, rfl⟩
        · simpa [encB_len, encB_app, hx1] using P2
        · simp [f1, f32, f33]
      · have hsb : spanB x = 1 :: (putN x.1 ++ putN x.2) := by simp [spanB, hx1]
        rw [hsb] at hi
        have w2 : binA .eql .no (.pv (.int .i64 x.1)) (.pv (.int .i64 (-1))) = some (.pv (.bool false)) := by simp [binA, intBin, hx1]
        have w3 : binA .lss .no (.pv (.int .i64 (j : Int))) (.pv (.int .i64 (r.length : Int))) = some (.pv (.bool true)) := by simp [binA, intBin, hj2]
        have w4 : binA .add .no (.pv (.int .i64 (j : Int))) (.pv (.int .i64 1)) = some (.pv (.int .i64 ((j : Int) + 1))) := by simp [binA, intBin, hww]
        (repeat' first
 | apply X.skipS
 | apply X.blockS
 | (apply X.condQ rfl; (focus (simp only [SB, reduceIte, Nat.reduceEqDiff, f1, f3, f32, f33, f34]; with_reducible rfl)); all_goals (intro hbr; first | exact absurd hbr (by decide) | ((try rw [hbr]); (try simp at hbr))))
 | apply X.stepZ
 | (apply X.stepQ rfl; (focus (simp only [SB, reduceIte, Nat.reduceEqDiff, f1, f3, f32, f33, f34]; with_reducible rfl)); (focus (simp [-getElem?_pos, -binA, hj1, hx, hx2, encS, w2, w3]; with_reducible (first | rfl | exact ⟨rfl, rfl⟩))))
 | fail)
        refine X.drawC [52, 53] [h1.length] rfl ?_
        have Q1 : PS h h1.length [.pv (.int .i64 x.1), .pv (.int .i64 x.2)] (h1 ++ [.blk [.pv (.int .i64 x.1), .pv (.int .i64 x.2)] (some 62)]) b1 (encB es) := P1.put
        have P1' := P1.more (l := [.blk [.pv (.int .i64 x.1), .pv (.int .i64 x.2)] (some 62)])
        generalize hG : h1 ++ [Ent.blk [V.pv (PV.int IntKind.i64 x.1), V.pv (PV.int IntKind.i64 x.2)] (some 62)] = G at Q1 P1' ⊢
        clear hG
        have l1 := Q1.lt
        obtain ⟨t1, x1⟩ := Q1.box
        (repeat' first
 | (apply XC.calmQ rfl rfl rfl; (focus (simp only [SB, reduceIte, Nat.reduceEqDiff, f1, f3]; with_reducible rfl)); (focus (simp [-getElem?_pos, x1]; done)); (focus (simp [-getElem?_pos, x1]; with_reducible (first | rfl | exact ⟨rfl, rfl⟩))))
 | (apply XC.makeQ rfl rfl rfl rfl; (focus (simp only [SB, reduceIte, Nat.reduceEqDiff, f1, f3]; with_reducible rfl)); (focus rfl); (focus (simp; done)); (focus (first | (simp; done) | (simp; omega))); (focus (simp [-getElem?_pos, x1]; with_reducible (first | rfl | exact ⟨rfl, rfl⟩))); (focus (simp; done)); (focus (simp [-getElem?_pos, x1]; with_reducible rfl)))
 | fail)
        obtain ⟨ty, g1, e1, e2, e3⟩ := Q1.buf.append_masked (E := E) (p := limP E) (r := limR E) [(1 : Int)] (by simp) (by simp [encB_len]; omega) rfl
        refine XC.growQ (h1 := g1) (F := FB b1 ++ [G.length]) (vop := .append false true 1 1 5 (.val b1) (.val (.sln G.length 0 1 1 false))) rfl rfl rfl (by simp only [SB, reduceIte, Nat.reduceEqDiff, f1, f3]; all_goals (first | with_reducible rfl | (simp; done) | (simp <;> with_reducible rfl))) (by show V.ids b1 ++ [G.length] = _; rw [Q1.buf.ids]) ?_ ?_ ?_ e1 e2 e3 ?_
        · rw [List.all_eq_true]
          intro x hx
          have hlt := Q1.lt
          rcases List.mem_append.1 hx with hx | hx
          · have := Q1.off x hx
            simpa using this
          · simp only [List.mem_singleton] at hx
            subst hx
            simp
            omega
        · intro x hx
          have hlt := Q1.lt
          simp only [List.mem_singleton] at hx
          subst hx
          simp
          omega
        · intro x hx
          rcases List.mem_append.1 hx with hx | hx
          · have := Q1.low x hx
            simp
            omega
          · simp only [List.mem_singleton] at hx
            subst hx
            simp
        obtain ⟨c1, c2, _, _, _⟩ := Q1.buf.grow [.blk ([(1 : Int)].map fun x => V.pv (.int .u8 x)) none] [(1 : Int)] (by simp) (ty := ty) (n := G.length + 1) (m := (encB es).length + ([(1 : Int)]).length) rfl rfl rfl
        clear e1 e2 e3
        generalize killB G b1 ++ ([Ent.blk ([(1 : Int)].map fun x => V.pv (.int .u8 x)) none] ++ [Ent.blk ((encB es ++ encB [(1 : Int)]).map V.pv) ty]) = H at c1 c2 ⊢
        generalize V.sln (G.length + 1) 0 ((encB es).length + ([(1 : Int)]).length) 1 false = B at c1 c2 ⊢
        have Q2 := Q1.step c1 c2
        have P2 := P1'.step c1 c2
        clear c1 c2 Q1 P1'
        have l2 := Q2.lt
        obtain ⟨t2, x2⟩ := Q2.box
        (repeat' first
 | (apply XC.calmQ rfl rfl rfl; (focus (simp only [SB, reduceIte, Nat.reduceEqDiff, f1, f3]; with_reducible rfl)); (focus (simp [-getElem?_pos, x2]; done)); (focus (simp [-getElem?_pos, x2]; with_reducible (first | rfl | exact ⟨rfl, rfl⟩))))
 | fail)
        refine XC.callX (P := fun b' h' => Buf h' 5 b' ((encB es ++ encB [(1 : Int)]) ++ encB (putN x.1)) ∧ Fr H B h' b') rfl (by simp only [SB, reduceIte, Nat.reduceEqDiff, f1, f3]; all_goals (first | with_reducible rfl | (simp; done) | (simp <;> with_reducible rfl))) (reach_buf Q2.buf (by simp [V.ids])) HH.p.put.raw HH.p.put.ext Q2.off (by intro x hx; simp at hx; subst hx; exact Q2.lt) Q2.low (Buf.call_masked Q2.buf fun hx hbx => put_ok HH.p x.1 hx _ _ hbx (by simp [encB_len]; omega)) ?_
        rintro b3 h3 ⟨B3, F3⟩
        have Q3 := Q2.step B3 F3
        have P3 := P2.step B3 F3
        have l3 := Q3.lt
        obtain ⟨t3, x3⟩ := Q3.box
        (repeat' first
 | (apply XC.calmQ rfl rfl rfl; (focus (simp only [SB, reduceIte, Nat.reduceEqDiff, f1, f3]; with_reducible rfl)); (focus (simp [-getElem?_pos, x3]; done)); (focus (simp [-getElem?_pos, x3]; with_reducible (first | rfl | exact ⟨rfl, rfl⟩))))
 | fail)
        refine XC.callX (P := fun b' h' => Buf h' 5 b' ((encB es ++ encB [(1 : Int)] ++ encB (putN x.1)) ++ encB (putN x.2)) ∧ Fr h3 b3 h' b') rfl (by simp only [SB, reduceIte, Nat.reduceEqDiff, f1, f3]; all_goals (first | with_reducible rfl | (simp; done) | (simp <;> with_reducible rfl))) (reach_buf Q3.buf (by simp [V.ids])) HH.p.put.raw HH.p.put.ext Q3.off (by intro x hx; simp at hx; subst hx; exact Q3.lt) Q3.low (Buf.call_masked Q3.buf fun hx hbx => put_ok HH.p x.2 hx _ _ hbx (by simp [encB_len, putN]; omega)) ?_
        rintro b4 h4 ⟨B4, F4⟩
        have P4 := P3.step B4 F4
        have hes : encB es ++ encB [(1 : Int)] ++ encB (putN x.1) ++ encB (putN x.2) = encB (es ++ (1 :: (putN x.1 ++ putN x.2))) := by simp [encB]
        rw [hes] at P4
        (repeat' first
 | apply XC.nil
 | (apply XC.calmQ rfl rfl rfl; (focus (simp only [SB, reduceIte, Nat.reduceEqDiff, f1, f3]; with_reducible rfl)); (focus (simp [-getElem?_pos]; done)); (focus (simp [-getElem?_pos]; with_reducible (first | rfl | exact ⟨rfl, rfl⟩))))
 | fail)
        (repeat' first
 | apply X.skipB
 | apply X.skipL
 | apply X.stepZ
 | (apply X.stepQ rfl; (focus (simp only [SB, reduceIte, Nat.reduceEqDiff, f1, f3, f32, f33, f34]; with_reducible rfl)); (focus (simp [-getElem?_pos, -binA, w4]; with_reducible (first | rfl | exact ⟨rfl, rfl⟩))))
 | fail)
        refine ⟨hj1, h4, b4, es ++ (1 :: (putN x.1 ++ putN x.2)), _, ⟨P4, by rw [← hi]; simp, by simp [putN]; omega⟩, ?_, rfl⟩
        simp [f1, f32, f33]
    · have hj2 : ¬ (j : Int) < (r.length : Int) := by omega
      have hj3 : ¬ j < r.length := by omega
      rw [List.drop_eq_nil_of_le hj1] at hi
      simp only [List.flatMap_nil, List.append_nil] at hi
      have hjn : j = r.length := by omega
      subst hjn
      have hle : es.length ≤ 400 := by omega
      have l1 := P1.lt
      obtain ⟨t1, x1⟩ := P1.box
      (repeat' first
 | (apply X.exitS; first | apply X.here | (refine X.out (by decide) ?_; apply X.here))
 | (apply X.condQ rfl; (focus (simp only [SB, reduceIte, Nat.reduceEqDiff, f1, f3, f32, f33, f34]; with_reducible rfl)); all_goals (intro hbr; first | exact absurd hbr (by decide) | ((try rw [hbr]); (try simp at hbr))))
 | apply X.stepZ
 | (apply X.stepQ rfl; (focus (simp only [SB, reduceIte, Nat.reduceEqDiff, f1, f3, f32, f33, f34]; with_reducible rfl)); (focus (simp [-getElem?_pos, hj3, hj2]; with_reducible (first | rfl | exact ⟨rfl, rfl⟩))))
 | fail)
      refine X.drawC [52, 53] [h.length] rfl ?_
      (repeat' first
 | (apply XC.calmQ rfl rfl rfl; (focus (simp only [SB, reduceIte, Nat.reduceEqDiff, f1, f3]; with_reducible rfl)); (focus (simp [-getElem?_pos, x1]; done)); (focus (simp [-getElem?_pos, x1]; with_reducible (first | rfl | exact ⟨rfl, rfl⟩))))
 | fail)
      refine XC.callX (P := fun b' h' => Buf h' 5 b' (encB es ++ encB (valS v)) ∧ Fr h1 b1 h' b') rfl (by simp only [SB, reduceIte, Nat.reduceEqDiff, f1, f3]; all_goals (first | with_reducible rfl | (simp; done) | (simp <;> with_reducible rfl))) (reach_buf P1.buf (by simp [V.ids])) HH.p.putv.raw HH.p.putv.ext P1.off (by intro x hx; simp at hx; subst hx; exact P1.lt) P1.low (Buf.call_masked P1.buf fun hx hbx => by have := putv_ok HH.p v hf hx _ _ hbx (by simp [encB_len]; omega); rw [eV] at this; exact this) ?_
      rintro b2 h2 ⟨B2, F2⟩
      have P2 := P1.step B2 F2
      have l2 := P2.lt
      obtain ⟨t2, x2⟩ := P2.box
      have hby := bytes_ok HH.p q
      (repeat' first
 | (apply XC.calmQ rfl rfl rfl; (focus (simp only [SB, reduceIte, Nat.reduceEqDiff, f1, f3]; with_reducible rfl)); (focus (simp [-getElem?_pos, x2, HH.p.bytes.raw, hby]; done)); (focus (simp [-getElem?_pos, x2, HH.p.bytes.raw, hby]; with_reducible (first | rfl | exact ⟨rfl, rfl⟩))))
 | (apply XC.callP rfl; (focus (simp only [SB, reduceIte, Nat.reduceEqDiff, f1, f3]; simp; with_reducible rfl)); (focus (simp; with_reducible rfl)); (focus (simp [-getElem?_pos, x2, HH.p.bytes.raw, hby]; done)); (focus (simp [-getElem?_pos, x2, HH.p.bytes.raw, hby]; with_reducible rfl)))
 | fail)
      obtain ⟨ty, g1, e1, e2, e3⟩ := P2.buf.append_pure (E := E) (p := limP E) (r := limR E) (scoreB q) (by simp [scoreB]) (by simp [encB_len, scoreB]; omega) rfl
      refine XC.growQ (h1 := g1) (F := FB b2) (vop := .append false true 1 1 5 (.val b2) (.val (.pv (.sl (encB (scoreB q)))))) rfl rfl rfl (by simp only [SB, reduceIte, Nat.reduceEqDiff, f1, f3]; all_goals (first | with_reducible rfl | (simp; done) | (simp <;> with_reducible rfl))) (by show V.ids b2 ++ [] = _; rw [P2.buf.ids, List.append_nil]) ?_ (by intro x hx; simp at hx; subst hx; exact P2.lt) P2.low e1 e2 e3 ?_
      · rw [List.all_eq_true]
        intro x hx
        have := P2.off x hx
        simpa using this
      obtain ⟨c1, c2, _, _, _⟩ := P2.buf.grow [] (scoreB q) (by simp [scoreB]) (ty := ty) (n := h2.length) (m := (encB es ++ encB (valS v)).length + (scoreB q).length) rfl rfl rfl
      have P3 := P2.step c1 c2
      have hes : encB es ++ encB (valS v) ++ encB (scoreB q) = encB (hd ++ r.flatMap spanB ++ valS v ++ scoreB q) := by rw [← hi]; simp [encB]
      (repeat' first
 | apply XC.nil
 | (apply XC.calmQ rfl rfl rfl; (focus (simp only [SB, reduceIte, Nat.reduceEqDiff, f1, f3]; with_reducible rfl)); (focus (simp [-getElem?_pos]; done)); (focus (simp [-getElem?_pos]; with_reducible (first | rfl | exact ⟨rfl, rfl⟩))))
 | fail)
      (repeat' first
 | apply X.retS
 | fail)
      all_goals refine FinE.retQ (us := [.sln h2.length 0 ((encB es ++ encB (valS v)).length + (scoreB q).length) 1 false]) rfl (by simp [resS]) ⟨?_, P3.old⟩
      all_goals (rw [← hes]; exact P3.buf)
end Rp

-- Bytes that are compared; report.Same: walked.
namespace Rp
open Go Ab Go.Proofs.Ytdacifedlemlmaa.Mach
variable {E : Env}

structure HasS (E : Env) : Prop where
  u : HasPut E
  put : HasR E 28 c28
  eq : Has E 59 c59
  same : Has E 32 c32

theorem Put_raw (HH : HasS E) (e a b : Int) (sp : List Sp) (v : Va) (q : Nat) (hl : sp.length ≤ 9223372036854775807) (hf : FineV v) (h : Heap) :
    ∃ r h', limR E 28 [.pv (encR e a b sp v q)] h = some (r, h') ∧ (Buf h' 5 r (encB (putS e a b sp v q)) ∧ Old h h') :=
  HH.put.limQE (Nat.le_of_ble_eq_true rfl) (put_body HH.u e a b sp v q hl hf h)

def Byt (l : List Int) : Prop := ∀ x ∈ l, 0 ≤ x ∧ x < 256
theorem bytesB : ∀ l : List Int, bytesOf? (encB l) = some (l.map fun n => UInt8.ofNat n.toNat)
  | [] => rfl
  | x :: l => by
    have h : encB (x :: l) = .int .u8 x :: encB l := rfl
    rw [h, bytesOf?, bytesB l]
    rfl
theorem bytes_inj : ∀ {a b : List Int}, Byt a → Byt b → (a.map fun n => UInt8.ofNat n.toNat) = (b.map fun n => UInt8.ofNat n.toNat) → a = b
  | [], [], _, _, _ => rfl
  | [], _ :: _, _, _, h => by simp at h
  | _ :: _, [], _, _, h => by simp at h
  | x :: a, y :: b, ha, hb, h => by
    simp only [List.map_cons, List.cons.injEq] at h
    have hx := ha x (by simp)
    have hy := hb y (by simp)
    have h1 : x = y := by
      have := congrArg UInt8.toNat h.1
      rw [UInt8.toNat_ofNat', UInt8.toNat_ofNat', Nat.mod_eq_of_lt (by omega), Nat.mod_eq_of_lt (by omega)] at this
      omega
    rw [h1, bytes_inj (fun z hz => ha z (by simp [hz])) (fun z hz => hb z (by simp [hz])) h.2]
set_option maxHeartbeats 1000000 in
theorem equal_ok (H : Has E 59 c59) (a b : List Int) (ha : Byt a) (hb : Byt b) : limP E 59 [.sl (encB a), .sl (encB b)] = some [.bool (decide (a = b))] := by
  have e1 := bytesB a
  have e2 := bytesB b
  have he : ((a.map fun n => UInt8.ofNat n.toNat) == (b.map fun n => UInt8.ofNat n.toNat)) = decide (a = b) := by
    rw [Bool.eq_iff_iff, beq_iff_eq, decide_eq_true_iff]
    exact ⟨bytes_inj ha hb, fun h => by rw [h]⟩
  have w1 : binA .eql .no (.pv (.str (a.map fun n => UInt8.ofNat n.toNat))) (.pv (.str (b.map fun n => UInt8.ofNat n.toNat))) = some (.pv (.bool (decide (a = b)))) := by
    simp only [binA, strBin, he, Option.map_some]
  have c1 : convA .bytesStr (.pv (.sl (encB a))) [] = some (.pv (.str (a.map fun n => UInt8.ofNat n.toNat))) := by simp only [convA, pureElems, e1, Option.map_some]
  have c2 : convA .bytesStr (.pv (.sl (encB b))) [] = some (.pv (.str (b.map fun n => UInt8.ofNat n.toNat))) := by simp only [convA, pureElems, e2, Option.map_some]
  generalize (a.map fun n => UInt8.ofNat n.toNat) = x at w1 c1
  generalize (b.map fun n => UInt8.ofNat n.toNat) = y at w1 c2
  generalize decide (a = b) = p at w1 ⊢
  generalize encB a = A at c1 ⊢
  generalize encB b = B at c2 ⊢
  refine H.limQ (Nat.le_of_ble_eq_true rfl) ?_; unfold c59
  (repeat' first
 | apply X.retS
 | apply X.stepZ
 | (apply X.stepQ rfl; (focus (simp only [SB, reduceIte, Nat.reduceEqDiff]; with_reducible rfl)); (focus (simp [-getElem?_pos, -binA, -convA, c1, c2, w1]; with_reducible (first | rfl | exact ⟨rfl, rfl⟩))))
 | fail)
  all_goals (refine Fin.mkQ rfl (by simp only [resS, SB, reduceIte, Nat.reduceEqDiff]; with_reducible rfl) (by simp [oneOf, pureRes, snapFuel, snapL]; with_reducible rfl) ?_)
  all_goals rfl

theorem by8_byt (n : Int) : 0 ≤ by8 n ∧ by8 n < 256 := by
  unfold by8
  rw [IntKind.wrap_u8]
  omega
theorem byt_app {a b : List Int} (ha : Byt a) (hb : Byt b) : Byt (a ++ b) := fun x hx => by
  rcases List.mem_append.1 hx with h | h
  · exact ha x h
  · exact hb x h
theorem byt_cons {a : Int} {b : List Int} (ha : 0 ≤ a ∧ a < 256) (hb : Byt b) : Byt (a :: b) := fun x hx => by
  rcases List.mem_cons.1 hx with h | h
  · rw [h]; exact ha
  · exact hb x h
theorem byt_nil : Byt [] := fun x hx => by cases hx
theorem byt_put (n : Int) : Byt (putN n) := byt_cons (by8_byt _) (byt_cons (by8_byt _) (byt_cons (by8_byt _) (byt_cons (by8_byt _) byt_nil)))
theorem byt_val : ∀ v, FineV v → Byt (valS v) := by
  refine Va.ind fun v ih hf => ?_
  obtain ⟨hb, _, hk⟩ := fineV hf
  have key : ∀ l : List Va, (∀ y ∈ l, Byt (valS y)) → Byt (valS.valL l) := by
    intro l
    induction l with
 | nil => intro _; exact byt_nil
 | cons x l ihl => intro h; exact byt_app (h x (by simp)) (ihl fun y hy => h y (by simp [hy]))
  rw [valS_eq]
  refine byt_app ?_ (key v.l fun y hy => ih y hy (hk y hy))
  unfold headS
  refine byt_cons (by8_byt _) ?_
  split
  · exact byt_cons hb byt_nil
  · split
    · exact byt_cons (by8_byt _) (byt_cons (by8_byt _) byt_nil)
    · exact byt_nil
theorem byt_span (s : Sp) : Byt (spanB s) := by
  unfold spanB
  split
  · exact byt_cons (by omega) byt_nil
  · exact byt_cons (by omega) (byt_app (byt_put _) (byt_put _))
theorem byt_putS {e a b : Int} {sp : List Sp} {v : Va} {q : Nat} (hf : FineV v) : Byt (putS e a b sp v q) := by
  unfold putS
  split
  · split
    · exact byt_cons (by8_byt _) byt_nil
    · refine byt_app (byt_app (byt_app (byt_cons (by8_byt _) (byt_app (byt_put _) (byt_app (byt_put _) (byt_cons (by8_byt _) byt_nil)))) ?_) (byt_val v hf)) ?_
      · intro x hx
        obtain ⟨s, _, hs⟩ := List.mem_flatMap.1 hx
        exact byt_span s x hs
      · intro x hx
        obtain ⟨i, _, rfl⟩ := List.mem_map.1 hx
        exact by8_byt _
  · exact byt_nil
end Rp

-- report.Same: walked.
namespace Rp
open Go Ab Go.Proofs.Ytdacifedlemlmaa.Mach
variable {E : Env}

theorem Buf.snapE {h : Heap} {t : TypeId} {v : V} {es : List PV} (b : Buf h t v es) {n : Nat} : ∃ h2, Ab.snap (n + 2) v h = some (.sl es, h2) ∧ h2.length = h.length ∧ ∀ i, idOf v ≠ some i → ent h2 i = ent h i := by
  rcases b with ⟨rfl, rfl⟩ | ⟨h1, id, rfl, ty, h3⟩
  · exact ⟨h, by simp [Ab.snap], rfl, fun _ _ => rfl⟩
  · refine ⟨h.set id (.frz es), ?_, by simp, fun i hi => ?_⟩
    · have hs : snapLF (Ab.snap (n + 1)) (es.map V.pv) (h.set id .dead) = some (es, h.set id .dead) := snapLF_pvs _
      have hc : cut es 0 (es.length * 1) = some es := by simp [cut]
      rw [snap_sln, h3]
      simp only [hs, hc]
      have := chunks_one es
      simp [this]
    · simp only [ent]
      rw [List.getElem?_set_ne]
      rintro rfl
      exact hi rfl
theorem Buf.snap2 {h : Heap} {t : TypeId} {v w : V} {es fs : List PV} (b : Buf h t v es) (c : Buf h t w fs) (hne : ∀ i, idOf v = some i → idOf w ≠ some i) : ∃ h2, snapL snapFuel [v, w] h = some ([.sl es, .sl fs], h2) ∧ h2.length = h.length := by
  obtain ⟨h2, e1, e2, e3⟩ := b.snapE (n := 998)
  have c2 : Buf h2 t w fs := by
    rcases c with c | ⟨c1, id, rfl, ty, c3⟩
    · exact .inl c
    · exact .inr ⟨c1, id, rfl, ty, by rw [e3 id fun hv => hne id hv rfl]; exact c3⟩
  obtain ⟨h3, d1, d2, _⟩ := c2.snapE (n := 998)
  refine ⟨h3, ?_, by rw [d2, e2]⟩
  simp only [snapL, snapLF, snapFuel, e1, d1]
theorem Buf.fresh {h h1 : Heap} {t : TypeId} {v : V} {es : List PV} (b : Buf h1 t v es) (o : Old (mask [] h) h1) : Buf (merge [] h h1) t v es ∧ Old h (merge [] h h1) ∧ ∀ i, idOf v = some i → h.length ≤ i := by
  have hlen := o.len
  rw [length_mask] at hlen
  have hid : ∀ i, idOf v = some i → h.length ≤ i := fun i hi => by
    rcases b with ⟨_, rfl⟩ | ⟨h1', id, rfl, ty, h3⟩
    · cases hi
    · cases hi
      rcases Nat.lt_or_ge i h.length with hlt | hge
      · have := o.old i (by rw [length_mask]; exact hlt)
        rw [this] at h3
        simp only [ent, mask, List.getElem?_mapIdx] at h3
        cases hh : h[i]? <;> rw [hh] at h3 <;> simp at h3
      · exact hge
  refine ⟨?_, ⟨by rw [merge_len]; exact hlen, fun i hi => ent_merge_out (by simp) hi hlen⟩, hid⟩
  rcases b with c | ⟨h1', id, rfl, ty, h3⟩
  · exact .inl c
  · exact .inr ⟨h1', id, rfl, ty, by rw [ent_merge_in (.inr (hid id rfl))]; exact h3⟩

theorem reach_two {h : Heap} {t : TypeId} {v w : V} {es fs : List PV} (b : Buf h t v es) (c : Buf h t w fs) (hne : ∀ i, idOf v = some i → idOf w ≠ some i) : reach h h.length (addNew [] ([v, w].flatMap V.ids)) = FB v ++ FB w := by
  have e0 : [v, w].flatMap V.ids = FB v ++ FB w := by simp [b.ids, c.ids]
  rw [e0]
  have h1 : addNew [] (FB v ++ FB w) = FB v ++ FB w := by
    unfold FB at *
    cases hv : idOf v with
 | none => cases hw : idOf w <;> simp [addNew]
 | some i =>
      cases hw : idOf w with
      | none => simp [addNew]
      | some j =>
        have : j ≠ i := fun hh => hne i hv (by rw [hw, hh])
        simp [addNew, this]
  rw [h1]
  have hk : ∀ x, x ∈ FB v ++ FB w → entIds (ent h x) = [] := fun x hx => by
    rcases List.mem_append.1 hx with hx | hx
    · rcases b with ⟨_, rfl⟩ | ⟨_, id, rfl, ty, h3⟩
      · cases hx
      · simp only [FB, idOf, List.mem_singleton] at hx
        subst hx
        rw [h3]; simp [entIds, idsL_pv]
    · rcases c with ⟨_, rfl⟩ | ⟨_, id, rfl, ty, h3⟩
      · cases hx
      · simp only [FB, idOf, List.mem_singleton] at hx
        subst hx
        rw [h3]; simp [entIds, idsL_pv]
  have hfm : (FB v ++ FB w).flatMap (fun i => entIds (ent h i)) = [] := by
    rw [List.flatMap_eq_nil_iff]; exact hk
  cases h.length with
  | zero => rfl
  | succ n => simp only [reach, hfm, addNew, if_true]

def sameS (x y : Bool) (bx bY : List Int) : Bool := x && (y && decide (bx = bY))
theorem FB_mem {v : V} {x : Nat} (h : x ∈ FB v) : idOf v = some x := by
  unfold FB at h
  split at h
  · rename_i i hi
    simp only [List.mem_singleton] at h
    rw [hi, h]
  · cases h

set_option maxHeartbeats 8000000 in
theorem rsame_ok (HH : HasS E) {e a b e' a' b' : Int} {sp sp' : List Sp} {v v' : Va} {q q' : Nat} (hl : sp.length ≤ 9223372036854775807) (hf : FineV v) (hl' : sp'.length ≤ 9223372036854775807) (hf' : FineV v') :
    limP E 32 [encR e a b sp v q, encR e' a' b' sp' v' q'] = some [.bool (sameS (goodS e a b sp v q) (goodS e' a' b' sp' v' q') (putS e a b sp v q) (putS e' a' b' sp' v' q'))] := by
  have H := HH.same
  have g1 := good_ok HH.u.g e a b sp v q hl hf
  have g2 := good_ok HH.u.g e' a' b' sp' v' q' hl' hf'
  have p1 := fun h => Put_raw HH e a b sp v q hl hf h
  have p2 := fun h => Put_raw HH e' a' b' sp' v' q' hl' hf' h
  have heq := equal_ok HH.eq (putS e a b sp v q) (putS e' a' b' sp' v' q') (byt_putS hf) (byt_putS hf')
  generalize putS e a b sp v q = B1 at p1 heq ⊢
  generalize putS e' a' b' sp' v' q' = B2 at p2 heq ⊢
  generalize goodS e a b sp v q = x at g1 ⊢
  generalize goodS e' a' b' sp' v' q' = y at g2 ⊢
  simp only [encR] at g1 g2 p1 p2 ⊢
  refine H.limQ (Nat.le_of_ble_eq_true rfl) ?_; unfold c32
  (repeat' first
 | apply X.stepZ
 | (apply X.stepQ rfl; (focus (simp only [SB, reduceIte, Nat.reduceEqDiff]; with_reducible rfl)); (focus (simp [-getElem?_pos]; with_reducible (first | rfl | exact ⟨rfl, rfl⟩))))
 | fail)
  refine X.abs2 (fun st => ∃ (hh : Heap) (f : Nat → V), (hh.length = 2 ∧ ent hh 0 = .blk [.pv (.int .i64 e), .pv (.int .i64 a), .pv (.int .i64 b), .pv (.sl (sp.map encS)), .pv (.int .i64 v.k), .pv (.int .u8 v.b), .pv (.sl (v.l.map encV)), .pv (.flt .f64 q)] none ∧ ent hh 1 = .blk [.pv (.int .i64 e'), .pv (.int .i64 a'), .pv (.int .i64 b'), .pv (.sl (sp'.map encS)), .pv (.int .i64 v'.k), .pv (.int .u8 v'.b), .pv (.sl (v'.l.map encV)), .pv (.flt .f64 q')] none) ∧ (fk (Fk.mk (f := f)) 2 = .ptr 0 0 ∧ fk (Fk.mk (f := f)) 3 = .ptr 1 0) ∧ st = ⟨TL 18 f, hh⟩) ?_ ?_
  · exact ⟨_, _, ⟨rfl, rfl, rfl⟩, by simp, rfl⟩
  rintro st ⟨hh, f, ⟨hlen, x1, x2⟩, ⟨f2, f3⟩, rfl⟩
  refine X.drawC [28, 59] [0, 1] rfl ?_
  cases x with
  | false =>
    (repeat' first
 | apply XC.nil
 | (apply XC.calmQ rfl rfl rfl; (focus (simp only [SB, reduceIte, Nat.reduceEqDiff, f2, f3]; with_reducible rfl)); (focus (simp [-getElem?_pos, x1, x2, HH.u.rg, g1, g2]; done)); (focus (simp [-getElem?_pos, x1, x2, HH.u.rg, g1, g2]; with_reducible (first | rfl | exact ⟨rfl, rfl⟩))))
 | (apply XC.callP rfl; (focus (simp only [SB, reduceIte, Nat.reduceEqDiff, f2, f3]; simp; with_reducible rfl)); (focus (simp; with_reducible rfl)); (focus (simp [-getElem?_pos, x1, x2, HH.u.rg, g1, g2]; done)); (focus (simp [-getElem?_pos, x1, x2, HH.u.rg, g1, g2]; with_reducible rfl)))
 | ((first | apply XC.stepGtQ rfl | apply XC.stepGfQ rfl); (focus (simp only [SB, reduceIte, Nat.reduceEqDiff, f2, f3]; with_reducible rfl)); all_goals (intro hbr; first | exact absurd hbr (by decide) | ((try rw [hbr]); (try simp at hbr))))
 | fail)
    (repeat' first
 | apply X.retS
 | fail)
    all_goals (refine Fin.mkQ rfl (by simp only [resS, SB, reduceIte, Nat.reduceEqDiff]; with_reducible rfl) (by simp [oneOf, pureRes, snapFuel, snapL]; with_reducible rfl) ?_)
    all_goals rfl
  | true =>
  cases y with
  | false =>
    (repeat' first
 | apply XC.nil
 | (apply XC.calmQ rfl rfl rfl; (focus (simp only [SB, reduceIte, Nat.reduceEqDiff, f2, f3]; with_reducible rfl)); (focus (simp [-getElem?_pos, x1, x2, HH.u.rg, g1, g2]; done)); (focus (simp [-getElem?_pos, x1, x2, HH.u.rg, g1, g2]; with_reducible (first | rfl | exact ⟨rfl, rfl⟩))))
 | (apply XC.callP rfl; (focus (simp only [SB, reduceIte, Nat.reduceEqDiff, f2, f3]; simp; with_reducible rfl)); (focus (simp; with_reducible rfl)); (focus (simp [-getElem?_pos, x1, x2, HH.u.rg, g1, g2]; done)); (focus (simp [-getElem?_pos, x1, x2, HH.u.rg, g1, g2]; with_reducible rfl)))
 | ((first | apply XC.stepGtQ rfl | apply XC.stepGfQ rfl); (focus (simp only [SB, reduceIte, Nat.reduceEqDiff, f2, f3]; with_reducible rfl)); all_goals (intro hbr; first | exact absurd hbr (by decide) | ((try rw [hbr]); (try simp at hbr))))
 | fail)
    (repeat' first
 | apply X.retS
 | fail)
    all_goals (refine Fin.mkQ rfl (by simp only [resS, SB, reduceIte, Nat.reduceEqDiff]; with_reducible rfl) (by simp [oneOf, pureRes, snapFuel, snapL]; with_reducible rfl) ?_)
    all_goals rfl
  | true =>
    (repeat' first
 | (apply XC.calmQ rfl rfl rfl; (focus (simp only [SB, reduceIte, Nat.reduceEqDiff, f2, f3]; with_reducible rfl)); (focus (simp [-getElem?_pos, x1, x2, HH.u.rg, g1, g2]; done)); (focus (simp [-getElem?_pos, x1, x2, HH.u.rg, g1, g2]; with_reducible (first | rfl | exact ⟨rfl, rfl⟩))))
 | (apply XC.callP rfl; (focus (simp only [SB, reduceIte, Nat.reduceEqDiff, f2, f3]; simp; with_reducible rfl)); (focus (simp; with_reducible rfl)); (focus (simp [-getElem?_pos, x1, x2, HH.u.rg, g1, g2]; done)); (focus (simp [-getElem?_pos, x1, x2, HH.u.rg, g1, g2]; with_reducible rfl)))
 | ((first | apply XC.stepGtQ rfl | apply XC.stepGfQ rfl); (focus (simp only [SB, reduceIte, Nat.reduceEqDiff, f2, f3]; with_reducible rfl)); all_goals (intro hbr; first | exact absurd hbr (by decide) | ((try rw [hbr]); (try simp at hbr))))
 | fail)
    refine XC.callX (P := fun r h' => Buf h' 5 r (encB B1) ∧ Old hh h' ∧ ∀ i, idOf r = some i → hh.length ≤ i) rfl (by simp only [SB, reduceIte, Nat.reduceEqDiff, f2, f3]; all_goals (first | with_reducible rfl | (simp; done) | (simp <;> with_reducible rfl))) (F := []) (by simp [V.ids, addNew, reach_nil]) HH.put.raw HH.put.ext (by simp) (by simp [hlen]) (by simp) ?_ ?_
    · obtain ⟨r, h', r1, r2, r3⟩ := p1 (mask [] hh)
      obtain ⟨c1, c2, c3⟩ := r2.fresh r3
      exact ⟨r, h', r1, by have := r3.len; rwa [length_mask] at this, c1, c2, c3⟩
    rintro r1 h1 ⟨U1, O1, I1⟩
    have y1 := (O1.old 0 (by omega)).trans x1
    have y2 := (O1.old 1 (by omega)).trans x2
    have l1 := O1.len
    (repeat' first
 | (apply XC.calmQ rfl rfl rfl; (focus (simp only [SB, reduceIte, Nat.reduceEqDiff, f2, f3]; with_reducible rfl)); (focus (simp [-getElem?_pos, y1, y2]; done)); (focus (simp [-getElem?_pos, y1, y2]; with_reducible (first | rfl | exact ⟨rfl, rfl⟩))))
 | ((first | apply XC.stepGtQ rfl | apply XC.stepGfQ rfl); (focus (simp only [SB, reduceIte, Nat.reduceEqDiff, f2, f3]; with_reducible rfl)); all_goals (intro hbr; first | exact absurd hbr (by decide) | ((try rw [hbr]); (try simp at hbr))))
 | fail)
    refine XC.callX (P := fun r h' => Buf h' 5 r (encB B2) ∧ Old h1 h' ∧ ∀ i, idOf r = some i → h1.length ≤ i) rfl (by simp only [SB, reduceIte, Nat.reduceEqDiff, f2, f3]; all_goals (first | with_reducible rfl | (simp; done) | (simp <;> with_reducible rfl))) (F := []) (by simp [V.ids, addNew, reach_nil]) HH.put.raw HH.put.ext (by simp) (by intro x hx; simp at hx; omega) (by simp) ?_ ?_
    · obtain ⟨r, h', r1, r2, r3⟩ := p2 (mask [] h1)
      obtain ⟨c1, c2, c3⟩ := r2.fresh r3
      exact ⟨r, h', r1, by have := r3.len; rwa [length_mask] at this, c1, c2, c3⟩
    rintro r2 h2 ⟨U2, O2, I2⟩
    have l2 := O2.len
    have U1' : Buf h2 5 r1 (encB B1) := by
      rcases U1 with c | ⟨c1, id, rfl, ty, c3⟩
      · exact .inl c
      · exact .inr ⟨c1, id, rfl, ty, by rw [O2.old id (Buf.lt (t := 5) (.inr ⟨c1, id, rfl, ty, c3⟩) rfl)]; exact c3⟩
    have hne : ∀ i, idOf r1 = some i → idOf r2 ≠ some i := fun i hi hj => by
      have h3 := U1.lt hi
      have h4 := I2 i hj
      omega
    (repeat' first
 | ((first | apply XC.stepGtQ rfl | apply XC.stepGfQ rfl); (focus (simp only [SB, reduceIte, Nat.reduceEqDiff, f2, f3]; with_reducible rfl)); all_goals (intro hbr; first | exact absurd hbr (by decide) | ((try rw [hbr]); (try simp at hbr))))
 | fail)
    have hF := reach_two U1' U2 hne
    have hmem : ∀ x ∈ FB r1 ++ FB r2, 2 ≤ x ∧ x < h2.length := fun x hx => by
      rcases List.mem_append.1 hx with hx | hx
      · have h3 := I1 x (FB_mem hx)
        have h4 := U1'.lt (FB_mem hx)
        omega
      · have h3 := I2 x (FB_mem hx)
        have h4 := U2.lt (FB_mem hx)
        omega
    obtain ⟨h3, s1, s2⟩ := (U1'.maskedF (F := FB r1 ++ FB r2) fun i hi => by simp [FB, hi]).snap2 (U2.maskedF (F := FB r1 ++ FB r2) fun i hi => by simp [FB, hi]) hne
    rw [length_mask] at s2
    refine XC.callG (F := FB r1 ++ FB r2) (h1 := h3) (v := .pv (.bool (decide (B1 = B2)))) rfl (by simp only [SB, reduceIte, Nat.reduceEqDiff, f2, f3]; all_goals (first | with_reducible rfl | (simp; done) | (simp <;> with_reducible rfl))) hF (by intro x hx; have := hmem x hx; simp; omega) (by intro x hx; simp at hx; omega) (fun x hx => (hmem x hx).2) ?_ (by omega) ?_
    · simp only [callA, HH.eq.raw, Bool.false_eq_true, if_false, s1, heq]
      rfl
    (repeat' first
 | apply XC.nil
 | (apply XC.calmQ rfl rfl rfl; (focus (simp only [SB, reduceIte, Nat.reduceEqDiff, f2, f3]; with_reducible rfl)); (focus (simp [-getElem?_pos]; done)); (focus (simp [-getElem?_pos]; with_reducible (first | rfl | exact ⟨rfl, rfl⟩))))
 | fail)
    (repeat' first
 | apply X.retS
 | fail)
    all_goals (refine Fin.mkQ rfl (by simp only [resS, SB, reduceIte, Nat.reduceEqDiff]; with_reducible rfl) (by simp [oneOf, pureRes, snapFuel, snapL]; with_reducible rfl) ?_)
    all_goals simp [sameS]
end Rp
