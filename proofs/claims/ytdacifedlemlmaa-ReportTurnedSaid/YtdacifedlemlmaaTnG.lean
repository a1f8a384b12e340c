/- TnG: steps, walks, laws: see the remarks within. -/
import Derived.Test.YtdacifedlemlmaaTnF
set_option linter.unusedSimpArgs false
set_option linter.unusedVariables false
-- ReportTurned: walked.
namespace Rp
open Go Ab Go.Proofs.Ytdacifedlemlmaa.Mach
variable {E : Env}

theorem bodyS_fine {bs1 : List Int} {bad1 : Bool} {x : Re} {bad : Bool} (hb : Byt bs1) (h : bodyS bs1 bad1 = some (x, bad)) : x.sp.length ≤ 256 ∧ FineV x.v := by
  unfold bodyS at h
  dsimp only at h
  split at h
  · cases h
    exact ⟨readSp_len (take_byt (take_byt hb)), (fine_val _ _ _ _ (readSp_byt (take_byt (take_byt hb)))).1⟩
  · cases h
theorem candS_fine {bs : List Int} {x : Re} {bad : Bool} (hb : Byt bs) (h : candS bs = some (x, bad)) : x.sp.length ≤ 256 ∧ FineV x.v := by
  unfold candS at h
  dsimp only at h
  split at h
  · exact bodyS_fine (take_byt hb) h
  · cases h
    exact ⟨by simp, by omega, by simp, trivial⟩
theorem getR_cases {bs : List Int} (hb : Byt bs) : getR bs = (zeroX, 2) ∨ ∃ x, getR bs = (x, 0) ∧ putX x = bs ∧ x.sp.length ≤ 256 ∧ FineV x.v := by
  unfold getR getS
  cases hc : candS bs with
  | none => exact .inl rfl
  | some p =>
    obtain ⟨x, bad⟩ := p
    dsimp only
    split
    · rename_i y hy
      split at hy
      · rename_i hq
        cases hy
        exact .inr ⟨_, rfl, hq.2, candS_fine hb hc⟩
      · cases hy
    · exact .inl rfl

def xorB (p x : Int) : Int := IntKind.u8.wrap (BitVec.ofInt 8 p ^^^ BitVec.ofInt 8 x).toNat
theorem xorB_rng (p x : Int) : 0 ≤ xorB p x ∧ xorB p x < 256 := by
  unfold xorB
  rw [IntKind.wrap_u8]
  omega
theorem xorB_ne {p x : Int} (hp : 0 ≤ p ∧ p < 256) (hx : 0 ≤ x ∧ x < 256) (h0 : x ≠ 0) : xorB p x ≠ p := by
  intro h
  unfold xorB at h
  rw [IntKind.wrap_u8] at h
  have hlt : (BitVec.ofInt 8 p ^^^ BitVec.ofInt 8 x).toNat < 256 := (BitVec.ofInt 8 p ^^^ BitVec.ofInt 8 x).isLt
  have h1 : (BitVec.ofInt 8 p ^^^ BitVec.ofInt 8 x).toNat = (BitVec.ofInt 8 p).toNat := by
    rw [BitVec.toNat_ofInt (n := 8) (i := p)]
    omega
  have h2 : BitVec.ofInt 8 p ^^^ BitVec.ofInt 8 x = BitVec.ofInt 8 p := BitVec.eq_of_toNat_eq h1
  have h3 : BitVec.ofInt 8 x = 0#8 := by
    have h4 : BitVec.ofInt 8 p ^^^ (BitVec.ofInt 8 p ^^^ BitVec.ofInt 8 x) = BitVec.ofInt 8 p ^^^ BitVec.ofInt 8 p := by rw [h2]
    rw [← BitVec.xor_assoc, BitVec.xor_self, BitVec.zero_xor] at h4
    exact h4
  have h5 := congrArg BitVec.toNat h3
  rw [BitVec.toNat_ofInt] at h5
  simp at h5
  omega

structure HasTn (E : Env) : Prop where
  s : HasS E
  law : Has E 9 c9
  rawake : E.raw 12 = false
  awake : limP E 12 [] = some [.bool true]
  wide : Has E 13 c13
  rget : E.raw 30 = false
  get : ∀ bs, Byt bs → limP E 30 [.sl (encB bs)] = some [encX (getR bs).1, .int .i64 (getR bs).2]

theorem _root_.Ab.X.callGQ {n : Nat} {f : Nat → V} {h h1 : Heap} {d : Option Nat} {af : List Nat} {os : List AOper} {rest : ACode} {Q : AExit → Ab.St → Prop} {v : V} {g : FuncId} {args : List AOperand} {vs : List V} (hb : below n (readsL args) = true) (e : evals [] (subL (Fk.mk (f := f)) args) = some vs)
    (hl : callA E (limP E) (limR E) g vs h = some (v, h1)) (k : X E (.seq (.region os false) rest) ⟨TL n (upd f d v), h1⟩ Q) : X E (.seq (.region (⟨d, .call g args, none, af⟩ :: os) false) rest) ⟨TL n f, h⟩ Q :=
  X.step (v := v) (h' := h1) (by rw [opA_sub hb]; simp only [sub, opA, e]; exact hl) TL_set k

theorem putS_ne {e a b : Int} {sp : List Sp} {v : Va} {q : Nat} (h : goodS e a b sp v q = true) : putS e a b sp v q ≠ [] := by
  unfold putS
  rw [if_pos h]
  split
  · simp
  · simp
theorem take_one {α : Type} {l : List α} {j : Nat} {x : α} (h : l[j]? = some x) : (l.drop j).take 1 = [x] := by
  rw [List.take_one, List.head?_drop, h]
  rfl
theorem splice_one {α : Type} {l : List α} {j : Nat} {x : α} (h : j < l.length) : splice l j [x] = l.set j x := by
  rw [List.set_eq_take_append_cons_drop, if_pos h]
  simp [splice]
theorem Buf.snap1 {h : Heap} {t : TypeId} {v : V} {es : List PV} (b : Buf h t v es) : ∃ h2, snapL snapFuel [v] h = some ([.sl es], h2) ∧ h2.length = h.length ∧ ∀ i, idOf v ≠ some i → ent h2 i = ent h i := by
  obtain ⟨h2, e1, e2, e3⟩ := b.snapE (n := 998)
  refine ⟨h2, ?_, e2, e3⟩
  simp only [snapL, snapLF, snapFuel, e1]

set_option maxHeartbeats 16000000 in
theorem turned_ok (HH : HasTn E) (e a b : Int) (sp : List Sp) (v : Va) (q : Nat) (hl : sp.length ≤ 9223372036854775807) (hf : FineV v) (i x : Int) (hx : 0 ≤ x ∧ x < 256) :
    limP E 9 [encR e a b sp v q, .int .i64 i, .int .u8 x] = some [.bool true] := by
  have H := HH.law
  have haw := HH.awake
  have hwd := wide_ok HH.wide v 40 (by omega) (by omega)
  have hgd := good_ok HH.s.u.g e a b sp v q hl hf
  have hll : (sp.map encS).length = sp.length := by simp
  have hpt := fun h => Put_raw HH.s e a b sp v q hl hf h
  rw [eV] at hwd
  simp only [encR] at hgd hpt ⊢
  cases hw : wideS v 40 with
  | true =>
    rw [hw] at hwd
    refine H.limQ (Nat.le_of_ble_eq_true rfl) ?_; unfold c9
    (repeat' first
    | apply X.retS
    | apply X.skipS
    | apply X.skipB
    | apply X.skipL
    | (apply X.exitS; first | apply X.here | (refine X.out (by decide) ?_; apply X.here))
    | apply X.blockS
    | (apply X.condQ rfl; (focus (simp only [sub, subO, subL, subM, sub3, sub2, fk_some, fk_none, fk_arg0, fk_argS, fk_argN, fk_map0, fk_mapS, fk_mapN, reduceIte, Nat.reduceEqDiff, Nat.reduceAdd]; with_reducible rfl)); all_goals (intro hbr; first | exact absurd hbr (by decide) | ((try rw [hbr]); (try simp at hbr))))
    | apply X.stepZ
    | (apply X.stepQ rfl; (focus (simp only [sub, subO, subL, subM, sub3, sub2, fk_some, fk_none, fk_arg0, fk_argS, fk_argN, fk_map0, fk_mapS, fk_mapN, reduceIte, Nat.reduceEqDiff, Nat.reduceAdd]; with_reducible rfl)); (focus (simp [-getElem?_pos, HH.rawake, haw, HH.wide.raw, hwd]; with_reducible (first | rfl | exact ⟨rfl, rfl⟩))))
    | (apply X.stepNQ rfl; (focus (simp only [sub, subO, subL, subM, sub3, sub2, fk_some, fk_none, fk_arg0, fk_argS, fk_argN, fk_map0, fk_mapS, fk_mapN, reduceIte, Nat.reduceEqDiff, Nat.reduceAdd]; with_reducible rfl)))
    | ((first | apply X.stepGtQ rfl | apply X.stepGfQ rfl); (focus (simp only [sub, subO, subL, subM, sub3, sub2, fk_some, fk_none, fk_arg0, fk_argS, fk_argN, fk_map0, fk_mapS, fk_mapN, reduceIte, Nat.reduceEqDiff, Nat.reduceAdd]; with_reducible rfl)); all_goals (intro hbr; first | exact absurd hbr (by decide) | ((try rw [hbr]); (try simp at hbr)))))
    all_goals (refine Fin.mkQ rfl (by simp only [resS, sub, subO, subL, subM, sub3, sub2, fk_some, fk_none, fk_arg0, fk_argS, fk_argN, fk_map0, fk_mapS, fk_mapN, reduceIte, Nat.reduceEqDiff, Nat.reduceAdd]; with_reducible rfl) (by simp [oneOf, pureRes, snapFuel, snapL]; with_reducible rfl) ?_)
    all_goals rfl
  | false =>
  rw [hw] at hwd
  by_cases hs : (40 : Int) < (sp.length : Int)
  · refine H.limQ (Nat.le_of_ble_eq_true rfl) ?_; unfold c9
    (repeat' first
    | apply X.retS
    | apply X.skipS
    | apply X.skipB
    | apply X.skipL
    | (apply X.exitS; first | apply X.here | (refine X.out (by decide) ?_; apply X.here))
    | apply X.blockS
    | (apply X.condQ rfl; (focus (simp only [sub, subO, subL, subM, sub3, sub2, fk_some, fk_none, fk_arg0, fk_argS, fk_argN, fk_map0, fk_mapS, fk_mapN, reduceIte, Nat.reduceEqDiff, Nat.reduceAdd]; with_reducible rfl)); all_goals (intro hbr; first | exact absurd hbr (by decide) | ((try rw [hbr]); (try simp at hbr))))
    | apply X.stepZ
    | (apply X.stepQ rfl; (focus (simp only [sub, subO, subL, subM, sub3, sub2, fk_some, fk_none, fk_arg0, fk_argS, fk_argN, fk_map0, fk_mapS, fk_mapN, reduceIte, Nat.reduceEqDiff, Nat.reduceAdd]; with_reducible rfl)); (focus (simp [-getElem?_pos, HH.rawake, haw, HH.wide.raw, hwd, hll, hs]; with_reducible (first | rfl | exact ⟨rfl, rfl⟩))))
    | (apply X.stepNQ rfl; (focus (simp only [sub, subO, subL, subM, sub3, sub2, fk_some, fk_none, fk_arg0, fk_argS, fk_argN, fk_map0, fk_mapS, fk_mapN, reduceIte, Nat.reduceEqDiff, Nat.reduceAdd]; with_reducible rfl)))
    | ((first | apply X.stepGtQ rfl | apply X.stepGfQ rfl); (focus (simp only [sub, subO, subL, subM, sub3, sub2, fk_some, fk_none, fk_arg0, fk_argS, fk_argN, fk_map0, fk_mapS, fk_mapN, reduceIte, Nat.reduceEqDiff, Nat.reduceAdd]; with_reducible rfl)); all_goals (intro hbr; first | exact absurd hbr (by decide) | ((try rw [hbr]); (try simp at hbr)))))
    all_goals (refine Fin.mkQ rfl (by simp only [resS, sub, subO, subL, subM, sub3, sub2, fk_some, fk_none, fk_arg0, fk_argS, fk_argN, fk_map0, fk_mapS, fk_mapN, reduceIte, Nat.reduceEqDiff, Nat.reduceAdd]; with_reducible rfl) (by simp [oneOf, pureRes, snapFuel, snapL]; with_reducible rfl) ?_)
    all_goals rfl
  cases hg : goodS e a b sp v q with
  | false =>
    rw [hg] at hgd
    refine H.limQ (Nat.le_of_ble_eq_true rfl) ?_; unfold c9
    (repeat' first
    | apply X.retS
    | apply X.skipS
    | apply X.skipB
    | apply X.skipL
    | (apply X.exitS; first | apply X.here | (refine X.out (by decide) ?_; apply X.here))
    | apply X.blockS
    | (apply X.condQ rfl; (focus (simp only [sub, subO, subL, subM, sub3, sub2, fk_some, fk_none, fk_arg0, fk_argS, fk_argN, fk_map0, fk_mapS, fk_mapN, reduceIte, Nat.reduceEqDiff, Nat.reduceAdd]; with_reducible rfl)); all_goals (intro hbr; first | exact absurd hbr (by decide) | ((try rw [hbr]); (try simp at hbr))))
    | apply X.stepZ
    | (apply X.stepQ rfl; (focus (simp only [sub, subO, subL, subM, sub3, sub2, fk_some, fk_none, fk_arg0, fk_argS, fk_argN, fk_map0, fk_mapS, fk_mapN, reduceIte, Nat.reduceEqDiff, Nat.reduceAdd]; with_reducible rfl)); (focus (simp [-getElem?_pos, HH.rawake, haw, HH.wide.raw, hwd, hll, hs, HH.s.u.rg, hgd]; with_reducible (first | rfl | exact ⟨rfl, rfl⟩))))
    | (apply X.stepNQ rfl; (focus (simp only [sub, subO, subL, subM, sub3, sub2, fk_some, fk_none, fk_arg0, fk_argS, fk_argN, fk_map0, fk_mapS, fk_mapN, reduceIte, Nat.reduceEqDiff, Nat.reduceAdd]; with_reducible rfl)))
    | ((first | apply X.stepGtQ rfl | apply X.stepGfQ rfl); (focus (simp only [sub, subO, subL, subM, sub3, sub2, fk_some, fk_none, fk_arg0, fk_argS, fk_argN, fk_map0, fk_mapS, fk_mapN, reduceIte, Nat.reduceEqDiff, Nat.reduceAdd]; with_reducible rfl)); all_goals (intro hbr; first | exact absurd hbr (by decide) | ((try rw [hbr]); (try simp at hbr)))))
    all_goals (refine Fin.mkQ rfl (by simp only [resS, sub, subO, subL, subM, sub3, sub2, fk_some, fk_none, fk_arg0, fk_argS, fk_argN, fk_map0, fk_mapS, fk_mapN, reduceIte, Nat.reduceEqDiff, Nat.reduceAdd]; with_reducible rfl) (by simp [oneOf, pureRes, snapFuel, snapL]; with_reducible rfl) ?_)
    all_goals rfl
  | true =>
  rw [hg] at hgd
  by_cases hx0 : x = 0
  · subst hx0
    refine H.limQ (Nat.le_of_ble_eq_true rfl) ?_; unfold c9
    (repeat' first
    | apply X.retS
    | apply X.skipS
    | apply X.skipB
    | apply X.skipL
    | (apply X.exitS; first | apply X.here | (refine X.out (by decide) ?_; apply X.here))
    | apply X.blockS
    | (apply X.condQ rfl; (focus (simp only [sub, subO, subL, subM, sub3, sub2, fk_some, fk_none, fk_arg0, fk_argS, fk_argN, fk_map0, fk_mapS, fk_mapN, reduceIte, Nat.reduceEqDiff, Nat.reduceAdd]; with_reducible rfl)); all_goals (intro hbr; first | exact absurd hbr (by decide) | ((try rw [hbr]); (try simp at hbr))))
    | apply X.stepZ
    | (apply X.stepQ rfl; (focus (simp only [sub, subO, subL, subM, sub3, sub2, fk_some, fk_none, fk_arg0, fk_argS, fk_argN, fk_map0, fk_mapS, fk_mapN, reduceIte, Nat.reduceEqDiff, Nat.reduceAdd]; with_reducible rfl)); (focus (simp [-getElem?_pos, HH.rawake, haw, HH.wide.raw, hwd, hll, hs, HH.s.u.rg, hgd]; with_reducible (first | rfl | exact ⟨rfl, rfl⟩))))
    | (apply X.stepNQ rfl; (focus (simp only [sub, subO, subL, subM, sub3, sub2, fk_some, fk_none, fk_arg0, fk_argS, fk_argN, fk_map0, fk_mapS, fk_mapN, reduceIte, Nat.reduceEqDiff, Nat.reduceAdd]; with_reducible rfl)))
    | ((first | apply X.stepGtQ rfl | apply X.stepGfQ rfl); (focus (simp only [sub, subO, subL, subM, sub3, sub2, fk_some, fk_none, fk_arg0, fk_argS, fk_argN, fk_map0, fk_mapS, fk_mapN, reduceIte, Nat.reduceEqDiff, Nat.reduceAdd]; with_reducible rfl)); all_goals (intro hbr; first | exact absurd hbr (by decide) | ((try rw [hbr]); (try simp at hbr)))))
    all_goals (refine Fin.mkQ rfl (by simp only [resS, sub, subO, subL, subM, sub3, sub2, fk_some, fk_none, fk_arg0, fk_argS, fk_argN, fk_map0, fk_mapS, fk_mapN, reduceIte, Nat.reduceEqDiff, Nat.reduceAdd]; with_reducible rfl) (by simp [oneOf, pureRes, snapFuel, snapL]; with_reducible rfl) ?_)
    all_goals rfl
  have w0 : binA .eql .no (.pv (.int .u8 x)) (.pv (.int .u8 0)) = some (.pv (.bool false)) := by simp [binA, intBin, hx0]
  have w1 : binA .gtr .no (.pv (.int .i64 (sp.length : Int))) (.pv (.int .i64 40)) = some (.pv (.bool false)) := by simp [binA, intBin]; omega
  refine H.limQ (Nat.le_of_ble_eq_true rfl) ?_; unfold c9
  (repeat' first
    | apply X.retS
    | apply X.skipS
    | apply X.skipB
    | apply X.skipL
    | (apply X.exitS; first | apply X.here | (refine X.out (by decide) ?_; apply X.here))
    | apply X.blockS
    | (apply X.condQ rfl; (focus (simp only [sub, subO, subL, subM, sub3, sub2, fk_some, fk_none, fk_arg0, fk_argS, fk_argN, fk_map0, fk_mapS, fk_mapN, reduceIte, Nat.reduceEqDiff, Nat.reduceAdd]; with_reducible rfl)); all_goals (intro hbr; first | exact absurd hbr (by decide) | ((try rw [hbr]); (try simp at hbr))))
    | apply X.stepZ
    | (apply X.stepQ rfl; (focus (simp only [sub, subO, subL, subM, sub3, sub2, fk_some, fk_none, fk_arg0, fk_argS, fk_argN, fk_map0, fk_mapS, fk_mapN, reduceIte, Nat.reduceEqDiff, Nat.reduceAdd]; with_reducible rfl)); (focus (simp [-getElem?_pos, -binA, HH.rawake, haw, HH.wide.raw, hwd, hll, w0, w1, HH.s.u.rg, hgd]; with_reducible (first | rfl | exact ⟨rfl, rfl⟩))))
    | (apply X.stepNQ rfl; (focus (simp only [sub, subO, subL, subM, sub3, sub2, fk_some, fk_none, fk_arg0, fk_argS, fk_argN, fk_map0, fk_mapS, fk_mapN, reduceIte, Nat.reduceEqDiff, Nat.reduceAdd]; with_reducible rfl)))
    | ((first | apply X.stepGtQ rfl | apply X.stepGfQ rfl); (focus (simp only [sub, subO, subL, subM, sub3, sub2, fk_some, fk_none, fk_arg0, fk_argS, fk_argN, fk_map0, fk_mapS, fk_mapN, reduceIte, Nat.reduceEqDiff, Nat.reduceAdd]; with_reducible rfl)); all_goals (intro hbr; first | exact absurd hbr (by decide) | ((try rw [hbr]); (try simp at hbr)))))
  refine X.callQX (P := _) rfl (by simp only [sub, subO, subL, subM, sub3, sub2, fk_some, fk_none, fk_arg0, fk_argS, fk_argN, fk_map0, fk_mapS, fk_mapN, reduceIte, Nat.reduceEqDiff, Nat.reduceAdd]; all_goals (first | with_reducible rfl | (simp <;> with_reducible rfl))) HH.s.put.raw HH.s.put.ext (hpt _) ?_
  rintro r h1 ⟨U1, O1⟩
  have hne := putS_ne hg
  have hby := byt_putS (e := e) (a := a) (b := b) (sp := sp) (v := v) (q := q) hf
  have x0 : ent h1 0 = _ := O1.old 0 (by simp)
  have hsame := fun (y : Re) (h2 : y.sp.length ≤ 9223372036854775807) (h3 : FineV y.v) => rsame_ok HH.s (e := y.e) (a := y.a) (b := y.b) (sp := y.sp) (v := y.v) (q := y.q) (e' := e) (a' := a) (b' := b) (sp' := sp) (v' := v) (q' := q) h2 h3 hl hf
  rw [hg] at hsame
  clear hpt hgd hwd w0 w1 hll haw
  generalize putS e a b sp v q = P at U1 hne hby hsame
  rcases U1 with ⟨hn, _⟩ | ⟨_, id, rfl, ty, y1⟩
  · exact absurd (by simpa [encB] using hn) hne
  rw [encB_len]
  have hP : 0 < P.length := List.length_pos_iff.2 hne
  have hidn : id ≠ 0 := by
    rintro rfl
    rw [x0] at y1
    cases P with
    | nil => exact hne rfl
    | cons p l => simp [ent, encB] at y1
  have hid1 := Rp.ent_lt y1
  by_cases hi : i < 0 ∨ (P.length : Int) ≤ i
  · have w4 : binA .gtr .no (.pv (.int .i64 (P.length : Int))) (.pv (.int .i64 0)) = some (.pv (.bool true)) := by simp [binA, intBin]; omega
    by_cases hi0 : i < 0
    · have w2 : binA .lss .no (.pv (.int .i64 i)) (.pv (.int .i64 0)) = some (.pv (.bool true)) := by simp [binA, intBin, hi0]
      (repeat' first
    | apply X.retS
    | apply X.skipS
    | apply X.skipB
    | apply X.skipL
    | (apply X.exitS; first | apply X.here | (refine X.out (by decide) ?_; apply X.here))
    | apply X.blockS
    | (apply X.condQ rfl; (focus (simp only [sub, subO, subL, subM, sub3, sub2, fk_some, fk_none, fk_arg0, fk_argS, fk_argN, fk_map0, fk_mapS, fk_mapN, reduceIte, Nat.reduceEqDiff, Nat.reduceAdd]; with_reducible rfl)); all_goals (intro hbr; first | exact absurd hbr (by decide) | ((try rw [hbr]); (try simp at hbr))))
    | apply X.stepZ
    | (apply X.stepQ rfl; (focus (simp only [sub, subO, subL, subM, sub3, sub2, fk_some, fk_none, fk_arg0, fk_argS, fk_argN, fk_map0, fk_mapS, fk_mapN, reduceIte, Nat.reduceEqDiff, Nat.reduceAdd]; with_reducible rfl)); (focus (simp [-getElem?_pos, -binA, w2, w4]; with_reducible (first | rfl | exact ⟨rfl, rfl⟩))))
    | (apply X.stepNQ rfl; (focus (simp only [sub, subO, subL, subM, sub3, sub2, fk_some, fk_none, fk_arg0, fk_argS, fk_argN, fk_map0, fk_mapS, fk_mapN, reduceIte, Nat.reduceEqDiff, Nat.reduceAdd]; with_reducible rfl)))
    | ((first | apply X.stepGtQ rfl | apply X.stepGfQ rfl); (focus (simp only [sub, subO, subL, subM, sub3, sub2, fk_some, fk_none, fk_arg0, fk_argS, fk_argN, fk_map0, fk_mapS, fk_mapN, reduceIte, Nat.reduceEqDiff, Nat.reduceAdd]; with_reducible rfl)); all_goals (intro hbr; first | exact absurd hbr (by decide) | ((try rw [hbr]); (try simp at hbr)))))
      all_goals (refine Fin.mkQ rfl (by simp only [resS, sub, subO, subL, subM, sub3, sub2, fk_some, fk_none, fk_arg0, fk_argS, fk_argN, fk_map0, fk_mapS, fk_mapN, reduceIte, Nat.reduceEqDiff, Nat.reduceAdd]; with_reducible rfl) (by simp [oneOf, pureRes, snapFuel, snapL]; with_reducible rfl) ?_)
      all_goals rfl
    · have w2 : binA .lss .no (.pv (.int .i64 i)) (.pv (.int .i64 0)) = some (.pv (.bool false)) := by simp [binA, intBin, hi0]
      have w3 : binA .geq .no (.pv (.int .i64 i)) (.pv (.int .i64 (P.length : Int))) = some (.pv (.bool true)) := by simp [binA, intBin]; omega
      (repeat' first
    | apply X.retS
    | apply X.skipS
    | apply X.skipB
    | apply X.skipL
    | (apply X.exitS; first | apply X.here | (refine X.out (by decide) ?_; apply X.here))
    | apply X.blockS
    | (apply X.condQ rfl; (focus (simp only [sub, subO, subL, subM, sub3, sub2, fk_some, fk_none, fk_arg0, fk_argS, fk_argN, fk_map0, fk_mapS, fk_mapN, reduceIte, Nat.reduceEqDiff, Nat.reduceAdd]; with_reducible rfl)); all_goals (intro hbr; first | exact absurd hbr (by decide) | ((try rw [hbr]); (try simp at hbr))))
    | apply X.stepZ
    | (apply X.stepQ rfl; (focus (simp only [sub, subO, subL, subM, sub3, sub2, fk_some, fk_none, fk_arg0, fk_argS, fk_argN, fk_map0, fk_mapS, fk_mapN, reduceIte, Nat.reduceEqDiff, Nat.reduceAdd]; with_reducible rfl)); (focus (simp [-getElem?_pos, -binA, w2, w3, w4]; with_reducible (first | rfl | exact ⟨rfl, rfl⟩))))
    | (apply X.stepNQ rfl; (focus (simp only [sub, subO, subL, subM, sub3, sub2, fk_some, fk_none, fk_arg0, fk_argS, fk_argN, fk_map0, fk_mapS, fk_mapN, reduceIte, Nat.reduceEqDiff, Nat.reduceAdd]; with_reducible rfl)))
    | ((first | apply X.stepGtQ rfl | apply X.stepGfQ rfl); (focus (simp only [sub, subO, subL, subM, sub3, sub2, fk_some, fk_none, fk_arg0, fk_argS, fk_argN, fk_map0, fk_mapS, fk_mapN, reduceIte, Nat.reduceEqDiff, Nat.reduceAdd]; with_reducible rfl)); all_goals (intro hbr; first | exact absurd hbr (by decide) | ((try rw [hbr]); (try simp at hbr)))))
      all_goals (refine Fin.mkQ rfl (by simp only [resS, sub, subO, subL, subM, sub3, sub2, fk_some, fk_none, fk_arg0, fk_argS, fk_argN, fk_map0, fk_mapS, fk_mapN, reduceIte, Nat.reduceEqDiff, Nat.reduceAdd]; with_reducible rfl) (by simp [oneOf, pureRes, snapFuel, snapL]; with_reducible rfl) ?_)
      all_goals rfl
  obtain ⟨j, rfl⟩ : ∃ j : Nat, i = j := ⟨i.toNat, by omega⟩
  have hj : j < P.length := by omega
  have w2 : binA .lss .no (.pv (.int .i64 (j : Int))) (.pv (.int .i64 0)) = some (.pv (.bool false)) := by
    have : ¬ (j : Int) < 0 := by omega
    simp [binA, intBin, this]
  have w3 : binA .geq .no (.pv (.int .i64 (j : Int))) (.pv (.int .i64 (P.length : Int))) = some (.pv (.bool false)) := by simp [binA, intBin, hj]
  obtain ⟨p, hp⟩ := at_of_lt hj
  have hpb := hby p (List.mem_of_getElem? hp)
  have w5 : binA .xor .no (.pv (.int .u8 p)) (.pv (.int .u8 x)) = some (.pv (.int .u8 (xorB p x))) := rfl
  have hcs : ((encB P).map V.pv)[j]? = some (.pv (.int .u8 p)) := by simp [encB, hp]
  have hcl : ((encB P).map V.pv).length = P.length := by simp [encB]
  have hia : iaddrSlA 1 (.sln id 0 P.length 1 false) (.pv (.int .i64 (j : Int))) = some (.ptr id j) := by simp [iaddrSlA, natOf?, hj]
  have hld : loadA h1 false 1 (.ptr id j) = some (.pv (.int .u8 p)) := by
    simp only [loadA, y1, cut, hcl]
    rw [if_pos (by omega), take_one hcs]
    rfl
  have hst := store_cell (off := j) (v := .pv (.int .u8 (xorB p x))) y1 rfl rfl (by omega)
  rw [splice_one (by omega)] at hst
  have hset : ((encB P).map V.pv).set j (.pv (.int .u8 (xorB p x))) = (encB (P.set j (xorB p x))).map V.pv := by simp [encB, List.map_set]
  rw [hset] at hst
  have hb2 : Byt (P.set j (xorB p x)) := fun z hz => by
    rcases List.mem_or_eq_of_mem_set hz with h | h
    · exact hby z h
    · rw [h]; exact xorB_rng p x
  have hne2 : P.set j (xorB p x) ≠ P := fun h => by
    have h2 : (P.set j (xorB p x))[j]? = P[j]? := by rw [h]
    rw [hp, List.getElem?_set_self hj] at h2
    exact xorB_ne hpb hx hx0 (Option.some.inj h2)
  have hU : Buf (h1.set id (.blk ((encB (P.set j (xorB p x))).map V.pv) ty)) 5 (.sln id 0 P.length 1 false) (encB (P.set j (xorB p x))) :=
    .inr ⟨fun h => by (have h4 := congrArg List.length h); rw [encB_len, List.length_set] at h4; simp only [List.length_nil] at h4; omega, id, by simp [encB], ty, ent_set hid1⟩
  have z0 : ent (h1.set id (.blk ((encB (P.set j (xorB p x))).map V.pv) ty)) 0 = _ := (ent_set_ne hidn).trans x0
  have hlz : (h1.set id (.blk ((encB (P.set j (xorB p x))).map V.pv) ty)).length = h1.length := by simp
  clear hcs hcl hset y1 x0
  generalize h1.set id (.blk ((encB (P.set j (xorB p x))).map V.pv) ty) = h2 at hst hU z0 hlz
  generalize P.set j (xorB p x) = P2 at hb2 hne2 hU
  obtain ⟨h3, s1, s2, s3⟩ := hU.snap1
  have z3 : ent h3 0 = _ := (s3 0 (by simp [idOf]; omega)).trans z0
  have hgt := HH.get P2 hb2
  have hgc := getR_cases hb2
  (repeat' first
    | apply X.retS
    | apply X.skipS
    | apply X.skipB
    | apply X.skipL
    | (apply X.exitS; first | apply X.here | (refine X.out (by decide) ?_; apply X.here))
    | apply X.blockS
    | (apply X.condQ rfl; (focus (simp only [sub, subO, subL, subM, sub3, sub2, fk_some, fk_none, fk_arg0, fk_argS, fk_argN, fk_map0, fk_mapS, fk_mapN, reduceIte, Nat.reduceEqDiff, Nat.reduceAdd]; with_reducible rfl)); all_goals (intro hbr; first | exact absurd hbr (by decide) | ((try rw [hbr]); (try simp at hbr))))
    | apply X.stepZ
    | (apply X.stepQ rfl; (focus (simp only [sub, subO, subL, subM, sub3, sub2, fk_some, fk_none, fk_arg0, fk_argS, fk_argN, fk_map0, fk_mapS, fk_mapN, reduceIte, Nat.reduceEqDiff, Nat.reduceAdd]; with_reducible rfl)); (focus (simp [-getElem?_pos, -binA, -loadA, -storeA, -iaddrSlA, w2, w3, w5, hia, hld, hst]; with_reducible (first | rfl | exact ⟨rfl, rfl⟩))))
    | (apply X.stepNQ rfl; (focus (simp only [sub, subO, subL, subM, sub3, sub2, fk_some, fk_none, fk_arg0, fk_argS, fk_argN, fk_map0, fk_mapS, fk_mapN, reduceIte, Nat.reduceEqDiff, Nat.reduceAdd]; with_reducible rfl)))
    | ((first | apply X.stepGtQ rfl | apply X.stepGfQ rfl); (focus (simp only [sub, subO, subL, subM, sub3, sub2, fk_some, fk_none, fk_arg0, fk_argS, fk_argN, fk_map0, fk_mapS, fk_mapN, reduceIte, Nat.reduceEqDiff, Nat.reduceAdd]; with_reducible rfl)); all_goals (intro hbr; first | exact absurd hbr (by decide) | ((try rw [hbr]); (try simp at hbr)))))
  refine X.callGQ (v := .tup [.pv (encX (getR P2).1), .pv (.int .i64 (getR P2).2)]) (h1 := h3) rfl (by simp only [sub, subO, subL, subM, sub3, sub2, fk_some, fk_none, fk_arg0, fk_argS, fk_argN, fk_map0, fk_mapS, fk_mapN, reduceIte, Nat.reduceEqDiff, Nat.reduceAdd]; all_goals (first | with_reducible rfl | (simp; done) | (simp <;> with_reducible rfl))) (by simp only [callA, HH.rget, Bool.false_eq_true, if_false, s1, hgt]; rfl) ?_
  clear hgt s1 s3 hU z0 hst hld hia w5 w2 w3 hb2
  rcases hgc with hr | ⟨y, hr, hy1, hy2, hy3⟩
  · rw [hr]
    have e0 : encX zeroX = .agg [.int .i64 0, .int .i64 0, .int .i64 0, .sl [], .int .i64 0, .int .u8 0, .sl [], .flt .f64 0] := by simp [encX, zeroX, encR, vk, vb, vl]
    dsimp only
    rw [e0]
    (repeat' first
    | apply X.retS
    | apply X.skipS
    | apply X.skipB
    | apply X.skipL
    | (apply X.exitS; first | apply X.here | (refine X.out (by decide) ?_; apply X.here))
    | apply X.blockS
    | (apply X.condQ rfl; (focus (simp only [sub, subO, subL, subM, sub3, sub2, fk_some, fk_none, fk_arg0, fk_argS, fk_argN, fk_map0, fk_mapS, fk_mapN, reduceIte, Nat.reduceEqDiff, Nat.reduceAdd]; with_reducible rfl)); all_goals (intro hbr; first | exact absurd hbr (by decide) | ((try rw [hbr]); (try simp at hbr))))
    | apply X.stepZ
    | (apply X.stepQ rfl; (focus (simp only [sub, subO, subL, subM, sub3, sub2, fk_some, fk_none, fk_arg0, fk_argS, fk_argN, fk_map0, fk_mapS, fk_mapN, reduceIte, Nat.reduceEqDiff, Nat.reduceAdd]; with_reducible rfl)); (focus (simp [-getElem?_pos]; with_reducible (first | rfl | exact ⟨rfl, rfl⟩))))
    | (apply X.stepNQ rfl; (focus (simp only [sub, subO, subL, subM, sub3, sub2, fk_some, fk_none, fk_arg0, fk_argS, fk_argN, fk_map0, fk_mapS, fk_mapN, reduceIte, Nat.reduceEqDiff, Nat.reduceAdd]; with_reducible rfl)))
    | ((first | apply X.stepGtQ rfl | apply X.stepGfQ rfl); (focus (simp only [sub, subO, subL, subM, sub3, sub2, fk_some, fk_none, fk_arg0, fk_argS, fk_argN, fk_map0, fk_mapS, fk_mapN, reduceIte, Nat.reduceEqDiff, Nat.reduceAdd]; with_reducible rfl)); all_goals (intro hbr; first | exact absurd hbr (by decide) | ((try rw [hbr]); (try simp at hbr)))))
    all_goals (refine Fin.mkQ rfl (by simp only [resS, sub, subO, subL, subM, sub3, sub2, fk_some, fk_none, fk_arg0, fk_argS, fk_argN, fk_map0, fk_mapS, fk_mapN, reduceIte, Nat.reduceEqDiff, Nat.reduceAdd]; with_reducible rfl) (by simp [oneOf, pureRes, snapFuel, snapL]; with_reducible rfl) ?_)
    all_goals rfl
  · rw [hr]
    have hsm := hsame y (by omega) hy3
    have e1 : sameS (goodS y.e y.a y.b y.sp y.v y.q) true (putS y.e y.a y.b y.sp y.v y.q) P = false := by
      have : putS y.e y.a y.b y.sp y.v y.q ≠ P := by
        intro h
        exact hne2 (hy1.symm.trans h)
      simp [sameS, this]
    rw [e1] at hsm
    simp only [encR] at hsm
    dsimp only [encX, encR]
    (repeat' first
    | apply X.retS
    | apply X.skipS
    | apply X.skipB
    | apply X.skipL
    | (apply X.exitS; first | apply X.here | (refine X.out (by decide) ?_; apply X.here))
    | apply X.blockS
    | (apply X.condQ rfl; (focus (simp only [sub, subO, subL, subM, sub3, sub2, fk_some, fk_none, fk_arg0, fk_argS, fk_argN, fk_map0, fk_mapS, fk_mapN, reduceIte, Nat.reduceEqDiff, Nat.reduceAdd]; with_reducible rfl)); all_goals (intro hbr; first | exact absurd hbr (by decide) | ((try rw [hbr]); (try simp at hbr))))
    | apply X.stepZ
    | (apply X.stepQ rfl; (focus (simp only [sub, subO, subL, subM, sub3, sub2, fk_some, fk_none, fk_arg0, fk_argS, fk_argN, fk_map0, fk_mapS, fk_mapN, reduceIte, Nat.reduceEqDiff, Nat.reduceAdd]; with_reducible rfl)); (focus (simp [-getElem?_pos, ent_app z3, HH.s.same.raw, hsm]; with_reducible (first | rfl | exact ⟨rfl, rfl⟩))))
    | (apply X.stepNQ rfl; (focus (simp only [sub, subO, subL, subM, sub3, sub2, fk_some, fk_none, fk_arg0, fk_argS, fk_argN, fk_map0, fk_mapS, fk_mapN, reduceIte, Nat.reduceEqDiff, Nat.reduceAdd]; with_reducible rfl)))
    | ((first | apply X.stepGtQ rfl | apply X.stepGfQ rfl); (focus (simp only [sub, subO, subL, subM, sub3, sub2, fk_some, fk_none, fk_arg0, fk_argS, fk_argN, fk_map0, fk_mapS, fk_mapN, reduceIte, Nat.reduceEqDiff, Nat.reduceAdd]; with_reducible rfl)); all_goals (intro hbr; first | exact absurd hbr (by decide) | ((try rw [hbr]); (try simp at hbr)))))
    all_goals (refine Fin.mkQ rfl (by simp only [resS, sub, subO, subL, subM, sub3, sub2, fk_some, fk_none, fk_arg0, fk_argS, fk_argN, fk_map0, fk_mapS, fk_mapN, reduceIte, Nat.reduceEqDiff, Nat.reduceAdd]; with_reducible rfl) (by simp [oneOf, pureRes, snapFuel, snapL]; with_reducible rfl) ?_)
    all_goals rfl
end Rp
