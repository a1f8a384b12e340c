/- BkD: steps, walks, laws: see the remarks within. -/
import Derived.Test.YtdacifedlemlmaaBkC
set_option linter.unusedSimpArgs false
set_option linter.unusedVariables false
-- report's reader: take: walked.
namespace Rp
open Go Ab Go.Proofs.Ytdacifedlemlmaa.Mach
variable {E : Env}

/-- One more byte of a number. -/
def or8 (n x : Int) : Int := IntKind.i64.wrap (BitVec.ofInt 64 (IntKind.i64.wrap (n * 256)) ||| BitVec.ofInt 64 x).toNat
def numI (l : List Int) : Int := l.foldl or8 0
/-- A number of so many bytes is taken. -/
def takeS (k : Nat) (bs : List Int) (bad : Bool) : Int × List Int × Bool :=
  if bad = true ∨ bs.length < k then (0, bs, true) else (numI (bs.take k), bs.drop k, false)

/-- A reader in the heap. -/
def Rd (h : Heap) (ri : Nat) (bs : List Int) (bad : Bool) : Prop := ∃ t, ent h ri = .blk [.pv (.sl (encB bs)), .pv (.bool bad)] t
/-- What is left of a heap in which a cell may be turned. -/
structure But (h : Heap) (S : List Nat) (h' : Heap) : Prop where
  len : h.length ≤ h'.length
  old : ∀ i, i < h.length → i ∉ S → ent h' i = ent h i
theorem But.refl {h : Heap} {S : List Nat} : But h S h := ⟨Nat.le_refl _, fun _ _ _ => rfl⟩
theorem But.trans {h h1 h2 : Heap} {S : List Nat} (a : But h S h1) (b : But h1 S h2) : But h S h2 :=
  ⟨Nat.le_trans a.len b.len, fun i hi hn => (b.old i (Nat.lt_of_lt_of_le hi a.len) hn).trans (a.old i hi hn)⟩
theorem But.more {h h1 l : Heap} {S : List Nat} (a : But h S h1) : But h S (h1 ++ l) :=
  ⟨by have := a.len; simp; omega, fun i hi hn => by
    rw [← a.old i hi hn]
    have : i < h1.length := Nat.lt_of_lt_of_le hi a.len
    simp only [ent, List.getElem?_append_left this]⟩
theorem But.less {h h1 l : Heap} {S : List Nat} (a : But (h ++ l) S h1) : But h S h1 :=
  ⟨by have := a.len; simp at this; omega, fun i hi hn => by rw [a.old i (by simp; omega) hn]; simp only [ent, List.getElem?_append_left hi]⟩
theorem But.set {h : Heap} {i : Nat} {e : Ent} {S : List Nat} (hi : i ∈ S) : But h S (h.set i e) :=
  ⟨by simp, fun j hj hn => by
    simp only [ent]
    rw [List.getElem?_set_ne]
    rintro rfl
    exact hn hi⟩
theorem But.wide {h h1 : Heap} {S S' : List Nat} (a : But h S h1) (hs : ∀ x ∈ S, x ∈ S') : But h S' h1 := ⟨a.len, fun i hi hn => a.old i hi fun h => hn (hs i h)⟩
theorem rd_lt {h : Heap} {ri : Nat} {bs : List Int} {bad : Bool} (r : Rd h ri bs bad) : ri < h.length := by
  obtain ⟨t, r⟩ := r
  exact ent_lt r

theorem strideB (s : List Int) : strideOk 1 (encB s) = true := strideOk_of fun e he => by
  simp [encB] at he
  obtain ⟨x, _, rfl⟩ := he
  rfl
theorem sliceB_lo {s : List Int} {j : Nat} (h : j ≤ s.length) : sliceSlA 1 (.pv (.sl (encB s))) none (some (.pv (.int .i64 (j : Int)))) = some (.pv (.sl (encB (s.take j)))) := by
  have hl := encB_len s
  have e : (encB s).take j = encB (s.take j) := by simp [encB]
  simp [sliceSlA, bounds, natOf?, hl, h, -strideOk, strideB, ← e]
theorem sliceB_hi {s : List Int} {j : Nat} (h : j ≤ s.length) : sliceSlA 1 (.pv (.sl (encB s))) (some (.pv (.int .i64 (j : Int)))) none = some (.pv (.sl (encB (s.drop j)))) := by
  have hl := encB_len s
  have h2 : ((encB s).drop j).take (s.length - j) = encB (s.drop j) := by
    have e : (encB s).drop j = encB (s.drop j) := by simp [encB]
    rw [e, List.take_of_length_le]
    rw [encB_len]; simp
  simp [sliceSlA, bounds, natOf?, hl, h, -strideOk, strideB, h2]

structure HasT (E : Env) : Prop where
  take : HasR E 55 c55

theorem shlI (n : Int) : binA .shl .no (.pv (.int .i64 n)) (.pv (.int .u64 8)) = some (.pv (.int .i64 (IntKind.i64.wrap (n * 256)))) := by
  have : min ((8 : Int).toNat) (IntKind.i64.bits) = 8 := by simp [IntKind.bits]
  simp only [binA, intBin]
  rw [if_neg (by omega), this]
  rfl
theorem orI8 (m x : Int) : binA .or .no (.pv (.int .i64 m)) (.pv (.int .i64 x)) = some (.pv (.int .i64 (IntKind.i64.wrap (BitVec.ofInt 64 m ||| BitVec.ofInt 64 x).toNat))) := rfl

set_option maxHeartbeats 8000000 in
theorem take_ok (HH : HasT E) (h : Heap) (ri k : Nat) (bs : List Int) (bad : Bool) (hr : Rd h ri bs bad) (hb : Byt bs) (hk : k ≤ 8) :
    ∃ r h', limR E 55 [.ptr ri 0, .pv (.int .i64 (k : Int))] h = some (r, h') ∧ (r = .pv (.int .i64 (takeS k bs bad).1) ∧ Rd h' ri (takeS k bs bad).2.1 (takeS k bs bad).2.2 ∧ But h [ri] h') := by
  obtain ⟨t, x1⟩ := hr
  have hlt := ent_lt x1
  have hll := encB_len bs
  refine HH.take.limQE (Nat.le_of_ble_eq_true rfl) ?_; unfold c55
  unfold takeS
  cases bad with
  | true =>
    rw [if_pos (.inl rfl)]
    (repeat' first
    | apply X.retS
    | apply X.skipS
    | apply X.skipB
    | apply X.skipL
    | (apply X.exitS; first | apply X.here | (refine X.out (by decide) ?_; apply X.here))
    | apply X.blockS
    | (apply X.condQ rfl; (focus (simp only [sub, subO, subL, subM, sub3, sub2, fk_some, fk_none, fk_arg0, fk_argS, fk_argN, fk_map0, fk_mapS, fk_mapN, reduceIte, Nat.reduceEqDiff, Nat.reduceAdd]; with_reducible rfl)); all_goals (intro hbr; first | exact absurd hbr (by decide) | ((try rw [hbr]); (try simp at hbr))))
    | apply X.stepZ
    | (apply X.stepQ rfl; (focus (simp only [sub, subO, subL, subM, sub3, sub2, fk_some, fk_none, fk_arg0, fk_argS, fk_argN, fk_map0, fk_mapS, fk_mapN, reduceIte, Nat.reduceEqDiff, Nat.reduceAdd]; with_reducible rfl)); (focus (simp [-getElem?_pos, x1]; with_reducible (first | rfl | exact ⟨rfl, rfl⟩))))
    | (apply X.stepNQ rfl; (focus (simp only [sub, subO, subL, subM, sub3, sub2, fk_some, fk_none, fk_arg0, fk_argS, fk_argN, fk_map0, fk_mapS, fk_mapN, reduceIte, Nat.reduceEqDiff, Nat.reduceAdd]; with_reducible rfl)))
    | ((first | apply X.stepGtQ rfl | apply X.stepGfQ rfl); (focus (simp only [sub, subO, subL, subM, sub3, sub2, fk_some, fk_none, fk_arg0, fk_argS, fk_argN, fk_map0, fk_mapS, fk_mapN, reduceIte, Nat.reduceEqDiff, Nat.reduceAdd]; with_reducible rfl)); all_goals (intro hbr; first | exact absurd hbr (by decide) | ((try rw [hbr]); (try simp at hbr)))))
    all_goals exact FinE.retQ (us := [.pv (.int .i64 0)]) rfl (by simp [resS]) ⟨rfl, ⟨t, by simp [ent, hlt]⟩, But.set (by simp)⟩
  | false =>
  by_cases hlk : bs.length < k
  · have w1 : binA .lss .no (.pv (.int .i64 (bs.length : Int))) (.pv (.int .i64 (k : Int))) = some (.pv (.bool true)) := by simp [binA, intBin]; omega
    rw [if_pos (.inr hlk)]
    (repeat' first
    | apply X.retS
    | apply X.skipS
    | apply X.skipB
    | apply X.skipL
    | (apply X.exitS; first | apply X.here | (refine X.out (by decide) ?_; apply X.here))
    | apply X.blockS
    | (apply X.condQ rfl; (focus (simp only [sub, subO, subL, subM, sub3, sub2, fk_some, fk_none, fk_arg0, fk_argS, fk_argN, fk_map0, fk_mapS, fk_mapN, reduceIte, Nat.reduceEqDiff, Nat.reduceAdd]; with_reducible rfl)); all_goals (intro hbr; first | exact absurd hbr (by decide) | ((try rw [hbr]); (try simp at hbr))))
    | apply X.stepZ
    | (apply X.stepQ rfl; (focus (simp only [sub, subO, subL, subM, sub3, sub2, fk_some, fk_none, fk_arg0, fk_argS, fk_argN, fk_map0, fk_mapS, fk_mapN, reduceIte, Nat.reduceEqDiff, Nat.reduceAdd]; with_reducible rfl)); (focus (simp [-getElem?_pos, -binA, x1, hll, w1]; with_reducible (first | rfl | exact ⟨rfl, rfl⟩))))
    | (apply X.stepNQ rfl; (focus (simp only [sub, subO, subL, subM, sub3, sub2, fk_some, fk_none, fk_arg0, fk_argS, fk_argN, fk_map0, fk_mapS, fk_mapN, reduceIte, Nat.reduceEqDiff, Nat.reduceAdd]; with_reducible rfl)))
    | ((first | apply X.stepGtQ rfl | apply X.stepGfQ rfl); (focus (simp only [sub, subO, subL, subM, sub3, sub2, fk_some, fk_none, fk_arg0, fk_argS, fk_argN, fk_map0, fk_mapS, fk_mapN, reduceIte, Nat.reduceEqDiff, Nat.reduceAdd]; with_reducible rfl)); all_goals (intro hbr; first | exact absurd hbr (by decide) | ((try rw [hbr]); (try simp at hbr)))))
    all_goals exact FinE.retQ (us := [.pv (.int .i64 0)]) rfl (by simp [resS]) ⟨rfl, ⟨t, by simp [ent, hlt]⟩, But.set (by simp)⟩
  · have w1 : binA .lss .no (.pv (.int .i64 (bs.length : Int))) (.pv (.int .i64 (k : Int))) = some (.pv (.bool false)) := by simp [binA, intBin]; omega
    rw [if_neg (by simp [hlk])]
    have s1 := sliceB_lo (s := bs) (j := k) (by omega)
    have s2 := sliceB_hi (s := bs) (j := k) (by omega)
    have hll2 : (encB (bs.take k)).length = k := by rw [encB_len, List.length_take]; omega
    (repeat' first
    | apply X.retS
    | apply X.skipS
    | apply X.skipB
    | apply X.skipL
    | (apply X.exitS; first | apply X.here | (refine X.out (by decide) ?_; apply X.here))
    | apply X.blockS
    | (apply X.condQ rfl; (focus (simp only [sub, subO, subL, subM, sub3, sub2, fk_some, fk_none, fk_arg0, fk_argS, fk_argN, fk_map0, fk_mapS, fk_mapN, reduceIte, Nat.reduceEqDiff, Nat.reduceAdd]; with_reducible rfl)); all_goals (intro hbr; first | exact absurd hbr (by decide) | ((try rw [hbr]); (try simp at hbr))))
    | apply X.stepZ
    | (apply X.stepQ rfl; (focus (simp only [sub, subO, subL, subM, sub3, sub2, fk_some, fk_none, fk_arg0, fk_argS, fk_argN, fk_map0, fk_mapS, fk_mapN, reduceIte, Nat.reduceEqDiff, Nat.reduceAdd]; with_reducible rfl)); (focus (simp [-getElem?_pos, -binA, x1, hll, w1, -sliceSlA, s1, hll2]; with_reducible (first | rfl | exact ⟨rfl, rfl⟩))))
    | (apply X.stepNQ rfl; (focus (simp only [sub, subO, subL, subM, sub3, sub2, fk_some, fk_none, fk_arg0, fk_argS, fk_argN, fk_map0, fk_mapS, fk_mapN, reduceIte, Nat.reduceEqDiff, Nat.reduceAdd]; with_reducible rfl)))
    | ((first | apply X.stepGtQ rfl | apply X.stepGfQ rfl); (focus (simp only [sub, subO, subL, subM, sub3, sub2, fk_some, fk_none, fk_arg0, fk_argS, fk_argN, fk_map0, fk_mapS, fk_mapN, reduceIte, Nat.reduceEqDiff, Nat.reduceAdd]; with_reducible rfl)); all_goals (intro hbr; first | exact absurd hbr (by decide) | ((try rw [hbr]); (try simp at hbr)))))
    refine X.forS k (fun j st => ∃ (f : Nat → V), (fk (Fk.mk (f := f)) 0 = .ptr ri 0 ∧ fk (Fk.mk (f := f)) 1 = .pv (.int .i64 (k : Int)) ∧ fk (Fk.mk (f := f)) 5 = .pv (.int .i64 (numI ((bs.take k).take j))) ∧ fk (Fk.mk (f := f)) 29 = .pv (.sl (encB (bs.take k))) ∧ fk (Fk.mk (f := f)) 30 = .pv (.int .i64 (k : Int)) ∧ fk (Fk.mk (f := f)) 31 = .pv (.int .i64 (j : Int))) ∧ st = ⟨TL 51 f, h⟩) ?_ ?_
    · exact ⟨_, by simp [numI], rfl⟩
    rintro j st hj ⟨f, ⟨f0, f1, f5, f29, f30, f31⟩, rfl⟩
    rcases Nat.lt_or_ge j k with hj1 | hj1
    · have w2 : binA .lss .no (.pv (.int .i64 (j : Int))) (.pv (.int .i64 (k : Int))) = some (.pv (.bool true)) := by simp [binA, intBin]; omega
      have hww : IntKind.i64.wrap ((j : Int) + 1) = (j : Int) + 1 := wrap_i64 (by omega)
      have w3 : binA .add .no (.pv (.int .i64 (j : Int))) (.pv (.int .i64 1)) = some (.pv (.int .i64 ((j : Int) + 1))) := by simp [binA, intBin, hww]
      obtain ⟨x, hx⟩ := at_of_lt (l := bs.take k) (j := j) (by rw [List.length_take]; omega)
      have hxb := hb x (List.mem_of_mem_take (List.mem_of_getElem? hx))
      have hx2 : (encB (bs.take k))[j]? = some (.int .u8 x) := by simp only [encB, List.getElem?_map, hx]; rfl
      have hwx : IntKind.i64.wrap x = x := wrap_i64 (by omega)
      have htk : numI ((bs.take k).take (j + 1)) = or8 (numI ((bs.take k).take j)) x := by
        rw [List.take_add_one, hx]
        simp [numI]
      have w4 := shlI (numI ((bs.take k).take j))
      have w5 := orI8 (IntKind.i64.wrap (numI ((bs.take k).take j) * 256)) x
      have e8 : or8 (numI ((bs.take k).take j)) x = IntKind.i64.wrap (BitVec.ofInt 64 (IntKind.i64.wrap (numI ((bs.take k).take j) * 256)) ||| BitVec.ofInt 64 x).toNat := rfl
      rw [← e8, ← htk] at w5
      clear e8 htk
      generalize numI ((bs.take k).take (j + 1)) = n2 at w5 ⊢
      generalize numI ((bs.take k).take j) = n1 at w4 w5 f5
      generalize IntKind.i64.wrap (n1 * 256) = n3 at w4 w5
      generalize encB (bs.take k) = L at hx2 f29 ⊢
      (repeat' first
    | apply X.retS
    | apply X.skipS
    | apply X.skipB
    | apply X.skipL
    | (apply X.exitS; first | apply X.here | (refine X.out (by decide) ?_; apply X.here))
    | apply X.blockS
    | (apply X.condQ rfl; (focus (simp only [sub, subO, subL, subM, sub3, sub2, fk_some, fk_none, fk_arg0, fk_argS, fk_argN, fk_map0, fk_mapS, fk_mapN, reduceIte, Nat.reduceEqDiff, Nat.reduceAdd, f0, f1, f5, f29, f30, f31]; with_reducible rfl)); all_goals (intro hbr; first | exact absurd hbr (by decide) | ((try rw [hbr]); (try simp at hbr))))
    | apply X.stepZ
    | (apply X.stepQ rfl; (focus (simp only [sub, subO, subL, subM, sub3, sub2, fk_some, fk_none, fk_arg0, fk_argS, fk_argN, fk_map0, fk_mapS, fk_mapN, reduceIte, Nat.reduceEqDiff, Nat.reduceAdd, f0, f1, f5, f29, f30, f31]; with_reducible rfl)); (focus (simp [-getElem?_pos, -binA, w2, w3, w4, w5, hx2, hwx]; with_reducible (first | rfl | exact ⟨rfl, rfl⟩))))
    | (apply X.stepNQ rfl; (focus (simp only [sub, subO, subL, subM, sub3, sub2, fk_some, fk_none, fk_arg0, fk_argS, fk_argN, fk_map0, fk_mapS, fk_mapN, reduceIte, Nat.reduceEqDiff, Nat.reduceAdd, f0, f1, f5, f29, f30, f31]; with_reducible rfl)))
    | ((first | apply X.stepGtQ rfl | apply X.stepGfQ rfl); (focus (simp only [sub, subO, subL, subM, sub3, sub2, fk_some, fk_none, fk_arg0, fk_argS, fk_argN, fk_map0, fk_mapS, fk_mapN, reduceIte, Nat.reduceEqDiff, Nat.reduceAdd, f0, f1, f5, f29, f30, f31]; with_reducible rfl)); all_goals (intro hbr; first | exact absurd hbr (by decide) | ((try rw [hbr]); (try simp at hbr)))))
      all_goals exact ⟨hj1, _, by simp [f0, f1, f29, f30], rfl⟩
    · have hjk : j = k := by omega
      subst hjk
      have w2 : binA .lss .no (.pv (.int .i64 (j : Int))) (.pv (.int .i64 (j : Int))) = some (.pv (.bool false)) := by simp [binA, intBin]
      have htk : (bs.take j).take j = bs.take j := List.take_of_length_le (by simp; omega)
      rw [htk] at f5
      generalize numI (bs.take j) = n1 at f5 ⊢
      (repeat' first
    | apply X.retS
    | apply X.skipS
    | apply X.skipB
    | apply X.skipL
    | (apply X.exitS; first | apply X.here | (refine X.out (by decide) ?_; apply X.here))
    | apply X.blockS
    | (apply X.condQ rfl; (focus (simp only [sub, subO, subL, subM, sub3, sub2, fk_some, fk_none, fk_arg0, fk_argS, fk_argN, fk_map0, fk_mapS, fk_mapN, reduceIte, Nat.reduceEqDiff, Nat.reduceAdd, f0, f1, f5, f29, f30, f31]; with_reducible rfl)); all_goals (intro hbr; first | exact absurd hbr (by decide) | ((try rw [hbr]); (try simp at hbr))))
    | apply X.stepZ
    | (apply X.stepQ rfl; (focus (simp only [sub, subO, subL, subM, sub3, sub2, fk_some, fk_none, fk_arg0, fk_argS, fk_argN, fk_map0, fk_mapS, fk_mapN, reduceIte, Nat.reduceEqDiff, Nat.reduceAdd, f0, f1, f5, f29, f30, f31]; with_reducible rfl)); (focus (simp [-getElem?_pos, -binA, w2, x1, -sliceSlA, s2]; with_reducible (first | rfl | exact ⟨rfl, rfl⟩))))
    | (apply X.stepNQ rfl; (focus (simp only [sub, subO, subL, subM, sub3, sub2, fk_some, fk_none, fk_arg0, fk_argS, fk_argN, fk_map0, fk_mapS, fk_mapN, reduceIte, Nat.reduceEqDiff, Nat.reduceAdd, f0, f1, f5, f29, f30, f31]; with_reducible rfl)))
    | ((first | apply X.stepGtQ rfl | apply X.stepGfQ rfl); (focus (simp only [sub, subO, subL, subM, sub3, sub2, fk_some, fk_none, fk_arg0, fk_argS, fk_argN, fk_map0, fk_mapS, fk_mapN, reduceIte, Nat.reduceEqDiff, Nat.reduceAdd, f0, f1, f5, f29, f30, f31]; with_reducible rfl)); all_goals (intro hbr; first | exact absurd hbr (by decide) | ((try rw [hbr]); (try simp at hbr)))))
      all_goals refine FinE.retQ (us := [.pv (.int .i64 n1)]) rfl (by simp [resS, f5]) ⟨rfl, ⟨t, ?_⟩, But.set (by simp)⟩
      all_goals simp [ent, hlt]
end Rp

-- report's reader: spans: walked.
namespace Rp
open Go Ab Go.Proofs.Ytdacifedlemlmaa.Mach
variable {E : Env}

/-- A slice that is made by appends, read as it is; how its right lies above. -/
def Rw (b : Nat) (h : Heap) (v : V) (es : List PV) : Prop := (es = [] ∧ v = .nils) ∨ v = .slx es ∨ (es ≠ [] ∧ ∃ tok, v = .slt es tok ∧ ent h tok = .tok ∧ b ≤ tok)
section
variable {b : Nat} {h h' l : Heap} {v : V} {es : List PV}
theorem Rw.mono (r : Rw b h v es) : Rw b (h ++ l) v es := by
  rcases r with r | r | ⟨h1, tok, h2, h3, h4⟩
  · exact .inl r
  · exact .inr (.inl r)
  · exact .inr (.inr ⟨h1, tok, h2, ent_tok h3, h4⟩)
theorem Rw.but {S : List Nat} (r : Rw b h v es) (o : But h S h') (hs : ∀ i ∈ S, ent h i ≠ .tok) : Rw b h' v es := by
  rcases r with r | r | ⟨h1, tok, h2, h3, h4⟩
  · exact .inl r
  · exact .inr (.inl r)
  · refine .inr (.inr ⟨h1, tok, h2, ?_, h4⟩)
    rw [o.old tok (Ab.ent_lt (by rw [h3]; simp)) fun hm => hs tok hm h3]; exact h3
theorem Rw.lenA (r : Rw b h v es) : lenA v = some es.length := by
  rcases r with ⟨rfl, rfl⟩ | rfl | ⟨_, tok, rfl, _⟩ <;> simp [Ab.lenA]
theorem Rw.isSl (r : Rw b h v es) : isSlV v = true := by
  rcases r with ⟨rfl, rfl⟩ | rfl | ⟨_, tok, rfl, _⟩ <;> simp [isSlV]
theorem Rw.weak (r : Rw b h v es) : weak v = some (.sl es) := by
  rcases r with ⟨rfl, rfl⟩ | rfl | ⟨_, tok, rfl, _⟩ <;> rfl
theorem Rw.snap (r : Rw b h v es) (n : Nat) (h2 : Heap) : snap (n + 1) v h2 = some (.sl es, h2) := by
  rcases r with ⟨rfl, rfl⟩ | rfl | ⟨_, tok, rfl, _⟩ <;> simp [Ab.snap]
theorem Rw.app (r : Rw b h v es) {ag : Bool} {sz bytes : Nat} {te : TypeId} {n : Nat} {new : List V} {ps : List PV} (hn : n ≠ 0) (hs : strideOk sz es = true) (ha : (ag || sz == 1) = true)
    (hb : (es.length + n) * bytes ≤ 35184372088832) (hl : new.length = n * sz) (hw : weak.weakL new = some ps) :
    appendA h ag false sz bytes te v n new = some (.slt (es ++ (chunks sz n ps).map (mkPV ag)) h.length, kill h v ++ [.tok]) := by
  rcases r with ⟨rfl, rfl⟩ | rfl | ⟨h1, tok, rfl, h3, _⟩
  · simp only [appendA, if_neg hn, Bool.false_eq_true, if_false, hs, ha, Bool.and_self, hl, growMax, hb, decide_true, if_true, hw, kill]
  · simp only [appendA, if_neg hn, Bool.false_eq_true, if_false, hs, ha, Bool.and_self, hl, growMax, hb, decide_true, if_true, hw, kill]
  · have : es.isEmpty = false := by cases es with
      | nil => exact absurd rfl h1
      | cons => rfl
    simp only [appendA, if_neg hn, h3, this, Bool.false_eq_true, if_false, hs, ha, Bool.and_self, hl, growMax, hb, decide_true, if_true, hw, kill, List.length_set]
theorem Rw.done {n : Nat} (he : es ≠ []) (hn : n = h.length) (hb : b ≤ h.length) : Rw b (kill h v ++ .tok :: l) (.slt es n) es := by
  subst hn
  refine .inr (.inr ⟨he, h.length, rfl, ?_, hb⟩)
  have e : h.length = (kill h v).length := length_kill.symm
  rw [e]
  exact ent_at0
theorem Rw.keep (r : Rw b h v es) {n : Nat} (he : ent h n ≠ .tok) (hn : n < h.length) : ent (kill h v ++ l) n = ent h n := by
  simp only [ent, List.getElem?_append_left (by rw [length_kill]; exact hn : n < (kill h v).length)]
  rcases r with ⟨_, rfl⟩ | rfl | ⟨_, tok, rfl, h3, _⟩
  · rfl
  · rfl
  · simp only [kill]
    rw [List.getElem?_set_ne]
    rintro rfl
    exact he h3
theorem Rw.butK {h0 : Heap} {S : List Nat} (r : Rw b h v es) (o : But h0 S h) (hb : h0.length ≤ b) : But h0 S (kill h v ++ l) := by
  refine ⟨by have := o.len; simp [length_kill]; omega, fun i hi hn => ?_⟩
  have hlt : i < h.length := Nat.lt_of_lt_of_le hi o.len
  rw [← o.old i hi hn]
  simp only [ent, List.getElem?_append_left (by rw [length_kill]; exact hlt : i < (kill h v).length)]
  rcases r with ⟨_, rfl⟩ | rfl | ⟨_, tok, rfl, h3, h4⟩
  · rfl
  · rfl
  · simp only [kill]
    rw [List.getElem?_set_ne]
    omega
theorem Rd.but {ri : Nat} {bs : List Int} {bad : Bool} {S : List Nat} (r : Rd h ri bs bad) (o : But h S h') (hs : ri ∉ S) : Rd h' ri bs bad := by
  obtain ⟨t, r⟩ := r
  exact ⟨t, by rw [o.old ri (Rp.ent_lt r) hs]; exact r⟩
theorem Rd.more {ri : Nat} {bs : List Int} {bad : Bool} (r : Rd h ri bs bad) : Rd (h ++ l) ri bs bad := by
  obtain ⟨t, r⟩ := r
  exact ⟨t, ent_app r (by simp)⟩
theorem Rd.ntok {ri : Nat} {bs : List Int} {bad : Bool} (r : Rd h ri bs bad) : ∀ i ∈ [ri], ent h i ≠ .tok := by
  obtain ⟨t, r⟩ := r
  intro i hi
  simp only [List.mem_singleton] at hi
  subst hi
  rw [r]; simp
theorem Rd.killed {ri : Nat} {bs : List Int} {bad : Bool} (r : Rd h ri bs bad) (w : Rw b h v es) : Rd (kill h v ++ l) ri bs bad := by
  obtain ⟨t, r⟩ := r
  exact ⟨t, by rw [w.keep (by rw [r]; simp) (Rp.ent_lt r)]; exact r⟩
end

theorem take1 (HH : HasT E) (h : Heap) (ri : Nat) (bs : List Int) (bad : Bool) (hb : Byt bs) (hr : Rd h ri bs bad) :
    ∃ r h', limR E 55 [.ptr ri 0, .pv (.int .i64 1)] h = some (r, h') ∧ (r = .pv (.int .i64 (takeS 1 bs bad).1) ∧ Rd h' ri (takeS 1 bs bad).2.1 (takeS 1 bs bad).2.2 ∧ But h [ri] h') := take_ok HH h ri 1 bs bad hr hb (by omega)
theorem take2 (HH : HasT E) (h : Heap) (ri : Nat) (bs : List Int) (bad : Bool) (hb : Byt bs) (hr : Rd h ri bs bad) :
    ∃ r h', limR E 55 [.ptr ri 0, .pv (.int .i64 2)] h = some (r, h') ∧ (r = .pv (.int .i64 (takeS 2 bs bad).1) ∧ Rd h' ri (takeS 2 bs bad).2.1 (takeS 2 bs bad).2.2 ∧ But h [ri] h') := take_ok HH h ri 2 bs bad hr hb (by omega)
theorem take4 (HH : HasT E) (h : Heap) (ri : Nat) (bs : List Int) (bad : Bool) (hb : Byt bs) (hr : Rd h ri bs bad) :
    ∃ r h', limR E 55 [.ptr ri 0, .pv (.int .i64 4)] h = some (r, h') ∧ (r = .pv (.int .i64 (takeS 4 bs bad).1) ∧ Rd h' ri (takeS 4 bs bad).2.1 (takeS 4 bs bad).2.2 ∧ But h [ri] h') := take_ok HH h ri 4 bs bad hr hb (by omega)
theorem byt_drop {l : List Int} (h : Byt l) (k : Nat) : Byt (l.drop k) := fun x hx => h x (List.mem_of_mem_drop hx)
theorem take_byt {k : Nat} {bs : List Int} {bad : Bool} (h : Byt bs) : Byt (takeS k bs bad).2.1 := by
  unfold takeS
  split
  · exact h
  · exact byt_drop h k
theorem or8_zero {x : Int} (h : 0 ≤ x ∧ x < 256) : or8 0 x = x := by
  have e : IntKind.i64.wrap (0 * 256) = 0 := rfl
  unfold or8
  rw [e]
  have e2 : BitVec.ofInt 64 0 ||| BitVec.ofInt 64 x = BitVec.ofInt 64 x := by simp
  rw [e2, BitVec.toNat_ofInt]
  rw [wrap_i64] <;> omega
theorem take1_rng {bs : List Int} {bad : Bool} (h : Byt bs) : 0 ≤ (takeS 1 bs bad).1 ∧ (takeS 1 bs bad).1 < 256 := by
  unfold takeS
  split
  · simp
  · cases bs with
    | nil => simp_all
    | cons x l =>
      have hx := h x (by simp)
      have : numI ([x]) = x := by simp [numI, or8_zero hx]
      simp [this]
      omega

/-- A span is read. -/
def spanS (bs : List Int) (bad : Bool) : Sp × List Int × Bool :=
  let r := takeS 1 bs bad
  if r.1 = 0 then ((-1, -1), r.2.1, r.2.2) else
  if r.1 = 1 then
    let a := takeS 4 r.2.1 r.2.2
    let c := takeS 4 a.2.1 a.2.2
    ((a.1, c.1), c.2.1, c.2.2)
  else ((-1, -1), r.2.1, true)
theorem span_byt {bs : List Int} {bad : Bool} (h : Byt bs) : Byt (spanS bs bad).2.1 := by
  unfold spanS
  dsimp only
  split
  · exact take_byt h
  · split
    · exact take_byt (take_byt (take_byt h))
    · exact take_byt h
/-- More spans are read. -/
def runSp : Nat → List Sp → List Int → Bool → List Sp × List Int × Bool
  | 0, acc, bs, bad => (acc, bs, bad)
  | m + 1, acc, bs, bad => if bad = true then (acc, bs, bad) else runSp m (acc ++ [(spanS bs bad).1]) (spanS bs bad).2.1 (spanS bs bad).2.2
def readSp (s0 : Sp) (bs : List Int) (bad : Bool) : List Sp × List Int × Bool :=
  let r := takeS 1 bs bad
  runSp (r.1.toNat - 1) [s0] r.2.1 r.2.2
theorem run_byt : ∀ (m : Nat) (acc : List Sp) (bs : List Int) (bad : Bool), Byt bs → Byt (runSp m acc bs bad).2.1
  | 0, _, _, _, h => h
  | m + 1, acc, bs, bad, h => by
    unfold runSp
    split
    · exact h
    · exact run_byt m _ _ _ (span_byt h)
theorem readSp_byt {s0 : Sp} {bs : List Int} {bad : Bool} (h : Byt bs) : Byt (readSp s0 bs bad).2.1 := run_byt _ _ _ _ (take_byt h)

structure HasU (E : Env) : Prop where
  t : HasT E
  spans : HasR E 56 c56

set_option maxHeartbeats 16000000 in
theorem spansR_ok (HH : HasU E) (h : Heap) (ri : Nat) (s0 : Sp) (bs : List Int) (bad : Bool) (hr : Rd h ri bs bad) (hb : Byt bs) :
    ∃ r h', limR E 56 [.ptr ri 0, .pv (encS s0)] h = some (r, h') ∧ (Rw h.length h' r ((readSp s0 bs bad).1.map encS) ∧ Rd h' ri (readSp s0 bs bad).2.1 (readSp s0 bs bad).2.2 ∧ But h [ri] h') := by
  have hlt := rd_lt hr
  unfold encS readSp
  refine HH.spans.limQE (Nat.le_of_ble_eq_true rfl) ?_; unfold c56
  have hrg := take1_rng (bad := bad) hb
  have hby := take_byt (k := 1) (bad := bad) hb
  have htk := take1 HH.t (h ++ [.blk [.pv (.int .i64 s0.1), .pv (.int .i64 s0.2)] none]) ri bs bad hb hr.more
  generalize takeS 1 bs bad = T at hrg hby htk ⊢
  obtain ⟨n, bs1, bad1⟩ := T
  dsimp only at hrg hby htk ⊢
  (repeat' first
    | apply X.retS
    | apply X.skipS
    | apply X.skipB
    | apply X.skipL
    | (apply X.exitS; first | apply X.here | (refine X.out (by decide) ?_; apply X.here))
    | apply X.blockS
    | (apply X.condQ rfl; (focus (simp only [sub, subO, subL, subM, sub3, sub2, fk_some, fk_none, fk_arg0, fk_argS, fk_argN, fk_map0, fk_mapS, fk_mapN, reduceIte, Nat.reduceEqDiff, Nat.reduceAdd]; with_reducible rfl)); all_goals (intro hbr; first | exact absurd hbr (by decide) | ((try rw [hbr]); (try simp at hbr))))
    | apply X.stepZ
    | (apply X.stepQ rfl; (focus (simp only [sub, subO, subL, subM, sub3, sub2, fk_some, fk_none, fk_arg0, fk_argS, fk_argN, fk_map0, fk_mapS, fk_mapN, reduceIte, Nat.reduceEqDiff, Nat.reduceAdd]; with_reducible rfl)); (focus (simp [-getElem?_pos]; with_reducible (first | rfl | exact ⟨rfl, rfl⟩))))
    | (apply X.stepNQ rfl; (focus (simp only [sub, subO, subL, subM, sub3, sub2, fk_some, fk_none, fk_arg0, fk_argS, fk_argN, fk_map0, fk_mapS, fk_mapN, reduceIte, Nat.reduceEqDiff, Nat.reduceAdd]; with_reducible rfl)))
    | ((first | apply X.stepGtQ rfl | apply X.stepGfQ rfl); (focus (simp only [sub, subO, subL, subM, sub3, sub2, fk_some, fk_none, fk_arg0, fk_argS, fk_argN, fk_map0, fk_mapS, fk_mapN, reduceIte, Nat.reduceEqDiff, Nat.reduceAdd]; with_reducible rfl)); all_goals (intro hbr; first | exact absurd hbr (by decide) | ((try rw [hbr]); (try simp at hbr)))))
  refine X.callRQ (P := _) rfl (by simp only [sub, subO, subL, subM, sub3, sub2, fk_some, fk_none, fk_arg0, fk_argS, fk_argN, fk_map0, fk_mapS, fk_mapN, reduceIte, Nat.reduceEqDiff, Nat.reduceAdd]; all_goals (first | with_reducible rfl | (simp <;> with_reducible rfl))) HH.t.take.raw (by simp [pures]) (htk) ?_
  rintro _ h1 ⟨rfl, R1, B1⟩
  have B1' := B1.less
  clear htk hr hb B1
  (repeat' first
    | apply X.retS
    | apply X.skipS
    | apply X.skipB
    | apply X.skipL
    | (apply X.exitS; first | apply X.here | (refine X.out (by decide) ?_; apply X.here))
    | apply X.blockS
    | (apply X.condQ rfl; (focus (simp only [sub, subO, subL, subM, sub3, sub2, fk_some, fk_none, fk_arg0, fk_argS, fk_argN, fk_map0, fk_mapS, fk_mapN, reduceIte, Nat.reduceEqDiff, Nat.reduceAdd]; with_reducible rfl)); all_goals (intro hbr; first | exact absurd hbr (by decide) | ((try rw [hbr]); (try simp at hbr))))
    | apply X.stepZ
    | (apply X.stepQ rfl; (focus (simp only [sub, subO, subL, subM, sub3, sub2, fk_some, fk_none, fk_arg0, fk_argS, fk_argN, fk_map0, fk_mapS, fk_mapN, reduceIte, Nat.reduceEqDiff, Nat.reduceAdd]; with_reducible rfl)); (focus (simp [-getElem?_pos]; with_reducible (first | rfl | exact ⟨rfl, rfl⟩))))
    | (apply X.stepNQ rfl; (focus (simp only [sub, subO, subL, subM, sub3, sub2, fk_some, fk_none, fk_arg0, fk_argS, fk_argN, fk_map0, fk_mapS, fk_mapN, reduceIte, Nat.reduceEqDiff, Nat.reduceAdd]; with_reducible rfl)))
    | ((first | apply X.stepGtQ rfl | apply X.stepGfQ rfl); (focus (simp only [sub, subO, subL, subM, sub3, sub2, fk_some, fk_none, fk_arg0, fk_argS, fk_argN, fk_map0, fk_mapS, fk_mapN, reduceIte, Nat.reduceEqDiff, Nat.reduceAdd]; with_reducible rfl)); all_goals (intro hbr; first | exact absurd hbr (by decide) | ((try rw [hbr]); (try simp at hbr)))))
  refine X.forS 256 (fun j st => ∃ (hh : Heap) (S : V) (acc : List Sp) (bs2 : List Int) (bad2 : Bool) (f : Nat → V), (Rw h.length hh S (acc.map encS) ∧ Rd hh ri bs2 bad2 ∧ But h [ri] hh ∧ Byt bs2 ∧ runSp (n.toNat - acc.length) acc bs2 bad2 = runSp (n.toNat - 1) [s0] bs1 bad1 ∧ acc.length = j + 1) ∧
    (fk (Fk.mk (f := f)) 0 = .ptr ri 0 ∧ fk (Fk.mk (f := f)) 5 = S ∧ fk (Fk.mk (f := f)) 6 = .pv (.int .i64 n)) ∧ st = ⟨TL 43 f, hh⟩) ?_ ?_
  · exact ⟨h1, .slx [encS s0], [s0], bs1, bad1, _, ⟨.inr (.inl rfl), R1, B1', hby, rfl, rfl⟩, by simp [encS], rfl⟩
  clear R1 B1' h1 hby
  rintro j st hj ⟨hh, S, acc, bs2, bad2, f, ⟨W1, R1, B1, hb2, hru, hal⟩, ⟨f0, f5, f6⟩, rfl⟩
  have e1 := W1.lenA
  have e2 := W1.isSl
  rw [List.length_map] at e1
  obtain ⟨ty, x1⟩ := R1
  have R1 : Rd hh ri bs2 bad2 := ⟨ty, x1⟩
  by_cases hc : (acc.length : Int) < n ∧ bad2 = false
  · obtain ⟨hc1, rfl⟩ := hc
    have w1 : binA .lss .no (.pv (.int .i64 (acc.length : Int))) (.pv (.int .i64 n)) = some (.pv (.bool true)) := by simp [binA, intBin, hc1]
    obtain ⟨m, hm⟩ : ∃ m, n.toNat - acc.length = m + 1 := ⟨n.toNat - acc.length - 1, by omega⟩
    rw [hm] at hru
    simp only [runSp, Bool.false_eq_true, if_false] at hru
    have hsb := span_byt (bad := false) hb2
    have hrg2 := take1_rng (bad := false) hb2
    have hby2 := take_byt (k := 1) (bad := false) hb2
    have htk := take1 HH.t (hh ++ [.blk [.pv (.int .i64 (-1)), .pv (.int .i64 (-1))] (some 62)]) ri bs2 false hb2 R1.more
    have hri := rd_lt R1
    (repeat' first
    | apply X.retS
    | apply X.skipS
    | apply X.skipB
    | apply X.skipL
    | (apply X.exitS; first | apply X.here | (refine X.out (by decide) ?_; apply X.here))
    | apply X.blockS
    | (apply X.condQ rfl; (focus (simp only [sub, subO, subL, subM, sub3, sub2, fk_some, fk_none, fk_arg0, fk_argS, fk_argN, fk_map0, fk_mapS, fk_mapN, reduceIte, Nat.reduceEqDiff, Nat.reduceAdd, f0, f5, f6]; with_reducible rfl)); all_goals (intro hbr; first | exact absurd hbr (by decide) | ((try rw [hbr]); (try simp at hbr))))
    | apply X.stepZ
    | (apply X.stepQ rfl; (focus (simp only [sub, subO, subL, subM, sub3, sub2, fk_some, fk_none, fk_arg0, fk_argS, fk_argN, fk_map0, fk_mapS, fk_mapN, reduceIte, Nat.reduceEqDiff, Nat.reduceAdd, f0, f5, f6]; with_reducible rfl)); (focus (simp [-getElem?_pos, -binA, -lenA, -isSlV, e1, e2, w1, x1]; with_reducible (first | rfl | exact ⟨rfl, rfl⟩))))
    | (apply X.stepNQ rfl; (focus (simp only [sub, subO, subL, subM, sub3, sub2, fk_some, fk_none, fk_arg0, fk_argS, fk_argN, fk_map0, fk_mapS, fk_mapN, reduceIte, Nat.reduceEqDiff, Nat.reduceAdd, f0, f5, f6]; with_reducible rfl)))
    | ((first | apply X.stepGtQ rfl | apply X.stepGfQ rfl); (focus (simp only [sub, subO, subL, subM, sub3, sub2, fk_some, fk_none, fk_arg0, fk_argS, fk_argN, fk_map0, fk_mapS, fk_mapN, reduceIte, Nat.reduceEqDiff, Nat.reduceAdd, f0, f5, f6]; with_reducible rfl)); all_goals (intro hbr; first | exact absurd hbr (by decide) | ((try rw [hbr]); (try simp at hbr)))))
    refine X.callRQ (P := _) rfl (by simp only [sub, subO, subL, subM, sub3, sub2, fk_some, fk_none, fk_arg0, fk_argS, fk_argN, fk_map0, fk_mapS, fk_mapN, reduceIte, Nat.reduceEqDiff, Nat.reduceAdd, f0, f5, f6]; all_goals (first | with_reducible rfl | (simp <;> with_reducible rfl))) HH.t.take.raw (by simp [pures]) (htk) ?_
    rintro _ h3 ⟨rfl, R3, B3⟩
    have x3 : ent h3 hh.length = .blk [.pv (.int .i64 (-1)), .pv (.int .i64 (-1))] (some 62) := (B3.old _ (by simp) (by simp; omega)).trans ent_at0
    have W3 := (W1.mono (l := [.blk [.pv (.int .i64 (-1)), .pv (.int .i64 (-1))] (some 62)])).but B3 (R1.more.ntok)
    have B4 := B1.trans B3.less
    have hl3 : hh.length < h3.length := by have := B3.len; simp at this; omega
    have hkn : h.length ≤ hh.length := B1.len
    clear htk x1 R1 B3 B1 W1
    iterate 1 (first
    | apply X.retS
    | apply X.skipS
    | apply X.skipB
    | apply X.skipL
    | (apply X.exitS; first | apply X.here | (refine X.out (by decide) ?_; apply X.here))
    | apply X.blockS
    | (apply X.condQ rfl; (focus (simp only [sub, subO, subL, subM, sub3, sub2, fk_some, fk_none, fk_arg0, fk_argS, fk_argN, fk_map0, fk_mapS, fk_mapN, reduceIte, Nat.reduceEqDiff, Nat.reduceAdd, f0, f5, f6]; with_reducible rfl)); all_goals (intro hbr; first | exact absurd hbr (by decide) | ((try rw [hbr]); (try simp at hbr))))
    | apply X.stepZ
    | (apply X.stepQ rfl; (focus (simp only [sub, subO, subL, subM, sub3, sub2, fk_some, fk_none, fk_arg0, fk_argS, fk_argN, fk_map0, fk_mapS, fk_mapN, reduceIte, Nat.reduceEqDiff, Nat.reduceAdd, f0, f5, f6]; with_reducible rfl)); (focus (simp [-getElem?_pos]; with_reducible (first | rfl | exact ⟨rfl, rfl⟩))))
    | (apply X.stepNQ rfl; (focus (simp only [sub, subO, subL, subM, sub3, sub2, fk_some, fk_none, fk_arg0, fk_argS, fk_argN, fk_map0, fk_mapS, fk_mapN, reduceIte, Nat.reduceEqDiff, Nat.reduceAdd, f0, f5, f6]; with_reducible rfl)))
    | ((first | apply X.stepGtQ rfl | apply X.stepGfQ rfl); (focus (simp only [sub, subO, subL, subM, sub3, sub2, fk_some, fk_none, fk_arg0, fk_argS, fk_argN, fk_map0, fk_mapS, fk_mapN, reduceIte, Nat.reduceEqDiff, Nat.reduceAdd, f0, f5, f6]; with_reducible rfl)); all_goals (intro hbr; first | exact absurd hbr (by decide) | ((try rw [hbr]); (try simp at hbr)))))
    refine X.blockMid (fun st => ∃ (H : Heap) (f : Nat → V), (Rw h.length H S (acc.map encS) ∧ Rd H ri (spanS bs2 false).2.1 (spanS bs2 false).2.2 ∧ But h [ri] H ∧ (∃ ty, ent H hh.length = .blk [.pv (.int .i64 (spanS bs2 false).1.1), .pv (.int .i64 (spanS bs2 false).1.2)] ty)) ∧
      (fk (Fk.mk (f := f)) 0 = .ptr ri 0 ∧ fk (Fk.mk (f := f)) 5 = S ∧ fk (Fk.mk (f := f)) 6 = .pv (.int .i64 n) ∧ fk (Fk.mk (f := f)) 7 = .ptr hh.length 0) ∧ st = ⟨TL 43 f, H⟩) ?_ ?_
    · unfold spanS
      generalize takeS 1 bs2 false = T at hrg2 hby2 R3 ⊢
      obtain ⟨g, bs3, bad3⟩ := T
      dsimp only at hrg2 hby2 R3 ⊢
      have hne : ri ≠ hh.length := by omega
      by_cases g0 : g = 0
      · subst g0
        simp only [if_true]
        (repeat' first
    | apply X.retS
    | apply X.skipS
    | apply X.skipB
    | apply X.skipL
    | (apply X.exitS; first | apply X.here | (refine X.out (by decide) ?_; apply X.here))
    | apply X.blockS
    | (apply X.condQ rfl; (focus (simp only [sub, subO, subL, subM, sub3, sub2, fk_some, fk_none, fk_arg0, fk_argS, fk_argN, fk_map0, fk_mapS, fk_mapN, reduceIte, Nat.reduceEqDiff, Nat.reduceAdd, f0, f5, f6]; with_reducible rfl)); all_goals (intro hbr; first | exact absurd hbr (by decide) | ((try rw [hbr]); (try simp at hbr))))
    | apply X.stepZ
    | (apply X.stepQ rfl; (focus (simp only [sub, subO, subL, subM, sub3, sub2, fk_some, fk_none, fk_arg0, fk_argS, fk_argN, fk_map0, fk_mapS, fk_mapN, reduceIte, Nat.reduceEqDiff, Nat.reduceAdd, f0, f5, f6]; with_reducible rfl)); (focus (simp [-getElem?_pos]; with_reducible (first | rfl | exact ⟨rfl, rfl⟩))))
    | (apply X.stepNQ rfl; (focus (simp only [sub, subO, subL, subM, sub3, sub2, fk_some, fk_none, fk_arg0, fk_argS, fk_argN, fk_map0, fk_mapS, fk_mapN, reduceIte, Nat.reduceEqDiff, Nat.reduceAdd, f0, f5, f6]; with_reducible rfl)))
    | ((first | apply X.stepGtQ rfl | apply X.stepGfQ rfl); (focus (simp only [sub, subO, subL, subM, sub3, sub2, fk_some, fk_none, fk_arg0, fk_argS, fk_argN, fk_map0, fk_mapS, fk_mapN, reduceIte, Nat.reduceEqDiff, Nat.reduceAdd, f0, f5, f6]; with_reducible rfl)); all_goals (intro hbr; first | exact absurd hbr (by decide) | ((try rw [hbr]); (try simp at hbr)))))
        exact ⟨_, _, ⟨W3, R3, B4, _, x3⟩, by simp [f0, f5, f6], rfl⟩
      · rw [if_neg g0]
        have v1 : binA .eql .no (.pv (.int .i64 g)) (.pv (.int .i64 0)) = some (.pv (.bool false)) := by simp [binA, intBin, g0]
        by_cases g1 : g = 1
        · subst g1
          simp only [if_true]
          have v2 : binA .eql .no (.pv (.int .i64 1)) (.pv (.int .i64 1)) = some (.pv (.bool true)) := by simp [binA, intBin]
          have hta := take4 HH.t h3 ri bs3 bad3 hby2 R3
          have hbya := take_byt (k := 4) (bad := bad3) hby2
          generalize takeS 4 bs3 bad3 = T at hta hbya ⊢
          obtain ⟨a, bs4, bad4⟩ := T
          dsimp only at hta hbya ⊢
          (repeat' first
    | apply X.retS
    | apply X.skipS
    | apply X.skipB
    | apply X.skipL
    | (apply X.exitS; first | apply X.here | (refine X.out (by decide) ?_; apply X.here))
    | apply X.blockS
    | (apply X.condQ rfl; (focus (simp only [sub, subO, subL, subM, sub3, sub2, fk_some, fk_none, fk_arg0, fk_argS, fk_argN, fk_map0, fk_mapS, fk_mapN, reduceIte, Nat.reduceEqDiff, Nat.reduceAdd, f0, f5, f6]; with_reducible rfl)); all_goals (intro hbr; first | exact absurd hbr (by decide) | ((try rw [hbr]); (try simp at hbr))))
    | apply X.stepZ
    | (apply X.stepQ rfl; (focus (simp only [sub, subO, subL, subM, sub3, sub2, fk_some, fk_none, fk_arg0, fk_argS, fk_argN, fk_map0, fk_mapS, fk_mapN, reduceIte, Nat.reduceEqDiff, Nat.reduceAdd, f0, f5, f6]; with_reducible rfl)); (focus (simp [-getElem?_pos, -binA, v1, v2]; with_reducible (first | rfl | exact ⟨rfl, rfl⟩))))
    | (apply X.stepNQ rfl; (focus (simp only [sub, subO, subL, subM, sub3, sub2, fk_some, fk_none, fk_arg0, fk_argS, fk_argN, fk_map0, fk_mapS, fk_mapN, reduceIte, Nat.reduceEqDiff, Nat.reduceAdd, f0, f5, f6]; with_reducible rfl)))
    | ((first | apply X.stepGtQ rfl | apply X.stepGfQ rfl); (focus (simp only [sub, subO, subL, subM, sub3, sub2, fk_some, fk_none, fk_arg0, fk_argS, fk_argN, fk_map0, fk_mapS, fk_mapN, reduceIte, Nat.reduceEqDiff, Nat.reduceAdd, f0, f5, f6]; with_reducible rfl)); all_goals (intro hbr; first | exact absurd hbr (by decide) | ((try rw [hbr]); (try simp at hbr)))))
          refine X.callRQ (P := _) rfl (by simp only [sub, subO, subL, subM, sub3, sub2, fk_some, fk_none, fk_arg0, fk_argS, fk_argN, fk_map0, fk_mapS, fk_mapN, reduceIte, Nat.reduceEqDiff, Nat.reduceAdd, f0, f5, f6]; all_goals (first | with_reducible rfl | (simp <;> with_reducible rfl))) HH.t.take.raw (by simp [pures]) (hta) ?_
          rintro _ h4 ⟨rfl, R4, B5⟩
          have htc := take4 HH.t h4 ri bs4 bad4 hbya R4
          generalize takeS 4 bs4 bad4 = T at htc ⊢
          obtain ⟨c, bs5, bad5⟩ := T
          dsimp only at htc ⊢
          (repeat' first
    | apply X.retS
    | apply X.skipS
    | apply X.skipB
    | apply X.skipL
    | (apply X.exitS; first | apply X.here | (refine X.out (by decide) ?_; apply X.here))
    | apply X.blockS
    | (apply X.condQ rfl; (focus (simp only [sub, subO, subL, subM, sub3, sub2, fk_some, fk_none, fk_arg0, fk_argS, fk_argN, fk_map0, fk_mapS, fk_mapN, reduceIte, Nat.reduceEqDiff, Nat.reduceAdd, f0, f5, f6]; with_reducible rfl)); all_goals (intro hbr; first | exact absurd hbr (by decide) | ((try rw [hbr]); (try simp at hbr))))
    | apply X.stepZ
    | (apply X.stepQ rfl; (focus (simp only [sub, subO, subL, subM, sub3, sub2, fk_some, fk_none, fk_arg0, fk_argS, fk_argN, fk_map0, fk_mapS, fk_mapN, reduceIte, Nat.reduceEqDiff, Nat.reduceAdd, f0, f5, f6]; with_reducible rfl)); (focus (simp [-getElem?_pos]; with_reducible (first | rfl | exact ⟨rfl, rfl⟩))))
    | (apply X.stepNQ rfl; (focus (simp only [sub, subO, subL, subM, sub3, sub2, fk_some, fk_none, fk_arg0, fk_argS, fk_argN, fk_map0, fk_mapS, fk_mapN, reduceIte, Nat.reduceEqDiff, Nat.reduceAdd, f0, f5, f6]; with_reducible rfl)))
    | ((first | apply X.stepGtQ rfl | apply X.stepGfQ rfl); (focus (simp only [sub, subO, subL, subM, sub3, sub2, fk_some, fk_none, fk_arg0, fk_argS, fk_argN, fk_map0, fk_mapS, fk_mapN, reduceIte, Nat.reduceEqDiff, Nat.reduceAdd, f0, f5, f6]; with_reducible rfl)); all_goals (intro hbr; first | exact absurd hbr (by decide) | ((try rw [hbr]); (try simp at hbr)))))
          refine X.callRQ (P := _) rfl (by simp only [sub, subO, subL, subM, sub3, sub2, fk_some, fk_none, fk_arg0, fk_argS, fk_argN, fk_map0, fk_mapS, fk_mapN, reduceIte, Nat.reduceEqDiff, Nat.reduceAdd, f0, f5, f6]; all_goals (first | with_reducible rfl | (simp <;> with_reducible rfl))) HH.t.take.raw (by simp [pures]) (htc) ?_
          rintro _ h5 ⟨rfl, R5, B6⟩
          have x5 : ent h5 hh.length = _ := (B6.old _ (by have := B5.len; omega) (by simp; omega)).trans ((B5.old _ hl3 (by simp; omega)).trans x3)
          have W5 := (W3.but B5 R3.ntok).but B6 R4.ntok
          have B7 := (B4.trans B5).trans B6
          have l5 : hh.length < h5.length := by have := B5.len; have := B6.len; omega
          clear htc hta B5 B6 R4 x3 W3 B4 R3
          (repeat' first
    | apply X.retS
    | apply X.skipS
    | apply X.skipB
    | apply X.skipL
    | (apply X.exitS; first | apply X.here | (refine X.out (by decide) ?_; apply X.here))
    | apply X.blockS
    | (apply X.condQ rfl; (focus (simp only [sub, subO, subL, subM, sub3, sub2, fk_some, fk_none, fk_arg0, fk_argS, fk_argN, fk_map0, fk_mapS, fk_mapN, reduceIte, Nat.reduceEqDiff, Nat.reduceAdd, f0, f5, f6]; with_reducible rfl)); all_goals (intro hbr; first | exact absurd hbr (by decide) | ((try rw [hbr]); (try simp at hbr))))
    | apply X.stepZ
    | (apply X.stepQ rfl; (focus (simp only [sub, subO, subL, subM, sub3, sub2, fk_some, fk_none, fk_arg0, fk_argS, fk_argN, fk_map0, fk_mapS, fk_mapN, reduceIte, Nat.reduceEqDiff, Nat.reduceAdd, f0, f5, f6]; with_reducible rfl)); (focus (simp [-getElem?_pos, x5]; with_reducible (first | rfl | exact ⟨rfl, rfl⟩))))
    | (apply X.stepNQ rfl; (focus (simp only [sub, subO, subL, subM, sub3, sub2, fk_some, fk_none, fk_arg0, fk_argS, fk_argN, fk_map0, fk_mapS, fk_mapN, reduceIte, Nat.reduceEqDiff, Nat.reduceAdd, f0, f5, f6]; with_reducible rfl)))
    | ((first | apply X.stepGtQ rfl | apply X.stepGfQ rfl); (focus (simp only [sub, subO, subL, subM, sub3, sub2, fk_some, fk_none, fk_arg0, fk_argS, fk_argN, fk_map0, fk_mapS, fk_mapN, reduceIte, Nat.reduceEqDiff, Nat.reduceAdd, f0, f5, f6]; with_reducible rfl)); all_goals (intro hbr; first | exact absurd hbr (by decide) | ((try rw [hbr]); (try simp at hbr)))))
          have x6 : But h5 [hh.length] (h5.set hh.length (.blk [.pv (.int .i64 a), .pv (.int .i64 c)] (some 62))) := But.set (by simp)
          refine ⟨_, _, ⟨W5.but x6 ?_, R5.but x6 (by simp; omega), ⟨by simp; exact B7.len, fun i hi hn => ?_⟩, _, by simp [ent, l5]; rfl⟩, by simp [f0, f5, f6], rfl⟩
          · intro i hi
            simp only [List.mem_singleton] at hi
            subst hi
            rw [x5]; simp
          · rw [x6.old i (by have := B7.len; omega) (by simp; omega)]
            exact B7.old i hi hn
        · rw [if_neg g1]
          have v2 : binA .eql .no (.pv (.int .i64 g)) (.pv (.int .i64 1)) = some (.pv (.bool false)) := by simp [binA, intBin, g1]
          obtain ⟨ty3, y3⟩ := R3
          have hl4 : ri < h3.length := Rp.ent_lt y3
          (repeat' first
    | apply X.retS
    | apply X.skipS
    | apply X.skipB
    | apply X.skipL
    | (apply X.exitS; first | apply X.here | (refine X.out (by decide) ?_; apply X.here))
    | apply X.blockS
    | (apply X.condQ rfl; (focus (simp only [sub, subO, subL, subM, sub3, sub2, fk_some, fk_none, fk_arg0, fk_argS, fk_argN, fk_map0, fk_mapS, fk_mapN, reduceIte, Nat.reduceEqDiff, Nat.reduceAdd, f0, f5, f6]; with_reducible rfl)); all_goals (intro hbr; first | exact absurd hbr (by decide) | ((try rw [hbr]); (try simp at hbr))))
    | apply X.stepZ
    | (apply X.stepQ rfl; (focus (simp only [sub, subO, subL, subM, sub3, sub2, fk_some, fk_none, fk_arg0, fk_argS, fk_argN, fk_map0, fk_mapS, fk_mapN, reduceIte, Nat.reduceEqDiff, Nat.reduceAdd, f0, f5, f6]; with_reducible rfl)); (focus (simp [-getElem?_pos, -binA, v1, v2, y3]; with_reducible (first | rfl | exact ⟨rfl, rfl⟩))))
    | (apply X.stepNQ rfl; (focus (simp only [sub, subO, subL, subM, sub3, sub2, fk_some, fk_none, fk_arg0, fk_argS, fk_argN, fk_map0, fk_mapS, fk_mapN, reduceIte, Nat.reduceEqDiff, Nat.reduceAdd, f0, f5, f6]; with_reducible rfl)))
    | ((first | apply X.stepGtQ rfl | apply X.stepGfQ rfl); (focus (simp only [sub, subO, subL, subM, sub3, sub2, fk_some, fk_none, fk_arg0, fk_argS, fk_argN, fk_map0, fk_mapS, fk_mapN, reduceIte, Nat.reduceEqDiff, Nat.reduceAdd, f0, f5, f6]; with_reducible rfl)); all_goals (intro hbr; first | exact absurd hbr (by decide) | ((try rw [hbr]); (try simp at hbr)))))
          have x6 : But h3 [ri] (h3.set ri (.blk [.pv (.sl (encB bs3)), .pv (.bool true)] ty3)) := But.set (by simp)
          refine ⟨_, _, ⟨W3.but x6 ?_, ⟨ty3, by simp [ent, hl4]⟩, B4.trans x6, some 62, ?_⟩, by simp [f0, f5, f6], rfl⟩
          · intro i hi
            simp only [List.mem_singleton] at hi
            subst hi
            rw [y3]; simp
          · rw [x6.old _ hl3 (by simp; omega)]; exact x3
    · clear W3 R3 B4 x3 hl3 f0 f5 f6 hri hrg2 hby2
      rintro st ⟨H, f, ⟨W3, R3, B4, ty3, x3⟩, ⟨f0, f5, f6, f7⟩, rfl⟩
      generalize spanS bs2 false = T at hsb hru R3 x3
      obtain ⟨s, bs3, bad3⟩ := T
      dsimp only at hsb hru R3 x3
      have hap : appendA H true false 2 16 62 S 1 [.pv (.int .i64 s.1), .pv (.int .i64 s.2)] = some (.slt (acc.map encS ++ [encS s]) H.length, kill H S ++ [.tok]) := by
        rw [W3.app (by omega) (strideS acc) rfl (by rw [List.length_map]; omega) rfl (ps := [.int .i64 s.1, .int .i64 s.2]) rfl]
        simp [chunks, mkPV, encS]
      (repeat' first
    | apply X.retS
    | apply X.skipS
    | apply X.skipB
    | apply X.skipL
    | (apply X.exitS; first | apply X.here | (refine X.out (by decide) ?_; apply X.here))
    | apply X.blockS
    | (apply X.condQ rfl; (focus (simp only [sub, subO, subL, subM, sub3, sub2, fk_some, fk_none, fk_arg0, fk_argS, fk_argN, fk_map0, fk_mapS, fk_mapN, reduceIte, Nat.reduceEqDiff, Nat.reduceAdd, f0, f5, f6, f7]; with_reducible rfl)); all_goals (intro hbr; first | exact absurd hbr (by decide) | ((try rw [hbr]); (try simp at hbr))))
    | apply X.stepZ
    | (apply X.stepQ rfl; (focus (simp only [sub, subO, subL, subM, sub3, sub2, fk_some, fk_none, fk_arg0, fk_argS, fk_argN, fk_map0, fk_mapS, fk_mapN, reduceIte, Nat.reduceEqDiff, Nat.reduceAdd, f0, f5, f6, f7]; with_reducible rfl)); (focus (simp [-getElem?_pos, x3, hap]; with_reducible (first | rfl | exact ⟨rfl, rfl⟩))))
    | (apply X.stepNQ rfl; (focus (simp only [sub, subO, subL, subM, sub3, sub2, fk_some, fk_none, fk_arg0, fk_argS, fk_argN, fk_map0, fk_mapS, fk_mapN, reduceIte, Nat.reduceEqDiff, Nat.reduceAdd, f0, f5, f6, f7]; with_reducible rfl)))
    | ((first | apply X.stepGtQ rfl | apply X.stepGfQ rfl); (focus (simp only [sub, subO, subL, subM, sub3, sub2, fk_some, fk_none, fk_arg0, fk_argS, fk_argN, fk_map0, fk_mapS, fk_mapN, reduceIte, Nat.reduceEqDiff, Nat.reduceAdd, f0, f5, f6, f7]; with_reducible rfl)); all_goals (intro hbr; first | exact absurd hbr (by decide) | ((try rw [hbr]); (try simp at hbr)))))
      refine ⟨by omega, _, _, acc ++ [s], bs3, bad3, _, ⟨?_, R3.killed W3, W3.butK B4 (Nat.le_refl _), hsb, ?_, by simp; omega⟩, by simp [f0, f6]; rfl, rfl⟩
      · rw [List.map_append, List.map_cons, List.map_nil]
        exact Rw.done (by simp) rfl B4.len
      · rw [← hru]
        congr 1
        simp
        omega
  · have hfin : runSp (n.toNat - acc.length) acc bs2 bad2 = (acc, bs2, bad2) := by
      cases hm : n.toNat - acc.length with
      | zero => rfl
      | succ m =>
        have : bad2 = true := by
          cases bad2 with
          | true => rfl
          | false => exact absurd ⟨by omega, rfl⟩ hc
        simp [runSp, this]
    rw [hfin] at hru
    rw [← hru]
    by_cases hc1 : (acc.length : Int) < n
    · have hbt : bad2 = true := by
        cases bad2 with
        | true => rfl
        | false => exact absurd ⟨hc1, rfl⟩ hc
      subst hbt
      have w1 : binA .lss .no (.pv (.int .i64 (acc.length : Int))) (.pv (.int .i64 n)) = some (.pv (.bool true)) := by simp [binA, intBin, hc1]
      (repeat' first
    | apply X.retS
    | apply X.skipS
    | apply X.skipB
    | apply X.skipL
    | (apply X.exitS; first | apply X.here | (refine X.out (by decide) ?_; apply X.here))
    | apply X.blockS
    | (apply X.condQ rfl; (focus (simp only [sub, subO, subL, subM, sub3, sub2, fk_some, fk_none, fk_arg0, fk_argS, fk_argN, fk_map0, fk_mapS, fk_mapN, reduceIte, Nat.reduceEqDiff, Nat.reduceAdd, f0, f5, f6]; with_reducible rfl)); all_goals (intro hbr; first | exact absurd hbr (by decide) | ((try rw [hbr]); (try simp at hbr))))
    | apply X.stepZ
    | (apply X.stepQ rfl; (focus (simp only [sub, subO, subL, subM, sub3, sub2, fk_some, fk_none, fk_arg0, fk_argS, fk_argN, fk_map0, fk_mapS, fk_mapN, reduceIte, Nat.reduceEqDiff, Nat.reduceAdd, f0, f5, f6]; with_reducible rfl)); (focus (simp [-getElem?_pos, -binA, -lenA, -isSlV, e1, e2, w1, x1]; with_reducible (first | rfl | exact ⟨rfl, rfl⟩))))
    | (apply X.stepNQ rfl; (focus (simp only [sub, subO, subL, subM, sub3, sub2, fk_some, fk_none, fk_arg0, fk_argS, fk_argN, fk_map0, fk_mapS, fk_mapN, reduceIte, Nat.reduceEqDiff, Nat.reduceAdd, f0, f5, f6]; with_reducible rfl)))
    | ((first | apply X.stepGtQ rfl | apply X.stepGfQ rfl); (focus (simp only [sub, subO, subL, subM, sub3, sub2, fk_some, fk_none, fk_arg0, fk_argS, fk_argN, fk_map0, fk_mapS, fk_mapN, reduceIte, Nat.reduceEqDiff, Nat.reduceAdd, f0, f5, f6]; with_reducible rfl)); all_goals (intro hbr; first | exact absurd hbr (by decide) | ((try rw [hbr]); (try simp at hbr)))))
      all_goals exact FinE.retQ (us := [S]) rfl (by simp [resS, f5]) ⟨W1, R1, B1⟩
    · have w1 : binA .lss .no (.pv (.int .i64 (acc.length : Int))) (.pv (.int .i64 n)) = some (.pv (.bool false)) := by simp [binA, intBin, hc1]
      (repeat' first
    | apply X.retS
    | apply X.skipS
    | apply X.skipB
    | apply X.skipL
    | (apply X.exitS; first | apply X.here | (refine X.out (by decide) ?_; apply X.here))
    | apply X.blockS
    | (apply X.condQ rfl; (focus (simp only [sub, subO, subL, subM, sub3, sub2, fk_some, fk_none, fk_arg0, fk_argS, fk_argN, fk_map0, fk_mapS, fk_mapN, reduceIte, Nat.reduceEqDiff, Nat.reduceAdd, f0, f5, f6]; with_reducible rfl)); all_goals (intro hbr; first | exact absurd hbr (by decide) | ((try rw [hbr]); (try simp at hbr))))
    | apply X.stepZ
    | (apply X.stepQ rfl; (focus (simp only [sub, subO, subL, subM, sub3, sub2, fk_some, fk_none, fk_arg0, fk_argS, fk_argN, fk_map0, fk_mapS, fk_mapN, reduceIte, Nat.reduceEqDiff, Nat.reduceAdd, f0, f5, f6]; with_reducible rfl)); (focus (simp [-getElem?_pos, -binA, -lenA, -isSlV, e1, e2, w1, x1]; with_reducible (first | rfl | exact ⟨rfl, rfl⟩))))
    | (apply X.stepNQ rfl; (focus (simp only [sub, subO, subL, subM, sub3, sub2, fk_some, fk_none, fk_arg0, fk_argS, fk_argN, fk_map0, fk_mapS, fk_mapN, reduceIte, Nat.reduceEqDiff, Nat.reduceAdd, f0, f5, f6]; with_reducible rfl)))
    | ((first | apply X.stepGtQ rfl | apply X.stepGfQ rfl); (focus (simp only [sub, subO, subL, subM, sub3, sub2, fk_some, fk_none, fk_arg0, fk_argS, fk_argN, fk_map0, fk_mapS, fk_mapN, reduceIte, Nat.reduceEqDiff, Nat.reduceAdd, f0, f5, f6]; with_reducible rfl)); all_goals (intro hbr; first | exact absurd hbr (by decide) | ((try rw [hbr]); (try simp at hbr)))))
      all_goals exact FinE.retQ (us := [S]) rfl (by simp [resS, f5]) ⟨W1, R1, B1⟩
end Rp
