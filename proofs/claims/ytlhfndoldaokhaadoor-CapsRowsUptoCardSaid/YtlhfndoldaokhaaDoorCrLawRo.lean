/- CrLawRo: steps, walks, laws: see the remarks within. -/
import Derived.Test.YtlhfndoldaokhaaDoorAbQuick
import Derived.Test.YtlhfndoldaokhaaDoorCrG
import Derived.Test.YtlhfndoldaokhaaDoorCiOf
set_option linter.unusedSimpArgs false
set_option linter.unusedVariables false
-- The law CapsRows, walked.
namespace Cps
open Go Ab Go.Proofs.YtlhfndoldaokhaaDoor.Mach
variable {E : Env}

structure HasRo (E : Env) : Prop where
  law : Has E 9 c9
  rawake : E.raw 22 = false
  awake : limP E 22 [] = some [.bool true]
  big : Has E 23 c23
  wide : Has E 24 c24
  seq : Has E 39 c39
  row : Has E 41 c41
  o : HasO E
  f : HasF E
  g : HasG E

theorem seq_ok (H : Has E 39 c39) (c d : Co) : limP E 39 [encC c, encC d] = some [encC (seqS c d)] := by
  rw [seqS, eCm]
  simp only [List.map_cons, List.map_nil]
  rw [eC c, eC d]
  refine H.lim (Nat.le_of_ble_eq_true rfl) (by simp; with_reducible rfl) ?_; unfold c39
  (repeat' first
    | apply X.retS
    | apply X.skipS
    | apply X.skipB
    | apply X.skipL
    | (apply X.exitS; first | apply X.here | (refine X.out (by decide) ?_; apply X.here))
    | apply X.blockS
    | (apply X.condS rfl <;> intro hp <;> first | exact absurd hp (by decide) | ((try rw [hp]); (try simp at hp)))
    | apply X.stepZ
    | (apply X.step; (focus (simp; with_reducible (first | rfl | exact ⟨rfl, rfl⟩))); (focus (simp; with_reducible rfl)))
    | (apply X.stepN rfl; (focus (simp; with_reducible rfl)))
    | ((first | apply X.stepGt rfl | apply X.stepGf rfl); (focus (simp; with_reducible rfl)); all_goals (intro hp; first | exact absurd hp (by decide) | ((try rw [hp]); (try simp at hp))))
    | (apply X.draw0; (focus rfl))
    | apply XD.nil
    | (apply XD.calm rfl; (focus (simp; with_reducible (first | rfl | exact ⟨rfl, rfl⟩))); (focus (simp; with_reducible rfl)))
    | (apply XD.call; (focus (simp; with_reducible rfl)); (focus (simp; with_reducible rfl)); (focus (simp; done)); (focus (simp; with_reducible rfl)); (focus (simp; with_reducible rfl)))
    | (apply XD.stepN rfl; (focus (simp; with_reducible rfl)))
    | ((first | apply XD.stepGt rfl | apply XD.stepGf rfl); (focus (simp; with_reducible rfl)); all_goals (intro hp; first | exact absurd hp (by decide) | ((try rw [hp]); (try simp at hp))))
    | (apply XD.loud; (focus (simp; with_reducible (first | rfl | exact ⟨rfl, rfl⟩))); (focus (simp; done)); (focus (simp; with_reducible rfl)); (focus (simp; with_reducible rfl))))
  all_goals ((refine Fin.mk' (by simp [resA]; with_reducible rfl) (by simp [oneOf, pureRes, snapFuel, snapL]; with_reducible rfl) ?_); simp)
theorem row_ok (H : Has E 41 c41) (v u : Va) : limP E 41 [encV v, encV u] = some [encV (rowS v u)] := by
  rw [rowS, eVm]
  simp only [List.map_cons, List.map_nil]
  rw [eV v, eV u]
  refine H.lim (Nat.le_of_ble_eq_true rfl) (by simp; with_reducible rfl) ?_; unfold c41
  (repeat' first
    | apply X.retS
    | apply X.skipS
    | apply X.skipB
    | apply X.skipL
    | (apply X.exitS; first | apply X.here | (refine X.out (by decide) ?_; apply X.here))
    | apply X.blockS
    | (apply X.condS rfl <;> intro hp <;> first | exact absurd hp (by decide) | ((try rw [hp]); (try simp at hp)))
    | apply X.stepZ
    | (apply X.step; (focus (simp; with_reducible (first | rfl | exact ⟨rfl, rfl⟩))); (focus (simp; with_reducible rfl)))
    | (apply X.stepN rfl; (focus (simp; with_reducible rfl)))
    | ((first | apply X.stepGt rfl | apply X.stepGf rfl); (focus (simp; with_reducible rfl)); all_goals (intro hp; first | exact absurd hp (by decide) | ((try rw [hp]); (try simp at hp))))
    | (apply X.draw0; (focus rfl))
    | apply XD.nil
    | (apply XD.calm rfl; (focus (simp; with_reducible (first | rfl | exact ⟨rfl, rfl⟩))); (focus (simp; with_reducible rfl)))
    | (apply XD.call; (focus (simp; with_reducible rfl)); (focus (simp; with_reducible rfl)); (focus (simp; done)); (focus (simp; with_reducible rfl)); (focus (simp; with_reducible rfl)))
    | (apply XD.stepN rfl; (focus (simp; with_reducible rfl)))
    | ((first | apply XD.stepGt rfl | apply XD.stepGf rfl); (focus (simp; with_reducible rfl)); all_goals (intro hp; first | exact absurd hp (by decide) | ((try rw [hp]); (try simp at hp))))
    | (apply XD.loud; (focus (simp; with_reducible (first | rfl | exact ⟨rfl, rfl⟩))); (focus (simp; done)); (focus (simp; with_reducible rfl)); (focus (simp; with_reducible rfl))))
  all_goals ((refine Fin.mk' (by simp [resA]; with_reducible rfl) (by simp [oneOf, pureRes, snapFuel, snapL]; with_reducible rfl) ?_); simp)

theorem fine_seq {c d : Co} (hf : FineC c) (hd : FineC d) : FineC (seqS c d) := ⟨by simp, hf, hd, trivial⟩
theorem fine_row {v u : Va} (hf : FineV v) (hd : FineV u) : FineV (rowS v u) := ⟨by simp, by simp, hf, hd, trivial⟩

set_option maxRecDepth 100000 in
set_option maxHeartbeats 16000000 in
theorem rows_ok (HH : HasRo E) (c d : Co) (v u : Va) (hf : FineC c) (hd : FineC d) (hv : FineV v) (hu : FineV u) (hsz : (flatS v).length ≤ 1048576) (hn1 : nodes c ≤ 1048576) (hn2 : nodes d ≤ 1048576) :
    limP E 9 [encC c, encC d, encV v, encV u] = some [.bool true] := by
  have h1 := big_ok HH.big c 50 (by omega) (by omega)
  have h2 := big_ok HH.big d 50 (by omega) (by omega)
  have h3 := wide_ok HH.wide v 30 (by omega) (by omega)
  have h4 := wide_ok HH.wide u 30 (by omega) (by omega)
  have h5 := VGood_ok HH.o.v c v hf hv
  have h6 := VGood_ok HH.o.v d u hd hu
  have hsq := seq_ok HH.seq c d
  have hrw := row_ok HH.row v u
  have h7 := CGood_ok HH.o.v.core (seqS c d) (fine_seq hf hd)
  have hln := Len_ok HH.f v hv (by omega)
  have hgc := Groups_ok HH.g c hf (by omega)
  have hgd := Groups_ok HH.g d hd (by omega)
  have mgc : ∀ x, x ∈ addG c [] ↔ x ∈ gl c := fun x => by rw [mem_addG]; simp
  have mgd : ∀ x, x ∈ addG d [] ↔ x ∈ gl d := fun x => by rw [mem_addG]; simp
  have lgc := len_addG c []
  have lgd := len_addG d []
  simp only [List.length_nil, Nat.zero_add] at lgc lgd
  have ha := HH.awake
  have H := HH.law
  have ho1 := of_ok HH.o c v hf hv
  have ho2 := of_ok HH.o d u hd hu
  have ho3 := of_ok HH.o (seqS c d) (rowS v u) (fine_seq hf hd) (fine_row hv hu)
  have hl1 := of_len c v
  have hl2 := of_len d u
  have hl3 := of_len (seqS c d) (rowS v u)
  generalize addG c [] = GC at hgc mgc lgc
  generalize addG d [] = GD at hgd mgd lgd
  rw [eC c] at h1 h5 hsq hgc ho1 ⊢
  rw [eC d] at h2 h6 hsq hgd ho2 ⊢
  rw [eV v] at h3 h5 hrw hln ho1 ⊢
  rw [eV u] at h4 h6 hrw ho2 ⊢
  rw [eC (seqS c d)] at hsq h7 ho3
  rw [eV (rowS v u)] at hrw ho3
  cases b1 : bigS c 50 with
  | true =>
    rw [b1] at h1
    clear ho1 ho2 ho3 hl1 hl2 hl3
    refine H.limQ (Nat.le_of_ble_eq_true rfl) ?_; unfold c9
    (repeat' first
    | apply X.retS
    | apply X.skipS
    | apply X.skipB
    | apply X.skipL
    | (apply X.exitS; first | apply X.here | (refine X.out (by decide) ?_; apply X.here))
    | apply X.blockS
    | (apply X.condQ rfl; (focus (simp only [sub, subO, subL, subM, sub3, sub2, fk_some, fk_none, fk_arg0, fk_argS, fk_argN, fk_map0, fk_mapS, fk_mapN, reduceIte, Nat.reduceEqDiff, Nat.reduceAdd]; with_reducible rfl)); all_goals (intro hbr; first | exact absurd hbr (by decide) | ((try rw [hbr]); (try simp at hbr))))
    | apply X.stepZ
    | (apply X.stepQ rfl; (focus (simp only [sub, subO, subL, subM, sub3, sub2, fk_some, fk_none, fk_arg0, fk_argS, fk_argN, fk_map0, fk_mapS, fk_mapN, reduceIte, Nat.reduceEqDiff, Nat.reduceAdd]; with_reducible rfl)); (focus (simp [-getElem?_pos, HH.rawake, ha, HH.big.raw, h1]; with_reducible (first | rfl | exact ⟨rfl, rfl⟩))))
    | (apply X.stepNQ rfl; (focus (simp only [sub, subO, subL, subM, sub3, sub2, fk_some, fk_none, fk_arg0, fk_argS, fk_argN, fk_map0, fk_mapS, fk_mapN, reduceIte, Nat.reduceEqDiff, Nat.reduceAdd]; with_reducible rfl)))
    | ((first | apply X.stepGtQ rfl | apply X.stepGfQ rfl); (focus (simp only [sub, subO, subL, subM, sub3, sub2, fk_some, fk_none, fk_arg0, fk_argS, fk_argN, fk_map0, fk_mapS, fk_mapN, reduceIte, Nat.reduceEqDiff, Nat.reduceAdd]; with_reducible rfl)); all_goals (intro hbr; first | exact absurd hbr (by decide) | ((try rw [hbr]); (try simp at hbr))))
    | (apply X.draw0; (focus rfl))
    | apply XD.nil
    | (apply XD.calmQ rfl rfl; (focus (simp only [sub, subO, subL, subM, sub3, sub2, fk_some, fk_none, fk_arg0, fk_argS, fk_argN, fk_map0, fk_mapS, fk_mapN, reduceIte, Nat.reduceEqDiff, Nat.reduceAdd]; with_reducible rfl)); (focus (simp [-getElem?_pos, HH.rawake, ha, HH.big.raw, h1]; with_reducible (first | rfl | exact ⟨rfl, rfl⟩))))
    | (apply XD.callQ rfl; (focus (simp only [sub, subO, subL, subM, sub3, sub2, fk_some, fk_none, fk_arg0, fk_argS, fk_argN, fk_map0, fk_mapS, fk_mapN, reduceIte, Nat.reduceEqDiff, Nat.reduceAdd]; simp; with_reducible rfl)); (focus (simp; with_reducible rfl)); (focus (simp [-getElem?_pos, HH.rawake, ha, HH.big.raw, h1]; done)); (focus (simp [-getElem?_pos, HH.rawake, ha, HH.big.raw, h1]; with_reducible rfl)))
    | (apply XD.stepNQ rfl; (focus (simp only [sub, subO, subL, subM, sub3, sub2, fk_some, fk_none, fk_arg0, fk_argS, fk_argN, fk_map0, fk_mapS, fk_mapN, reduceIte, Nat.reduceEqDiff, Nat.reduceAdd]; with_reducible rfl)))
    | ((first | apply XD.stepGtQ rfl | apply XD.stepGfQ rfl); (focus (simp only [sub, subO, subL, subM, sub3, sub2, fk_some, fk_none, fk_arg0, fk_argS, fk_argN, fk_map0, fk_mapS, fk_mapN, reduceIte, Nat.reduceEqDiff, Nat.reduceAdd]; with_reducible rfl)); all_goals (intro hbr; first | exact absurd hbr (by decide) | ((try rw [hbr]); (try simp at hbr))))
    | (apply XD.loudQ rfl; (focus (simp only [sub, subO, subL, subM, sub3, sub2, fk_some, fk_none, fk_arg0, fk_argS, fk_argN, fk_map0, fk_mapS, fk_mapN, reduceIte, Nat.reduceEqDiff, Nat.reduceAdd]; with_reducible rfl)); (focus (simp; with_reducible rfl)); (focus (simp [-getElem?_pos, HH.rawake, ha, HH.big.raw, h1]; with_reducible (first | rfl | exact ⟨rfl, rfl⟩))); (focus (simp; done)); (focus (simp; with_reducible rfl))))
    all_goals ((refine Fin.mkQ rfl (by simp only [resS, sub, subO, subL, subM, sub3, sub2, fk_some, fk_none, fk_arg0, fk_argS, fk_argN, fk_map0, fk_mapS, fk_mapN, reduceIte, Nat.reduceEqDiff, Nat.reduceAdd]; with_reducible rfl) (by simp [oneOf, pureRes, snapFuel, snapL]; with_reducible rfl) ?_); simp)
  | false =>
    rw [b1] at h1
    cases b2 : bigS d 50 with
    | true =>
      rw [b2] at h2
      clear ho1 ho2 ho3 hl1 hl2 hl3
      refine H.limQ (Nat.le_of_ble_eq_true rfl) ?_; unfold c9
      (repeat' first
    | apply X.retS
    | apply X.skipS
    | apply X.skipB
    | apply X.skipL
    | (apply X.exitS; first | apply X.here | (refine X.out (by decide) ?_; apply X.here))
    | apply X.blockS
    | (apply X.condQ rfl; (focus (simp only [sub, subO, subL, subM, sub3, sub2, fk_some, fk_none, fk_arg0, fk_argS, fk_argN, fk_map0, fk_mapS, fk_mapN, reduceIte, Nat.reduceEqDiff, Nat.reduceAdd]; with_reducible rfl)); all_goals (intro hbr; first | exact absurd hbr (by decide) | ((try rw [hbr]); (try simp at hbr))))
    | apply X.stepZ
    | (apply X.stepQ rfl; (focus (simp only [sub, subO, subL, subM, sub3, sub2, fk_some, fk_none, fk_arg0, fk_argS, fk_argN, fk_map0, fk_mapS, fk_mapN, reduceIte, Nat.reduceEqDiff, Nat.reduceAdd]; with_reducible rfl)); (focus (simp [-getElem?_pos, HH.rawake, ha, HH.big.raw, h1, h2]; with_reducible (first | rfl | exact ⟨rfl, rfl⟩))))
    | (apply X.stepNQ rfl; (focus (simp only [sub, subO, subL, subM, sub3, sub2, fk_some, fk_none, fk_arg0, fk_argS, fk_argN, fk_map0, fk_mapS, fk_mapN, reduceIte, Nat.reduceEqDiff, Nat.reduceAdd]; with_reducible rfl)))
    | ((first | apply X.stepGtQ rfl | apply X.stepGfQ rfl); (focus (simp only [sub, subO, subL, subM, sub3, sub2, fk_some, fk_none, fk_arg0, fk_argS, fk_argN, fk_map0, fk_mapS, fk_mapN, reduceIte, Nat.reduceEqDiff, Nat.reduceAdd]; with_reducible rfl)); all_goals (intro hbr; first | exact absurd hbr (by decide) | ((try rw [hbr]); (try simp at hbr))))
    | (apply X.draw0; (focus rfl))
    | apply XD.nil
    | (apply XD.calmQ rfl rfl; (focus (simp only [sub, subO, subL, subM, sub3, sub2, fk_some, fk_none, fk_arg0, fk_argS, fk_argN, fk_map0, fk_mapS, fk_mapN, reduceIte, Nat.reduceEqDiff, Nat.reduceAdd]; with_reducible rfl)); (focus (simp [-getElem?_pos, HH.rawake, ha, HH.big.raw, h1, h2]; with_reducible (first | rfl | exact ⟨rfl, rfl⟩))))
    | (apply XD.callQ rfl; (focus (simp only [sub, subO, subL, subM, sub3, sub2, fk_some, fk_none, fk_arg0, fk_argS, fk_argN, fk_map0, fk_mapS, fk_mapN, reduceIte, Nat.reduceEqDiff, Nat.reduceAdd]; simp; with_reducible rfl)); (focus (simp; with_reducible rfl)); (focus (simp [-getElem?_pos, HH.rawake, ha, HH.big.raw, h1, h2]; done)); (focus (simp [-getElem?_pos, HH.rawake, ha, HH.big.raw, h1, h2]; with_reducible rfl)))
    | (apply XD.stepNQ rfl; (focus (simp only [sub, subO, subL, subM, sub3, sub2, fk_some, fk_none, fk_arg0, fk_argS, fk_argN, fk_map0, fk_mapS, fk_mapN, reduceIte, Nat.reduceEqDiff, Nat.reduceAdd]; with_reducible rfl)))
    | ((first | apply XD.stepGtQ rfl | apply XD.stepGfQ rfl); (focus (simp only [sub, subO, subL, subM, sub3, sub2, fk_some, fk_none, fk_arg0, fk_argS, fk_argN, fk_map0, fk_mapS, fk_mapN, reduceIte, Nat.reduceEqDiff, Nat.reduceAdd]; with_reducible rfl)); all_goals (intro hbr; first | exact absurd hbr (by decide) | ((try rw [hbr]); (try simp at hbr))))
    | (apply XD.loudQ rfl; (focus (simp only [sub, subO, subL, subM, sub3, sub2, fk_some, fk_none, fk_arg0, fk_argS, fk_argN, fk_map0, fk_mapS, fk_mapN, reduceIte, Nat.reduceEqDiff, Nat.reduceAdd]; with_reducible rfl)); (focus (simp; with_reducible rfl)); (focus (simp [-getElem?_pos, HH.rawake, ha, HH.big.raw, h1, h2]; with_reducible (first | rfl | exact ⟨rfl, rfl⟩))); (focus (simp; done)); (focus (simp; with_reducible rfl))))
      all_goals ((refine Fin.mkQ rfl (by simp only [resS, sub, subO, subL, subM, sub3, sub2, fk_some, fk_none, fk_arg0, fk_argS, fk_argN, fk_map0, fk_mapS, fk_mapN, reduceIte, Nat.reduceEqDiff, Nat.reduceAdd]; with_reducible rfl) (by simp [oneOf, pureRes, snapFuel, snapL]; with_reducible rfl) ?_); simp)
    | false =>
      rw [b2] at h2
      cases b3 : wideS v 30 with
      | true =>
        rw [b3] at h3
        clear ho1 ho2 ho3 hl1 hl2 hl3
        refine H.limQ (Nat.le_of_ble_eq_true rfl) ?_; unfold c9
        (repeat' first
    | apply X.retS
    | apply X.skipS
    | apply X.skipB
    | apply X.skipL
    | (apply X.exitS; first | apply X.here | (refine X.out (by decide) ?_; apply X.here))
    | apply X.blockS
    | (apply X.condQ rfl; (focus (simp only [sub, subO, subL, subM, sub3, sub2, fk_some, fk_none, fk_arg0, fk_argS, fk_argN, fk_map0, fk_mapS, fk_mapN, reduceIte, Nat.reduceEqDiff, Nat.reduceAdd]; with_reducible rfl)); all_goals (intro hbr; first | exact absurd hbr (by decide) | ((try rw [hbr]); (try simp at hbr))))
    | apply X.stepZ
    | (apply X.stepQ rfl; (focus (simp only [sub, subO, subL, subM, sub3, sub2, fk_some, fk_none, fk_arg0, fk_argS, fk_argN, fk_map0, fk_mapS, fk_mapN, reduceIte, Nat.reduceEqDiff, Nat.reduceAdd]; with_reducible rfl)); (focus (simp [-getElem?_pos, HH.rawake, ha, HH.big.raw, h1, h2, HH.wide.raw, h3]; with_reducible (first | rfl | exact ⟨rfl, rfl⟩))))
    | (apply X.stepNQ rfl; (focus (simp only [sub, subO, subL, subM, sub3, sub2, fk_some, fk_none, fk_arg0, fk_argS, fk_argN, fk_map0, fk_mapS, fk_mapN, reduceIte, Nat.reduceEqDiff, Nat.reduceAdd]; with_reducible rfl)))
    | ((first | apply X.stepGtQ rfl | apply X.stepGfQ rfl); (focus (simp only [sub, subO, subL, subM, sub3, sub2, fk_some, fk_none, fk_arg0, fk_argS, fk_argN, fk_map0, fk_mapS, fk_mapN, reduceIte, Nat.reduceEqDiff, Nat.reduceAdd]; with_reducible rfl)); all_goals (intro hbr; first | exact absurd hbr (by decide) | ((try rw [hbr]); (try simp at hbr))))
    | (apply X.draw0; (focus rfl))
    | apply XD.nil
    | (apply XD.calmQ rfl rfl; (focus (simp only [sub, subO, subL, subM, sub3, sub2, fk_some, fk_none, fk_arg0, fk_argS, fk_argN, fk_map0, fk_mapS, fk_mapN, reduceIte, Nat.reduceEqDiff, Nat.reduceAdd]; with_reducible rfl)); (focus (simp [-getElem?_pos, HH.rawake, ha, HH.big.raw, h1, h2, HH.wide.raw, h3]; with_reducible (first | rfl | exact ⟨rfl, rfl⟩))))
    | (apply XD.callQ rfl; (focus (simp only [sub, subO, subL, subM, sub3, sub2, fk_some, fk_none, fk_arg0, fk_argS, fk_argN, fk_map0, fk_mapS, fk_mapN, reduceIte, Nat.reduceEqDiff, Nat.reduceAdd]; simp; with_reducible rfl)); (focus (simp; with_reducible rfl)); (focus (simp [-getElem?_pos, HH.rawake, ha, HH.big.raw, h1, h2, HH.wide.raw, h3]; done)); (focus (simp [-getElem?_pos, HH.rawake, ha, HH.big.raw, h1, h2, HH.wide.raw, h3]; with_reducible rfl)))
    | (apply XD.stepNQ rfl; (focus (simp only [sub, subO, subL, subM, sub3, sub2, fk_some, fk_none, fk_arg0, fk_argS, fk_argN, fk_map0, fk_mapS, fk_mapN, reduceIte, Nat.reduceEqDiff, Nat.reduceAdd]; with_reducible rfl)))
    | ((first | apply XD.stepGtQ rfl | apply XD.stepGfQ rfl); (focus (simp only [sub, subO, subL, subM, sub3, sub2, fk_some, fk_none, fk_arg0, fk_argS, fk_argN, fk_map0, fk_mapS, fk_mapN, reduceIte, Nat.reduceEqDiff, Nat.reduceAdd]; with_reducible rfl)); all_goals (intro hbr; first | exact absurd hbr (by decide) | ((try rw [hbr]); (try simp at hbr))))
    | (apply XD.loudQ rfl; (focus (simp only [sub, subO, subL, subM, sub3, sub2, fk_some, fk_none, fk_arg0, fk_argS, fk_argN, fk_map0, fk_mapS, fk_mapN, reduceIte, Nat.reduceEqDiff, Nat.reduceAdd]; with_reducible rfl)); (focus (simp; with_reducible rfl)); (focus (simp [-getElem?_pos, HH.rawake, ha, HH.big.raw, h1, h2, HH.wide.raw, h3]; with_reducible (first | rfl | exact ⟨rfl, rfl⟩))); (focus (simp; done)); (focus (simp; with_reducible rfl))))
        all_goals ((refine Fin.mkQ rfl (by simp only [resS, sub, subO, subL, subM, sub3, sub2, fk_some, fk_none, fk_arg0, fk_argS, fk_argN, fk_map0, fk_mapS, fk_mapN, reduceIte, Nat.reduceEqDiff, Nat.reduceAdd]; with_reducible rfl) (by simp [oneOf, pureRes, snapFuel, snapL]; with_reducible rfl) ?_); simp)
      | false =>
        rw [b3] at h3
        cases b4 : wideS u 30 with
        | true =>
          rw [b4] at h4
          clear ho1 ho2 ho3 hl1 hl2 hl3
          refine H.limQ (Nat.le_of_ble_eq_true rfl) ?_; unfold c9
          (repeat' first
    | apply X.retS
    | apply X.skipS
    | apply X.skipB
    | apply X.skipL
    | (apply X.exitS; first | apply X.here | (refine X.out (by decide) ?_; apply X.here))
    | apply X.blockS
    | (apply X.condQ rfl; (focus (simp only [sub, subO, subL, subM, sub3, sub2, fk_some, fk_none, fk_arg0, fk_argS, fk_argN, fk_map0, fk_mapS, fk_mapN, reduceIte, Nat.reduceEqDiff, Nat.reduceAdd]; with_reducible rfl)); all_goals (intro hbr; first | exact absurd hbr (by decide) | ((try rw [hbr]); (try simp at hbr))))
    | apply X.stepZ
    | (apply X.stepQ rfl; (focus (simp only [sub, subO, subL, subM, sub3, sub2, fk_some, fk_none, fk_arg0, fk_argS, fk_argN, fk_map0, fk_mapS, fk_mapN, reduceIte, Nat.reduceEqDiff, Nat.reduceAdd]; with_reducible rfl)); (focus (simp [-getElem?_pos, HH.rawake, ha, HH.big.raw, h1, h2, HH.wide.raw, h3, h4]; with_reducible (first | rfl | exact ⟨rfl, rfl⟩))))
    | (apply X.stepNQ rfl; (focus (simp only [sub, subO, subL, subM, sub3, sub2, fk_some, fk_none, fk_arg0, fk_argS, fk_argN, fk_map0, fk_mapS, fk_mapN, reduceIte, Nat.reduceEqDiff, Nat.reduceAdd]; with_reducible rfl)))
    | ((first | apply X.stepGtQ rfl | apply X.stepGfQ rfl); (focus (simp only [sub, subO, subL, subM, sub3, sub2, fk_some, fk_none, fk_arg0, fk_argS, fk_argN, fk_map0, fk_mapS, fk_mapN, reduceIte, Nat.reduceEqDiff, Nat.reduceAdd]; with_reducible rfl)); all_goals (intro hbr; first | exact absurd hbr (by decide) | ((try rw [hbr]); (try simp at hbr))))
    | (apply X.draw0; (focus rfl))
    | apply XD.nil
    | (apply XD.calmQ rfl rfl; (focus (simp only [sub, subO, subL, subM, sub3, sub2, fk_some, fk_none, fk_arg0, fk_argS, fk_argN, fk_map0, fk_mapS, fk_mapN, reduceIte, Nat.reduceEqDiff, Nat.reduceAdd]; with_reducible rfl)); (focus (simp [-getElem?_pos, HH.rawake, ha, HH.big.raw, h1, h2, HH.wide.raw, h3, h4]; with_reducible (first | rfl | exact ⟨rfl, rfl⟩))))
    | (apply XD.callQ rfl; (focus (simp only [sub, subO, subL, subM, sub3, sub2, fk_some, fk_none, fk_arg0, fk_argS, fk_argN, fk_map0, fk_mapS, fk_mapN, reduceIte, Nat.reduceEqDiff, Nat.reduceAdd]; simp; with_reducible rfl)); (focus (simp; with_reducible rfl)); (focus (simp [-getElem?_pos, HH.rawake, ha, HH.big.raw, h1, h2, HH.wide.raw, h3, h4]; done)); (focus (simp [-getElem?_pos, HH.rawake, ha, HH.big.raw, h1, h2, HH.wide.raw, h3, h4]; with_reducible rfl)))
    | (apply XD.stepNQ rfl; (focus (simp only [sub, subO, subL, subM, sub3, sub2, fk_some, fk_none, fk_arg0, fk_argS, fk_argN, fk_map0, fk_mapS, fk_mapN, reduceIte, Nat.reduceEqDiff, Nat.reduceAdd]; with_reducible rfl)))
    | ((first | apply XD.stepGtQ rfl | apply XD.stepGfQ rfl); (focus (simp only [sub, subO, subL, subM, sub3, sub2, fk_some, fk_none, fk_arg0, fk_argS, fk_argN, fk_map0, fk_mapS, fk_mapN, reduceIte, Nat.reduceEqDiff, Nat.reduceAdd]; with_reducible rfl)); all_goals (intro hbr; first | exact absurd hbr (by decide) | ((try rw [hbr]); (try simp at hbr))))
    | (apply XD.loudQ rfl; (focus (simp only [sub, subO, subL, subM, sub3, sub2, fk_some, fk_none, fk_arg0, fk_argS, fk_argN, fk_map0, fk_mapS, fk_mapN, reduceIte, Nat.reduceEqDiff, Nat.reduceAdd]; with_reducible rfl)); (focus (simp; with_reducible rfl)); (focus (simp [-getElem?_pos, HH.rawake, ha, HH.big.raw, h1, h2, HH.wide.raw, h3, h4]; with_reducible (first | rfl | exact ⟨rfl, rfl⟩))); (focus (simp; done)); (focus (simp; with_reducible rfl))))
          all_goals ((refine Fin.mkQ rfl (by simp only [resS, sub, subO, subL, subM, sub3, sub2, fk_some, fk_none, fk_arg0, fk_argS, fk_argN, fk_map0, fk_mapS, fk_mapN, reduceIte, Nat.reduceEqDiff, Nat.reduceAdd]; with_reducible rfl) (by simp [oneOf, pureRes, snapFuel, snapL]; with_reducible rfl) ?_); simp)
        | false =>
          rw [b4] at h4
          cases b5 : GoodV c v with
          | false =>
            rw [b5] at h5
            clear ho1 ho2 ho3 hl1 hl2 hl3
            refine H.limQ (Nat.le_of_ble_eq_true rfl) ?_; unfold c9
            (repeat' first
    | apply X.retS
    | apply X.skipS
    | apply X.skipB
    | apply X.skipL
    | (apply X.exitS; first | apply X.here | (refine X.out (by decide) ?_; apply X.here))
    | apply X.blockS
    | (apply X.condQ rfl; (focus (simp only [sub, subO, subL, subM, sub3, sub2, fk_some, fk_none, fk_arg0, fk_argS, fk_argN, fk_map0, fk_mapS, fk_mapN, reduceIte, Nat.reduceEqDiff, Nat.reduceAdd]; with_reducible rfl)); all_goals (intro hbr; first | exact absurd hbr (by decide) | ((try rw [hbr]); (try simp at hbr))))
    | apply X.stepZ
    | (apply X.stepQ rfl; (focus (simp only [sub, subO, subL, subM, sub3, sub2, fk_some, fk_none, fk_arg0, fk_argS, fk_argN, fk_map0, fk_mapS, fk_mapN, reduceIte, Nat.reduceEqDiff, Nat.reduceAdd]; with_reducible rfl)); (focus (simp [-getElem?_pos, HH.rawake, ha, HH.big.raw, h1, h2, HH.wide.raw, h3, h4, HH.o.v.Good.raw, h5]; with_reducible (first | rfl | exact ⟨rfl, rfl⟩))))
    | (apply X.stepNQ rfl; (focus (simp only [sub, subO, subL, subM, sub3, sub2, fk_some, fk_none, fk_arg0, fk_argS, fk_argN, fk_map0, fk_mapS, fk_mapN, reduceIte, Nat.reduceEqDiff, Nat.reduceAdd]; with_reducible rfl)))
    | ((first | apply X.stepGtQ rfl | apply X.stepGfQ rfl); (focus (simp only [sub, subO, subL, subM, sub3, sub2, fk_some, fk_none, fk_arg0, fk_argS, fk_argN, fk_map0, fk_mapS, fk_mapN, reduceIte, Nat.reduceEqDiff, Nat.reduceAdd]; with_reducible rfl)); all_goals (intro hbr; first | exact absurd hbr (by decide) | ((try rw [hbr]); (try simp at hbr))))
    | (apply X.draw0; (focus rfl))
    | apply XD.nil
    | (apply XD.calmQ rfl rfl; (focus (simp only [sub, subO, subL, subM, sub3, sub2, fk_some, fk_none, fk_arg0, fk_argS, fk_argN, fk_map0, fk_mapS, fk_mapN, reduceIte, Nat.reduceEqDiff, Nat.reduceAdd]; with_reducible rfl)); (focus (simp [-getElem?_pos, HH.rawake, ha, HH.big.raw, h1, h2, HH.wide.raw, h3, h4, HH.o.v.Good.raw, h5]; with_reducible (first | rfl | exact ⟨rfl, rfl⟩))))
    | (apply XD.callQ rfl; (focus (simp only [sub, subO, subL, subM, sub3, sub2, fk_some, fk_none, fk_arg0, fk_argS, fk_argN, fk_map0, fk_mapS, fk_mapN, reduceIte, Nat.reduceEqDiff, Nat.reduceAdd]; simp; with_reducible rfl)); (focus (simp; with_reducible rfl)); (focus (simp [-getElem?_pos, HH.rawake, ha, HH.big.raw, h1, h2, HH.wide.raw, h3, h4, HH.o.v.Good.raw, h5]; done)); (focus (simp [-getElem?_pos, HH.rawake, ha, HH.big.raw, h1, h2, HH.wide.raw, h3, h4, HH.o.v.Good.raw, h5]; with_reducible rfl)))
    | (apply XD.stepNQ rfl; (focus (simp only [sub, subO, subL, subM, sub3, sub2, fk_some, fk_none, fk_arg0, fk_argS, fk_argN, fk_map0, fk_mapS, fk_mapN, reduceIte, Nat.reduceEqDiff, Nat.reduceAdd]; with_reducible rfl)))
    | ((first | apply XD.stepGtQ rfl | apply XD.stepGfQ rfl); (focus (simp only [sub, subO, subL, subM, sub3, sub2, fk_some, fk_none, fk_arg0, fk_argS, fk_argN, fk_map0, fk_mapS, fk_mapN, reduceIte, Nat.reduceEqDiff, Nat.reduceAdd]; with_reducible rfl)); all_goals (intro hbr; first | exact absurd hbr (by decide) | ((try rw [hbr]); (try simp at hbr))))
    | (apply XD.loudQ rfl; (focus (simp only [sub, subO, subL, subM, sub3, sub2, fk_some, fk_none, fk_arg0, fk_argS, fk_argN, fk_map0, fk_mapS, fk_mapN, reduceIte, Nat.reduceEqDiff, Nat.reduceAdd]; with_reducible rfl)); (focus (simp; with_reducible rfl)); (focus (simp [-getElem?_pos, HH.rawake, ha, HH.big.raw, h1, h2, HH.wide.raw, h3, h4, HH.o.v.Good.raw, h5]; with_reducible (first | rfl | exact ⟨rfl, rfl⟩))); (focus (simp; done)); (focus (simp; with_reducible rfl))))
            all_goals ((refine Fin.mkQ rfl (by simp only [resS, sub, subO, subL, subM, sub3, sub2, fk_some, fk_none, fk_arg0, fk_argS, fk_argN, fk_map0, fk_mapS, fk_mapN, reduceIte, Nat.reduceEqDiff, Nat.reduceAdd]; with_reducible rfl) (by simp [oneOf, pureRes, snapFuel, snapL]; with_reducible rfl) ?_); simp)
          | true =>
            rw [b5] at h5
            cases b6 : GoodV d u with
            | false =>
              rw [b6] at h6
              clear ho1 ho2 ho3 hl1 hl2 hl3
              refine H.limQ (Nat.le_of_ble_eq_true rfl) ?_; unfold c9
              (repeat' first
    | apply X.retS
    | apply X.skipS
    | apply X.skipB
    | apply X.skipL
    | (apply X.exitS; first | apply X.here | (refine X.out (by decide) ?_; apply X.here))
    | apply X.blockS
    | (apply X.condQ rfl; (focus (simp only [sub, subO, subL, subM, sub3, sub2, fk_some, fk_none, fk_arg0, fk_argS, fk_argN, fk_map0, fk_mapS, fk_mapN, reduceIte, Nat.reduceEqDiff, Nat.reduceAdd]; with_reducible rfl)); all_goals (intro hbr; first | exact absurd hbr (by decide) | ((try rw [hbr]); (try simp at hbr))))
    | apply X.stepZ
    | (apply X.stepQ rfl; (focus (simp only [sub, subO, subL, subM, sub3, sub2, fk_some, fk_none, fk_arg0, fk_argS, fk_argN, fk_map0, fk_mapS, fk_mapN, reduceIte, Nat.reduceEqDiff, Nat.reduceAdd]; with_reducible rfl)); (focus (simp [-getElem?_pos, HH.rawake, ha, HH.big.raw, h1, h2, HH.wide.raw, h3, h4, HH.o.v.Good.raw, h5, h6]; with_reducible (first | rfl | exact ⟨rfl, rfl⟩))))
    | (apply X.stepNQ rfl; (focus (simp only [sub, subO, subL, subM, sub3, sub2, fk_some, fk_none, fk_arg0, fk_argS, fk_argN, fk_map0, fk_mapS, fk_mapN, reduceIte, Nat.reduceEqDiff, Nat.reduceAdd]; with_reducible rfl)))
    | ((first | apply X.stepGtQ rfl | apply X.stepGfQ rfl); (focus (simp only [sub, subO, subL, subM, sub3, sub2, fk_some, fk_none, fk_arg0, fk_argS, fk_argN, fk_map0, fk_mapS, fk_mapN, reduceIte, Nat.reduceEqDiff, Nat.reduceAdd]; with_reducible rfl)); all_goals (intro hbr; first | exact absurd hbr (by decide) | ((try rw [hbr]); (try simp at hbr))))
    | (apply X.draw0; (focus rfl))
    | apply XD.nil
    | (apply XD.calmQ rfl rfl; (focus (simp only [sub, subO, subL, subM, sub3, sub2, fk_some, fk_none, fk_arg0, fk_argS, fk_argN, fk_map0, fk_mapS, fk_mapN, reduceIte, Nat.reduceEqDiff, Nat.reduceAdd]; with_reducible rfl)); (focus (simp [-getElem?_pos, HH.rawake, ha, HH.big.raw, h1, h2, HH.wide.raw, h3, h4, HH.o.v.Good.raw, h5, h6]; with_reducible (first | rfl | exact ⟨rfl, rfl⟩))))
    | (apply XD.callQ rfl; (focus (simp only [sub, subO, subL, subM, sub3, sub2, fk_some, fk_none, fk_arg0, fk_argS, fk_argN, fk_map0, fk_mapS, fk_mapN, reduceIte, Nat.reduceEqDiff, Nat.reduceAdd]; simp; with_reducible rfl)); (focus (simp; with_reducible rfl)); (focus (simp [-getElem?_pos, HH.rawake, ha, HH.big.raw, h1, h2, HH.wide.raw, h3, h4, HH.o.v.Good.raw, h5, h6]; done)); (focus (simp [-getElem?_pos, HH.rawake, ha, HH.big.raw, h1, h2, HH.wide.raw, h3, h4, HH.o.v.Good.raw, h5, h6]; with_reducible rfl)))
    | (apply XD.stepNQ rfl; (focus (simp only [sub, subO, subL, subM, sub3, sub2, fk_some, fk_none, fk_arg0, fk_argS, fk_argN, fk_map0, fk_mapS, fk_mapN, reduceIte, Nat.reduceEqDiff, Nat.reduceAdd]; with_reducible rfl)))
    | ((first | apply XD.stepGtQ rfl | apply XD.stepGfQ rfl); (focus (simp only [sub, subO, subL, subM, sub3, sub2, fk_some, fk_none, fk_arg0, fk_argS, fk_argN, fk_map0, fk_mapS, fk_mapN, reduceIte, Nat.reduceEqDiff, Nat.reduceAdd]; with_reducible rfl)); all_goals (intro hbr; first | exact absurd hbr (by decide) | ((try rw [hbr]); (try simp at hbr))))
    | (apply XD.loudQ rfl; (focus (simp only [sub, subO, subL, subM, sub3, sub2, fk_some, fk_none, fk_arg0, fk_argS, fk_argN, fk_map0, fk_mapS, fk_mapN, reduceIte, Nat.reduceEqDiff, Nat.reduceAdd]; with_reducible rfl)); (focus (simp; with_reducible rfl)); (focus (simp [-getElem?_pos, HH.rawake, ha, HH.big.raw, h1, h2, HH.wide.raw, h3, h4, HH.o.v.Good.raw, h5, h6]; with_reducible (first | rfl | exact ⟨rfl, rfl⟩))); (focus (simp; done)); (focus (simp; with_reducible rfl))))
              all_goals ((refine Fin.mkQ rfl (by simp only [resS, sub, subO, subL, subM, sub3, sub2, fk_some, fk_none, fk_arg0, fk_argS, fk_argN, fk_map0, fk_mapS, fk_mapN, reduceIte, Nat.reduceEqDiff, Nat.reduceAdd]; with_reducible rfl) (by simp [oneOf, pureRes, snapFuel, snapL]; with_reducible rfl) ?_); simp)
            | true =>
              rw [b6] at h6
              cases b7 : GoodC (seqS c d) with
              | false =>
                rw [b7] at h7
                clear ho1 ho2 ho3 hl1 hl2 hl3
                refine H.limQ (Nat.le_of_ble_eq_true rfl) ?_; unfold c9
                (repeat' first
    | apply X.retS
    | apply X.skipS
    | apply X.skipB
    | apply X.skipL
    | (apply X.exitS; first | apply X.here | (refine X.out (by decide) ?_; apply X.here))
    | apply X.blockS
    | (apply X.condQ rfl; (focus (simp only [sub, subO, subL, subM, sub3, sub2, fk_some, fk_none, fk_arg0, fk_argS, fk_argN, fk_map0, fk_mapS, fk_mapN, reduceIte, Nat.reduceEqDiff, Nat.reduceAdd]; with_reducible rfl)); all_goals (intro hbr; first | exact absurd hbr (by decide) | ((try rw [hbr]); (try simp at hbr))))
    | apply X.stepZ
    | (apply X.stepQ rfl; (focus (simp only [sub, subO, subL, subM, sub3, sub2, fk_some, fk_none, fk_arg0, fk_argS, fk_argN, fk_map0, fk_mapS, fk_mapN, reduceIte, Nat.reduceEqDiff, Nat.reduceAdd]; with_reducible rfl)); (focus (simp [-getElem?_pos, HH.rawake, ha, HH.big.raw, h1, h2, HH.wide.raw, h3, h4, HH.o.v.Good.raw, h5, h6, HH.seq.raw, hsq, HH.o.v.core.Good.raw, h7]; with_reducible (first | rfl | exact ⟨rfl, rfl⟩))))
    | (apply X.stepNQ rfl; (focus (simp only [sub, subO, subL, subM, sub3, sub2, fk_some, fk_none, fk_arg0, fk_argS, fk_argN, fk_map0, fk_mapS, fk_mapN, reduceIte, Nat.reduceEqDiff, Nat.reduceAdd]; with_reducible rfl)))
    | ((first | apply X.stepGtQ rfl | apply X.stepGfQ rfl); (focus (simp only [sub, subO, subL, subM, sub3, sub2, fk_some, fk_none, fk_arg0, fk_argS, fk_argN, fk_map0, fk_mapS, fk_mapN, reduceIte, Nat.reduceEqDiff, Nat.reduceAdd]; with_reducible rfl)); all_goals (intro hbr; first | exact absurd hbr (by decide) | ((try rw [hbr]); (try simp at hbr))))
    | (apply X.draw0; (focus rfl))
    | apply XD.nil
    | (apply XD.calmQ rfl rfl; (focus (simp only [sub, subO, subL, subM, sub3, sub2, fk_some, fk_none, fk_arg0, fk_argS, fk_argN, fk_map0, fk_mapS, fk_mapN, reduceIte, Nat.reduceEqDiff, Nat.reduceAdd]; with_reducible rfl)); (focus (simp [-getElem?_pos, HH.rawake, ha, HH.big.raw, h1, h2, HH.wide.raw, h3, h4, HH.o.v.Good.raw, h5, h6, HH.seq.raw, hsq, HH.o.v.core.Good.raw, h7]; with_reducible (first | rfl | exact ⟨rfl, rfl⟩))))
    | (apply XD.callQ rfl; (focus (simp only [sub, subO, subL, subM, sub3, sub2, fk_some, fk_none, fk_arg0, fk_argS, fk_argN, fk_map0, fk_mapS, fk_mapN, reduceIte, Nat.reduceEqDiff, Nat.reduceAdd]; simp; with_reducible rfl)); (focus (simp; with_reducible rfl)); (focus (simp [-getElem?_pos, HH.rawake, ha, HH.big.raw, h1, h2, HH.wide.raw, h3, h4, HH.o.v.Good.raw, h5, h6, HH.seq.raw, hsq, HH.o.v.core.Good.raw, h7]; done)); (focus (simp [-getElem?_pos, HH.rawake, ha, HH.big.raw, h1, h2, HH.wide.raw, h3, h4, HH.o.v.Good.raw, h5, h6, HH.seq.raw, hsq, HH.o.v.core.Good.raw, h7]; with_reducible rfl)))
    | (apply XD.stepNQ rfl; (focus (simp only [sub, subO, subL, subM, sub3, sub2, fk_some, fk_none, fk_arg0, fk_argS, fk_argN, fk_map0, fk_mapS, fk_mapN, reduceIte, Nat.reduceEqDiff, Nat.reduceAdd]; with_reducible rfl)))
    | ((first | apply XD.stepGtQ rfl | apply XD.stepGfQ rfl); (focus (simp only [sub, subO, subL, subM, sub3, sub2, fk_some, fk_none, fk_arg0, fk_argS, fk_argN, fk_map0, fk_mapS, fk_mapN, reduceIte, Nat.reduceEqDiff, Nat.reduceAdd]; with_reducible rfl)); all_goals (intro hbr; first | exact absurd hbr (by decide) | ((try rw [hbr]); (try simp at hbr))))
    | (apply XD.loudQ rfl; (focus (simp only [sub, subO, subL, subM, sub3, sub2, fk_some, fk_none, fk_arg0, fk_argS, fk_argN, fk_map0, fk_mapS, fk_mapN, reduceIte, Nat.reduceEqDiff, Nat.reduceAdd]; with_reducible rfl)); (focus (simp; with_reducible rfl)); (focus (simp [-getElem?_pos, HH.rawake, ha, HH.big.raw, h1, h2, HH.wide.raw, h3, h4, HH.o.v.Good.raw, h5, h6, HH.seq.raw, hsq, HH.o.v.core.Good.raw, h7]; with_reducible (first | rfl | exact ⟨rfl, rfl⟩))); (focus (simp; done)); (focus (simp; with_reducible rfl))))
                all_goals ((refine Fin.mkQ rfl (by simp only [resS, sub, subO, subL, subM, sub3, sub2, fk_some, fk_none, fk_arg0, fk_argS, fk_argN, fk_map0, fk_mapS, fk_mapN, reduceIte, Nat.reduceEqDiff, Nat.reduceAdd]; with_reducible rfl) (by simp [oneOf, pureRes, snapFuel, snapL]; with_reducible rfl) ?_); simp)
              | true =>
                rw [b7] at h7
                have g5 : GoodC c = true ∧ gvS c v = true := by unfold GoodV at b5; split at b5; exact ⟨by assumption, b5⟩; cases b5
                have g6 : GoodC d = true ∧ gvS d u = true := by unfold GoodV at b6; split at b6; exact ⟨by assumption, b6⟩; cases b6
                have g7 : GoodV (seqS c d) (rowS v u) = true := by unfold GoodV; rw [if_pos b7]; exact gv_row g5.2 g6.2
                have e1 := ho1 b5 0 (by omega) 32 (by omega)
                have e2 := ho2 b6 (flatS v).length (by omega) 32 (by omega)
                have e3 := ho3 g7 0 (by omega) 32 (by omega)
                have l1 := hl1 0 32
                have l2 := hl2 (flatS v).length 32
                have l3 := hl3 0 32
                have rr : (∀ n, n ∈ gl c → n ∉ gl d) → _ := fun hap => fun i hi1 hi2 => rows_rel (u := u) (d := d) (i := i) (sh_GoodC g5.1) g5.2 hap (gl_pos c (sh_GoodC g5.1)) (gl_pos d (sh_GoodC g6.1)) (by omega) hi1 hi2
                clear ho1 ho2 ho3 hl1 hl2 hl3
                generalize ofS c v 0 32 = A at e1 l1 rr
                generalize ofS d u (flatS v).length 32 = B at e2 l2 rr
                generalize ofS (seqS c d) (rowS v u) 0 32 = C at e3 l3 rr
                have e1' : limP E 25 _ = _ := e1
                have e2' : limP E 25 _ = _ := e2
                have e3' : limP E 25 _ = _ := e3
                simp only [Int.cast_ofNat_Int] at e1' e2' e3'
                clear e1 e2 e3
                generalize ((flatS v).length : Int) = n at hln e2'
                refine H.limQ (Nat.le_of_ble_eq_true rfl) ?_; unfold c9
                (repeat' first
    | apply X.retS
    | apply X.skipS
    | apply X.skipB
    | apply X.skipL
    | (apply X.exitS; first | apply X.here | (refine X.out (by decide) ?_; apply X.here))
    | apply X.blockS
    | (apply X.condQ rfl; (focus (simp only [sub, subO, subL, subM, sub3, sub2, fk_some, fk_none, fk_arg0, fk_argS, fk_argN, fk_map0, fk_mapS, fk_mapN, reduceIte, Nat.reduceEqDiff, Nat.reduceAdd]; with_reducible rfl)); all_goals (intro hbr; first | exact absurd hbr (by decide) | ((try rw [hbr]); (try simp at hbr))))
    | apply X.stepZ
    | (apply X.stepQ rfl; (focus (simp only [sub, subO, subL, subM, sub3, sub2, fk_some, fk_none, fk_arg0, fk_argS, fk_argN, fk_map0, fk_mapS, fk_mapN, reduceIte, Nat.reduceEqDiff, Nat.reduceAdd]; with_reducible rfl)); (focus (simp [-getElem?_pos, HH.rawake, ha, HH.big.raw, h1, h2, HH.wide.raw, h3, h4, HH.o.v.Good.raw, h5, h6, HH.seq.raw, hsq, HH.o.v.core.Good.raw, h7, HH.g.groups.raw, hgc, hgd]; with_reducible (first | rfl | exact ⟨rfl, rfl⟩))))
    | (apply X.stepNQ rfl; (focus (simp only [sub, subO, subL, subM, sub3, sub2, fk_some, fk_none, fk_arg0, fk_argS, fk_argN, fk_map0, fk_mapS, fk_mapN, reduceIte, Nat.reduceEqDiff, Nat.reduceAdd]; with_reducible rfl)))
    | ((first | apply X.stepGtQ rfl | apply X.stepGfQ rfl); (focus (simp only [sub, subO, subL, subM, sub3, sub2, fk_some, fk_none, fk_arg0, fk_argS, fk_argN, fk_map0, fk_mapS, fk_mapN, reduceIte, Nat.reduceEqDiff, Nat.reduceAdd]; with_reducible rfl)); all_goals (intro hbr; first | exact absurd hbr (by decide) | ((try rw [hbr]); (try simp at hbr))))
    | (apply X.draw0; (focus rfl))
    | apply XD.nil
    | (apply XD.calmQ rfl rfl; (focus (simp only [sub, subO, subL, subM, sub3, sub2, fk_some, fk_none, fk_arg0, fk_argS, fk_argN, fk_map0, fk_mapS, fk_mapN, reduceIte, Nat.reduceEqDiff, Nat.reduceAdd]; with_reducible rfl)); (focus (simp [-getElem?_pos, HH.rawake, ha, HH.big.raw, h1, h2, HH.wide.raw, h3, h4, HH.o.v.Good.raw, h5, h6, HH.seq.raw, hsq, HH.o.v.core.Good.raw, h7, HH.g.groups.raw, hgc, hgd]; with_reducible (first | rfl | exact ⟨rfl, rfl⟩))))
    | (apply XD.callQ rfl; (focus (simp only [sub, subO, subL, subM, sub3, sub2, fk_some, fk_none, fk_arg0, fk_argS, fk_argN, fk_map0, fk_mapS, fk_mapN, reduceIte, Nat.reduceEqDiff, Nat.reduceAdd]; simp; with_reducible rfl)); (focus (simp; with_reducible rfl)); (focus (simp [-getElem?_pos, HH.rawake, ha, HH.big.raw, h1, h2, HH.wide.raw, h3, h4, HH.o.v.Good.raw, h5, h6, HH.seq.raw, hsq, HH.o.v.core.Good.raw, h7, HH.g.groups.raw, hgc, hgd]; done)); (focus (simp [-getElem?_pos, HH.rawake, ha, HH.big.raw, h1, h2, HH.wide.raw, h3, h4, HH.o.v.Good.raw, h5, h6, HH.seq.raw, hsq, HH.o.v.core.Good.raw, h7, HH.g.groups.raw, hgc, hgd]; with_reducible rfl)))
    | (apply XD.stepNQ rfl; (focus (simp only [sub, subO, subL, subM, sub3, sub2, fk_some, fk_none, fk_arg0, fk_argS, fk_argN, fk_map0, fk_mapS, fk_mapN, reduceIte, Nat.reduceEqDiff, Nat.reduceAdd]; with_reducible rfl)))
    | ((first | apply XD.stepGtQ rfl | apply XD.stepGfQ rfl); (focus (simp only [sub, subO, subL, subM, sub3, sub2, fk_some, fk_none, fk_arg0, fk_argS, fk_argN, fk_map0, fk_mapS, fk_mapN, reduceIte, Nat.reduceEqDiff, Nat.reduceAdd]; with_reducible rfl)); all_goals (intro hbr; first | exact absurd hbr (by decide) | ((try rw [hbr]); (try simp at hbr))))
    | (apply XD.loudQ rfl; (focus (simp only [sub, subO, subL, subM, sub3, sub2, fk_some, fk_none, fk_arg0, fk_argS, fk_argN, fk_map0, fk_mapS, fk_mapN, reduceIte, Nat.reduceEqDiff, Nat.reduceAdd]; with_reducible rfl)); (focus (simp; with_reducible rfl)); (focus (simp [-getElem?_pos, HH.rawake, ha, HH.big.raw, h1, h2, HH.wide.raw, h3, h4, HH.o.v.Good.raw, h5, h6, HH.seq.raw, hsq, HH.o.v.core.Good.raw, h7, HH.g.groups.raw, hgc, hgd]; with_reducible (first | rfl | exact ⟨rfl, rfl⟩))); (focus (simp; done)); (focus (simp; with_reducible rfl))))
                refine X.forS GC.length (fun j st => (∀ i x, i < j → GC[i]? = some x → x ∉ GD) ∧ ∃ f, (fk (Fk.mk (f := f)) 4 = .ptr 0 0 ∧ fk (Fk.mk (f := f)) 5 = .ptr 1 0 ∧ fk (Fk.mk (f := f)) 6 = .ptr 2 0 ∧ fk (Fk.mk (f := f)) 7 = .ptr 3 0 ∧ fk (Fk.mk (f := f)) 9 = .pv (.sl (encI GC)) ∧ fk (Fk.mk (f := f)) 10 = .pv (.sl (encI GD)) ∧ fk (Fk.mk (f := f)) 11 = .pv (.int .i64 j)) ∧
                  st = ⟨TL 143 f, [.blk [.pv (.int .i64 c.k), .pv (.int .u64 c.s0), .pv (.int .u64 c.s1), .pv (.int .u64 c.s2), .pv (.int .u64 c.s3), .pv (.int .i64 c.n), .pv (.sl (c.l.map encC))] none,
                    .blk [.pv (.int .i64 d.k), .pv (.int .u64 d.s0), .pv (.int .u64 d.s1), .pv (.int .u64 d.s2), .pv (.int .u64 d.s3), .pv (.int .i64 d.n), .pv (.sl (d.l.map encC))] none,
                    .blk [.pv (.int .i64 v.k), .pv (.int .u8 v.b), .pv (.sl (v.l.map encV))] none, .blk [.pv (.int .i64 u.k), .pv (.int .u8 u.b), .pv (.sl (u.l.map encV))] none]⟩) ?_ ?_
                · exact ⟨fun i x hi => absurd hi (by omega), _, by simp, rfl⟩
                rintro j st hj ⟨hno, f, ⟨f4, f5, f6, f7, f9, f10, f11⟩, rfl⟩
                have ecl : (encI GC).length = GC.length := by simp [encI]
                have edl : (encI GD).length = GD.length := by simp [encI]
                rcases Nat.lt_or_ge j GC.length with hj1 | hj1
                · obtain ⟨x, hx⟩ := at_of_lt hj1
                  have hx2 : (encI GC)[j]? = some (.int .i64 x) := by simp [encI, hx]
                  have hww : IntKind.i64.wrap ((j : Int) + 1) = (j : Int) + 1 := wrap_i64 (by omega)
                  (repeat' first
    | apply X.retS
    | apply X.skipS
    | apply X.skipB
    | apply X.skipL
    | (apply X.exitS; first | apply X.here | (refine X.out (by decide) ?_; apply X.here))
    | apply X.blockS
    | (apply X.condQ rfl; (focus (simp only [sub, subO, subL, subM, sub3, sub2, fk_some, fk_none, fk_arg0, fk_argS, fk_argN, fk_map0, fk_mapS, fk_mapN, reduceIte, Nat.reduceEqDiff, Nat.reduceAdd, f4, f5, f6, f7, f9, f10, f11]; with_reducible rfl)); all_goals (intro hbr; first | exact absurd hbr (by decide) | ((try rw [hbr]); (try simp at hbr))))
    | apply X.stepZ
    | (apply X.stepQ rfl; (focus (simp only [sub, subO, subL, subM, sub3, sub2, fk_some, fk_none, fk_arg0, fk_argS, fk_argN, fk_map0, fk_mapS, fk_mapN, reduceIte, Nat.reduceEqDiff, Nat.reduceAdd, f4, f5, f6, f7, f9, f10, f11]; with_reducible rfl)); (focus (simp [-getElem?_pos, ecl, hj1]; with_reducible (first | rfl | exact ⟨rfl, rfl⟩))))
    | (apply X.stepNQ rfl; (focus (simp only [sub, subO, subL, subM, sub3, sub2, fk_some, fk_none, fk_arg0, fk_argS, fk_argN, fk_map0, fk_mapS, fk_mapN, reduceIte, Nat.reduceEqDiff, Nat.reduceAdd, f4, f5, f6, f7, f9, f10, f11]; with_reducible rfl)))
    | ((first | apply X.stepGtQ rfl | apply X.stepGfQ rfl); (focus (simp only [sub, subO, subL, subM, sub3, sub2, fk_some, fk_none, fk_arg0, fk_argS, fk_argN, fk_map0, fk_mapS, fk_mapN, reduceIte, Nat.reduceEqDiff, Nat.reduceAdd, f4, f5, f6, f7, f9, f10, f11]; with_reducible rfl)); all_goals (intro hbr; first | exact absurd hbr (by decide) | ((try rw [hbr]); (try simp at hbr))))
    | (apply X.draw0; (focus rfl))
    | apply XD.nil
    | (apply XD.calmQ rfl rfl; (focus (simp only [sub, subO, subL, subM, sub3, sub2, fk_some, fk_none, fk_arg0, fk_argS, fk_argN, fk_map0, fk_mapS, fk_mapN, reduceIte, Nat.reduceEqDiff, Nat.reduceAdd, f4, f5, f6, f7, f9, f10, f11]; with_reducible rfl)); (focus (simp [-getElem?_pos, ecl, hj1]; with_reducible (first | rfl | exact ⟨rfl, rfl⟩))))
    | (apply XD.callQ rfl; (focus (simp only [sub, subO, subL, subM, sub3, sub2, fk_some, fk_none, fk_arg0, fk_argS, fk_argN, fk_map0, fk_mapS, fk_mapN, reduceIte, Nat.reduceEqDiff, Nat.reduceAdd, f4, f5, f6, f7, f9, f10, f11]; simp; with_reducible rfl)); (focus (simp; with_reducible rfl)); (focus (simp [-getElem?_pos, ecl, hj1]; done)); (focus (simp [-getElem?_pos, ecl, hj1]; with_reducible rfl)))
    | (apply XD.stepNQ rfl; (focus (simp only [sub, subO, subL, subM, sub3, sub2, fk_some, fk_none, fk_arg0, fk_argS, fk_argN, fk_map0, fk_mapS, fk_mapN, reduceIte, Nat.reduceEqDiff, Nat.reduceAdd, f4, f5, f6, f7, f9, f10, f11]; with_reducible rfl)))
    | ((first | apply XD.stepGtQ rfl | apply XD.stepGfQ rfl); (focus (simp only [sub, subO, subL, subM, sub3, sub2, fk_some, fk_none, fk_arg0, fk_argS, fk_argN, fk_map0, fk_mapS, fk_mapN, reduceIte, Nat.reduceEqDiff, Nat.reduceAdd, f4, f5, f6, f7, f9, f10, f11]; with_reducible rfl)); all_goals (intro hbr; first | exact absurd hbr (by decide) | ((try rw [hbr]); (try simp at hbr))))
    | (apply XD.loudQ rfl; (focus (simp only [sub, subO, subL, subM, sub3, sub2, fk_some, fk_none, fk_arg0, fk_argS, fk_argN, fk_map0, fk_mapS, fk_mapN, reduceIte, Nat.reduceEqDiff, Nat.reduceAdd, f4, f5, f6, f7, f9, f10, f11]; with_reducible rfl)); (focus (simp; with_reducible rfl)); (focus (simp [-getElem?_pos, ecl, hj1]; with_reducible (first | rfl | exact ⟨rfl, rfl⟩))); (focus (simp; done)); (focus (simp; with_reducible rfl))))
                  refine X.forS GD.length (fun k st => (∀ i y, i < k → GD[i]? = some y → ¬ x = y) ∧ ∃ f, (fk (Fk.mk (f := f)) 4 = .ptr 0 0 ∧ fk (Fk.mk (f := f)) 5 = .ptr 1 0 ∧ fk (Fk.mk (f := f)) 6 = .ptr 2 0 ∧ fk (Fk.mk (f := f)) 7 = .ptr 3 0 ∧ fk (Fk.mk (f := f)) 9 = .pv (.sl (encI GC)) ∧ fk (Fk.mk (f := f)) 10 = .pv (.sl (encI GD)) ∧ fk (Fk.mk (f := f)) 11 = .pv (.int .i64 j) ∧ fk (Fk.mk (f := f)) 12 = .pv (.int .i64 k)) ∧
                  st = ⟨TL 143 f, [.blk [.pv (.int .i64 c.k), .pv (.int .u64 c.s0), .pv (.int .u64 c.s1), .pv (.int .u64 c.s2), .pv (.int .u64 c.s3), .pv (.int .i64 c.n), .pv (.sl (c.l.map encC))] none,
                      .blk [.pv (.int .i64 d.k), .pv (.int .u64 d.s0), .pv (.int .u64 d.s1), .pv (.int .u64 d.s2), .pv (.int .u64 d.s3), .pv (.int .i64 d.n), .pv (.sl (d.l.map encC))] none,
                      .blk [.pv (.int .i64 v.k), .pv (.int .u8 v.b), .pv (.sl (v.l.map encV))] none, .blk [.pv (.int .i64 u.k), .pv (.int .u8 u.b), .pv (.sl (u.l.map encV))] none]⟩) ?_ ?_
                  · exact ⟨fun i x hi => absurd hi (by omega), _, by simp [f4, f5, f6, f7, f9, f10, f11], rfl⟩
                  rintro k st hk ⟨hno2, f', ⟨g4, g5, g6, g7, g9, g10, g11, g12⟩, rfl⟩
                  rcases Nat.lt_or_ge k GD.length with hk1 | hk1
                  · obtain ⟨y, hy⟩ := at_of_lt hk1
                    have hy2 : (encI GD)[k]? = some (.int .i64 y) := by simp [encI, hy]
                    have hwk : IntKind.i64.wrap ((k : Int) + 1) = (k : Int) + 1 := wrap_i64 (by omega)
                    cases hxy : (x == y) with
                    | true =>
                      (repeat' first
    | apply X.retS
    | apply X.skipS
    | apply X.skipB
    | apply X.skipL
    | (apply X.exitS; first | apply X.here | (refine X.out (by decide) ?_; apply X.here))
    | apply X.blockS
    | (apply X.condQ rfl; (focus (simp only [sub, subO, subL, subM, sub3, sub2, fk_some, fk_none, fk_arg0, fk_argS, fk_argN, fk_map0, fk_mapS, fk_mapN, reduceIte, Nat.reduceEqDiff, Nat.reduceAdd, g4, g5, g6, g7, g9, g10, g11, g12]; with_reducible rfl)); all_goals (intro hbr; first | exact absurd hbr (by decide) | ((try rw [hbr]); (try simp at hbr))))
    | apply X.stepZ
    | (apply X.stepQ rfl; (focus (simp only [sub, subO, subL, subM, sub3, sub2, fk_some, fk_none, fk_arg0, fk_argS, fk_argN, fk_map0, fk_mapS, fk_mapN, reduceIte, Nat.reduceEqDiff, Nat.reduceAdd, g4, g5, g6, g7, g9, g10, g11, g12]; with_reducible rfl)); (focus (simp [-getElem?_pos, edl, hk1, hx2, hy2, hxy]; with_reducible (first | rfl | exact ⟨rfl, rfl⟩))))
    | (apply X.stepNQ rfl; (focus (simp only [sub, subO, subL, subM, sub3, sub2, fk_some, fk_none, fk_arg0, fk_argS, fk_argN, fk_map0, fk_mapS, fk_mapN, reduceIte, Nat.reduceEqDiff, Nat.reduceAdd, g4, g5, g6, g7, g9, g10, g11, g12]; with_reducible rfl)))
    | ((first | apply X.stepGtQ rfl | apply X.stepGfQ rfl); (focus (simp only [sub, subO, subL, subM, sub3, sub2, fk_some, fk_none, fk_arg0, fk_argS, fk_argN, fk_map0, fk_mapS, fk_mapN, reduceIte, Nat.reduceEqDiff, Nat.reduceAdd, g4, g5, g6, g7, g9, g10, g11, g12]; with_reducible rfl)); all_goals (intro hbr; first | exact absurd hbr (by decide) | ((try rw [hbr]); (try simp at hbr))))
    | (apply X.draw0; (focus rfl))
    | apply XD.nil
    | (apply XD.calmQ rfl rfl; (focus (simp only [sub, subO, subL, subM, sub3, sub2, fk_some, fk_none, fk_arg0, fk_argS, fk_argN, fk_map0, fk_mapS, fk_mapN, reduceIte, Nat.reduceEqDiff, Nat.reduceAdd, g4, g5, g6, g7, g9, g10, g11, g12]; with_reducible rfl)); (focus (simp [-getElem?_pos, edl, hk1, hx2, hy2, hxy]; with_reducible (first | rfl | exact ⟨rfl, rfl⟩))))
    | (apply XD.callQ rfl; (focus (simp only [sub, subO, subL, subM, sub3, sub2, fk_some, fk_none, fk_arg0, fk_argS, fk_argN, fk_map0, fk_mapS, fk_mapN, reduceIte, Nat.reduceEqDiff, Nat.reduceAdd, g4, g5, g6, g7, g9, g10, g11, g12]; simp; with_reducible rfl)); (focus (simp; with_reducible rfl)); (focus (simp [-getElem?_pos, edl, hk1, hx2, hy2, hxy]; done)); (focus (simp [-getElem?_pos, edl, hk1, hx2, hy2, hxy]; with_reducible rfl)))
    | (apply XD.stepNQ rfl; (focus (simp only [sub, subO, subL, subM, sub3, sub2, fk_some, fk_none, fk_arg0, fk_argS, fk_argN, fk_map0, fk_mapS, fk_mapN, reduceIte, Nat.reduceEqDiff, Nat.reduceAdd, g4, g5, g6, g7, g9, g10, g11, g12]; with_reducible rfl)))
    | ((first | apply XD.stepGtQ rfl | apply XD.stepGfQ rfl); (focus (simp only [sub, subO, subL, subM, sub3, sub2, fk_some, fk_none, fk_arg0, fk_argS, fk_argN, fk_map0, fk_mapS, fk_mapN, reduceIte, Nat.reduceEqDiff, Nat.reduceAdd, g4, g5, g6, g7, g9, g10, g11, g12]; with_reducible rfl)); all_goals (intro hbr; first | exact absurd hbr (by decide) | ((try rw [hbr]); (try simp at hbr))))
    | (apply XD.loudQ rfl; (focus (simp only [sub, subO, subL, subM, sub3, sub2, fk_some, fk_none, fk_arg0, fk_argS, fk_argN, fk_map0, fk_mapS, fk_mapN, reduceIte, Nat.reduceEqDiff, Nat.reduceAdd, g4, g5, g6, g7, g9, g10, g11, g12]; with_reducible rfl)); (focus (simp; with_reducible rfl)); (focus (simp [-getElem?_pos, edl, hk1, hx2, hy2, hxy]; with_reducible (first | rfl | exact ⟨rfl, rfl⟩))); (focus (simp; done)); (focus (simp; with_reducible rfl))))
                      all_goals ((refine Fin.mkQ rfl (by simp only [resS, sub, subO, subL, subM, sub3, sub2, fk_some, fk_none, fk_arg0, fk_argS, fk_argN, fk_map0, fk_mapS, fk_mapN, reduceIte, Nat.reduceEqDiff, Nat.reduceAdd]; with_reducible rfl) (by simp [oneOf, pureRes, snapFuel, snapL]; with_reducible rfl) ?_); simp)
                    | false =>
                      have hxy' : ¬ x = y := by simpa using hxy
                      (repeat' first
    | apply X.retS
    | apply X.skipS
    | apply X.skipB
    | apply X.skipL
    | (apply X.exitS; first | apply X.here | (refine X.out (by decide) ?_; apply X.here))
    | apply X.blockS
    | (apply X.condQ rfl; (focus (simp only [sub, subO, subL, subM, sub3, sub2, fk_some, fk_none, fk_arg0, fk_argS, fk_argN, fk_map0, fk_mapS, fk_mapN, reduceIte, Nat.reduceEqDiff, Nat.reduceAdd, g4, g5, g6, g7, g9, g10, g11, g12]; with_reducible rfl)); all_goals (intro hbr; first | exact absurd hbr (by decide) | ((try rw [hbr]); (try simp at hbr))))
    | apply X.stepZ
    | (apply X.stepQ rfl; (focus (simp only [sub, subO, subL, subM, sub3, sub2, fk_some, fk_none, fk_arg0, fk_argS, fk_argN, fk_map0, fk_mapS, fk_mapN, reduceIte, Nat.reduceEqDiff, Nat.reduceAdd, g4, g5, g6, g7, g9, g10, g11, g12]; with_reducible rfl)); (focus (simp [-getElem?_pos, edl, hk1, hx2, hy2, hxy, hwk]; with_reducible (first | rfl | exact ⟨rfl, rfl⟩))))
    | (apply X.stepNQ rfl; (focus (simp only [sub, subO, subL, subM, sub3, sub2, fk_some, fk_none, fk_arg0, fk_argS, fk_argN, fk_map0, fk_mapS, fk_mapN, reduceIte, Nat.reduceEqDiff, Nat.reduceAdd, g4, g5, g6, g7, g9, g10, g11, g12]; with_reducible rfl)))
    | ((first | apply X.stepGtQ rfl | apply X.stepGfQ rfl); (focus (simp only [sub, subO, subL, subM, sub3, sub2, fk_some, fk_none, fk_arg0, fk_argS, fk_argN, fk_map0, fk_mapS, fk_mapN, reduceIte, Nat.reduceEqDiff, Nat.reduceAdd, g4, g5, g6, g7, g9, g10, g11, g12]; with_reducible rfl)); all_goals (intro hbr; first | exact absurd hbr (by decide) | ((try rw [hbr]); (try simp at hbr))))
    | (apply X.draw0; (focus rfl))
    | apply XD.nil
    | (apply XD.calmQ rfl rfl; (focus (simp only [sub, subO, subL, subM, sub3, sub2, fk_some, fk_none, fk_arg0, fk_argS, fk_argN, fk_map0, fk_mapS, fk_mapN, reduceIte, Nat.reduceEqDiff, Nat.reduceAdd, g4, g5, g6, g7, g9, g10, g11, g12]; with_reducible rfl)); (focus (simp [-getElem?_pos, edl, hk1, hx2, hy2, hxy, hwk]; with_reducible (first | rfl | exact ⟨rfl, rfl⟩))))
    | (apply XD.callQ rfl; (focus (simp only [sub, subO, subL, subM, sub3, sub2, fk_some, fk_none, fk_arg0, fk_argS, fk_argN, fk_map0, fk_mapS, fk_mapN, reduceIte, Nat.reduceEqDiff, Nat.reduceAdd, g4, g5, g6, g7, g9, g10, g11, g12]; simp; with_reducible rfl)); (focus (simp; with_reducible rfl)); (focus (simp [-getElem?_pos, edl, hk1, hx2, hy2, hxy, hwk]; done)); (focus (simp [-getElem?_pos, edl, hk1, hx2, hy2, hxy, hwk]; with_reducible rfl)))
    | (apply XD.stepNQ rfl; (focus (simp only [sub, subO, subL, subM, sub3, sub2, fk_some, fk_none, fk_arg0, fk_argS, fk_argN, fk_map0, fk_mapS, fk_mapN, reduceIte, Nat.reduceEqDiff, Nat.reduceAdd, g4, g5, g6, g7, g9, g10, g11, g12]; with_reducible rfl)))
    | ((first | apply XD.stepGtQ rfl | apply XD.stepGfQ rfl); (focus (simp only [sub, subO, subL, subM, sub3, sub2, fk_some, fk_none, fk_arg0, fk_argS, fk_argN, fk_map0, fk_mapS, fk_mapN, reduceIte, Nat.reduceEqDiff, Nat.reduceAdd, g4, g5, g6, g7, g9, g10, g11, g12]; with_reducible rfl)); all_goals (intro hbr; first | exact absurd hbr (by decide) | ((try rw [hbr]); (try simp at hbr))))
    | (apply XD.loudQ rfl; (focus (simp only [sub, subO, subL, subM, sub3, sub2, fk_some, fk_none, fk_arg0, fk_argS, fk_argN, fk_map0, fk_mapS, fk_mapN, reduceIte, Nat.reduceEqDiff, Nat.reduceAdd, g4, g5, g6, g7, g9, g10, g11, g12]; with_reducible rfl)); (focus (simp; with_reducible rfl)); (focus (simp [-getElem?_pos, edl, hk1, hx2, hy2, hxy, hwk]; with_reducible (first | rfl | exact ⟨rfl, rfl⟩))); (focus (simp; done)); (focus (simp; with_reducible rfl))))
                      refine ⟨hk1, fun i z hi hz => ?_, _, by simp [g4, g5, g6, g7, g9, g10, g11, g12], rfl⟩
                      rcases Nat.lt_or_ge i k with h | h
                      · exact hno2 i z h hz
                      · have : i = k := by omega
                        subst this
                        rw [hy] at hz; cases hz; exact hxy'
                  · have hk2 : ¬ k < GD.length := by omega
                    (repeat' first
    | apply X.retS
    | apply X.skipS
    | apply X.skipB
    | apply X.skipL
    | (apply X.exitS; first | apply X.here | (refine X.out (by decide) ?_; apply X.here))
    | apply X.blockS
    | (apply X.condQ rfl; (focus (simp only [sub, subO, subL, subM, sub3, sub2, fk_some, fk_none, fk_arg0, fk_argS, fk_argN, fk_map0, fk_mapS, fk_mapN, reduceIte, Nat.reduceEqDiff, Nat.reduceAdd, g4, g5, g6, g7, g9, g10, g11, g12]; with_reducible rfl)); all_goals (intro hbr; first | exact absurd hbr (by decide) | ((try rw [hbr]); (try simp at hbr))))
    | apply X.stepZ
    | (apply X.stepQ rfl; (focus (simp only [sub, subO, subL, subM, sub3, sub2, fk_some, fk_none, fk_arg0, fk_argS, fk_argN, fk_map0, fk_mapS, fk_mapN, reduceIte, Nat.reduceEqDiff, Nat.reduceAdd, g4, g5, g6, g7, g9, g10, g11, g12]; with_reducible rfl)); (focus (simp [-getElem?_pos, edl, hk2, hww]; with_reducible (first | rfl | exact ⟨rfl, rfl⟩))))
    | (apply X.stepNQ rfl; (focus (simp only [sub, subO, subL, subM, sub3, sub2, fk_some, fk_none, fk_arg0, fk_argS, fk_argN, fk_map0, fk_mapS, fk_mapN, reduceIte, Nat.reduceEqDiff, Nat.reduceAdd, g4, g5, g6, g7, g9, g10, g11, g12]; with_reducible rfl)))
    | ((first | apply X.stepGtQ rfl | apply X.stepGfQ rfl); (focus (simp only [sub, subO, subL, subM, sub3, sub2, fk_some, fk_none, fk_arg0, fk_argS, fk_argN, fk_map0, fk_mapS, fk_mapN, reduceIte, Nat.reduceEqDiff, Nat.reduceAdd, g4, g5, g6, g7, g9, g10, g11, g12]; with_reducible rfl)); all_goals (intro hbr; first | exact absurd hbr (by decide) | ((try rw [hbr]); (try simp at hbr))))
    | (apply X.draw0; (focus rfl))
    | apply XD.nil
    | (apply XD.calmQ rfl rfl; (focus (simp only [sub, subO, subL, subM, sub3, sub2, fk_some, fk_none, fk_arg0, fk_argS, fk_argN, fk_map0, fk_mapS, fk_mapN, reduceIte, Nat.reduceEqDiff, Nat.reduceAdd, g4, g5, g6, g7, g9, g10, g11, g12]; with_reducible rfl)); (focus (simp [-getElem?_pos, edl, hk2, hww]; with_reducible (first | rfl | exact ⟨rfl, rfl⟩))))
    | (apply XD.callQ rfl; (focus (simp only [sub, subO, subL, subM, sub3, sub2, fk_some, fk_none, fk_arg0, fk_argS, fk_argN, fk_map0, fk_mapS, fk_mapN, reduceIte, Nat.reduceEqDiff, Nat.reduceAdd, g4, g5, g6, g7, g9, g10, g11, g12]; simp; with_reducible rfl)); (focus (simp; with_reducible rfl)); (focus (simp [-getElem?_pos, edl, hk2, hww]; done)); (focus (simp [-getElem?_pos, edl, hk2, hww]; with_reducible rfl)))
    | (apply XD.stepNQ rfl; (focus (simp only [sub, subO, subL, subM, sub3, sub2, fk_some, fk_none, fk_arg0, fk_argS, fk_argN, fk_map0, fk_mapS, fk_mapN, reduceIte, Nat.reduceEqDiff, Nat.reduceAdd, g4, g5, g6, g7, g9, g10, g11, g12]; with_reducible rfl)))
    | ((first | apply XD.stepGtQ rfl | apply XD.stepGfQ rfl); (focus (simp only [sub, subO, subL, subM, sub3, sub2, fk_some, fk_none, fk_arg0, fk_argS, fk_argN, fk_map0, fk_mapS, fk_mapN, reduceIte, Nat.reduceEqDiff, Nat.reduceAdd, g4, g5, g6, g7, g9, g10, g11, g12]; with_reducible rfl)); all_goals (intro hbr; first | exact absurd hbr (by decide) | ((try rw [hbr]); (try simp at hbr))))
    | (apply XD.loudQ rfl; (focus (simp only [sub, subO, subL, subM, sub3, sub2, fk_some, fk_none, fk_arg0, fk_argS, fk_argN, fk_map0, fk_mapS, fk_mapN, reduceIte, Nat.reduceEqDiff, Nat.reduceAdd, g4, g5, g6, g7, g9, g10, g11, g12]; with_reducible rfl)); (focus (simp; with_reducible rfl)); (focus (simp [-getElem?_pos, edl, hk2, hww]; with_reducible (first | rfl | exact ⟨rfl, rfl⟩))); (focus (simp; done)); (focus (simp; with_reducible rfl))))
                    refine ⟨hj1, fun i z hi hz hm => ?_, _, by simp [g4, g5, g6, g7, g9, g10, g11, g12], rfl⟩
                    rcases Nat.lt_or_ge i j with h | h
                    · exact hno i z h hz hm
                    · have : i = j := by omega
                      subst this
                      rw [hx] at hz; cases hz
                      obtain ⟨i, hi, hz⟩ := List.mem_iff_getElem.1 hm
                      exact hno2 i x (by omega) (by rw [← hz]; exact List.getElem?_eq_getElem hi) rfl
                · have hj2 : ¬ j < GC.length := by omega
                  have hap : ∀ n, n ∈ gl c → n ∉ gl d := fun n h1 h2 => by
                    rw [← mgc] at h1
                    rw [← mgd] at h2
                    obtain ⟨i, hi, hz⟩ := List.mem_iff_getElem.1 h1
                    exact hno i n (by omega) (by rw [← hz]; exact List.getElem?_eq_getElem hi) h2
                  have rr := rr hap
                  clear hno
                  (repeat' first
    | apply X.retS
    | apply X.skipS
    | apply X.skipB
    | apply X.skipL
    | (apply X.exitS; first | apply X.here | (refine X.out (by decide) ?_; apply X.here))
    | apply X.blockS
    | (apply X.condQ rfl; (focus (simp only [sub, subO, subL, subM, sub3, sub2, fk_some, fk_none, fk_arg0, fk_argS, fk_argN, fk_map0, fk_mapS, fk_mapN, reduceIte, Nat.reduceEqDiff, Nat.reduceAdd, f4, f5, f6, f7, f9, f10, f11]; with_reducible rfl)); all_goals (intro hbr; first | exact absurd hbr (by decide) | ((try rw [hbr]); (try simp at hbr))))
    | apply X.stepZ
    | (apply X.stepQ rfl; (focus (simp only [sub, subO, subL, subM, sub3, sub2, fk_some, fk_none, fk_arg0, fk_argS, fk_argN, fk_map0, fk_mapS, fk_mapN, reduceIte, Nat.reduceEqDiff, Nat.reduceAdd, f4, f5, f6, f7, f9, f10, f11]; with_reducible rfl)); (focus (simp [-getElem?_pos, ecl, hj2, HH.o.of.raw, HH.f.Len.raw, HH.seq.raw, HH.row.raw, hsq, hrw, hln, e1', e2', e3', l1, l2, l3]; with_reducible (first | rfl | exact ⟨rfl, rfl⟩))))
    | (apply X.stepNQ rfl; (focus (simp only [sub, subO, subL, subM, sub3, sub2, fk_some, fk_none, fk_arg0, fk_argS, fk_argN, fk_map0, fk_mapS, fk_mapN, reduceIte, Nat.reduceEqDiff, Nat.reduceAdd, f4, f5, f6, f7, f9, f10, f11]; with_reducible rfl)))
    | ((first | apply X.stepGtQ rfl | apply X.stepGfQ rfl); (focus (simp only [sub, subO, subL, subM, sub3, sub2, fk_some, fk_none, fk_arg0, fk_argS, fk_argN, fk_map0, fk_mapS, fk_mapN, reduceIte, Nat.reduceEqDiff, Nat.reduceAdd, f4, f5, f6, f7, f9, f10, f11]; with_reducible rfl)); all_goals (intro hbr; first | exact absurd hbr (by decide) | ((try rw [hbr]); (try simp at hbr))))
    | (apply X.draw0; (focus rfl))
    | apply XD.nil
    | (apply XD.calmQ rfl rfl; (focus (simp only [sub, subO, subL, subM, sub3, sub2, fk_some, fk_none, fk_arg0, fk_argS, fk_argN, fk_map0, fk_mapS, fk_mapN, reduceIte, Nat.reduceEqDiff, Nat.reduceAdd, f4, f5, f6, f7, f9, f10, f11]; with_reducible rfl)); (focus (simp [-getElem?_pos, ecl, hj2, HH.o.of.raw, HH.f.Len.raw, HH.seq.raw, HH.row.raw, hsq, hrw, hln, e1', e2', e3', l1, l2, l3]; with_reducible (first | rfl | exact ⟨rfl, rfl⟩))))
    | (apply XD.callQ rfl; (focus (simp only [sub, subO, subL, subM, sub3, sub2, fk_some, fk_none, fk_arg0, fk_argS, fk_argN, fk_map0, fk_mapS, fk_mapN, reduceIte, Nat.reduceEqDiff, Nat.reduceAdd, f4, f5, f6, f7, f9, f10, f11]; simp; with_reducible rfl)); (focus (simp; with_reducible rfl)); (focus (simp [-getElem?_pos, ecl, hj2, HH.o.of.raw, HH.f.Len.raw, HH.seq.raw, HH.row.raw, hsq, hrw, hln, e1', e2', e3', l1, l2, l3]; done)); (focus (simp [-getElem?_pos, ecl, hj2, HH.o.of.raw, HH.f.Len.raw, HH.seq.raw, HH.row.raw, hsq, hrw, hln, e1', e2', e3', l1, l2, l3]; with_reducible rfl)))
    | (apply XD.stepNQ rfl; (focus (simp only [sub, subO, subL, subM, sub3, sub2, fk_some, fk_none, fk_arg0, fk_argS, fk_argN, fk_map0, fk_mapS, fk_mapN, reduceIte, Nat.reduceEqDiff, Nat.reduceAdd, f4, f5, f6, f7, f9, f10, f11]; with_reducible rfl)))
    | ((first | apply XD.stepGtQ rfl | apply XD.stepGfQ rfl); (focus (simp only [sub, subO, subL, subM, sub3, sub2, fk_some, fk_none, fk_arg0, fk_argS, fk_argN, fk_map0, fk_mapS, fk_mapN, reduceIte, Nat.reduceEqDiff, Nat.reduceAdd, f4, f5, f6, f7, f9, f10, f11]; with_reducible rfl)); all_goals (intro hbr; first | exact absurd hbr (by decide) | ((try rw [hbr]); (try simp at hbr))))
    | (apply XD.loudQ rfl; (focus (simp only [sub, subO, subL, subM, sub3, sub2, fk_some, fk_none, fk_arg0, fk_argS, fk_argN, fk_map0, fk_mapS, fk_mapN, reduceIte, Nat.reduceEqDiff, Nat.reduceAdd, f4, f5, f6, f7, f9, f10, f11]; with_reducible rfl)); (focus (simp; with_reducible rfl)); (focus (simp [-getElem?_pos, ecl, hj2, HH.o.of.raw, HH.f.Len.raw, HH.seq.raw, HH.row.raw, hsq, hrw, hln, e1', e2', e3', l1, l2, l3]; with_reducible (first | rfl | exact ⟨rfl, rfl⟩))); (focus (simp; done)); (focus (simp; with_reducible rfl))))
                  refine X.forS 33 (fun j st => ∃ hh f, (fk (Fk.mk (f := f)) 13 = .pv (.sl (A.map encP)) ∧ fk (Fk.mk (f := f)) 15 = .pv (.sl (B.map encP)) ∧ fk (Fk.mk (f := f)) 17 = .pv (.sl (C.map encP)) ∧ fk (Fk.mk (f := f)) 19 = .pv (.int .i64 ((j : Int) + 1))) ∧ st = ⟨TL 143 f, hh⟩) ?_ ?_
                  · exact ⟨_, _, by simp, rfl⟩
                  rintro j st hj ⟨hh, f', ⟨g13, g15, g17, g19⟩, rfl⟩
                  rcases Nat.lt_or_ge (j + 1) 33 with hj1 | hj1
                  · have hjb : (j : Int) + 1 < 33 := by omega
                    have hnn : (0 : Int) ≤ (j : Int) + 1 := by omega
                    have hnt : ((j : Int) + 1).toNat = j + 1 := by omega
                    have hww : IntKind.i64.wrap ((j : Int) + 1 + 1) = ((j + 1 : Nat) : Int) + 1 := by rw [wrap_i64 (by omega)]; omega
                    obtain ⟨p, q, hPp, hq, hpq⟩ := rr (j + 1) (by omega) hj1
                    obtain ⟨p1, p2⟩ := p
                    rcases hpq with ⟨hp0, hr⟩ | ⟨g1, hr⟩
                    · cases hp0
                      (repeat' first
    | apply X.retS
    | apply X.skipS
    | apply X.skipB
    | apply X.skipL
    | (apply X.exitS; first | apply X.here | (refine X.out (by decide) ?_; apply X.here))
    | apply X.blockS
    | (apply X.condQ rfl; (focus (simp only [sub, subO, subL, subM, sub3, sub2, fk_some, fk_none, fk_arg0, fk_argS, fk_argN, fk_map0, fk_mapS, fk_mapN, reduceIte, Nat.reduceEqDiff, Nat.reduceAdd, g13, g15, g17, g19]; with_reducible rfl)); all_goals (intro hbr; first | exact absurd hbr (by decide) | ((try rw [hbr]); (try simp at hbr))))
    | apply X.stepZ
    | (apply X.stepQ rfl; (focus (simp only [sub, subO, subL, subM, sub3, sub2, fk_some, fk_none, fk_arg0, fk_argS, fk_argN, fk_map0, fk_mapS, fk_mapN, reduceIte, Nat.reduceEqDiff, Nat.reduceAdd, g13, g15, g17, g19]; with_reducible rfl)); (focus (simp [-getElem?_pos, hj1, hjb, hnn, hnt, hww, hPp, hq, hr, eP']; with_reducible (first | rfl | exact ⟨rfl, rfl⟩))))
    | (apply X.stepNQ rfl; (focus (simp only [sub, subO, subL, subM, sub3, sub2, fk_some, fk_none, fk_arg0, fk_argS, fk_argN, fk_map0, fk_mapS, fk_mapN, reduceIte, Nat.reduceEqDiff, Nat.reduceAdd, g13, g15, g17, g19]; with_reducible rfl)))
    | ((first | apply X.stepGtQ rfl | apply X.stepGfQ rfl); (focus (simp only [sub, subO, subL, subM, sub3, sub2, fk_some, fk_none, fk_arg0, fk_argS, fk_argN, fk_map0, fk_mapS, fk_mapN, reduceIte, Nat.reduceEqDiff, Nat.reduceAdd, g13, g15, g17, g19]; with_reducible rfl)); all_goals (intro hbr; first | exact absurd hbr (by decide) | ((try rw [hbr]); (try simp at hbr))))
    | (apply X.draw0; (focus rfl))
    | apply XD.nil
    | (apply XD.calmQ rfl rfl; (focus (simp only [sub, subO, subL, subM, sub3, sub2, fk_some, fk_none, fk_arg0, fk_argS, fk_argN, fk_map0, fk_mapS, fk_mapN, reduceIte, Nat.reduceEqDiff, Nat.reduceAdd, g13, g15, g17, g19]; with_reducible rfl)); (focus (simp [-getElem?_pos, hj1, hjb, hnn, hnt, hww, hPp, hq, hr, eP']; with_reducible (first | rfl | exact ⟨rfl, rfl⟩))))
    | (apply XD.callQ rfl; (focus (simp only [sub, subO, subL, subM, sub3, sub2, fk_some, fk_none, fk_arg0, fk_argS, fk_argN, fk_map0, fk_mapS, fk_mapN, reduceIte, Nat.reduceEqDiff, Nat.reduceAdd, g13, g15, g17, g19]; simp; with_reducible rfl)); (focus (simp; with_reducible rfl)); (focus (simp [-getElem?_pos, hj1, hjb, hnn, hnt, hww, hPp, hq, hr, eP']; done)); (focus (simp [-getElem?_pos, hj1, hjb, hnn, hnt, hww, hPp, hq, hr, eP']; with_reducible rfl)))
    | (apply XD.stepNQ rfl; (focus (simp only [sub, subO, subL, subM, sub3, sub2, fk_some, fk_none, fk_arg0, fk_argS, fk_argN, fk_map0, fk_mapS, fk_mapN, reduceIte, Nat.reduceEqDiff, Nat.reduceAdd, g13, g15, g17, g19]; with_reducible rfl)))
    | ((first | apply XD.stepGtQ rfl | apply XD.stepGfQ rfl); (focus (simp only [sub, subO, subL, subM, sub3, sub2, fk_some, fk_none, fk_arg0, fk_argS, fk_argN, fk_map0, fk_mapS, fk_mapN, reduceIte, Nat.reduceEqDiff, Nat.reduceAdd, g13, g15, g17, g19]; with_reducible rfl)); all_goals (intro hbr; first | exact absurd hbr (by decide) | ((try rw [hbr]); (try simp at hbr))))
    | (apply XD.loudQ rfl; (focus (simp only [sub, subO, subL, subM, sub3, sub2, fk_some, fk_none, fk_arg0, fk_argS, fk_argN, fk_map0, fk_mapS, fk_mapN, reduceIte, Nat.reduceEqDiff, Nat.reduceAdd, g13, g15, g17, g19]; with_reducible rfl)); (focus (simp; with_reducible rfl)); (focus (simp [-getElem?_pos, hj1, hjb, hnn, hnt, hww, hPp, hq, hr, eP']; with_reducible (first | rfl | exact ⟨rfl, rfl⟩))); (focus (simp; done)); (focus (simp; with_reducible rfl))))
                      all_goals exact ⟨by omega, _, _, by simp [g13, g15, g17, g19], rfl⟩
                    · simp only at g1
                      have g0 : ¬ p1 = -1 := by omega
                      have g0' : (p1 == -1) = false := by simpa using g0
                      (repeat' first
    | apply X.retS
    | apply X.skipS
    | apply X.skipB
    | apply X.skipL
    | (apply X.exitS; first | apply X.here | (refine X.out (by decide) ?_; apply X.here))
    | apply X.blockS
    | (apply X.condQ rfl; (focus (simp only [sub, subO, subL, subM, sub3, sub2, fk_some, fk_none, fk_arg0, fk_argS, fk_argN, fk_map0, fk_mapS, fk_mapN, reduceIte, Nat.reduceEqDiff, Nat.reduceAdd, g13, g15, g17, g19]; with_reducible rfl)); all_goals (intro hbr; first | exact absurd hbr (by decide) | ((try rw [hbr]); (try simp at hbr))))
    | apply X.stepZ
    | (apply X.stepQ rfl; (focus (simp only [sub, subO, subL, subM, sub3, sub2, fk_some, fk_none, fk_arg0, fk_argS, fk_argN, fk_map0, fk_mapS, fk_mapN, reduceIte, Nat.reduceEqDiff, Nat.reduceAdd, g13, g15, g17, g19]; with_reducible rfl)); (focus (simp [-getElem?_pos, hj1, hjb, hnn, hnt, hww, hPp, hq, hr, eP', g0, g0']; with_reducible (first | rfl | exact ⟨rfl, rfl⟩))))
    | (apply X.stepNQ rfl; (focus (simp only [sub, subO, subL, subM, sub3, sub2, fk_some, fk_none, fk_arg0, fk_argS, fk_argN, fk_map0, fk_mapS, fk_mapN, reduceIte, Nat.reduceEqDiff, Nat.reduceAdd, g13, g15, g17, g19]; with_reducible rfl)))
    | ((first | apply X.stepGtQ rfl | apply X.stepGfQ rfl); (focus (simp only [sub, subO, subL, subM, sub3, sub2, fk_some, fk_none, fk_arg0, fk_argS, fk_argN, fk_map0, fk_mapS, fk_mapN, reduceIte, Nat.reduceEqDiff, Nat.reduceAdd, g13, g15, g17, g19]; with_reducible rfl)); all_goals (intro hbr; first | exact absurd hbr (by decide) | ((try rw [hbr]); (try simp at hbr))))
    | (apply X.draw0; (focus rfl))
    | apply XD.nil
    | (apply XD.calmQ rfl rfl; (focus (simp only [sub, subO, subL, subM, sub3, sub2, fk_some, fk_none, fk_arg0, fk_argS, fk_argN, fk_map0, fk_mapS, fk_mapN, reduceIte, Nat.reduceEqDiff, Nat.reduceAdd, g13, g15, g17, g19]; with_reducible rfl)); (focus (simp [-getElem?_pos, hj1, hjb, hnn, hnt, hww, hPp, hq, hr, eP', g0, g0']; with_reducible (first | rfl | exact ⟨rfl, rfl⟩))))
    | (apply XD.callQ rfl; (focus (simp only [sub, subO, subL, subM, sub3, sub2, fk_some, fk_none, fk_arg0, fk_argS, fk_argN, fk_map0, fk_mapS, fk_mapN, reduceIte, Nat.reduceEqDiff, Nat.reduceAdd, g13, g15, g17, g19]; simp; with_reducible rfl)); (focus (simp; with_reducible rfl)); (focus (simp [-getElem?_pos, hj1, hjb, hnn, hnt, hww, hPp, hq, hr, eP', g0, g0']; done)); (focus (simp [-getElem?_pos, hj1, hjb, hnn, hnt, hww, hPp, hq, hr, eP', g0, g0']; with_reducible rfl)))
    | (apply XD.stepNQ rfl; (focus (simp only [sub, subO, subL, subM, sub3, sub2, fk_some, fk_none, fk_arg0, fk_argS, fk_argN, fk_map0, fk_mapS, fk_mapN, reduceIte, Nat.reduceEqDiff, Nat.reduceAdd, g13, g15, g17, g19]; with_reducible rfl)))
    | ((first | apply XD.stepGtQ rfl | apply XD.stepGfQ rfl); (focus (simp only [sub, subO, subL, subM, sub3, sub2, fk_some, fk_none, fk_arg0, fk_argS, fk_argN, fk_map0, fk_mapS, fk_mapN, reduceIte, Nat.reduceEqDiff, Nat.reduceAdd, g13, g15, g17, g19]; with_reducible rfl)); all_goals (intro hbr; first | exact absurd hbr (by decide) | ((try rw [hbr]); (try simp at hbr))))
    | (apply XD.loudQ rfl; (focus (simp only [sub, subO, subL, subM, sub3, sub2, fk_some, fk_none, fk_arg0, fk_argS, fk_argN, fk_map0, fk_mapS, fk_mapN, reduceIte, Nat.reduceEqDiff, Nat.reduceAdd, g13, g15, g17, g19]; with_reducible rfl)); (focus (simp; with_reducible rfl)); (focus (simp [-getElem?_pos, hj1, hjb, hnn, hnt, hww, hPp, hq, hr, eP', g0, g0']; with_reducible (first | rfl | exact ⟨rfl, rfl⟩))); (focus (simp; done)); (focus (simp; with_reducible rfl))))
                      all_goals exact ⟨by omega, _, _, by simp [g13, g15, g17, g19], rfl⟩
                  · have hjb : ¬ (j : Int) + 1 < 33 := by omega
                    (repeat' first
    | apply X.retS
    | apply X.skipS
    | apply X.skipB
    | apply X.skipL
    | (apply X.exitS; first | apply X.here | (refine X.out (by decide) ?_; apply X.here))
    | apply X.blockS
    | (apply X.condQ rfl; (focus (simp only [sub, subO, subL, subM, sub3, sub2, fk_some, fk_none, fk_arg0, fk_argS, fk_argN, fk_map0, fk_mapS, fk_mapN, reduceIte, Nat.reduceEqDiff, Nat.reduceAdd, g13, g15, g17, g19]; with_reducible rfl)); all_goals (intro hbr; first | exact absurd hbr (by decide) | ((try rw [hbr]); (try simp at hbr))))
    | apply X.stepZ
    | (apply X.stepQ rfl; (focus (simp only [sub, subO, subL, subM, sub3, sub2, fk_some, fk_none, fk_arg0, fk_argS, fk_argN, fk_map0, fk_mapS, fk_mapN, reduceIte, Nat.reduceEqDiff, Nat.reduceAdd, g13, g15, g17, g19]; with_reducible rfl)); (focus (simp [-getElem?_pos, hjb]; with_reducible (first | rfl | exact ⟨rfl, rfl⟩))))
    | (apply X.stepNQ rfl; (focus (simp only [sub, subO, subL, subM, sub3, sub2, fk_some, fk_none, fk_arg0, fk_argS, fk_argN, fk_map0, fk_mapS, fk_mapN, reduceIte, Nat.reduceEqDiff, Nat.reduceAdd, g13, g15, g17, g19]; with_reducible rfl)))
    | ((first | apply X.stepGtQ rfl | apply X.stepGfQ rfl); (focus (simp only [sub, subO, subL, subM, sub3, sub2, fk_some, fk_none, fk_arg0, fk_argS, fk_argN, fk_map0, fk_mapS, fk_mapN, reduceIte, Nat.reduceEqDiff, Nat.reduceAdd, g13, g15, g17, g19]; with_reducible rfl)); all_goals (intro hbr; first | exact absurd hbr (by decide) | ((try rw [hbr]); (try simp at hbr))))
    | (apply X.draw0; (focus rfl))
    | apply XD.nil
    | (apply XD.calmQ rfl rfl; (focus (simp only [sub, subO, subL, subM, sub3, sub2, fk_some, fk_none, fk_arg0, fk_argS, fk_argN, fk_map0, fk_mapS, fk_mapN, reduceIte, Nat.reduceEqDiff, Nat.reduceAdd, g13, g15, g17, g19]; with_reducible rfl)); (focus (simp [-getElem?_pos, hjb]; with_reducible (first | rfl | exact ⟨rfl, rfl⟩))))
    | (apply XD.callQ rfl; (focus (simp only [sub, subO, subL, subM, sub3, sub2, fk_some, fk_none, fk_arg0, fk_argS, fk_argN, fk_map0, fk_mapS, fk_mapN, reduceIte, Nat.reduceEqDiff, Nat.reduceAdd, g13, g15, g17, g19]; simp; with_reducible rfl)); (focus (simp; with_reducible rfl)); (focus (simp [-getElem?_pos, hjb]; done)); (focus (simp [-getElem?_pos, hjb]; with_reducible rfl)))
    | (apply XD.stepNQ rfl; (focus (simp only [sub, subO, subL, subM, sub3, sub2, fk_some, fk_none, fk_arg0, fk_argS, fk_argN, fk_map0, fk_mapS, fk_mapN, reduceIte, Nat.reduceEqDiff, Nat.reduceAdd, g13, g15, g17, g19]; with_reducible rfl)))
    | ((first | apply XD.stepGtQ rfl | apply XD.stepGfQ rfl); (focus (simp only [sub, subO, subL, subM, sub3, sub2, fk_some, fk_none, fk_arg0, fk_argS, fk_argN, fk_map0, fk_mapS, fk_mapN, reduceIte, Nat.reduceEqDiff, Nat.reduceAdd, g13, g15, g17, g19]; with_reducible rfl)); all_goals (intro hbr; first | exact absurd hbr (by decide) | ((try rw [hbr]); (try simp at hbr))))
    | (apply XD.loudQ rfl; (focus (simp only [sub, subO, subL, subM, sub3, sub2, fk_some, fk_none, fk_arg0, fk_argS, fk_argN, fk_map0, fk_mapS, fk_mapN, reduceIte, Nat.reduceEqDiff, Nat.reduceAdd, g13, g15, g17, g19]; with_reducible rfl)); (focus (simp; with_reducible rfl)); (focus (simp [-getElem?_pos, hjb]; with_reducible (first | rfl | exact ⟨rfl, rfl⟩))); (focus (simp; done)); (focus (simp; with_reducible rfl))))
                    all_goals ((refine Fin.mkQ rfl (by simp only [resS, sub, subO, subL, subM, sub3, sub2, fk_some, fk_none, fk_arg0, fk_argS, fk_argN, fk_map0, fk_mapS, fk_mapN, reduceIte, Nat.reduceEqDiff, Nat.reduceAdd]; with_reducible rfl) (by simp [oneOf, pureRes, snapFuel, snapL]; with_reducible rfl) ?_); simp)
end Cps
