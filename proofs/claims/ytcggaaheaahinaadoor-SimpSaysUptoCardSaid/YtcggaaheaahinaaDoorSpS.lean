/- SpS: steps, walks, laws: see the remarks within. -/
import Derived.Test.YtcggaaheaahinaaDoorSpT
set_option linter.unusedSimpArgs false
set_option linter.unusedVariables false

set_option linter.unusedVariables false
namespace Pl
open Go Ab Go.Proofs.YtcggaaheaahinaaDoor.Mach
noncomputable def B6_L0 (F6 : Cd → Int → Option Bool) (x0 : Cd) (left1 : Int) (i5 : Int) : Option (Lp Int Unit Bool) :=
  bif (decide (i5 < (x0.l.length : Int))) then
    ((idx x0.l i5).bind fun y11 =>
     (F6 y11 (IntKind.i64.wrap (left1 - (1 : Int)))).bind fun y12 =>
     bif y12 then
       (some (.ret (true)))
     else
       (some (.next (IntKind.i64.wrap (i5 + (1 : Int))))))
  else
    (some (.brk ()))
noncomputable def B6_K0 : Option Bool :=
  some false
abbrev R6_0 (x0 : Cd) (left1 : Int) (id1 : Nat) : Int → St → Prop := fun s st => ∃ (g : Nat → V) (h : Heap), Own h ([.blk id1 [.pv (.int .i64 x0.kind), .pv (.str x0.bits), .pv (.int .u64 x0.set.a), .pv (.int .u64 x0.set.b), .pv (.int .u64 x0.set.c), .pv (.int .u64 x0.set.d), .pv (.sl (List.map tCd.enc x0.l))]]) ∧ st = ⟨TL 35 (upds g [(1, .pv (.int .i64 left1)), (2, .ptr id1 0), (5, .pv (.int .i64 s))]), h⟩
abbrev A6_0 : Unit → St → Prop := fun s st => ∃ (g : Nat → V) (h : Heap), Own h ([]) ∧ st = ⟨TL 35 (upds g []), h⟩
noncomputable def B6 (F6 : Cd → Int → Option Bool) (x0 : Cd) (left1 : Int) : Option Bool :=
  bif ((decide (left1 < (1 : Int))) || ((decide ((x0.l.length : Int) > (20 : Int))) || (decide ((x0.bits.length : Int) > (60 : Int))))) then
    (some true)
  else
    (loopK (fun (s : Int) => B6_L0 F6 x0 left1 s) (0 : Int) (fun (t : Unit) => B6_K0))
set_option maxRecDepth 100000 in
set_option maxHeartbeats 4000000 in
theorem B6_ok {E : Env} (F6 : Cd → Int → Option Bool) (hF6 : ∀ (r : Bool) (a0 : Cd) (a1 : Int), F6 a0 a1 = some r → limP E 6 [.agg (Cd.cells a0), .int .i64 a1] = some [.bool r]) (rF6 : E.raw 6 = false) (H : Has E 6 c6)  (x0 : Cd) (left1 : Int) (r : Bool) (hB : B6 F6 x0 left1 = some r) : limP E 6 [.agg (Cd.cells x0), .int .i64 left1] = some [.bool r] := by
  have hO : Own [] [] := Own.nil
  refine Has.startD H rfl ?_; unfold B6 at hB
  refine X.box ([.pv (.int .i64 x0.kind), .pv (.str x0.bits), .pv (.int .u64 x0.set.a), .pv (.int .u64 x0.set.b), .pv (.int .u64 x0.set.c), .pv (.int .u64 x0.set.d), .pv (.sl (List.map tCd.enc x0.l))]) hO rfl rfl rfl rfl ?_
  clear hO; intro id1 h hO
  refine X.pure (.pv (.bool false)) rfl rfl ?_
  refine X.stepZ ?_
  refine X.goMid (fun st => ∃ (g : Nat → V) (h : Heap), Own h ([.blk id1 [.pv (.int .i64 x0.kind), .pv (.str x0.bits), .pv (.int .u64 x0.set.a), .pv (.int .u64 x0.set.b), .pv (.int .u64 x0.set.c), .pv (.int .u64 x0.set.d), .pv (.sl (List.map tCd.enc x0.l))]]) ∧ st = ⟨TL 35 (upds g [(1, .pv (.int .i64 left1)), (2, .ptr id1 0), (19, .pv (.bool ((decide (left1 < (1 : Int))) || ((decide ((x0.l.length : Int) > (20 : Int))) || (decide ((x0.bits.length : Int) > (60 : Int)))))))]), h⟩) ?_ ?_
  · refine X.pure (.pv (.int .i64 left1)) rfl rfl ?_
    refine X.pure (.pv (.bool (decide (left1 < (1 : Int))))) rfl rfl ?_
    refine X.pure (.pv (.bool (decide (left1 < (1 : Int))))) rfl rfl ?_
    revert hO
    generalize (decide (left1 < (1 : Int))) = c2
    cases c2 with
    | true =>
      intro hO
      refine X.no rfl rfl ?_
      refine X.no rfl rfl ?_
      refine X.no rfl rfl ?_
      refine X.no rfl rfl ?_
      refine X.pure (.pv (.bool true)) rfl rfl ?_
      refine X.pure (.pv (.bool true)) rfl rfl ?_
      refine X.no rfl rfl ?_
      refine X.no rfl rfl ?_
      refine X.no rfl rfl ?_
      refine X.no rfl rfl ?_
      refine X.pure (.pv (.bool true)) rfl rfl ?_
      refine X.stepZ ?_
      exact X.skipL ⟨_, _, hO, st_keep _ ⟨rfl, rfl, rfl, trivial⟩⟩
    | false =>
      intro hO
      refine X.yes rfl rfl ?_
      refine X.pure (.ptr id1 6) rfl rfl ?_
      refine X.yes rfl rfl ?_
      refine X.load 0 (.pv (.sl (List.map tCd.enc x0.l))) hO rfl rfl rfl rfl ?_
      refine X.yes rfl rfl ?_
      refine X.len (l := x0.l) (g := tCd.enc) rfl rfl SlP.pv ?_
      refine X.yes rfl rfl ?_
      refine X.pure (.pv (.bool (decide ((x0.l.length : Int) > (20 : Int))))) rfl rfl ?_
      refine X.pure (.pv (.bool (decide ((x0.l.length : Int) > (20 : Int))))) rfl rfl ?_
      refine X.pure (.pv (.bool (decide ((x0.l.length : Int) > (20 : Int))))) rfl rfl ?_
      revert hO
      generalize (decide ((x0.l.length : Int) > (20 : Int))) = c3
      cases c3 with
      | true =>
        intro hO
        refine X.no rfl rfl ?_
        refine X.no rfl rfl ?_
        refine X.no rfl rfl ?_
        refine X.no rfl rfl ?_
        refine X.pure (.pv (.bool true)) rfl rfl ?_
        refine X.stepZ ?_
        exact X.skipL ⟨_, _, hO, st_keep _ ⟨rfl, rfl, rfl, trivial⟩⟩
      | false =>
        intro hO
        refine X.yes rfl rfl ?_
        refine X.pure (.ptr id1 1) rfl rfl ?_
        refine X.yes rfl rfl ?_
        refine X.load 0 (.pv (.str x0.bits)) hO rfl rfl rfl rfl ?_
        refine X.yes rfl rfl ?_
        refine X.pure (.pv (.int .i64 (x0.bits.length : Int))) rfl rfl ?_
        refine X.yes rfl rfl ?_
        refine X.pure (.pv (.bool (decide ((x0.bits.length : Int) > (60 : Int))))) rfl rfl ?_
        refine X.pure (.pv (.bool (decide ((x0.bits.length : Int) > (60 : Int))))) rfl rfl ?_
        refine X.stepZ ?_
        exact X.skipL ⟨_, _, hO, st_keep _ ⟨rfl, rfl, rfl, trivial⟩⟩
  · rintro st ⟨g, h, hO, rfl⟩
    revert hB
    revert hO
    generalize ((decide (left1 < (1 : Int))) || ((decide ((x0.l.length : Int) > (20 : Int))) || (decide ((x0.bits.length : Int) > (60 : Int))))) = c4
    cases c4 with
    | true =>
      intro hO hB
      replace hB := bT hB
      refine X.condT rfl rfl ?_
      refine X.pure (.pv (.bool true)) rfl rfl ?_
      refine X.stepZ ?_
      obtain rfl := Option.some.inj hB
      exact X.retS (Fin.leaf (us := [.pv (.bool true)]) rfl rfl (pureRes_one Wk.pv (by intro vs h; cases h)))
    | false =>
      intro hO hB
      replace hB := bF hB
      refine X.condF rfl rfl ?_
      refine X.skipS ?_
      refine X.pure (.pv (.int .i64 (0 : Int))) rfl rfl ?_
      refine X.stepZ ?_
      refine X.loopQ (s0 := (0 : Int)) (R6_0 x0 left1 id1) (A6_0) hB ?_ ?_ ?_
      · exact ⟨_, _, hO, st_keep _ ⟨rfl, rfl, rfl, trivial⟩⟩
      · rintro i5 st o ⟨g, h, hO, rfl⟩ hB
        replace hB : B6_L0 F6 x0 left1 i5 = some o := hB
        unfold B6_L0 at hB
        replace hO : Own h ([.blk id1 [.pv (.int .i64 x0.kind), .pv (.str x0.bits), .pv (.int .u64 x0.set.a), .pv (.int .u64 x0.set.b), .pv (.int .u64 x0.set.c), .pv (.int .u64 x0.set.d), .pv (.sl (List.map tCd.enc x0.l))]]) := hO
        refine X.pure (.pv (.int .i64 i5)) rfl rfl ?_
        refine X.pure (.ptr id1 6) rfl rfl ?_
        refine X.load 0 (.pv (.sl (List.map tCd.enc x0.l))) hO rfl rfl rfl rfl ?_
        refine X.len (l := x0.l) (g := tCd.enc) rfl rfl SlP.pv ?_
        refine X.pure (.pv (.bool (decide (i5 < (x0.l.length : Int))))) rfl rfl ?_
        refine X.stepZ ?_
        revert hB
        revert hO
        generalize (decide (i5 < (x0.l.length : Int))) = c10
        cases c10 with
        | true =>
          intro hO hB
          replace hB := bT hB
          refine X.condT rfl rfl ?_
          refine X.skipS ?_
          refine X.blockS ?_
          refine X.pure (.ptr id1 6) rfl rfl ?_
          refine X.load 0 (.pv (.sl (List.map tCd.enc x0.l))) hO rfl rfl rfl rfl ?_
          refine X.pure (.pv (.int .i64 i5)) rfl rfl ?_
          replace hB := bS hB; obtain ⟨y11, hy11, hB⟩ := hB
          refine X.at tCd hy11 rfl rfl SlP.pv rfl rfl ?_
          refine X.pure (.pv (.agg (Cd.cells y11))) rfl rfl ?_
          refine X.pure (.pv (.int .i64 left1)) rfl rfl ?_
          refine X.pure (.pv (.int .i64 (IntKind.i64.wrap (left1 - (1 : Int))))) rfl rfl ?_
          replace hB := bS hB; obtain ⟨y12, hy12, hB⟩ := hB
          refine X.callW [.pv (.agg (Cd.cells y11)), .pv (.int .i64 (IntKind.i64.wrap (left1 - (1 : Int))))] [.agg (Cd.cells y11), .int .i64 (IntKind.i64.wrap (left1 - (1 : Int)))] _ (hF6 _ _ _ hy12) rF6 rfl rfl ⟨Wk.pv, Wk.pv, trivial⟩ ?_
          refine X.stepZ ?_
          revert hB
          revert hO
          generalize y12 = c13
          cases c13 with
          | true =>
            intro hO hB
            replace hB := bT hB
            refine X.condT rfl rfl ?_
            refine X.pure (.pv (.bool true)) rfl rfl ?_
            refine X.stepZ ?_
            obtain rfl := Option.some.inj hB
            refine X.retS ?_
            intro e; subst e
            exact Fin.leaf (us := [.pv (.bool true)]) rfl rfl (pureRes_one Wk.pv (by intro vs h; cases h))
          | false =>
            intro hO hB
            replace hB := bF hB
            refine X.condF rfl rfl ?_
            refine X.skipS ?_
            refine X.skipB ?_
            refine X.pure (.pv (.int .i64 i5)) rfl rfl ?_
            refine X.pure (.pv (.int .i64 (IntKind.i64.wrap (i5 + (1 : Int))))) rfl rfl ?_
            refine X.pure (.pv (.int .i64 (IntKind.i64.wrap (i5 + (1 : Int))))) rfl rfl ?_
            refine X.stepZ ?_
            obtain rfl := Option.some.inj hB
            exact X.nextL ⟨_, _, hO, st_keep _ ⟨rfl, rfl, rfl, trivial⟩⟩
        | false =>
          intro hO hB
          replace hB := bF hB
          refine X.condF rfl rfl ?_
          refine X.exitS ?_
          obtain rfl := Option.some.inj hB
          exact LP.brk' ⟨_, _, (hO.sub (.cons _ .slnil)), st_keep _ trivial⟩
      · rintro _ st ⟨g, h, hO, rfl⟩ hB
        replace hB : B6_K0 = some _ := hB
        unfold B6_K0 at hB
        replace hO : Own h ([]) := hO
        refine X.pure (.pv (.bool false)) rfl rfl ?_
        refine X.stepZ ?_
        obtain rfl := Option.some.inj hB
        exact X.retS (Fin.leaf (us := [.pv (.bool false)]) rfl rfl (pureRes_one Wk.pv (by intro vs h; cases h)))
noncomputable def B7 (F28 : Cd → Option Int) (F29 : Cd → Int → Option Bool) (x0 : Cd) : Option Bool :=
  ((F28 x0).bind fun y3 =>
  bif (decide (y3 ≤ (20000 : Int))) then
    ((F29 x0 (8000 : Int)).bind fun y5 =>
     some y5)
  else
    (some false)).bind fun c2 =>
  some c2
set_option maxRecDepth 100000 in
set_option maxHeartbeats 4000000 in
theorem B7_ok {E : Env} (F28 : Cd → Option Int) (F29 : Cd → Int → Option Bool) (hF28 : ∀ (r : Int) (a0 : Cd), F28 a0 = some r → limP E 28 [.agg (Cd.cells a0)] = some [.int .i64 r]) (rF28 : E.raw 28 = false) (hF29 : ∀ (r : Bool) (a0 : Cd) (a1 : Int), F29 a0 a1 = some r → limP E 29 [.agg (Cd.cells a0), .int .i64 a1] = some [.bool r]) (rF29 : E.raw 29 = false) (H : Has E 7 c7)  (x0 : Cd) (r : Bool) (hB : B7 F28 F29 x0 = some r) : limP E 7 [.agg (Cd.cells x0)] = some [.bool r] := by
  have hO : Own [] [] := Own.nil
  refine Has.startD H rfl ?_; unfold B7 at hB
  refine X.box ([.pv (.int .i64 x0.kind), .pv (.str x0.bits), .pv (.int .u64 x0.set.a), .pv (.int .u64 x0.set.b), .pv (.int .u64 x0.set.c), .pv (.int .u64 x0.set.d), .pv (.sl (List.map tCd.enc x0.l))]) hO rfl rfl rfl rfl ?_
  clear hO; intro id1 h hO
  refine X.pure (.pv (.bool false)) rfl rfl ?_
  refine X.stepZ ?_
  replace hB := bS hB; obtain ⟨c2, hmid, hB⟩ := hB
  refine X.goMid (fun st => ∃ (g : Nat → V) (h : Heap), Own h ([]) ∧ st = ⟨TL 10 (upds g [(2, .pv (.bool c2))]), h⟩) ?_ ?_
  · replace hB := hmid
    refine X.load 0 (.pv (.agg (Cd.cells x0))) hO rfl rfl rfl rfl ?_
    replace hB := bS hB; obtain ⟨y3, hy3, hB⟩ := hB
    refine X.callW [.pv (.agg (Cd.cells x0))] [.agg (Cd.cells x0)] _ (hF28 _ _ hy3) rF28 rfl rfl ⟨Wk.pv, trivial⟩ ?_
    refine X.pure (.pv (.bool (decide (y3 ≤ (20000 : Int))))) rfl rfl ?_
    refine X.pure (.pv (.bool (decide (y3 ≤ (20000 : Int))))) rfl rfl ?_
    revert hB
    revert hO
    generalize (decide (y3 ≤ (20000 : Int))) = c4
    cases c4 with
    | true =>
      intro hO hB
      replace hB := bT hB
      refine X.yes rfl rfl ?_
      refine X.load 0 (.pv (.agg (Cd.cells x0))) hO rfl rfl rfl rfl ?_
      refine X.yes rfl rfl ?_
      replace hB := bS hB; obtain ⟨y5, hy5, hB⟩ := hB
      refine X.callW [.pv (.agg (Cd.cells x0)), .pv (.int .i64 (8000 : Int))] [.agg (Cd.cells x0), .int .i64 (8000 : Int)] _ (hF29 _ _ _ hy5) rF29 rfl rfl ⟨Wk.pv, Wk.pv, trivial⟩ ?_
      refine X.pure (.pv (.bool y5)) rfl rfl ?_
      refine X.pure (.pv (.bool y5)) rfl rfl ?_
      refine X.stepZ ?_
      obtain rfl := Option.some.inj hB
      exact X.skipL ⟨_, _, (hO.sub (.cons _ .slnil)), st_keep _ ⟨rfl, trivial⟩⟩
    | false =>
      intro hO hB
      replace hB := bF hB
      refine X.no rfl rfl ?_
      refine X.no rfl rfl ?_
      refine X.pure (.pv (.bool false)) rfl rfl ?_
      refine X.pure (.pv (.bool false)) rfl rfl ?_
      refine X.stepZ ?_
      obtain rfl := Option.some.inj hB
      exact X.skipL ⟨_, _, (hO.sub (.cons _ .slnil)), st_keep _ ⟨rfl, trivial⟩⟩
  · rintro st ⟨g, h, hO, rfl⟩
    obtain rfl := Option.some.inj hB
    exact X.retS (Fin.leaf (us := [.pv (.bool c2)]) rfl rfl (pureRes_one Wk.pv (by intro vs h; cases h)))
noncomputable def B8_L0 (F8 : Cd → Option Rc) (x0 : Cd) (i5 : Int) (w6 : (List Rc)) : Option (Lp (Int × (List Rc)) (List Rc) Rc) :=
  bif (decide (i5 < (x0.l.length : Int))) then
    ((idx x0.l i5).bind fun y18 =>
     (F8 y18).bind fun y19 =>
     (join 304 w6 [y19]).bind fun z20 =>
     some (.next ((IntKind.i64.wrap (i5 + (1 : Int))), z20)))
  else
    (some (.brk w6))
noncomputable def B8_K0 (x0 : Cd) (y3 : (BitVec 256)) (w14 : (List Rc)) : Option Rc :=
  some (Rc.mk x0.kind x0.bits y3 w14)
abbrev R8_0 (x0 : Cd) (id1 : Nat) (id2 : Nat) (y3 : (BitVec 256)) (id4 : Nat) : (Int × (List Rc)) → St → Prop := fun s st => ∃ (g : Nat → V) (h : Heap) (v7 : V), Own h ([.row v7 (List.map tRc.enc s.2), .blk id4 (([.pv (.int .i64 x0.kind), .pv (.str x0.bits)] : List V) ++ (((bits256 y3).map V.pv) ++ ([v7] : List V))), .blk id2 (([.pv (.int .i64 (0 : Int)), .pv (.str [])] : List V) ++ (((bits256 (0#256)).map V.pv) ++ ([.nils] : List V))), .blk id1 [.pv (.int .i64 x0.kind), .pv (.str x0.bits), .pv (.int .u64 x0.set.a), .pv (.int .u64 x0.set.b), .pv (.int .u64 x0.set.c), .pv (.int .u64 x0.set.d), .pv (.sl (List.map tCd.enc x0.l))]]) ∧ st = ⟨TL 32 (upds g [(1, .ptr id1 0), (2, .ptr id2 0), (3, .ptr id4 0), (4, .pv (.int .i64 s.1))]), h⟩
abbrev A8_0 (x0 : Cd) (id2 : Nat) (y3 : (BitVec 256)) (id4 : Nat) : (List Rc) → St → Prop := fun s st => ∃ (g : Nat → V) (h : Heap) (v15 : V), Own h ([.row v15 (List.map tRc.enc s), .blk id4 (([.pv (.int .i64 x0.kind), .pv (.str x0.bits)] : List V) ++ (((bits256 y3).map V.pv) ++ ([v15] : List V))), .blk id2 (([.pv (.int .i64 (0 : Int)), .pv (.str [])] : List V) ++ (((bits256 (0#256)).map V.pv) ++ ([.nils] : List V)))]) ∧ st = ⟨TL 32 (upds g [(2, .ptr id2 0), (3, .ptr id4 0)]), h⟩
noncomputable def B8 (F8 : Cd → Option Rc) (F30 : W4 → Option (BitVec 256)) (x0 : Cd) : Option Rc :=
  (F30 x0.set).bind fun y3 =>
  loopK (fun (s : (Int × (List Rc))) => B8_L0 F8 x0 s.1 s.2) ((0 : Int), ([] : List Rc)) (fun (t : (List Rc)) => B8_K0 x0 y3 t)
set_option maxRecDepth 100000 in
set_option maxHeartbeats 4000000 in
theorem B8_ok {E : Env} (F8 : Cd → Option Rc) (F30 : W4 → Option (BitVec 256)) (hF8 : ∀ (r : Rc) (a0 : Cd), F8 a0 = some r → limP E 8 [.agg (Cd.cells a0)] = some [.agg (Rc.cells r)]) (rF8 : E.raw 8 = false) (hF30 : ∀ (r : (BitVec 256)) (a0 : W4), F30 a0 = some r → limP E 30 [.agg (W4.cells a0)] = some [.agg (bits256 r)]) (rF30 : E.raw 30 = false) (H : Has E 8 c8)  (x0 : Cd) (r : Rc) (hB : B8 F8 F30 x0 = some r) : limP E 8 [.agg (Cd.cells x0)] = some [.agg (Rc.cells r)] := by
  have hO : Own [] [] := Own.nil
  refine Has.startD H rfl ?_; unfold B8 at hB
  refine X.box ([.pv (.int .i64 x0.kind), .pv (.str x0.bits), .pv (.int .u64 x0.set.a), .pv (.int .u64 x0.set.b), .pv (.int .u64 x0.set.c), .pv (.int .u64 x0.set.d), .pv (.sl (List.map tCd.enc x0.l))]) hO rfl rfl rfl rfl ?_
  clear hO; intro id1 h hO
  refine X.new hO ?_
  clear hO; intro id2 h hO
  replace hO : Own h ([.blk id2 (([.pv (.int .i64 (0 : Int)), .pv (.str [])] : List V) ++ (((bits256 (0#256)).map V.pv) ++ ([.nils] : List V))), .blk id1 [.pv (.int .i64 x0.kind), .pv (.str x0.bits), .pv (.int .u64 x0.set.a), .pv (.int .u64 x0.set.b), .pv (.int .u64 x0.set.c), .pv (.int .u64 x0.set.d), .pv (.sl (List.map tCd.enc x0.l))]]) := zB_app hO
  refine X.stepZ ?_
  refine X.drawS [([], []), ([1], []), ([], []), ([1], []), ([], []), ([1], []), ([], []), ([], []), ([2], [2]), ([2, 3], [2, 3])] (m := List.map Res.ids [.blk id2 (([.pv (.int .i64 (0 : Int)), .pv (.str [])] : List V) ++ (((bits256 (0#256)).map V.pv) ++ ([.nils] : List V))), .blk id1 [.pv (.int .i64 x0.kind), .pv (.str x0.bits), .pv (.int .u64 x0.set.a), .pv (.int .u64 x0.set.b), .pv (.int .u64 x0.set.c), .pv (.int .u64 x0.set.d), .pv (.sl (List.map tCd.enc x0.l))]]) hO.labOk rfl ?_
  refine XS.calm [] (.ptr id1 0) rfl (rfl) (lab_none rfl) rfl ?_
  refine XS.read [1] (.pv (.int .i64 x0.kind)) rfl rfl (load_op 1 hO rfl rfl rfl) List.mem_cons_self ?_
  refine XS.calm [] (.ptr id1 1) rfl (rfl) (lab_none rfl) rfl ?_
  refine XS.read [1] (.pv (.str x0.bits)) rfl rfl (load_op 1 hO rfl rfl rfl) List.mem_cons_self ?_
  refine XS.calm [] (.ptr id1 2) rfl (rfl) (lab_none rfl) rfl ?_
  refine XS.read [1] (.pv (.agg (W4.cells x0.set))) rfl rfl (load_op 1 hO rfl rfl rfl) List.mem_cons_self ?_
  replace hB := bS hB; obtain ⟨y3, hy3, hB⟩ := hB
  refine XS.callP [.agg (W4.cells x0.set)] _ (hF30 _ _ hy3) rF30 rfl rfl ?_
  refine XS.calm [] (.agg (([.pv (.int .i64 x0.kind), .pv (.str x0.bits)] : List V) ++ (((bits256 y3).map V.pv) ++ ([.nils] : List V)))) rfl ((build_op (vs := [.pv (.int .i64 x0.kind), .pv (.str x0.bits), .pv (.agg (bits256 y3))]) (ls := [(0, 1, .pv (.int .i64 x0.kind)), (1, 1, .pv (.str x0.bits)), (2, 256, .pv (.agg (bits256 y3)))]) rfl rfl (zB_fill (fill_cons (big_storeA rfl) (fill_cons (big_storeA rfl) (fill_cons (big_storeB rfl) fill_nil)))) (mkAgg_row (big_at (k := 0) (j := 258) rfl rfl) (by intro p e; cases e)))) (lab_none rfl) rfl ?_
  refine XS.new [2] hO rfl ?_
  clear hO; intro id4 h hO
  replace hO : Own h ([.blk id4 (([.pv (.int .i64 (0 : Int)), .pv (.str [])] : List V) ++ (((bits256 (0#256)).map V.pv) ++ ([.nils] : List V))), .blk id2 (([.pv (.int .i64 (0 : Int)), .pv (.str [])] : List V) ++ (((bits256 (0#256)).map V.pv) ++ ([.nils] : List V))), .blk id1 [.pv (.int .i64 x0.kind), .pv (.str x0.bits), .pv (.int .u64 x0.set.a), .pv (.int .u64 x0.set.b), .pv (.int .u64 x0.set.c), .pv (.int .u64 x0.set.d), .pv (.sl (List.map tCd.enc x0.l))]]) := zB_app hO
  refine XS.store 0 [2] [2, 3] ((([.pv (.int .i64 x0.kind), .pv (.str x0.bits)] : List V) ++ (((bits256 y3).map V.pv) ++ ([.nils] : List V)))) hO rfl rfl rfl rfl (storeV_all rfl (big_len.trans rfl) (big_len.trans rfl) (big_all rfl rfl)) rfl List.mem_cons_self rfl ?_
  clear hO; intro h hO
  refine XS.nil ?_
  refine X.pure (.pv (.int .i64 (0 : Int))) rfl rfl ?_
  refine X.stepZ ?_
  refine X.loopQ (s0 := ((0 : Int), ([] : List Rc))) (R8_0 x0 id1 id2 y3 id4) (A8_0 x0 id2 y3 id4) hB ?_ ?_ ?_
  · exact ⟨_, _, .nils, (hO).addNil, st_keep _ ⟨rfl, rfl, rfl, rfl, trivial⟩⟩
  · rintro ⟨i5, w6⟩ st o ⟨g, h, v7, hO, rfl⟩ hB
    replace hB : B8_L0 F8 x0 i5 w6 = some o := hB
    unfold B8_L0 at hB
    replace hO : Own h ([.row v7 (List.map tRc.enc w6), .blk id4 (([.pv (.int .i64 x0.kind), .pv (.str x0.bits)] : List V) ++ (((bits256 y3).map V.pv) ++ ([v7] : List V))), .blk id2 (([.pv (.int .i64 (0 : Int)), .pv (.str [])] : List V) ++ (((bits256 (0#256)).map V.pv) ++ ([.nils] : List V))), .blk id1 [.pv (.int .i64 x0.kind), .pv (.str x0.bits), .pv (.int .u64 x0.set.a), .pv (.int .u64 x0.set.b), .pv (.int .u64 x0.set.c), .pv (.int .u64 x0.set.d), .pv (.sl (List.map tCd.enc x0.l))]]) := hO
    refine X.pure (.pv (.int .i64 i5)) rfl rfl ?_
    refine X.pure (.ptr id1 6) rfl rfl ?_
    refine X.load 3 (.pv (.sl (List.map tCd.enc x0.l))) hO rfl rfl rfl rfl ?_
    refine X.len (l := x0.l) (g := tCd.enc) rfl rfl SlP.pv ?_
    refine X.pure (.pv (.bool (decide (i5 < (x0.l.length : Int))))) rfl rfl ?_
    refine X.stepZ ?_
    revert hB
    revert hO
    generalize (decide (i5 < (x0.l.length : Int))) = c16
    cases c16 with
    | true =>
      intro hO hB
      replace hB := bT hB
      refine X.condT rfl rfl ?_
      refine X.skipS ?_
      refine X.blockS ?_
      have hl17 : ∀ x ∈ V.ids v7, x ∈ lab (List.map Res.ids [.row v7 (List.map tRc.enc w6), .blk id4 (([.pv (.int .i64 x0.kind), .pv (.str x0.bits)] : List V) ++ (((bits256 y3).map V.pv) ++ ([v7] : List V))), .blk id2 (([.pv (.int .i64 (0 : Int)), .pv (.str [])] : List V) ++ (((bits256 (0#256)).map V.pv) ++ ([.nils] : List V))), .blk id1 [.pv (.int .i64 x0.kind), .pv (.str x0.bits), .pv (.int .u64 x0.set.a), .pv (.int .u64 x0.set.b), .pv (.int .u64 x0.set.c), .pv (.int .u64 x0.set.d), .pv (.sl (List.map tCd.enc x0.l))]]) [0] := lab_row hO (k := 0) rfl rfl
      refine X.drawS [([], []), ([1], []), ([], []), ([3], []), ([], []), ([], []), ([], []), ([], []), ([4], [4]), ([0, 5], [0, 5]), ([], []), ([1, 6], [1, 6])] (m := List.map Res.ids [.row v7 (List.map tRc.enc w6), .blk id4 (([.pv (.int .i64 x0.kind), .pv (.str x0.bits)] : List V) ++ (((bits256 y3).map V.pv) ++ ([v7] : List V))), .blk id2 (([.pv (.int .i64 (0 : Int)), .pv (.str [])] : List V) ++ (((bits256 (0#256)).map V.pv) ++ ([.nils] : List V))), .blk id1 [.pv (.int .i64 x0.kind), .pv (.str x0.bits), .pv (.int .u64 x0.set.a), .pv (.int .u64 x0.set.b), .pv (.int .u64 x0.set.c), .pv (.int .u64 x0.set.d), .pv (.sl (List.map tCd.enc x0.l))]]) hO.labOk rfl ?_
      refine XS.calm [] (.ptr id4 258) rfl (rfl) (lab_none rfl) rfl ?_
      refine XS.read [1] (v7) rfl rfl (load_op 1 hO rfl rfl (big_cutC (k := 0) rfl rfl)) List.mem_cons_self ?_
      refine XS.calm [] (.ptr id1 6) rfl (rfl) (lab_none rfl) rfl ?_
      refine XS.read [3] (.pv (.sl (List.map tCd.enc x0.l))) rfl rfl (load_op 3 hO rfl rfl rfl) List.mem_cons_self ?_
      refine XS.calm [] (.pv (.int .i64 i5)) rfl (rfl) (lab_none rfl) rfl ?_
      replace hB := bS hB; obtain ⟨y18, hy18, hB⟩ := hB
      refine XS.calm [] (.pv (.ip (tCd.cells y18) 0)) rfl (at_op tCd hy18 rfl SlP.pv rfl rfl) (lab_none rfl) rfl ?_
      refine XS.calm [] (.pv (.agg (Cd.cells y18))) rfl (rfl) (lab_none rfl) rfl ?_
      replace hB := bS hB; obtain ⟨y19, hy19, hB⟩ := hB
      refine XS.callP [.agg (Cd.cells y18)] _ (hF8 _ _ hy19) rF8 rfl rfl ?_
      refine XS.fresh [4] (.slx (List.map tRc.enc [y19])) rfl (by intro h; rfl) (by intro h; simp only [List.map_cons, List.map_nil, tRc.he]; rfl) rfl ?_
      replace hB := bS hB; obtain ⟨z20, hz20, hB⟩ := hB
      refine XS.append tRc 0 [0] [0, 5] hz20 hO rfl rfl rfl rfl SlP.slx rfl rfl (fun _ => rfl) (lab_nil (fun x hx => lab_mono (hl17 x hx)) rfl) rfl ?_
      clear hO; intro v21 h qv21 hO hqv21
      have hpv21 : ∀ x ∈ V.ids v21, x ∈ lab (((List.map Res.ids [.row v7 (List.map tRc.enc w6), .blk id4 (([.pv (.int .i64 x0.kind), .pv (.str x0.bits)] : List V) ++ (((bits256 y3).map V.pv) ++ ([v7] : List V))), .blk id2 (([.pv (.int .i64 (0 : Int)), .pv (.str [])] : List V) ++ (((bits256 (0#256)).map V.pv) ++ ([.nils] : List V))), .blk id1 [.pv (.int .i64 x0.kind), .pv (.str x0.bits), .pv (.int .u64 x0.set.a), .pv (.int .u64 x0.set.b), .pv (.int .u64 x0.set.c), .pv (.int .u64 x0.set.d), .pv (.sl (List.map tCd.enc x0.l))]]) ++ [[]]) ++ [qv21]) [0, 5] := fun x hx => lab_app_new ((fun x hx => lab_mono (hl17 x hx))) rfl x (hqv21 x hx)
      refine XS.calm [] (.ptr id4 258) rfl (rfl) (lab_none rfl) rfl ?_
      refine XS.store 1 [1] [1, 6] ((([.pv (.int .i64 x0.kind), .pv (.str x0.bits)] : List V) ++ (((bits256 y3).map V.pv) ++ ([v21] : List V)))) hO rfl rfl rfl rfl (big_storeC (k := 0) rfl (storeV_row (hO.slp (k := 0) rfl) rfl rfl)) rfl List.mem_cons_self rfl ?_
      clear hO; intro h hO
      refine XS.nil ?_
      refine X.skipB ?_
      refine X.pure (.pv (.int .i64 i5)) rfl rfl ?_
      refine X.pure (.pv (.int .i64 (IntKind.i64.wrap (i5 + (1 : Int))))) rfl rfl ?_
      refine X.pure (.pv (.int .i64 (IntKind.i64.wrap (i5 + (1 : Int))))) rfl rfl ?_
      refine X.stepZ ?_
      obtain rfl := Option.some.inj hB
      exact X.nextL ⟨_, _, v21, hO, st_keep _ ⟨rfl, rfl, rfl, rfl, trivial⟩⟩
    | false =>
      intro hO hB
      replace hB := bF hB
      refine X.condF rfl rfl ?_
      refine X.exitS ?_
      obtain rfl := Option.some.inj hB
      exact LP.brk' ⟨_, _, v7, (hO.sub (.cons_cons _ (.cons_cons _ (.cons_cons _ (.cons _ .slnil))))), st_keep _ ⟨rfl, rfl, trivial⟩⟩
  · rintro w14 st ⟨g, h, v15, hO, rfl⟩ hB
    replace hB : B8_K0 x0 y3 w14 = some _ := hB
    unfold B8_K0 at hB
    replace hO : Own h ([.row v15 (List.map tRc.enc w14), .blk id4 (([.pv (.int .i64 x0.kind), .pv (.str x0.bits)] : List V) ++ (((bits256 y3).map V.pv) ++ ([v15] : List V))), .blk id2 (([.pv (.int .i64 (0 : Int)), .pv (.str [])] : List V) ++ (((bits256 (0#256)).map V.pv) ++ ([.nils] : List V)))]) := hO
    refine X.load 1 (.agg (([.pv (.int .i64 x0.kind), .pv (.str x0.bits)] : List V) ++ (((bits256 y3).map V.pv) ++ ([v15] : List V)))) hO rfl rfl rfl (big_whole rfl (mkAgg_row (big_at (k := 0) (j := 258) rfl rfl) (hO.notpv (k := 0) rfl))) ?_
    refine X.store 2 ((([.pv (.int .i64 x0.kind), .pv (.str x0.bits)] : List V) ++ (((bits256 y3).map V.pv) ++ ([v15] : List V)))) hO rfl rfl rfl rfl (storeV_all rfl (big_len.trans rfl) (big_len.trans rfl) (big_all rfl (by rw [List.all_cons, ((hO.slp (k := 0) rfl)).cell.2]; rfl))) rfl ?_
    clear hO; intro h hO
    refine X.stepZ ?_
    obtain rfl := Option.some.inj hB
    exact X.retS (Fin.leaf (us := [.agg (([.pv (.int .i64 x0.kind), .pv (.str x0.bits)] : List V) ++ (((bits256 y3).map V.pv) ++ ([v15] : List V)))]) rfl (resS_cell (load_own 2 hO rfl (big_whole rfl (mkAgg_row (big_at (k := 0) (j := 258) rfl rfl) (hO.notpv (k := 0) rfl))))) (pureRes_one (Wk.agg (Wk1L.app (vs := [.pv (.int .i64 x0.kind), .pv (.str x0.bits)]) (ps := [.int .i64 x0.kind, .str x0.bits]) ⟨Wk1.pv, Wk1.pv, trivial⟩ (Wk1L.app (us := [v15]) (qs := [.sl (List.map tRc.enc w14)]) (Wk1L.pvs _) ⟨((hO.slp (k := 0) rfl)).wk1, trivial⟩))) (by intro vs h; cases h)))
noncomputable def B9_L1 (F31 : List UInt8 → Cd → Option Cd) (y25 : Cd) (out29 : (List Cd)) (t2731 : Int) : Option (Lp ((List Cd) × Int) (List Cd) (Lp ((List Cd) × Int) (List Cd) (List Cd))) :=
  bif (decide (t2731 < (y25.l.length : Int))) then
    ((idx y25.l t2731).bind fun y41 =>
     (F31 y25.bits y41).bind fun y43 =>
     (join 80 out29 [y43]).bind fun z44 =>
     some (.next (z44, (IntKind.i64.wrap (t2731 + (1 : Int))))))
  else
    (some (.brk out29))
noncomputable def B9_K1 (t103 : Int) (out38 : (List Cd)) : Option (Lp ((List Cd) × Int) (List Cd) (List Cd)) :=
  some (.next (out38, (IntKind.i64.wrap (t103 + (1 : Int)))))
abbrev R9_1 (l0 : (List Cd)) (t103 : Int) (y25 : Cd) (id26 : Nat) : ((List Cd) × Int) → St → Prop := fun s st => ∃ (g : Nat → V) (h : Heap) (v30 : V), Own h ([.blk id26 [.pv (.int .i64 y25.kind), .pv (.str y25.bits), .pv (.int .u64 y25.set.a), .pv (.int .u64 y25.set.b), .pv (.int .u64 y25.set.c), .pv (.int .u64 y25.set.d), .pv (.sl (List.map tCd.enc y25.l))], .row v30 (List.map tCd.enc s.1)]) ∧ st = ⟨TL 41 (upds g [(3, v30), (5, .ptr id26 0), (8, .pv (.sl (List.map tCd.enc l0))), (9, .pv (.int .i64 (l0.length : Int))), (10, .pv (.int .i64 t103)), (25, .pv (.sl (List.map tCd.enc y25.l))), (26, .pv (.int .i64 (y25.l.length : Int))), (27, .pv (.int .i64 s.2))]), h⟩
abbrev A9_1 (l0 : (List Cd)) (t103 : Int) : (List Cd) → St → Prop := fun s st => ∃ (g : Nat → V) (h : Heap) (v39 : V), Own h ([.row v39 (List.map tCd.enc s)]) ∧ st = ⟨TL 41 (upds g [(3, v39), (8, .pv (.sl (List.map tCd.enc l0))), (9, .pv (.int .i64 (l0.length : Int))), (10, .pv (.int .i64 t103))]), h⟩
noncomputable def B9_L0 (F31 : List UInt8 → Cd → Option Cd) (l0 : (List Cd)) (out1 : (List Cd)) (t103 : Int) : Option (Lp ((List Cd) × Int) (List Cd) (List Cd)) :=
  bif (decide (t103 < (l0.length : Int))) then
    ((idx l0 t103).bind fun y25 =>
     bif (y25.kind == (0 : Int)) then
       (some (.next (out1, (IntKind.i64.wrap (t103 + (1 : Int))))))
     else
       (bif (y25.kind == (4 : Int)) then
          (loopK (fun (s : ((List Cd) × Int)) => B9_L1 F31 y25 s.1 s.2) (out1, (0 : Int)) (fun (t : (List Cd)) => B9_K1 t103 t))
        else
          ((join 80 out1 [y25]).bind fun z46 =>
           some (.next (z46, (IntKind.i64.wrap (t103 + (1 : Int))))))))
  else
    (some (.brk out1))
noncomputable def B9_K0 (out22 : (List Cd)) : Option (List Cd) :=
  some out22
abbrev R9_0 (l0 : (List Cd)) : ((List Cd) × Int) → St → Prop := fun s st => ∃ (g : Nat → V) (h : Heap) (v2 : V), Own h ([.row v2 (List.map tCd.enc s.1)]) ∧ st = ⟨TL 41 (upds g [(3, v2), (8, .pv (.sl (List.map tCd.enc l0))), (9, .pv (.int .i64 (l0.length : Int))), (10, .pv (.int .i64 s.2))]), h⟩
abbrev A9_0 : (List Cd) → St → Prop := fun s st => ∃ (g : Nat → V) (h : Heap) (v23 : V), Own h ([.row v23 (List.map tCd.enc s)]) ∧ st = ⟨TL 41 (upds g [(3, v23)]), h⟩
noncomputable def B9 (F31 : List UInt8 → Cd → Option Cd) (l0 : (List Cd)) : Option (List Cd) :=
  loopK (fun (s : ((List Cd) × Int)) => B9_L0 F31 l0 s.1 s.2) (([] : List Cd), (0 : Int)) (fun (t : (List Cd)) => B9_K0 t)
set_option maxRecDepth 100000 in
set_option maxHeartbeats 4000000 in
theorem B9_ok {E : Env} (F31 : List UInt8 → Cd → Option Cd) (hF31 : ∀ (r : Cd) (a0 : List UInt8) (a1 : Cd), F31 a0 a1 = some r → limP E 31 [.str a0, .agg (Cd.cells a1)] = some [.agg (Cd.cells r)]) (rF31 : E.raw 31 = false) (H : Has E 9 c9)  (l0 : (List Cd)) (r : (List Cd)) (hB : B9 F31 l0 = some r) : limP E 9 [.sl (List.map tCd.enc l0)] = some [.sl (List.map tCd.enc r)] := by
  have hO : Own [] [] := Own.nil
  refine Has.startD H rfl ?_; unfold B9 at hB
  refine X.pure (.nils) rfl rfl ?_
  refine X.stepZ ?_
  refine X.pure (.nils) rfl rfl ?_
  refine X.stepZ ?_
  refine X.pure (.pv (.sl (List.map tCd.enc l0))) rfl rfl ?_
  refine X.len (l := l0) (g := tCd.enc) rfl rfl SlP.pv ?_
  refine X.pure (.pv (.int .i64 (0 : Int))) rfl rfl ?_
  refine X.stepZ ?_
  refine X.loopQ (s0 := (([] : List Cd), (0 : Int))) (R9_0 l0) (A9_0) hB ?_ ?_ ?_
  · exact ⟨_, _, .nils, (hO).addNil, st_keep _ ⟨rfl, rfl, rfl, rfl, trivial⟩⟩
  · rintro ⟨out1, t103⟩ st o ⟨g, h, v2, hO, rfl⟩ hB
    replace hB : B9_L0 F31 l0 out1 t103 = some o := hB
    unfold B9_L0 at hB
    replace hO : Own h ([.row v2 (List.map tCd.enc out1)]) := hO
    refine X.pure (.pv (.bool (decide (t103 < (l0.length : Int))))) rfl rfl ?_
    refine X.stepZ ?_
    revert hB
    revert hO
    generalize (decide (t103 < (l0.length : Int))) = c24
    cases c24 with
    | true =>
      intro hO hB
      replace hB := bT hB
      refine X.condT rfl rfl ?_
      refine X.skipS ?_
      refine X.blockS ?_
      replace hB := bS hB; obtain ⟨y25, hy25, hB⟩ := hB
      refine X.at tCd hy25 rfl rfl SlP.pv rfl rfl ?_
      refine X.pure (.pv (.agg (Cd.cells y25))) rfl rfl ?_
      refine X.new hO ?_
      clear hO; intro id26 h hO
      replace hO : Own h ([.blk id26 [.pv (.int .i64 (0 : Int)), .pv (.str []), .pv (.int .u64 (0 : Int)), .pv (.int .u64 (0 : Int)), .pv (.int .u64 (0 : Int)), .pv (.int .u64 (0 : Int)), .nils], .row v2 (List.map tCd.enc out1)]) := hO
      refine X.store 0 ([.pv (.int .i64 y25.kind), .pv (.str y25.bits), .pv (.int .u64 y25.set.a), .pv (.int .u64 y25.set.b), .pv (.int .u64 y25.set.c), .pv (.int .u64 y25.set.d), .pv (.sl (List.map tCd.enc y25.l))]) hO rfl rfl rfl rfl rfl rfl ?_
      clear hO; intro h hO
      refine X.stepZ ?_
      refine X.pure (.ptr id26 0) rfl rfl ?_
      refine X.load 0 (.pv (.int .i64 y25.kind)) hO rfl rfl rfl rfl ?_
      refine X.stepZ ?_
      refine X.blockS ?_
      refine X.pure (.pv (.bool (y25.kind == (0 : Int)))) rfl rfl ?_
      refine X.pure (.pv (.bool (y25.kind == (0 : Int)))) rfl rfl ?_
      refine X.stepZ ?_
      revert hB
      revert hO
      generalize (y25.kind == (0 : Int)) = c27
      cases c27 with
      | true =>
        intro hO hB
        replace hB := bT hB
        refine X.condT rfl rfl ?_
        refine X.skipS ?_
        refine X.skipB ?_
        refine X.skipB ?_
        refine X.pure (.pv (.int .i64 (IntKind.i64.wrap (t103 + (1 : Int))))) rfl rfl ?_
        refine X.pure (.pv (.int .i64 (IntKind.i64.wrap (t103 + (1 : Int))))) rfl rfl ?_
        refine X.stepZ ?_
        obtain rfl := Option.some.inj hB
        exact X.nextL ⟨_, _, v2, (hO.sub (.cons _ (.cons_cons _ .slnil))), st_keep _ ⟨rfl, rfl, rfl, rfl, trivial⟩⟩
      | false =>
        intro hO hB
        replace hB := bF hB
        refine X.condF rfl rfl ?_
        refine X.pure (.pv (.bool (y25.kind == (4 : Int)))) rfl rfl ?_
        refine X.pure (.pv (.bool (y25.kind == (4 : Int)))) rfl rfl ?_
        refine X.stepZ ?_
        revert hB
        revert hO
        generalize (y25.kind == (4 : Int)) = c28
        cases c28 with
        | true =>
          intro hO hB
          replace hB := bT hB
          refine X.condT rfl rfl ?_
          refine X.pure (.ptr id26 6) rfl rfl ?_
          refine X.load 0 (.pv (.sl (List.map tCd.enc y25.l))) hO rfl rfl rfl rfl ?_
          refine X.len (l := y25.l) (g := tCd.enc) rfl rfl SlP.pv ?_
          refine X.pure (.pv (.int .i64 (0 : Int))) rfl rfl ?_
          refine X.stepZ ?_
          refine X.loopQ (s0 := (out1, (0 : Int))) (R9_1 l0 t103 y25 id26) (A9_1 l0 t103) hB ?_ ?_ ?_
          · exact ⟨_, _, v2, hO, st_keep _ ⟨rfl, rfl, rfl, rfl, rfl, rfl, rfl, rfl, trivial⟩⟩
          · rintro ⟨out29, t2731⟩ st o ⟨g, h, v30, hO, rfl⟩ hB
            replace hB : B9_L1 F31 y25 out29 t2731 = some o := hB
            unfold B9_L1 at hB
            replace hO : Own h ([.blk id26 [.pv (.int .i64 y25.kind), .pv (.str y25.bits), .pv (.int .u64 y25.set.a), .pv (.int .u64 y25.set.b), .pv (.int .u64 y25.set.c), .pv (.int .u64 y25.set.d), .pv (.sl (List.map tCd.enc y25.l))], .row v30 (List.map tCd.enc out29)]) := hO
            refine X.pure (.pv (.bool (decide (t2731 < (y25.l.length : Int))))) rfl rfl ?_
            refine X.stepZ ?_
            revert hB
            revert hO
            generalize (decide (t2731 < (y25.l.length : Int))) = c40
            cases c40 with
            | true =>
              intro hO hB
              replace hB := bT hB
              refine X.condT rfl rfl ?_
              refine X.skipS ?_
              refine X.blockS ?_
              replace hB := bS hB; obtain ⟨y41, hy41, hB⟩ := hB
              refine X.at tCd hy41 rfl rfl SlP.pv rfl rfl ?_
              refine X.pure (.pv (.agg (Cd.cells y41))) rfl rfl ?_
              refine X.new hO ?_
              clear hO; intro id42 h hO
              replace hO : Own h ([.blk id42 [.pv (.int .i64 (0 : Int)), .pv (.str []), .pv (.int .u64 (0 : Int)), .pv (.int .u64 (0 : Int)), .pv (.int .u64 (0 : Int)), .pv (.int .u64 (0 : Int)), .nils], .blk id26 [.pv (.int .i64 y25.kind), .pv (.str y25.bits), .pv (.int .u64 y25.set.a), .pv (.int .u64 y25.set.b), .pv (.int .u64 y25.set.c), .pv (.int .u64 y25.set.d), .pv (.sl (List.map tCd.enc y25.l))], .row v30 (List.map tCd.enc out29)]) := hO
              refine X.store 0 ([.pv (.int .i64 y41.kind), .pv (.str y41.bits), .pv (.int .u64 y41.set.a), .pv (.int .u64 y41.set.b), .pv (.int .u64 y41.set.c), .pv (.int .u64 y41.set.d), .pv (.sl (List.map tCd.enc y41.l))]) hO rfl rfl rfl rfl rfl rfl ?_
              clear hO; intro h hO
              refine X.stepZ ?_
              refine X.pure (v30) rfl rfl ?_
              refine X.pure (.ptr id26 1) rfl rfl ?_
              refine X.load 1 (.pv (.str y25.bits)) hO rfl rfl rfl rfl ?_
              refine X.load 0 (.pv (.agg (Cd.cells y41))) hO rfl rfl rfl rfl ?_
              replace hB := bS hB; obtain ⟨y43, hy43, hB⟩ := hB
              refine X.callW [.pv (.str y25.bits), .pv (.agg (Cd.cells y41))] [.str y25.bits, .agg (Cd.cells y41)] _ (hF31 _ _ _ hy43) rF31 rfl rfl ⟨Wk.pv, Wk.pv, trivial⟩ ?_
              refine X.pure (.slx (List.map tCd.enc [y43])) rfl (by simp only [List.map_cons, List.map_nil, tCd.he]; rfl) ?_
              replace hB := bS hB; obtain ⟨z44, hz44, hB⟩ := hB
              refine X.append tCd 2 hz44 hO rfl rfl rfl rfl SlP.slx rfl rfl (fun _ => rfl) ?_
              clear hO; intro v45 h hO
              refine X.pure (v45) rfl rfl ?_
              refine X.stepZ ?_
              refine X.skipB ?_
              refine X.pure (.pv (.int .i64 (IntKind.i64.wrap (t2731 + (1 : Int))))) rfl rfl ?_
              refine X.pure (.pv (.int .i64 (IntKind.i64.wrap (t2731 + (1 : Int))))) rfl rfl ?_
              refine X.stepZ ?_
              obtain rfl := Option.some.inj hB
              exact X.nextL ⟨_, _, v45, (hO.sub (.cons _ (.cons_cons _ (.cons_cons _ .slnil)))), st_keep _ ⟨rfl, rfl, rfl, rfl, rfl, rfl, rfl, rfl, trivial⟩⟩
            | false =>
              intro hO hB
              replace hB := bF hB
              refine X.condF rfl rfl ?_
              refine X.exitS ?_
              obtain rfl := Option.some.inj hB
              exact LP.brk' ⟨_, _, v30, (hO.sub (.cons _ (.cons_cons _ .slnil))), st_keep _ ⟨rfl, rfl, rfl, rfl, trivial⟩⟩
          · rintro out38 st ⟨g, h, v39, hO, rfl⟩ hB
            replace hB : B9_K1 t103 out38 = some _ := hB
            unfold B9_K1 at hB
            replace hO : Own h ([.row v39 (List.map tCd.enc out38)]) := hO
            refine X.skipB ?_
            refine X.skipB ?_
            refine X.pure (.pv (.int .i64 (IntKind.i64.wrap (t103 + (1 : Int))))) rfl rfl ?_
            refine X.pure (.pv (.int .i64 (IntKind.i64.wrap (t103 + (1 : Int))))) rfl rfl ?_
            refine X.stepZ ?_
            obtain rfl := Option.some.inj hB
            exact X.nextL ⟨_, _, v39, hO, st_keep _ ⟨rfl, rfl, rfl, rfl, trivial⟩⟩
        | false =>
          intro hO hB
          replace hB := bF hB
          refine X.condF rfl rfl ?_
          refine X.pure (v2) rfl rfl ?_
          refine X.load 0 (.pv (.agg (Cd.cells y25))) hO rfl rfl rfl rfl ?_
          refine X.pure (.slx (List.map tCd.enc [y25])) rfl (by simp only [List.map_cons, List.map_nil, tCd.he]; rfl) ?_
          replace hB := bS hB; obtain ⟨z46, hz46, hB⟩ := hB
          refine X.append tCd 1 hz46 hO rfl rfl rfl rfl SlP.slx rfl rfl (fun _ => rfl) ?_
          clear hO; intro v47 h hO
          refine X.pure (v47) rfl rfl ?_
          refine X.stepZ ?_
          refine X.skipB ?_
          refine X.skipB ?_
          refine X.pure (.pv (.int .i64 (IntKind.i64.wrap (t103 + (1 : Int))))) rfl rfl ?_
          refine X.pure (.pv (.int .i64 (IntKind.i64.wrap (t103 + (1 : Int))))) rfl rfl ?_
          refine X.stepZ ?_
          obtain rfl := Option.some.inj hB
          exact X.nextL ⟨_, _, v47, (hO.sub (.cons _ (.cons_cons _ .slnil))), st_keep _ ⟨rfl, rfl, rfl, rfl, trivial⟩⟩
    | false =>
      intro hO hB
      replace hB := bF hB
      refine X.condF rfl rfl ?_
      refine X.exitS ?_
      obtain rfl := Option.some.inj hB
      exact LP.brk' ⟨_, _, v2, hO, st_keep _ ⟨rfl, trivial⟩⟩
  · rintro out22 st ⟨g, h, v23, hO, rfl⟩ hB
    replace hB : B9_K0 out22 = some _ := hB
    unfold B9_K0 at hB
    replace hO : Own h ([.row v23 (List.map tCd.enc out22)]) := hO
    refine X.pure (v23) rfl rfl ?_
    refine X.pure (v23) rfl rfl ?_
    refine X.stepZ ?_
    obtain rfl := Option.some.inj hB
    exact X.retS (Fin.leaf (us := [v23]) rfl rfl (pureRes_one ((hO.slp (k := 0) rfl)).wk ((hO.slp (k := 0) rfl)).notup))
noncomputable def B10_L1 (F32 : List UInt8 → Rc → Option Rc) (l0 : (List Rc)) (i3 : Int) (r31 : (List Rc)) (k33 : Int) : Option (Lp ((List Rc) × Int) (List Rc) (Lp ((List Rc) × Int) (List Rc) (List Rc))) :=
  (idx l0 i3).bind fun y45 =>
  bif (decide (k33 < (y45.l.length : Int))) then
    ((idx l0 i3).bind fun y48 =>
     (idx l0 i3).bind fun y49 =>
     (idx y49.l k33).bind fun y50 =>
     (F32 y48.bits y50).bind fun y51 =>
     (join 304 r31 [y51]).bind fun z52 =>
     some (.next (z52, (IntKind.i64.wrap (k33 + (1 : Int))))))
  else
    (some (.brk r31))
noncomputable def B10_K1 (i3 : Int) (r43 : (List Rc)) : Option (Lp ((List Rc) × Int) (List Rc) (List Rc)) :=
  some (.next (r43, (IntKind.i64.wrap (i3 + (1 : Int)))))
abbrev R10_1 (l0 : (List Rc)) (i3 : Int) : ((List Rc) × Int) → St → Prop := fun s st => ∃ (g : Nat → V) (h : Heap) (v32 : V), Own h ([.row v32 (List.map tRc.enc s.1)]) ∧ st = ⟨TL 56 (upds g [(0, .pv (.sl (List.map tRc.enc l0))), (3, v32), (4, .pv (.int .i64 i3)), (5, .pv (.int .i64 s.2))]), h⟩
abbrev A10_1 (l0 : (List Rc)) (i3 : Int) : (List Rc) → St → Prop := fun s st => ∃ (g : Nat → V) (h : Heap) (v44 : V), Own h ([.row v44 (List.map tRc.enc s)]) ∧ st = ⟨TL 56 (upds g [(0, .pv (.sl (List.map tRc.enc l0))), (3, v44), (4, .pv (.int .i64 i3))]), h⟩
noncomputable def B10_L0 (F32 : List UInt8 → Rc → Option Rc) (l0 : (List Rc)) (r1 : (List Rc)) (i3 : Int) : Option (Lp ((List Rc) × Int) (List Rc) (List Rc)) :=
  bif (decide (i3 < (l0.length : Int))) then
    ((idx l0 i3).bind fun y28 =>
     bif (y28.kind == (0 : Int)) then
       (some (.next (r1, (IntKind.i64.wrap (i3 + (1 : Int))))))
     else
       (bif (y28.kind == (4 : Int)) then
          (loopK (fun (s : ((List Rc) × Int)) => B10_L1 F32 l0 i3 s.1 s.2) (r1, (0 : Int)) (fun (t : (List Rc)) => B10_K1 i3 t))
        else
          ((idx l0 i3).bind fun y54 =>
           (join 304 r1 [y54]).bind fun z55 =>
           some (.next (z55, (IntKind.i64.wrap (i3 + (1 : Int))))))))
  else
    (some (.brk r1))
noncomputable def B10_K0 (r25 : (List Rc)) : Option (List Rc) :=
  some r25
abbrev R10_0 (l0 : (List Rc)) : ((List Rc) × Int) → St → Prop := fun s st => ∃ (g : Nat → V) (h : Heap) (v2 : V), Own h ([.row v2 (List.map tRc.enc s.1)]) ∧ st = ⟨TL 56 (upds g [(0, .pv (.sl (List.map tRc.enc l0))), (3, v2), (4, .pv (.int .i64 s.2))]), h⟩
abbrev A10_0 : (List Rc) → St → Prop := fun s st => ∃ (g : Nat → V) (h : Heap) (v26 : V), Own h ([.row v26 (List.map tRc.enc s)]) ∧ st = ⟨TL 56 (upds g [(3, v26)]), h⟩
noncomputable def B10 (F32 : List UInt8 → Rc → Option Rc) (l0 : (List Rc)) : Option (List Rc) :=
  loopK (fun (s : ((List Rc) × Int)) => B10_L0 F32 l0 s.1 s.2) (([] : List Rc), (0 : Int)) (fun (t : (List Rc)) => B10_K0 t)
set_option maxRecDepth 100000 in
set_option maxHeartbeats 4000000 in
theorem B10_ok {E : Env} (F32 : List UInt8 → Rc → Option Rc) (hF32 : ∀ (r : Rc) (a0 : List UInt8) (a1 : Rc), F32 a0 a1 = some r → limP E 32 [.str a0, .agg (Rc.cells a1)] = some [.agg (Rc.cells r)]) (rF32 : E.raw 32 = false) (H : Has E 10 c10)  (l0 : (List Rc)) (r : (List Rc)) (hB : B10 F32 l0 = some r) : limP E 10 [.sl (List.map tRc.enc l0)] = some [.sl (List.map tRc.enc r)] := by
  have hO : Own [] [] := Own.nil
  refine Has.startD H rfl ?_; unfold B10 at hB
  refine X.pure (.nils) rfl rfl ?_
  refine X.stepZ ?_
  refine X.pure (.nils) rfl rfl ?_
  refine X.stepZ ?_
  refine X.pure (.pv (.int .i64 (0 : Int))) rfl rfl ?_
  refine X.stepZ ?_
  refine X.loopQ (s0 := (([] : List Rc), (0 : Int))) (R10_0 l0) (A10_0) hB ?_ ?_ ?_
  · exact ⟨_, _, .nils, (hO).addNil, st_keep _ ⟨rfl, rfl, rfl, trivial⟩⟩
  · rintro ⟨r1, i3⟩ st o ⟨g, h, v2, hO, rfl⟩ hB
    replace hB : B10_L0 F32 l0 r1 i3 = some o := hB
    unfold B10_L0 at hB
    replace hO : Own h ([.row v2 (List.map tRc.enc r1)]) := hO
    refine X.pure (.pv (.int .i64 i3)) rfl rfl ?_
    refine X.pure (.pv (.sl (List.map tRc.enc l0))) rfl rfl ?_
    refine X.len (l := l0) (g := tRc.enc) rfl rfl SlP.pv ?_
    refine X.pure (.pv (.bool (decide (i3 < (l0.length : Int))))) rfl rfl ?_
    refine X.stepZ ?_
    revert hB
    revert hO
    generalize (decide (i3 < (l0.length : Int))) = c27
    cases c27 with
    | true =>
      intro hO hB
      replace hB := bT hB
      refine X.condT rfl rfl ?_
      refine X.skipS ?_
      refine X.blockS ?_
      refine X.pure (.pv (.sl (List.map tRc.enc l0))) rfl rfl ?_
      refine X.pure (.pv (.int .i64 i3)) rfl rfl ?_
      replace hB := bS hB; obtain ⟨y28, hy28, hB⟩ := hB
      refine X.at tRc hy28 rfl rfl SlP.pv rfl rfl ?_
      refine X.pure (.pv (.ip (tRc.cells y28) 0)) rfl rfl ?_
      refine X.pure (.pv (.int .i64 y28.kind)) rfl (loadIp_op rfl (big_ip rfl rfl (big_cutA rfl rfl))) ?_
      refine X.stepZ ?_
      refine X.blockS ?_
      refine X.pure (.pv (.bool (y28.kind == (0 : Int)))) rfl rfl ?_
      refine X.pure (.pv (.bool (y28.kind == (0 : Int)))) rfl rfl ?_
      refine X.stepZ ?_
      revert hB
      revert hO
      generalize (y28.kind == (0 : Int)) = c29
      cases c29 with
      | true =>
        intro hO hB
        replace hB := bT hB
        refine X.condT rfl rfl ?_
        refine X.skipS ?_
        refine X.skipB ?_
        refine X.skipB ?_
        refine X.pure (.pv (.int .i64 i3)) rfl rfl ?_
        refine X.pure (.pv (.int .i64 (IntKind.i64.wrap (i3 + (1 : Int))))) rfl rfl ?_
        refine X.pure (.pv (.int .i64 (IntKind.i64.wrap (i3 + (1 : Int))))) rfl rfl ?_
        refine X.stepZ ?_
        obtain rfl := Option.some.inj hB
        exact X.nextL ⟨_, _, v2, hO, st_keep _ ⟨rfl, rfl, rfl, trivial⟩⟩
      | false =>
        intro hO hB
        replace hB := bF hB
        refine X.condF rfl rfl ?_
        refine X.pure (.pv (.bool (y28.kind == (4 : Int)))) rfl rfl ?_
        refine X.pure (.pv (.bool (y28.kind == (4 : Int)))) rfl rfl ?_
        refine X.stepZ ?_
        revert hB
        revert hO
        generalize (y28.kind == (4 : Int)) = c30
        cases c30 with
        | true =>
          intro hO hB
          replace hB := bT hB
          refine X.condT rfl rfl ?_
          refine X.pure (.pv (.int .i64 (0 : Int))) rfl rfl ?_
          refine X.stepZ ?_
          refine X.loopQ (s0 := (r1, (0 : Int))) (R10_1 l0 i3) (A10_1 l0 i3) hB ?_ ?_ ?_
          · exact ⟨_, _, v2, hO, st_keep _ ⟨rfl, rfl, rfl, rfl, trivial⟩⟩
          · rintro ⟨r31, k33⟩ st o ⟨g, h, v32, hO, rfl⟩ hB
            replace hB : B10_L1 F32 l0 i3 r31 k33 = some o := hB
            unfold B10_L1 at hB
            replace hO : Own h ([.row v32 (List.map tRc.enc r31)]) := hO
            refine X.pure (.pv (.int .i64 k33)) rfl rfl ?_
            refine X.pure (.pv (.sl (List.map tRc.enc l0))) rfl rfl ?_
            refine X.pure (.pv (.int .i64 i3)) rfl rfl ?_
            replace hB := bS hB; obtain ⟨y45, hy45, hB⟩ := hB
            refine X.at tRc hy45 rfl rfl SlP.pv rfl rfl ?_
            refine X.pure (.pv (.ip (tRc.cells y45) 258)) rfl rfl ?_
            refine X.pure (.pv (.sl (List.map tRc.enc y45.l))) rfl (loadIp_op rfl (big_ip rfl rfl (big_cutC (k := 0) rfl rfl))) ?_
            refine X.len (l := y45.l) (g := tRc.enc) rfl rfl SlP.pv ?_
            refine X.pure (.pv (.bool (decide (k33 < (y45.l.length : Int))))) rfl rfl ?_
            refine X.stepZ ?_
            revert hB
            revert hO
            generalize (decide (k33 < (y45.l.length : Int))) = c46
            cases c46 with
            | true =>
              intro hO hB
              replace hB := bT hB
              refine X.condT rfl rfl ?_
              refine X.skipS ?_
              refine X.blockS ?_
              have hl47 : ∀ x ∈ V.ids v32, x ∈ lab (List.map Res.ids [.row v32 (List.map tRc.enc r31)]) [0] := lab_row hO (k := 0) rfl rfl
              refine X.drawS [([], []), ([], []), ([], []), ([], []), ([], []), ([], []), ([], []), ([], []), ([], []), ([], []), ([], []), ([], []), ([], []), ([], []), ([], []), ([1], [1]), ([0, 2], [0, 2]), ([], [])] (m := List.map Res.ids [.row v32 (List.map tRc.enc r31)]) hO.labOk rfl ?_
              refine XS.calm [] (v32) rfl (rfl) (lab_none rfl) rfl ?_
              refine XS.calm [] (.pv (.sl (List.map tRc.enc l0))) rfl (rfl) (lab_none rfl) rfl ?_
              refine XS.calm [] (.pv (.int .i64 i3)) rfl (rfl) (lab_none rfl) rfl ?_
              replace hB := bS hB; obtain ⟨y48, hy48, hB⟩ := hB
              refine XS.calm [] (.pv (.ip (tRc.cells y48) 0)) rfl (at_op tRc hy48 rfl SlP.pv rfl rfl) (lab_none rfl) rfl ?_
              refine XS.calm [] (.pv (.ip (tRc.cells y48) 1)) rfl (rfl) (lab_none rfl) rfl ?_
              refine XS.calm [] (.pv (.str y48.bits)) rfl ((loadIp_op rfl (big_ip rfl rfl (big_cutA rfl rfl)))) (lab_none rfl) rfl ?_
              refine XS.calm [] (.pv (.sl (List.map tRc.enc l0))) rfl (rfl) (lab_none rfl) rfl ?_
              refine XS.calm [] (.pv (.int .i64 i3)) rfl (rfl) (lab_none rfl) rfl ?_
              replace hB := bS hB; obtain ⟨y49, hy49, hB⟩ := hB
              refine XS.calm [] (.pv (.ip (tRc.cells y49) 0)) rfl (at_op tRc hy49 rfl SlP.pv rfl rfl) (lab_none rfl) rfl ?_
              refine XS.calm [] (.pv (.ip (tRc.cells y49) 258)) rfl (rfl) (lab_none rfl) rfl ?_
              refine XS.calm [] (.pv (.sl (List.map tRc.enc y49.l))) rfl ((loadIp_op rfl (big_ip rfl rfl (big_cutC (k := 0) rfl rfl)))) (lab_none rfl) rfl ?_
              refine XS.calm [] (.pv (.int .i64 k33)) rfl (rfl) (lab_none rfl) rfl ?_
              replace hB := bS hB; obtain ⟨y50, hy50, hB⟩ := hB
              refine XS.calm [] (.pv (.ip (tRc.cells y50) 0)) rfl (at_op tRc hy50 rfl SlP.pv rfl rfl) (lab_none rfl) rfl ?_
              refine XS.calm [] (.pv (.agg (Rc.cells y50))) rfl ((loadIp_op rfl (big_ip rfl rfl (big_whole rfl (mkAgg_big rfl rfl))))) (lab_none rfl) rfl ?_
              replace hB := bS hB; obtain ⟨y51, hy51, hB⟩ := hB
              refine XS.callP [.str y48.bits, .agg (Rc.cells y50)] _ (hF32 _ _ _ hy51) rF32 rfl rfl ?_
              refine XS.fresh [1] (.slx (List.map tRc.enc [y51])) rfl (by intro h; rfl) (by intro h; simp only [List.map_cons, List.map_nil, tRc.he]; rfl) rfl ?_
              replace hB := bS hB; obtain ⟨z52, hz52, hB⟩ := hB
              refine XS.append tRc 0 [0] [0, 2] hz52 hO rfl rfl rfl rfl SlP.slx rfl rfl (fun _ => rfl) (lab_nil (fun x hx => lab_mono (hl47 x hx)) rfl) rfl ?_
              clear hO; intro v53 h qv53 hO hqv53
              have hpv53 : ∀ x ∈ V.ids v53, x ∈ lab (((List.map Res.ids [.row v32 (List.map tRc.enc r31)]) ++ [[]]) ++ [qv53]) [0, 2] := fun x hx => lab_app_new ((fun x hx => lab_mono (hl47 x hx))) rfl x (hqv53 x hx)
              refine XS.calm [] (v53) rfl (rfl) (lab_none rfl) rfl ?_
              refine XS.nil ?_
              refine X.skipB ?_
              refine X.pure (.pv (.int .i64 k33)) rfl rfl ?_
              refine X.pure (.pv (.int .i64 (IntKind.i64.wrap (k33 + (1 : Int))))) rfl rfl ?_
              refine X.pure (.pv (.int .i64 (IntKind.i64.wrap (k33 + (1 : Int))))) rfl rfl ?_
              refine X.stepZ ?_
              obtain rfl := Option.some.inj hB
              exact X.nextL ⟨_, _, v53, hO, st_keep _ ⟨rfl, rfl, rfl, rfl, trivial⟩⟩
            | false =>
              intro hO hB
              replace hB := bF hB
              refine X.condF rfl rfl ?_
              refine X.exitS ?_
              obtain rfl := Option.some.inj hB
              exact LP.brk' ⟨_, _, v32, hO, st_keep _ ⟨rfl, rfl, rfl, trivial⟩⟩
          · rintro r43 st ⟨g, h, v44, hO, rfl⟩ hB
            replace hB : B10_K1 i3 r43 = some _ := hB
            unfold B10_K1 at hB
            replace hO : Own h ([.row v44 (List.map tRc.enc r43)]) := hO
            refine X.skipB ?_
            refine X.skipB ?_
            refine X.pure (.pv (.int .i64 i3)) rfl rfl ?_
            refine X.pure (.pv (.int .i64 (IntKind.i64.wrap (i3 + (1 : Int))))) rfl rfl ?_
            refine X.pure (.pv (.int .i64 (IntKind.i64.wrap (i3 + (1 : Int))))) rfl rfl ?_
            refine X.stepZ ?_
            obtain rfl := Option.some.inj hB
            exact X.nextL ⟨_, _, v44, hO, st_keep _ ⟨rfl, rfl, rfl, trivial⟩⟩
        | false =>
          intro hO hB
          replace hB := bF hB
          refine X.condF rfl rfl ?_
          refine X.pure (v2) rfl rfl ?_
          refine X.pure (.pv (.sl (List.map tRc.enc l0))) rfl rfl ?_
          refine X.pure (.pv (.int .i64 i3)) rfl rfl ?_
          replace hB := bS hB; obtain ⟨y54, hy54, hB⟩ := hB
          refine X.at tRc hy54 rfl rfl SlP.pv rfl rfl ?_
          refine X.pure (.pv (.agg (Rc.cells y54))) rfl (loadIp_op rfl (big_ip rfl rfl (big_whole rfl (mkAgg_big rfl rfl)))) ?_
          refine X.pure (.slx (List.map tRc.enc [y54])) rfl (by simp only [List.map_cons, List.map_nil, tRc.he]; rfl) ?_
          replace hB := bS hB; obtain ⟨z55, hz55, hB⟩ := hB
          refine X.append tRc 0 hz55 hO rfl rfl rfl rfl SlP.slx rfl rfl (fun _ => rfl) ?_
          clear hO; intro v56 h hO
          refine X.pure (v56) rfl rfl ?_
          refine X.stepZ ?_
          refine X.skipB ?_
          refine X.skipB ?_
          refine X.pure (.pv (.int .i64 i3)) rfl rfl ?_
          refine X.pure (.pv (.int .i64 (IntKind.i64.wrap (i3 + (1 : Int))))) rfl rfl ?_
          refine X.pure (.pv (.int .i64 (IntKind.i64.wrap (i3 + (1 : Int))))) rfl rfl ?_
          refine X.stepZ ?_
          obtain rfl := Option.some.inj hB
          exact X.nextL ⟨_, _, v56, hO, st_keep _ ⟨rfl, rfl, rfl, trivial⟩⟩
    | false =>
      intro hO hB
      replace hB := bF hB
      refine X.condF rfl rfl ?_
      refine X.exitS ?_
      obtain rfl := Option.some.inj hB
      exact LP.brk' ⟨_, _, v2, hO, st_keep _ ⟨rfl, trivial⟩⟩
  · rintro r25 st ⟨g, h, v26, hO, rfl⟩ hB
    replace hB : B10_K0 r25 = some _ := hB
    unfold B10_K0 at hB
    replace hO : Own h ([.row v26 (List.map tRc.enc r25)]) := hO
    refine X.pure (v26) rfl rfl ?_
    refine X.pure (v26) rfl rfl ?_
    refine X.stepZ ?_
    obtain rfl := Option.some.inj hB
    exact X.retS (Fin.leaf (us := [v26]) rfl rfl (pureRes_one ((hO.slp (k := 0) rfl)).wk ((hO.slp (k := 0) rfl)).notup))
noncomputable def B11_L0 (F33 : (List Cd) → (Cd → Option Bool) → Option Bool) (F34 : Cd → Cd → Option Bool) (l0 : (List Cd)) (out1 : (List Cd)) (t83 : Int) : Option (Lp ((List Cd) × Int) (List Cd) (List Cd)) :=
  bif (decide (t83 < (l0.length : Int))) then
    ((idx l0 t83).bind fun y15 =>
     (F33 out1 (fun a0 => F34 a0 y15)).bind fun y18 =>
     bif y18 then
       (some (.next (out1, (IntKind.i64.wrap (t83 + (1 : Int))))))
     else
       ((join 80 out1 [y15]).bind fun z20 =>
        some (.next (z20, (IntKind.i64.wrap (t83 + (1 : Int)))))))
  else
    (some (.brk out1))
noncomputable def B11_K0 (out12 : (List Cd)) : Option (List Cd) :=
  some out12
abbrev R11_0 (l0 : (List Cd)) : ((List Cd) × Int) → St → Prop := fun s st => ∃ (g : Nat → V) (h : Heap) (v2 : V), Own h ([.row v2 (List.map tCd.enc s.1)]) ∧ st = ⟨TL 22 (upds g [(3, v2), (6, .pv (.sl (List.map tCd.enc l0))), (7, .pv (.int .i64 (l0.length : Int))), (8, .pv (.int .i64 s.2))]), h⟩
abbrev A11_0 : (List Cd) → St → Prop := fun s st => ∃ (g : Nat → V) (h : Heap) (v13 : V), Own h ([.row v13 (List.map tCd.enc s)]) ∧ st = ⟨TL 22 (upds g [(3, v13)]), h⟩
noncomputable def B11 (F33 : (List Cd) → (Cd → Option Bool) → Option Bool) (F34 : Cd → Cd → Option Bool) (l0 : (List Cd)) : Option (List Cd) :=
  loopK (fun (s : ((List Cd) × Int)) => B11_L0 F33 F34 l0 s.1 s.2) (([] : List Cd), (0 : Int)) (fun (t : (List Cd)) => B11_K0 t)
set_option maxRecDepth 100000 in
set_option maxHeartbeats 4000000 in
theorem B11_ok {E : Env} (F33 : (List Cd) → (Cd → Option Bool) → Option Bool) (F34 : Cd → Cd → Option Bool) (hF33 : ∀ (r : Bool) (a0 : (List Cd)) (φ : (Cd → Option Bool)) (g : FuncId) (cs : List PV), (∀ (b0 : Cd) (q : Bool), φ b0 = some q → limP E g ([.agg (Cd.cells b0)] ++ cs) = some [.bool q]) → E.raw g = false → F33 a0 φ = some r → limP E 33 [.sl (List.map tCd.enc a0), .fn g cs] = some [.bool r]) (rF33 : E.raw 33 = false) (hF34 : ∀ (r : Bool) (a0 : Cd) (c : Cd), F34 a0 c = some r → limP E 34 [.agg (Cd.cells a0), .ip (Cd.cells c) 0] = some [.bool r]) (rF34 : E.raw 34 = false) (H : Has E 11 c11)  (l0 : (List Cd)) (r : (List Cd)) (hB : B11 F33 F34 l0 = some r) : limP E 11 [.sl (List.map tCd.enc l0)] = some [.sl (List.map tCd.enc r)] := by
  have hO : Own [] [] := Own.nil
  refine Has.startD H rfl ?_; unfold B11 at hB
  refine X.pure (.nils) rfl rfl ?_
  refine X.stepZ ?_
  refine X.pure (.nils) rfl rfl ?_
  refine X.stepZ ?_
  refine X.pure (.pv (.sl (List.map tCd.enc l0))) rfl rfl ?_
  refine X.len (l := l0) (g := tCd.enc) rfl rfl SlP.pv ?_
  refine X.pure (.pv (.int .i64 (0 : Int))) rfl rfl ?_
  refine X.stepZ ?_
  refine X.loopQ (s0 := (([] : List Cd), (0 : Int))) (R11_0 l0) (A11_0) hB ?_ ?_ ?_
  · exact ⟨_, _, .nils, (hO).addNil, st_keep _ ⟨rfl, rfl, rfl, rfl, trivial⟩⟩
  · rintro ⟨out1, t83⟩ st o ⟨g, h, v2, hO, rfl⟩ hB
    replace hB : B11_L0 F33 F34 l0 out1 t83 = some o := hB
    unfold B11_L0 at hB
    replace hO : Own h ([.row v2 (List.map tCd.enc out1)]) := hO
    refine X.pure (.pv (.bool (decide (t83 < (l0.length : Int))))) rfl rfl ?_
    refine X.stepZ ?_
    revert hB
    revert hO
    generalize (decide (t83 < (l0.length : Int))) = c14
    cases c14 with
    | true =>
      intro hO hB
      replace hB := bT hB
      refine X.condT rfl rfl ?_
      refine X.skipS ?_
      refine X.blockS ?_
      replace hB := bS hB; obtain ⟨y15, hy15, hB⟩ := hB
      refine X.at tCd hy15 rfl rfl SlP.pv rfl rfl ?_
      refine X.pure (.pv (.agg (Cd.cells y15))) rfl rfl ?_
      refine X.new hO ?_
      clear hO; intro id16 h hO
      replace hO : Own h ([.blk id16 [.pv (.int .i64 (0 : Int)), .pv (.str []), .pv (.int .u64 (0 : Int)), .pv (.int .u64 (0 : Int)), .pv (.int .u64 (0 : Int)), .pv (.int .u64 (0 : Int)), .nils], .row v2 (List.map tCd.enc out1)]) := hO
      refine X.store 0 ([.pv (.int .i64 y15.kind), .pv (.str y15.bits), .pv (.int .u64 y15.set.a), .pv (.int .u64 y15.set.b), .pv (.int .u64 y15.set.c), .pv (.int .u64 y15.set.d), .pv (.sl (List.map tCd.enc y15.l))]) hO rfl rfl rfl rfl rfl rfl ?_
      clear hO; intro h hO
      refine X.stepZ ?_
      refine X.pure (v2) rfl rfl ?_
      refine X.pure (.fn 34 [.ptr id16 0]) rfl rfl ?_
      replace hB := bS hB; obtain ⟨y18, hy18, hB⟩ := hB
      refine X.callF (ps := [.int .i64 y15.kind, .str y15.bits, .int .u64 y15.set.a, .int .u64 y15.set.b, .int .u64 y15.set.c, .int .u64 y15.set.d, .sl (List.map tCd.enc y15.l)]) (p1 := .sl (List.map tCd.enc out1)) 0 hO rfl (hF33 _ _ _ _ _ (fun a0 q hq => hF34 _ _ _ hq) rF34 hy18) rF33 rfl rfl ((hO.slp (k := 1) rfl)).wk rfl ?_
      clear hO; intro h hO
      refine X.pure (.pv (.bool (!y18))) rfl rfl ?_
      refine X.stepZ ?_
      revert hB
      revert hO
      generalize y18 = c19
      cases c19 with
      | true =>
        intro hO hB
        replace hB := bT hB
        refine X.condF rfl rfl ?_
        refine X.skipS ?_
        refine X.skipB ?_
        refine X.pure (.pv (.int .i64 (IntKind.i64.wrap (t83 + (1 : Int))))) rfl rfl ?_
        refine X.pure (.pv (.int .i64 (IntKind.i64.wrap (t83 + (1 : Int))))) rfl rfl ?_
        refine X.stepZ ?_
        obtain rfl := Option.some.inj hB
        exact X.nextL ⟨_, _, v2, (hO.sub (.cons _ (.cons_cons _ .slnil))), st_keep _ ⟨rfl, rfl, rfl, rfl, trivial⟩⟩
      | false =>
        intro hO hB
        replace hB := bF hB
        refine X.condT rfl rfl ?_
        refine X.pure (v2) rfl rfl ?_
        refine X.loadF 0 (.pv (.agg (Cd.cells y15))) hO rfl rfl rfl rfl ?_
        refine X.pure (.slx (List.map tCd.enc [y15])) rfl (by simp only [List.map_cons, List.map_nil, tCd.he]; rfl) ?_
        replace hB := bS hB; obtain ⟨z20, hz20, hB⟩ := hB
        refine X.append tCd 1 hz20 hO rfl rfl rfl rfl SlP.slx rfl rfl (fun _ => rfl) ?_
        clear hO; intro v21 h hO
        refine X.pure (v21) rfl rfl ?_
        refine X.stepZ ?_
        refine X.skipB ?_
        refine X.pure (.pv (.int .i64 (IntKind.i64.wrap (t83 + (1 : Int))))) rfl rfl ?_
        refine X.pure (.pv (.int .i64 (IntKind.i64.wrap (t83 + (1 : Int))))) rfl rfl ?_
        refine X.stepZ ?_
        obtain rfl := Option.some.inj hB
        exact X.nextL ⟨_, _, v21, (hO.sub (.cons _ (.cons_cons _ .slnil))), st_keep _ ⟨rfl, rfl, rfl, rfl, trivial⟩⟩
    | false =>
      intro hO hB
      replace hB := bF hB
      refine X.condF rfl rfl ?_
      refine X.exitS ?_
      obtain rfl := Option.some.inj hB
      exact LP.brk' ⟨_, _, v2, hO, st_keep _ ⟨rfl, trivial⟩⟩
  · rintro out12 st ⟨g, h, v13, hO, rfl⟩ hB
    replace hB : B11_K0 out12 = some _ := hB
    unfold B11_K0 at hB
    replace hO : Own h ([.row v13 (List.map tCd.enc out12)]) := hO
    refine X.pure (v13) rfl rfl ?_
    refine X.pure (v13) rfl rfl ?_
    refine X.stepZ ?_
    obtain rfl := Option.some.inj hB
    exact X.retS (Fin.leaf (us := [v13]) rfl rfl (pureRes_one ((hO.slp (k := 0) rfl)).wk ((hO.slp (k := 0) rfl)).notup))
noncomputable def B12_L1 (F36 : Rc → Rc → Option Bool) (l0 : (List Rc)) (r1 : (List Rc)) (i3 : Int) (there21 : Bool) (k22 : Int) : Option (Lp (Bool × Int) Bool (Lp ((List Rc) × Int) (List Rc) (List Rc))) :=
  bif (decide (k22 < (r1.length : Int))) then
    (bif there21 then
       (some (.next (true, (IntKind.i64.wrap (k22 + (1 : Int))))))
     else
       ((idx r1 k22).bind fun y33 =>
        (idx l0 i3).bind fun y34 =>
        (F36 y33 y34).bind fun y35 =>
        some (.next (y35, (IntKind.i64.wrap (k22 + (1 : Int)))))))
  else
    (some (.brk there21))
noncomputable def B12_K1 (l0 : (List Rc)) (r1 : (List Rc)) (i3 : Int) (there29 : Bool) : Option (Lp ((List Rc) × Int) (List Rc) (List Rc)) :=
  bif there29 then
    (some (.next (r1, (IntKind.i64.wrap (i3 + (1 : Int))))))
  else
    ((idx l0 i3).bind fun y37 =>
     (join 304 r1 [y37]).bind fun z38 =>
     some (.next (z38, (IntKind.i64.wrap (i3 + (1 : Int))))))
abbrev R12_1 (l0 : (List Rc)) (r1 : (List Rc)) (i3 : Int) (v2 : V) : (Bool × Int) → St → Prop := fun s st => ∃ (g : Nat → V) (h : Heap), Own h ([.row v2 (List.map tRc.enc r1)]) ∧ st = ⟨TL 41 (upds g [(0, .pv (.sl (List.map tRc.enc l0))), (3, v2), (4, .pv (.int .i64 i3)), (5, .pv (.bool s.1)), (6, .pv (.int .i64 s.2))]), h⟩
abbrev A12_1 (l0 : (List Rc)) (r1 : (List Rc)) (i3 : Int) (v2 : V) : Bool → St → Prop := fun s st => ∃ (g : Nat → V) (h : Heap), Own h ([.row v2 (List.map tRc.enc r1)]) ∧ st = ⟨TL 41 (upds g [(0, .pv (.sl (List.map tRc.enc l0))), (3, v2), (4, .pv (.int .i64 i3)), (5, .pv (.bool s))]), h⟩
noncomputable def B12_L0 (F36 : Rc → Rc → Option Bool) (l0 : (List Rc)) (r1 : (List Rc)) (i3 : Int) : Option (Lp ((List Rc) × Int) (List Rc) (List Rc)) :=
  bif (decide (i3 < (l0.length : Int))) then
    (loopK (fun (s : (Bool × Int)) => B12_L1 F36 l0 r1 i3 s.1 s.2) (false, (0 : Int)) (fun (t : Bool) => B12_K1 l0 r1 i3 t))
  else
    (some (.brk r1))
noncomputable def B12_K0 (r18 : (List Rc)) : Option (List Rc) :=
  some r18
abbrev R12_0 (l0 : (List Rc)) : ((List Rc) × Int) → St → Prop := fun s st => ∃ (g : Nat → V) (h : Heap) (v2 : V), Own h ([.row v2 (List.map tRc.enc s.1)]) ∧ st = ⟨TL 41 (upds g [(0, .pv (.sl (List.map tRc.enc l0))), (3, v2), (4, .pv (.int .i64 s.2))]), h⟩
abbrev A12_0 : (List Rc) → St → Prop := fun s st => ∃ (g : Nat → V) (h : Heap) (v19 : V), Own h ([.row v19 (List.map tRc.enc s)]) ∧ st = ⟨TL 41 (upds g [(3, v19)]), h⟩
noncomputable def B12 (F36 : Rc → Rc → Option Bool) (l0 : (List Rc)) : Option (List Rc) :=
  loopK (fun (s : ((List Rc) × Int)) => B12_L0 F36 l0 s.1 s.2) (([] : List Rc), (0 : Int)) (fun (t : (List Rc)) => B12_K0 t)
set_option maxRecDepth 100000 in
set_option maxHeartbeats 4000000 in
theorem B12_ok {E : Env} (F36 : Rc → Rc → Option Bool) (hF36 : ∀ (r : Bool) (a0 : Rc) (a1 : Rc), F36 a0 a1 = some r → limP E 36 [.agg (Rc.cells a0), .agg (Rc.cells a1)] = some [.bool r]) (rF36 : E.raw 36 = false) (H : Has E 12 c12)  (l0 : (List Rc)) (r : (List Rc)) (hB : B12 F36 l0 = some r) : limP E 12 [.sl (List.map tRc.enc l0)] = some [.sl (List.map tRc.enc r)] := by
  have hO : Own [] [] := Own.nil
  refine Has.startD H rfl ?_; unfold B12 at hB
  refine X.pure (.nils) rfl rfl ?_
  refine X.stepZ ?_
  refine X.pure (.nils) rfl rfl ?_
  refine X.stepZ ?_
  refine X.pure (.pv (.int .i64 (0 : Int))) rfl rfl ?_
  refine X.stepZ ?_
  refine X.loopQ (s0 := (([] : List Rc), (0 : Int))) (R12_0 l0) (A12_0) hB ?_ ?_ ?_
  · exact ⟨_, _, .nils, (hO).addNil, st_keep _ ⟨rfl, rfl, rfl, trivial⟩⟩
  · rintro ⟨r1, i3⟩ st o ⟨g, h, v2, hO, rfl⟩ hB
    replace hB : B12_L0 F36 l0 r1 i3 = some o := hB
    unfold B12_L0 at hB
    replace hO : Own h ([.row v2 (List.map tRc.enc r1)]) := hO
    refine X.pure (.pv (.int .i64 i3)) rfl rfl ?_
    refine X.pure (.pv (.sl (List.map tRc.enc l0))) rfl rfl ?_
    refine X.len (l := l0) (g := tRc.enc) rfl rfl SlP.pv ?_
    refine X.pure (.pv (.bool (decide (i3 < (l0.length : Int))))) rfl rfl ?_
    refine X.stepZ ?_
    revert hB
    revert hO
    generalize (decide (i3 < (l0.length : Int))) = c20
    cases c20 with
    | true =>
      intro hO hB
      replace hB := bT hB
      refine X.condT rfl rfl ?_
      refine X.skipS ?_
      refine X.blockS ?_
      refine X.pure (.pv (.bool false)) rfl rfl ?_
      refine X.stepZ ?_
      refine X.pure (.pv (.int .i64 (0 : Int))) rfl rfl ?_
      refine X.stepZ ?_
      refine X.loopQ (s0 := (false, (0 : Int))) (R12_1 l0 r1 i3 v2) (A12_1 l0 r1 i3 v2) hB ?_ ?_ ?_
      · exact ⟨_, _, hO, st_keep _ ⟨rfl, rfl, rfl, rfl, rfl, trivial⟩⟩
      · rintro ⟨there21, k22⟩ st o ⟨g, h, hO, rfl⟩ hB
        replace hB : B12_L1 F36 l0 r1 i3 there21 k22 = some o := hB
        unfold B12_L1 at hB
        replace hO : Own h ([.row v2 (List.map tRc.enc r1)]) := hO
        refine X.pure (.pv (.int .i64 k22)) rfl rfl ?_
        refine X.pure (v2) rfl rfl ?_
        refine X.len (l := r1) (g := tRc.enc) rfl rfl (hO.slp (k := 0) rfl) ?_
        refine X.pure (.pv (.bool (decide (k22 < (r1.length : Int))))) rfl rfl ?_
        refine X.stepZ ?_
        revert hB
        revert hO
        generalize (decide (k22 < (r1.length : Int))) = c30
        cases c30 with
        | true =>
          intro hO hB
          replace hB := bT hB
          refine X.condT rfl rfl ?_
          refine X.skipS ?_
          refine X.blockS ?_
          have hl31 : ∀ x ∈ V.ids v2, x ∈ lab (List.map Res.ids [.row v2 (List.map tRc.enc r1)]) [0] := lab_row hO (k := 0) rfl rfl
          refine X.drawS [([], []), ([], []), ([], []), ([], []), ([], []), ([], []), ([], []), ([], []), ([], []), ([], []), ([], []), ([], []), ([], [])] (m := List.map Res.ids [.row v2 (List.map tRc.enc r1)]) hO.labOk rfl ?_
          refine XS.calm [] (.pv (.bool there21)) rfl (rfl) (lab_none rfl) rfl ?_
          refine XS.calm [] (.pv (.bool there21)) rfl (rfl) (lab_none rfl) rfl ?_
          revert hB
          revert hO
          generalize there21 = c32
          cases c32 with
          | true =>
            intro hO hB
            replace hB := bT hB
            refine XS.no rfl rfl ?_
            refine XS.no rfl rfl ?_
            refine XS.no rfl rfl ?_
            refine XS.no rfl rfl ?_
            refine XS.no rfl rfl ?_
            refine XS.no rfl rfl ?_
            refine XS.no rfl rfl ?_
            refine XS.no rfl rfl ?_
            refine XS.no rfl rfl ?_
            refine XS.calm [] (.pv (.bool true)) rfl (rfl) (lab_none rfl) rfl ?_
            refine XS.calm [] (.pv (.bool true)) rfl (rfl) (lab_none rfl) rfl ?_
            refine XS.nil ?_
            refine X.skipB ?_
            refine X.pure (.pv (.int .i64 k22)) rfl rfl ?_
            refine X.pure (.pv (.int .i64 (IntKind.i64.wrap (k22 + (1 : Int))))) rfl rfl ?_
            refine X.pure (.pv (.int .i64 (IntKind.i64.wrap (k22 + (1 : Int))))) rfl rfl ?_
            refine X.stepZ ?_
            obtain rfl := Option.some.inj hB
            exact X.nextL ⟨_, _, hO, st_keep _ ⟨rfl, rfl, rfl, rfl, rfl, trivial⟩⟩
          | false =>
            intro hO hB
            replace hB := bF hB
            refine XS.yes rfl rfl ?_
            refine XS.calm [] (v2) rfl (rfl) (lab_none rfl) rfl ?_
            refine XS.yes rfl rfl ?_
            refine XS.calm [] (.pv (.int .i64 k22)) rfl (rfl) (lab_none rfl) rfl ?_
            refine XS.yes rfl rfl ?_
            replace hB := bS hB; obtain ⟨y33, hy33, hB⟩ := hB
            refine XS.calm [] (.pv (.ip (tRc.cells y33) 0)) rfl (at_op tRc hy33 rfl (hO.slp (k := 0) rfl) rfl rfl) (lab_none rfl) rfl ?_
            refine XS.yes rfl rfl ?_
            refine XS.calm [] (.pv (.agg (Rc.cells y33))) rfl ((loadIp_op rfl (big_ip rfl rfl (big_whole rfl (mkAgg_big rfl rfl))))) (lab_none rfl) rfl ?_
            refine XS.yes rfl rfl ?_
            refine XS.calm [] (.pv (.sl (List.map tRc.enc l0))) rfl (rfl) (lab_none rfl) rfl ?_
            refine XS.yes rfl rfl ?_
            refine XS.calm [] (.pv (.int .i64 i3)) rfl (rfl) (lab_none rfl) rfl ?_
            refine XS.yes rfl rfl ?_
            replace hB := bS hB; obtain ⟨y34, hy34, hB⟩ := hB
            refine XS.calm [] (.pv (.ip (tRc.cells y34) 0)) rfl (at_op tRc hy34 rfl SlP.pv rfl rfl) (lab_none rfl) rfl ?_
            refine XS.yes rfl rfl ?_
            refine XS.calm [] (.pv (.agg (Rc.cells y34))) rfl ((loadIp_op rfl (big_ip rfl rfl (big_whole rfl (mkAgg_big rfl rfl))))) (lab_none rfl) rfl ?_
            refine XS.yes rfl rfl ?_
            replace hB := bS hB; obtain ⟨y35, hy35, hB⟩ := hB
            refine XS.callP [.agg (Rc.cells y33), .agg (Rc.cells y34)] _ (hF36 _ _ _ hy35) rF36 rfl rfl ?_
            refine XS.calm [] (.pv (.bool y35)) rfl (rfl) (lab_none rfl) rfl ?_
            refine XS.calm [] (.pv (.bool y35)) rfl (rfl) (lab_none rfl) rfl ?_
            refine XS.nil ?_
            refine X.skipB ?_
            refine X.pure (.pv (.int .i64 k22)) rfl rfl ?_
            refine X.pure (.pv (.int .i64 (IntKind.i64.wrap (k22 + (1 : Int))))) rfl rfl ?_
            refine X.pure (.pv (.int .i64 (IntKind.i64.wrap (k22 + (1 : Int))))) rfl rfl ?_
            refine X.stepZ ?_
            obtain rfl := Option.some.inj hB
            exact X.nextL ⟨_, _, hO, st_keep _ ⟨rfl, rfl, rfl, rfl, rfl, trivial⟩⟩
        | false =>
          intro hO hB
          replace hB := bF hB
          refine X.condF rfl rfl ?_
          refine X.exitS ?_
          obtain rfl := Option.some.inj hB
          exact LP.brk' ⟨_, _, hO, st_keep _ ⟨rfl, rfl, rfl, rfl, trivial⟩⟩
      · rintro there29 st ⟨g, h, hO, rfl⟩ hB
        replace hB : B12_K1 l0 r1 i3 there29 = some _ := hB
        unfold B12_K1 at hB
        replace hO : Own h ([.row v2 (List.map tRc.enc r1)]) := hO
        refine X.pure (.pv (.bool there29)) rfl rfl ?_
        refine X.pure (.pv (.bool (!there29))) rfl rfl ?_
        refine X.stepZ ?_
        revert hB
        revert hO
        generalize there29 = c36
        cases c36 with
        | true =>
          intro hO hB
          replace hB := bT hB
          refine X.condF rfl rfl ?_
          refine X.skipS ?_
          refine X.skipB ?_
          refine X.pure (.pv (.int .i64 i3)) rfl rfl ?_
          refine X.pure (.pv (.int .i64 (IntKind.i64.wrap (i3 + (1 : Int))))) rfl rfl ?_
          refine X.pure (.pv (.int .i64 (IntKind.i64.wrap (i3 + (1 : Int))))) rfl rfl ?_
          refine X.stepZ ?_
          obtain rfl := Option.some.inj hB
          exact X.nextL ⟨_, _, v2, hO, st_keep _ ⟨rfl, rfl, rfl, trivial⟩⟩
        | false =>
          intro hO hB
          replace hB := bF hB
          refine X.condT rfl rfl ?_
          refine X.pure (v2) rfl rfl ?_
          refine X.pure (.pv (.sl (List.map tRc.enc l0))) rfl rfl ?_
          refine X.pure (.pv (.int .i64 i3)) rfl rfl ?_
          replace hB := bS hB; obtain ⟨y37, hy37, hB⟩ := hB
          refine X.at tRc hy37 rfl rfl SlP.pv rfl rfl ?_
          refine X.pure (.pv (.agg (Rc.cells y37))) rfl (loadIp_op rfl (big_ip rfl rfl (big_whole rfl (mkAgg_big rfl rfl)))) ?_
          refine X.pure (.slx (List.map tRc.enc [y37])) rfl (by simp only [List.map_cons, List.map_nil, tRc.he]; rfl) ?_
          replace hB := bS hB; obtain ⟨z38, hz38, hB⟩ := hB
          refine X.append tRc 0 hz38 hO rfl rfl rfl rfl SlP.slx rfl rfl (fun _ => rfl) ?_
          clear hO; intro v39 h hO
          refine X.pure (v39) rfl rfl ?_
          refine X.stepZ ?_
          refine X.skipB ?_
          refine X.pure (.pv (.int .i64 i3)) rfl rfl ?_
          refine X.pure (.pv (.int .i64 (IntKind.i64.wrap (i3 + (1 : Int))))) rfl rfl ?_
          refine X.pure (.pv (.int .i64 (IntKind.i64.wrap (i3 + (1 : Int))))) rfl rfl ?_
          refine X.stepZ ?_
          obtain rfl := Option.some.inj hB
          exact X.nextL ⟨_, _, v39, hO, st_keep _ ⟨rfl, rfl, rfl, trivial⟩⟩
    | false =>
      intro hO hB
      replace hB := bF hB
      refine X.condF rfl rfl ?_
      refine X.exitS ?_
      obtain rfl := Option.some.inj hB
      exact LP.brk' ⟨_, _, v2, hO, st_keep _ ⟨rfl, trivial⟩⟩
  · rintro r18 st ⟨g, h, v19, hO, rfl⟩ hB
    replace hB : B12_K0 r18 = some _ := hB
    unfold B12_K0 at hB
    replace hO : Own h ([.row v19 (List.map tRc.enc r18)]) := hO
    refine X.pure (v19) rfl rfl ?_
    refine X.pure (v19) rfl rfl ?_
    refine X.stepZ ?_
    obtain rfl := Option.some.inj hB
    exact X.retS (Fin.leaf (us := [v19]) rfl rfl (pureRes_one ((hO.slp (k := 0) rfl)).wk ((hO.slp (k := 0) rfl)).notup))
noncomputable def B13_L0 (F13 : Rc → Rc → Option Bool) (a0 : Rc) (b1 : Rc) (i7 : Int) : Option (Lp Int Unit Bool) :=
  bif (decide (i7 < (a0.l.length : Int))) then
    ((idx a0.l i7).bind fun y14 =>
     (idx b1.l i7).bind fun y15 =>
     (F13 y14 y15).bind fun y16 =>
     bif y16 then
       (some (.next (IntKind.i64.wrap (i7 + (1 : Int)))))
     else
       (some (.ret (false))))
  else
    (some (.brk ()))
noncomputable def B13_K0 : Option Bool :=
  some true
abbrev R13_0 (a0 : Rc) (b1 : Rc) (id1 : Nat) (id2 : Nat) : Int → St → Prop := fun s st => ∃ (g : Nat → V) (h : Heap), Own h ([.blk id2 (([.pv (.int .i64 b1.kind), .pv (.str b1.bits)] : List V) ++ (((bits256 b1.set).map V.pv) ++ ([.pv (.sl (List.map tRc.enc b1.l))] : List V))), .blk id1 (([.pv (.int .i64 a0.kind), .pv (.str a0.bits)] : List V) ++ (((bits256 a0.set).map V.pv) ++ ([.pv (.sl (List.map tRc.enc a0.l))] : List V)))]) ∧ st = ⟨TL 53 (upds g [(2, .ptr id1 0), (3, .ptr id2 0), (5, .pv (.int .i64 s))]), h⟩
abbrev A13_0 : Unit → St → Prop := fun s st => ∃ (g : Nat → V) (h : Heap), Own h ([]) ∧ st = ⟨TL 53 (upds g []), h⟩
noncomputable def B13 (F13 : Rc → Rc → Option Bool) (a0 : Rc) (b1 : Rc) : Option Bool :=
  bif ((a0.kind != b1.kind) || (bif (a0.bits == b1.bits) then (bif (a0.set == b1.set) then ((a0.l.length : Int) != (b1.l.length : Int)) else true) else true)) then
    (some false)
  else
    (loopK (fun (s : Int) => B13_L0 F13 a0 b1 s) (0 : Int) (fun (t : Unit) => B13_K0))
set_option maxRecDepth 100000 in
set_option maxHeartbeats 4000000 in
theorem B13_ok {E : Env} (F13 : Rc → Rc → Option Bool) (hF13 : ∀ (r : Bool) (a0 : Rc) (a1 : Rc), F13 a0 a1 = some r → limP E 13 [.agg (Rc.cells a0), .agg (Rc.cells a1)] = some [.bool r]) (rF13 : E.raw 13 = false) (H : Has E 13 c13)  (a0 : Rc) (b1 : Rc) (r : Bool) (hB : B13 F13 a0 b1 = some r) : limP E 13 [.agg (Rc.cells a0), .agg (Rc.cells b1)] = some [.bool r] := by
  have hO : Own [] [] := Own.nil
  refine Has.startD H rfl ?_; unfold B13 at hB
  refine X.box ((([.pv (.int .i64 a0.kind), .pv (.str a0.bits)] : List V) ++ (((bits256 a0.set).map V.pv) ++ ([.pv (.sl (List.map tRc.enc a0.l))] : List V)))) hO rfl rfl (big_cells rfl rfl) (big_all rfl rfl) ?_
  clear hO; intro id1 h hO
  refine X.box ((([.pv (.int .i64 b1.kind), .pv (.str b1.bits)] : List V) ++ (((bits256 b1.set).map V.pv) ++ ([.pv (.sl (List.map tRc.enc b1.l))] : List V)))) hO rfl rfl (big_cells rfl rfl) (big_all rfl rfl) ?_
  clear hO; intro id2 h hO
  refine X.pure (.pv (.bool false)) rfl rfl ?_
  refine X.stepZ ?_
  refine X.goMid (fun st => ∃ (g : Nat → V) (h : Heap), Own h ([.blk id2 (([.pv (.int .i64 b1.kind), .pv (.str b1.bits)] : List V) ++ (((bits256 b1.set).map V.pv) ++ ([.pv (.sl (List.map tRc.enc b1.l))] : List V))), .blk id1 (([.pv (.int .i64 a0.kind), .pv (.str a0.bits)] : List V) ++ (((bits256 a0.set).map V.pv) ++ ([.pv (.sl (List.map tRc.enc a0.l))] : List V)))]) ∧ st = ⟨TL 53 (upds g [(2, .ptr id1 0), (3, .ptr id2 0), (33, .pv (.bool ((a0.kind != b1.kind) || (bif (a0.bits == b1.bits) then (bif (a0.set == b1.set) then ((a0.l.length : Int) != (b1.l.length : Int)) else true) else true))))]), h⟩) ?_ ?_
  · refine X.pure (.ptr id1 0) rfl rfl ?_
    refine X.load 1 (.pv (.int .i64 a0.kind)) hO rfl rfl rfl (big_cutA rfl rfl) ?_
    refine X.pure (.ptr id2 0) rfl rfl ?_
    refine X.load 0 (.pv (.int .i64 b1.kind)) hO rfl rfl rfl (big_cutA rfl rfl) ?_
    refine X.pure (.pv (.bool (a0.kind != b1.kind))) rfl rfl ?_
    refine X.pure (.pv (.bool (a0.kind != b1.kind))) rfl rfl ?_
    revert hO
    generalize (a0.kind != b1.kind) = c3
    cases c3 with
    | true =>
      intro hO
      refine X.no rfl rfl ?_
      refine X.no rfl rfl ?_
      refine X.no rfl rfl ?_
      refine X.no rfl rfl ?_
      refine X.no rfl rfl ?_
      refine X.pure (.pv (.bool true)) rfl rfl ?_
      refine X.pure (.pv (.bool true)) rfl rfl ?_
      refine X.no rfl rfl ?_
      refine X.no rfl rfl ?_
      refine X.no rfl rfl ?_
      refine X.no rfl rfl ?_
      refine X.no rfl rfl ?_
      refine X.pure (.pv (.bool true)) rfl rfl ?_
      refine X.pure (.pv (.bool true)) rfl rfl ?_
      refine X.no rfl rfl ?_
      refine X.no rfl rfl ?_
      refine X.no rfl rfl ?_
      refine X.no rfl rfl ?_
      refine X.no rfl rfl ?_
      refine X.no rfl rfl ?_
      refine X.no rfl rfl ?_
      refine X.pure (.pv (.bool true)) rfl rfl ?_
      refine X.stepZ ?_
      exact X.skipL ⟨_, _, hO, st_keep _ ⟨rfl, rfl, rfl, trivial⟩⟩
    | false =>
      intro hO
      refine X.yes rfl rfl ?_
      refine X.pure (.ptr id1 1) rfl rfl ?_
      refine X.yes rfl rfl ?_
      refine X.load 1 (.pv (.str a0.bits)) hO rfl rfl rfl (big_cutA rfl rfl) ?_
      refine X.yes rfl rfl ?_
      refine X.pure (.ptr id2 1) rfl rfl ?_
      refine X.yes rfl rfl ?_
      refine X.load 0 (.pv (.str b1.bits)) hO rfl rfl rfl (big_cutA rfl rfl) ?_
      refine X.yes rfl rfl ?_
      refine X.pure (.pv (.bool (!(a0.bits == b1.bits)))) rfl rfl ?_
      refine X.pure (.pv (.bool (!(a0.bits == b1.bits)))) rfl rfl ?_
      refine X.pure (.pv (.bool (!(a0.bits == b1.bits)))) rfl rfl ?_
      revert hO
      generalize (a0.bits == b1.bits) = c4
      cases c4 with
      | true =>
        intro hO
        refine X.yes rfl rfl ?_
        refine X.pure (.ptr id1 2) rfl rfl ?_
        refine X.yes rfl rfl ?_
        refine X.load 1 (.pv (.agg (bits256 a0.set))) hO rfl rfl rfl (big_cutB rfl) ?_
        refine X.yes rfl rfl ?_
        refine X.pure (.ptr id2 2) rfl rfl ?_
        refine X.yes rfl rfl ?_
        refine X.load 0 (.pv (.agg (bits256 b1.set))) hO rfl rfl rfl (big_cutB rfl) ?_
        refine X.yes rfl rfl ?_
        refine X.pure (.pv (.bool (!(a0.set == b1.set)))) rfl (eq256_neq _ _) ?_
        refine X.pure (.pv (.bool (!(a0.set == b1.set)))) rfl rfl ?_
        refine X.pure (.pv (.bool (!(a0.set == b1.set)))) rfl rfl ?_
        revert hO
        generalize (a0.set == b1.set) = c5
        cases c5 with
        | true =>
          intro hO
          refine X.yes rfl rfl ?_
          refine X.pure (.ptr id1 258) rfl rfl ?_
          refine X.yes rfl rfl ?_
          refine X.load 1 (.pv (.sl (List.map tRc.enc a0.l))) hO rfl rfl rfl (big_cutC (k := 0) rfl rfl) ?_
          refine X.yes rfl rfl ?_
          refine X.len (l := a0.l) (g := tRc.enc) rfl rfl SlP.pv ?_
          refine X.yes rfl rfl ?_
          refine X.pure (.ptr id2 258) rfl rfl ?_
          refine X.yes rfl rfl ?_
          refine X.load 0 (.pv (.sl (List.map tRc.enc b1.l))) hO rfl rfl rfl (big_cutC (k := 0) rfl rfl) ?_
          refine X.yes rfl rfl ?_
          refine X.len (l := b1.l) (g := tRc.enc) rfl rfl SlP.pv ?_
          refine X.yes rfl rfl ?_
          refine X.pure (.pv (.bool ((a0.l.length : Int) != (b1.l.length : Int)))) rfl rfl ?_
          refine X.pure (.pv (.bool ((a0.l.length : Int) != (b1.l.length : Int)))) rfl rfl ?_
          refine X.stepZ ?_
          exact X.skipL ⟨_, _, hO, st_keep _ ⟨rfl, rfl, rfl, trivial⟩⟩
        | false =>
          intro hO
          refine X.no rfl rfl ?_
          refine X.no rfl rfl ?_
          refine X.no rfl rfl ?_
          refine X.no rfl rfl ?_
          refine X.no rfl rfl ?_
          refine X.no rfl rfl ?_
          refine X.no rfl rfl ?_
          refine X.pure (.pv (.bool true)) rfl rfl ?_
          refine X.stepZ ?_
          exact X.skipL ⟨_, _, hO, st_keep _ ⟨rfl, rfl, rfl, trivial⟩⟩
      | false =>
        intro hO
        refine X.no rfl rfl ?_
        refine X.no rfl rfl ?_
        refine X.no rfl rfl ?_
        refine X.no rfl rfl ?_
        refine X.no rfl rfl ?_
        refine X.pure (.pv (.bool true)) rfl rfl ?_
        refine X.pure (.pv (.bool true)) rfl rfl ?_
        refine X.no rfl rfl ?_
        refine X.no rfl rfl ?_
        refine X.no rfl rfl ?_
        refine X.no rfl rfl ?_
        refine X.no rfl rfl ?_
        refine X.no rfl rfl ?_
        refine X.no rfl rfl ?_
        refine X.pure (.pv (.bool true)) rfl rfl ?_
        refine X.stepZ ?_
        exact X.skipL ⟨_, _, hO, st_keep _ ⟨rfl, rfl, rfl, trivial⟩⟩
  · rintro st ⟨g, h, hO, rfl⟩
    revert hB
    revert hO
    generalize ((a0.kind != b1.kind) || (bif (a0.bits == b1.bits) then (bif (a0.set == b1.set) then ((a0.l.length : Int) != (b1.l.length : Int)) else true) else true)) = c6
    cases c6 with
    | true =>
      intro hO hB
      replace hB := bT hB
      refine X.condT rfl rfl ?_
      refine X.pure (.pv (.bool false)) rfl rfl ?_
      refine X.stepZ ?_
      obtain rfl := Option.some.inj hB
      exact X.retS (Fin.leaf (us := [.pv (.bool false)]) rfl rfl (pureRes_one Wk.pv (by intro vs h; cases h)))
    | false =>
      intro hO hB
      replace hB := bF hB
      refine X.condF rfl rfl ?_
      refine X.skipS ?_
      refine X.pure (.pv (.int .i64 (0 : Int))) rfl rfl ?_
      refine X.stepZ ?_
      refine X.loopQ (s0 := (0 : Int)) (R13_0 a0 b1 id1 id2) (A13_0) hB ?_ ?_ ?_
      · exact ⟨_, _, hO, st_keep _ ⟨rfl, rfl, rfl, trivial⟩⟩
      · rintro i7 st o ⟨g, h, hO, rfl⟩ hB
        replace hB : B13_L0 F13 a0 b1 i7 = some o := hB
        unfold B13_L0 at hB
        replace hO : Own h ([.blk id2 (([.pv (.int .i64 b1.kind), .pv (.str b1.bits)] : List V) ++ (((bits256 b1.set).map V.pv) ++ ([.pv (.sl (List.map tRc.enc b1.l))] : List V))), .blk id1 (([.pv (.int .i64 a0.kind), .pv (.str a0.bits)] : List V) ++ (((bits256 a0.set).map V.pv) ++ ([.pv (.sl (List.map tRc.enc a0.l))] : List V)))]) := hO
        refine X.pure (.pv (.int .i64 i7)) rfl rfl ?_
        refine X.pure (.ptr id1 258) rfl rfl ?_
        refine X.load 1 (.pv (.sl (List.map tRc.enc a0.l))) hO rfl rfl rfl (big_cutC (k := 0) rfl rfl) ?_
        refine X.len (l := a0.l) (g := tRc.enc) rfl rfl SlP.pv ?_
        refine X.pure (.pv (.bool (decide (i7 < (a0.l.length : Int))))) rfl rfl ?_
        refine X.stepZ ?_
        revert hB
        revert hO
        generalize (decide (i7 < (a0.l.length : Int))) = c13
        cases c13 with
        | true =>
          intro hO hB
          replace hB := bT hB
          refine X.condT rfl rfl ?_
          refine X.skipS ?_
          refine X.blockS ?_
          refine X.drawS [([], []), ([1], []), ([], []), ([], []), ([], []), ([], []), ([0], []), ([], []), ([], []), ([], []), ([], []), ([], [])] (m := List.map Res.ids [.blk id2 (([.pv (.int .i64 b1.kind), .pv (.str b1.bits)] : List V) ++ (((bits256 b1.set).map V.pv) ++ ([.pv (.sl (List.map tRc.enc b1.l))] : List V))), .blk id1 (([.pv (.int .i64 a0.kind), .pv (.str a0.bits)] : List V) ++ (((bits256 a0.set).map V.pv) ++ ([.pv (.sl (List.map tRc.enc a0.l))] : List V)))]) hO.labOk rfl ?_
          refine XS.calm [] (.ptr id1 258) rfl (rfl) (lab_none rfl) rfl ?_
          refine XS.read [1] (.pv (.sl (List.map tRc.enc a0.l))) rfl rfl (load_op 1 hO rfl rfl (big_cutC (k := 0) rfl rfl)) List.mem_cons_self ?_
          refine XS.calm [] (.pv (.int .i64 i7)) rfl (rfl) (lab_none rfl) rfl ?_
          replace hB := bS hB; obtain ⟨y14, hy14, hB⟩ := hB
          refine XS.calm [] (.pv (.ip (tRc.cells y14) 0)) rfl (at_op tRc hy14 rfl SlP.pv rfl rfl) (lab_none rfl) rfl ?_
          refine XS.calm [] (.pv (.agg (Rc.cells y14))) rfl ((loadIp_op rfl (big_ip rfl rfl (big_whole rfl (mkAgg_big rfl rfl))))) (lab_none rfl) rfl ?_
          refine XS.calm [] (.ptr id2 258) rfl (rfl) (lab_none rfl) rfl ?_
          refine XS.read [0] (.pv (.sl (List.map tRc.enc b1.l))) rfl rfl (load_op 0 hO rfl rfl (big_cutC (k := 0) rfl rfl)) List.mem_cons_self ?_
          refine XS.calm [] (.pv (.int .i64 i7)) rfl (rfl) (lab_none rfl) rfl ?_
          replace hB := bS hB; obtain ⟨y15, hy15, hB⟩ := hB
          refine XS.calm [] (.pv (.ip (tRc.cells y15) 0)) rfl (at_op tRc hy15 rfl SlP.pv rfl rfl) (lab_none rfl) rfl ?_
          refine XS.calm [] (.pv (.agg (Rc.cells y15))) rfl ((loadIp_op rfl (big_ip rfl rfl (big_whole rfl (mkAgg_big rfl rfl))))) (lab_none rfl) rfl ?_
          replace hB := bS hB; obtain ⟨y16, hy16, hB⟩ := hB
          refine XS.callP [.agg (Rc.cells y14), .agg (Rc.cells y15)] _ (hF13 _ _ _ hy16) rF13 rfl rfl ?_
          refine XS.calm [] (.pv (.bool (!y16))) rfl (rfl) (lab_none rfl) rfl ?_
          refine XS.nil ?_
          revert hB
          revert hO
          generalize y16 = c17
          cases c17 with
          | true =>
            intro hO hB
            replace hB := bT hB
            refine X.condF rfl rfl ?_
            refine X.skipS ?_
            refine X.skipB ?_
            refine X.pure (.pv (.int .i64 i7)) rfl rfl ?_
            refine X.pure (.pv (.int .i64 (IntKind.i64.wrap (i7 + (1 : Int))))) rfl rfl ?_
            refine X.pure (.pv (.int .i64 (IntKind.i64.wrap (i7 + (1 : Int))))) rfl rfl ?_
            refine X.stepZ ?_
            obtain rfl := Option.some.inj hB
            exact X.nextL ⟨_, _, hO, st_keep _ ⟨rfl, rfl, rfl, trivial⟩⟩
          | false =>
            intro hO hB
            replace hB := bF hB
            refine X.condT rfl rfl ?_
            refine X.pure (.pv (.bool false)) rfl rfl ?_
            refine X.stepZ ?_
            obtain rfl := Option.some.inj hB
            refine X.retS ?_
            intro e; subst e
            exact Fin.leaf (us := [.pv (.bool false)]) rfl rfl (pureRes_one Wk.pv (by intro vs h; cases h))
        | false =>
          intro hO hB
          replace hB := bF hB
          refine X.condF rfl rfl ?_
          refine X.exitS ?_
          obtain rfl := Option.some.inj hB
          exact LP.brk' ⟨_, _, (hO.sub (.cons _ (.cons _ .slnil))), st_keep _ trivial⟩
      · rintro _ st ⟨g, h, hO, rfl⟩ hB
        replace hB : B13_K0 = some _ := hB
        unfold B13_K0 at hB
        replace hO : Own h ([]) := hO
        refine X.pure (.pv (.bool true)) rfl rfl ?_
        refine X.stepZ ?_
        obtain rfl := Option.some.inj hB
        exact X.retS (Fin.leaf (us := [.pv (.bool true)]) rfl rfl (pureRes_one Wk.pv (by intro vs h; cases h)))
noncomputable def B14 (F7 : Cd → Option Bool) (F37 : Cd → Option Cd) (x0 : Cd) : Option Cd :=
  (F7 x0).bind fun y3 =>
  bif y3 then
    ((F37 x0).bind fun y5 =>
     some y5)
  else
    (some x0)
set_option maxRecDepth 100000 in
set_option maxHeartbeats 4000000 in
theorem B14_ok {E : Env} (F7 : Cd → Option Bool) (F37 : Cd → Option Cd) (hF7 : ∀ (r : Bool) (a0 : Cd), F7 a0 = some r → limP E 7 [.agg (Cd.cells a0)] = some [.bool r]) (rF7 : E.raw 7 = false) (hF37 : ∀ (r : Cd) (a0 : Cd), F37 a0 = some r → limP E 37 [.agg (Cd.cells a0)] = some [.agg (Cd.cells r)]) (rF37 : E.raw 37 = false) (H : Has E 14 c14)  (x0 : Cd) (r : Cd) (hB : B14 F7 F37 x0 = some r) : limP E 14 [.agg (Cd.cells x0)] = some [.agg (Cd.cells r)] := by
  have hO : Own [] [] := Own.nil
  refine Has.startD H rfl ?_; unfold B14 at hB
  refine X.box ([.pv (.int .i64 x0.kind), .pv (.str x0.bits), .pv (.int .u64 x0.set.a), .pv (.int .u64 x0.set.b), .pv (.int .u64 x0.set.c), .pv (.int .u64 x0.set.d), .pv (.sl (List.map tCd.enc x0.l))]) hO rfl rfl rfl rfl ?_
  clear hO; intro id1 h hO
  refine X.new hO ?_
  clear hO; intro id2 h hO
  replace hO : Own h ([.blk id2 [.pv (.int .i64 (0 : Int)), .pv (.str []), .pv (.int .u64 (0 : Int)), .pv (.int .u64 (0 : Int)), .pv (.int .u64 (0 : Int)), .pv (.int .u64 (0 : Int)), .nils], .blk id1 [.pv (.int .i64 x0.kind), .pv (.str x0.bits), .pv (.int .u64 x0.set.a), .pv (.int .u64 x0.set.b), .pv (.int .u64 x0.set.c), .pv (.int .u64 x0.set.d), .pv (.sl (List.map tCd.enc x0.l))]]) := hO
  refine X.stepZ ?_
  refine X.load 1 (.pv (.agg (Cd.cells x0))) hO rfl rfl rfl rfl ?_
  replace hB := bS hB; obtain ⟨y3, hy3, hB⟩ := hB
  refine X.callW [.pv (.agg (Cd.cells x0))] [.agg (Cd.cells x0)] _ (hF7 _ _ hy3) rF7 rfl rfl ⟨Wk.pv, trivial⟩ ?_
  refine X.pure (.pv (.bool (!y3))) rfl rfl ?_
  refine X.stepZ ?_
  revert hB
  revert hO
  generalize y3 = c4
  cases c4 with
  | true =>
    intro hO hB
    replace hB := bT hB
    refine X.condF rfl rfl ?_
    refine X.skipS ?_
    refine X.load 1 (.pv (.agg (Cd.cells x0))) hO rfl rfl rfl rfl ?_
    replace hB := bS hB; obtain ⟨y5, hy5, hB⟩ := hB
    refine X.callW [.pv (.agg (Cd.cells x0))] [.agg (Cd.cells x0)] _ (hF37 _ _ hy5) rF37 rfl rfl ⟨Wk.pv, trivial⟩ ?_
    refine X.store 0 ([.pv (.int .i64 y5.kind), .pv (.str y5.bits), .pv (.int .u64 y5.set.a), .pv (.int .u64 y5.set.b), .pv (.int .u64 y5.set.c), .pv (.int .u64 y5.set.d), .pv (.sl (List.map tCd.enc y5.l))]) hO rfl rfl rfl rfl rfl rfl ?_
    clear hO; intro h hO
    refine X.stepZ ?_
    obtain rfl := Option.some.inj hB
    exact X.retS (Fin.leaf (us := [.pv (.agg (Cd.cells y5))]) rfl (resS_cell (load_own 0 hO rfl rfl)) (pureRes_one Wk.pv (by intro vs h; cases h)))
  | false =>
    intro hO hB
    replace hB := bF hB
    refine X.condT rfl rfl ?_
    refine X.load 1 (.pv (.agg (Cd.cells x0))) hO rfl rfl rfl rfl ?_
    refine X.store 0 ([.pv (.int .i64 x0.kind), .pv (.str x0.bits), .pv (.int .u64 x0.set.a), .pv (.int .u64 x0.set.b), .pv (.int .u64 x0.set.c), .pv (.int .u64 x0.set.d), .pv (.sl (List.map tCd.enc x0.l))]) hO rfl rfl rfl rfl rfl rfl ?_
    clear hO; intro h hO
    refine X.stepZ ?_
    obtain rfl := Option.some.inj hB
    exact X.retS (Fin.leaf (us := [.pv (.agg (Cd.cells x0))]) rfl (resS_cell (load_own 0 hO rfl rfl)) (pureRes_one Wk.pv (by intro vs h; cases h)))
noncomputable def B15 (F38 : Rc → Option Bool) (F39 : Rc → Option Rc) (x0 : Rc) : Option Rc :=
  (F38 x0).bind fun y3 =>
  bif y3 then
    ((F39 x0).bind fun y5 =>
     some y5)
  else
    (some x0)
set_option maxRecDepth 100000 in
set_option maxHeartbeats 4000000 in
theorem B15_ok {E : Env} (F38 : Rc → Option Bool) (F39 : Rc → Option Rc) (hF38 : ∀ (r : Bool) (a0 : Rc), F38 a0 = some r → limP E 38 [.agg (Rc.cells a0)] = some [.bool r]) (rF38 : E.raw 38 = false) (hF39 : ∀ (r : Rc) (a0 : Rc), F39 a0 = some r → limP E 39 [.agg (Rc.cells a0)] = some [.agg (Rc.cells r)]) (rF39 : E.raw 39 = false) (H : Has E 15 c15)  (x0 : Rc) (r : Rc) (hB : B15 F38 F39 x0 = some r) : limP E 15 [.agg (Rc.cells x0)] = some [.agg (Rc.cells r)] := by
  have hO : Own [] [] := Own.nil
  refine Has.startD H rfl ?_; unfold B15 at hB
  refine X.box ((([.pv (.int .i64 x0.kind), .pv (.str x0.bits)] : List V) ++ (((bits256 x0.set).map V.pv) ++ ([.pv (.sl (List.map tRc.enc x0.l))] : List V)))) hO rfl rfl (big_cells rfl rfl) (big_all rfl rfl) ?_
  clear hO; intro id1 h hO
  refine X.new hO ?_
  clear hO; intro id2 h hO
  replace hO : Own h ([.blk id2 (([.pv (.int .i64 (0 : Int)), .pv (.str [])] : List V) ++ (((bits256 (0#256)).map V.pv) ++ ([.nils] : List V))), .blk id1 (([.pv (.int .i64 x0.kind), .pv (.str x0.bits)] : List V) ++ (((bits256 x0.set).map V.pv) ++ ([.pv (.sl (List.map tRc.enc x0.l))] : List V)))]) := zB_app hO
  refine X.stepZ ?_
  refine X.load 1 (.pv (.agg (Rc.cells x0))) hO rfl rfl rfl (big_whole rfl (mkAgg_big rfl rfl)) ?_
  replace hB := bS hB; obtain ⟨y3, hy3, hB⟩ := hB
  refine X.callW [.pv (.agg (Rc.cells x0))] [.agg (Rc.cells x0)] _ (hF38 _ _ hy3) rF38 rfl rfl ⟨Wk.pv, trivial⟩ ?_
  refine X.pure (.pv (.bool (!y3))) rfl rfl ?_
  refine X.stepZ ?_
  revert hB
  revert hO
  generalize y3 = c4
  cases c4 with
  | true =>
    intro hO hB
    replace hB := bT hB
    refine X.condF rfl rfl ?_
    refine X.skipS ?_
    refine X.load 1 (.pv (.agg (Rc.cells x0))) hO rfl rfl rfl (big_whole rfl (mkAgg_big rfl rfl)) ?_
    replace hB := bS hB; obtain ⟨y5, hy5, hB⟩ := hB
    refine X.callW [.pv (.agg (Rc.cells x0))] [.agg (Rc.cells x0)] _ (hF39 _ _ hy5) rF39 rfl rfl ⟨Wk.pv, trivial⟩ ?_
    refine X.store 0 ((([.pv (.int .i64 y5.kind), .pv (.str y5.bits)] : List V) ++ (((bits256 y5.set).map V.pv) ++ ([.pv (.sl (List.map tRc.enc y5.l))] : List V)))) hO rfl rfl rfl rfl (storeV_all (big_cells rfl rfl) (big_len.trans rfl) (big_len.trans rfl) (big_all rfl rfl)) rfl ?_
    clear hO; intro h hO
    refine X.stepZ ?_
    obtain rfl := Option.some.inj hB
    exact X.retS (Fin.leaf (us := [.pv (.agg (Rc.cells y5))]) rfl (resS_cell (load_own 0 hO rfl (big_whole rfl (mkAgg_big rfl rfl)))) (pureRes_one Wk.pv (by intro vs h; cases h)))
  | false =>
    intro hO hB
    replace hB := bF hB
    refine X.condT rfl rfl ?_
    refine X.load 1 (.pv (.agg (Rc.cells x0))) hO rfl rfl rfl (big_whole rfl (mkAgg_big rfl rfl)) ?_
    refine X.store 0 ((([.pv (.int .i64 x0.kind), .pv (.str x0.bits)] : List V) ++ (((bits256 x0.set).map V.pv) ++ ([.pv (.sl (List.map tRc.enc x0.l))] : List V)))) hO rfl rfl rfl rfl (storeV_all (big_cells rfl rfl) (big_len.trans rfl) (big_len.trans rfl) (big_all rfl rfl)) rfl ?_
    clear hO; intro h hO
    refine X.stepZ ?_
    obtain rfl := Option.some.inj hB
    exact X.retS (Fin.leaf (us := [.pv (.agg (Rc.cells x0))]) rfl (resS_cell (load_own 0 hO rfl (big_whole rfl (mkAgg_big rfl rfl)))) (pureRes_one Wk.pv (by intro vs h; cases h)))
noncomputable def B28_L0 (F28 : Cd → Option Int) (x0 : Cd) (n2 : Int) (t93 : Int) : Option (Lp (Int × Int) Int Int) :=
  bif (decide (t93 < (x0.l.length : Int))) then
    ((idx x0.l t93).bind fun y10 =>
     (F28 y10).bind fun y12 =>
     some (.next ((IntKind.i64.wrap (n2 + y12)), (IntKind.i64.wrap (t93 + (1 : Int))))))
  else
    (some (.brk n2))
noncomputable def B28_K0 (n8 : Int) : Option Int :=
  some n8
abbrev R28_0 (x0 : Cd) : (Int × Int) → St → Prop := fun s st => ∃ (g : Nat → V) (h : Heap), Own h ([]) ∧ st = ⟨TL 19 (upds g [(3, .pv (.int .i64 s.1)), (7, .pv (.sl (List.map tCd.enc x0.l))), (8, .pv (.int .i64 (x0.l.length : Int))), (9, .pv (.int .i64 s.2))]), h⟩
abbrev A28_0 : Int → St → Prop := fun s st => ∃ (g : Nat → V) (h : Heap), Own h ([]) ∧ st = ⟨TL 19 (upds g [(3, .pv (.int .i64 s))]), h⟩
noncomputable def B28 (F28 : Cd → Option Int) (x0 : Cd) : Option Int :=
  loopK (fun (s : (Int × Int)) => B28_L0 F28 x0 s.1 s.2) ((1 : Int), (0 : Int)) (fun (t : Int) => B28_K0 t)
set_option maxRecDepth 100000 in
set_option maxHeartbeats 4000000 in
theorem B28_ok {E : Env} (F28 : Cd → Option Int) (hF28 : ∀ (r : Int) (a0 : Cd), F28 a0 = some r → limP E 28 [.agg (Cd.cells a0)] = some [.int .i64 r]) (rF28 : E.raw 28 = false) (H : Has E 28 c28)  (x0 : Cd) (r : Int) (hB : B28 F28 x0 = some r) : limP E 28 [.agg (Cd.cells x0)] = some [.int .i64 r] := by
  have hO : Own [] [] := Own.nil
  refine Has.startD H rfl ?_; unfold B28 at hB
  refine X.box ([.pv (.int .i64 x0.kind), .pv (.str x0.bits), .pv (.int .u64 x0.set.a), .pv (.int .u64 x0.set.b), .pv (.int .u64 x0.set.c), .pv (.int .u64 x0.set.d), .pv (.sl (List.map tCd.enc x0.l))]) hO rfl rfl rfl rfl ?_
  clear hO; intro id1 h hO
  refine X.pure (.pv (.int .i64 (0 : Int))) rfl rfl ?_
  refine X.stepZ ?_
  refine X.pure (.pv (.int .i64 (1 : Int))) rfl rfl ?_
  refine X.stepZ ?_
  refine X.pure (.ptr id1 6) rfl rfl ?_
  refine X.load 0 (.pv (.sl (List.map tCd.enc x0.l))) hO rfl rfl rfl rfl ?_
  refine X.len (l := x0.l) (g := tCd.enc) rfl rfl SlP.pv ?_
  refine X.pure (.pv (.int .i64 (0 : Int))) rfl rfl ?_
  refine X.stepZ ?_
  refine X.loopQ (s0 := ((1 : Int), (0 : Int))) (R28_0 x0) (A28_0) hB ?_ ?_ ?_
  · exact ⟨_, _, (hO.sub (.cons _ .slnil)), st_keep _ ⟨rfl, rfl, rfl, rfl, trivial⟩⟩
  · rintro ⟨n2, t93⟩ st o ⟨g, h, hO, rfl⟩ hB
    replace hB : B28_L0 F28 x0 n2 t93 = some o := hB
    unfold B28_L0 at hB
    replace hO : Own h ([]) := hO
    refine X.pure (.pv (.bool (decide (t93 < (x0.l.length : Int))))) rfl rfl ?_
    refine X.stepZ ?_
    revert hB
    revert hO
    generalize (decide (t93 < (x0.l.length : Int))) = c9
    cases c9 with
    | true =>
      intro hO hB
      replace hB := bT hB
      refine X.condT rfl rfl ?_
      refine X.skipS ?_
      refine X.blockS ?_
      replace hB := bS hB; obtain ⟨y10, hy10, hB⟩ := hB
      refine X.at tCd hy10 rfl rfl SlP.pv rfl rfl ?_
      refine X.pure (.pv (.agg (Cd.cells y10))) rfl rfl ?_
      refine X.new hO ?_
      clear hO; intro id11 h hO
      replace hO : Own h ([.blk id11 [.pv (.int .i64 (0 : Int)), .pv (.str []), .pv (.int .u64 (0 : Int)), .pv (.int .u64 (0 : Int)), .pv (.int .u64 (0 : Int)), .pv (.int .u64 (0 : Int)), .nils]]) := hO
      refine X.store 0 ([.pv (.int .i64 y10.kind), .pv (.str y10.bits), .pv (.int .u64 y10.set.a), .pv (.int .u64 y10.set.b), .pv (.int .u64 y10.set.c), .pv (.int .u64 y10.set.d), .pv (.sl (List.map tCd.enc y10.l))]) hO rfl rfl rfl rfl rfl rfl ?_
      clear hO; intro h hO
      refine X.stepZ ?_
      refine X.pure (.pv (.int .i64 n2)) rfl rfl ?_
      refine X.load 0 (.pv (.agg (Cd.cells y10))) hO rfl rfl rfl rfl ?_
      replace hB := bS hB; obtain ⟨y12, hy12, hB⟩ := hB
      refine X.callW [.pv (.agg (Cd.cells y10))] [.agg (Cd.cells y10)] _ (hF28 _ _ hy12) rF28 rfl rfl ⟨Wk.pv, trivial⟩ ?_
      refine X.pure (.pv (.int .i64 (IntKind.i64.wrap (n2 + y12)))) rfl rfl ?_
      refine X.pure (.pv (.int .i64 (IntKind.i64.wrap (n2 + y12)))) rfl rfl ?_
      refine X.stepZ ?_
      refine X.skipB ?_
      refine X.pure (.pv (.int .i64 (IntKind.i64.wrap (t93 + (1 : Int))))) rfl rfl ?_
      refine X.pure (.pv (.int .i64 (IntKind.i64.wrap (t93 + (1 : Int))))) rfl rfl ?_
      refine X.stepZ ?_
      obtain rfl := Option.some.inj hB
      exact X.nextL ⟨_, _, (hO.sub (.cons _ .slnil)), st_keep _ ⟨rfl, rfl, rfl, rfl, trivial⟩⟩
    | false =>
      intro hO hB
      replace hB := bF hB
      refine X.condF rfl rfl ?_
      refine X.exitS ?_
      obtain rfl := Option.some.inj hB
      exact LP.brk' ⟨_, _, hO, st_keep _ ⟨rfl, trivial⟩⟩
  · rintro n8 st ⟨g, h, hO, rfl⟩ hB
    replace hB : B28_K0 n8 = some _ := hB
    unfold B28_K0 at hB
    replace hO : Own h ([]) := hO
    refine X.pure (.pv (.int .i64 n8)) rfl rfl ?_
    refine X.pure (.pv (.int .i64 n8)) rfl rfl ?_
    refine X.stepZ ?_
    obtain rfl := Option.some.inj hB
    exact X.retS (Fin.leaf (us := [.pv (.int .i64 n8)]) rfl rfl (pureRes_one Wk.pv (by intro vs h; cases h)))
noncomputable def B29 (F33 : (List Cd) → (Cd → Option Bool) → Option Bool) (F53 : List UInt8 → List UInt8 → Option (List UInt8)) (F54 : Cd → Int → Option Bool) (x0 : Cd) (deep1 : Int) : Option Bool :=
  (bif (decide (deep1 < (1 : Int))) then
    (some true)
  else
    ((F53 x0.bits [48, 49]).bind fun y5 =>
     bif (y5 == []) then
       (bif (x0.kind != (2 : Int)) then
          (some (!((x0.set.a == (0 : Int)) && ((x0.set.b == (0 : Int)) && ((x0.set.c == (0 : Int)) && ((x0.set.d == (0 : Int)) && true))))))
        else
          (some false))
     else
       (some true))).bind fun c3 =>
  bif c3 then
    (some false)
  else
    (bif (x0.kind == (0 : Int)) then
       (bif (x0.bits == []) then
          (bif ((x0.l.length : Int) == (0 : Int)) then
             ((F33 x0.l (fun a0 => F54 a0 deep1)).bind fun y13 =>
              some (!y13))
           else
             (some false))
        else
          (some false))
     else
       (bif (x0.kind == (1 : Int)) then
          (bif ((x0.l.length : Int) == (0 : Int)) then
             ((F33 x0.l (fun a0 => F54 a0 deep1)).bind fun y17 =>
              some (!y17))
           else
             (some false))
        else
          (bif (x0.kind == (2 : Int)) then
             (bif ((x0.l.length : Int) == (0 : Int)) then
                ((F33 x0.l (fun a0 => F54 a0 deep1)).bind fun y21 =>
                 some (!y21))
              else
                (some false))
           else
             (bif (x0.kind == (3 : Int)) then
                (bif ((x0.l.length : Int) == (2 : Int)) then
                   ((F33 x0.l (fun a0 => F54 a0 deep1)).bind fun y25 =>
                    some (!y25))
                 else
                   (some false))
              else
                (bif (x0.kind == (4 : Int)) then
                   (bif ((x0.l.length : Int) == (x0.l.length : Int)) then
                      ((F33 x0.l (fun a0 => F54 a0 deep1)).bind fun y29 =>
                       some (!y29))
                    else
                      (some false))
                 else
                   (bif (x0.kind == (5 : Int)) then
                      (bif ((x0.l.length : Int) == (1 : Int)) then
                         ((F33 x0.l (fun a0 => F54 a0 deep1)).bind fun y33 =>
                          some (!y33))
                       else
                         (some false))
                    else
                      (some false)))))))
set_option maxRecDepth 100000 in
set_option maxHeartbeats 4000000 in
theorem B29_ok {E : Env} (F33 : (List Cd) → (Cd → Option Bool) → Option Bool) (F53 : List UInt8 → List UInt8 → Option (List UInt8)) (F54 : Cd → Int → Option Bool) (hF33 : ∀ (r : Bool) (a0 : (List Cd)) (φ : (Cd → Option Bool)) (g : FuncId) (cs : List PV), (∀ (b0 : Cd) (q : Bool), φ b0 = some q → limP E g ([.agg (Cd.cells b0)] ++ cs) = some [.bool q]) → E.raw g = false → F33 a0 φ = some r → limP E 33 [.sl (List.map tCd.enc a0), .fn g cs] = some [.bool r]) (rF33 : E.raw 33 = false) (hF53 : ∀ (r : (List UInt8)) (a0 : List UInt8) (a1 : List UInt8), F53 a0 a1 = some r → limP E 53 [.str a0, .str a1] = some [.str r]) (rF53 : E.raw 53 = false) (hF54 : ∀ (r : Bool) (a0 : Cd) (c : Int), F54 a0 c = some r → limP E 54 [.agg (Cd.cells a0), .ip [.int .i64 c] 0] = some [.bool r]) (rF54 : E.raw 54 = false) (H : Has E 29 c29)  (x0 : Cd) (deep1 : Int) (r : Bool) (hB : B29 F33 F53 F54 x0 deep1 = some r) : limP E 29 [.agg (Cd.cells x0), .int .i64 deep1] = some [.bool r] := by
  have hO : Own [] [] := Own.nil
  refine Has.startD H rfl ?_; unfold B29 at hB
  refine X.box ([.pv (.int .i64 x0.kind), .pv (.str x0.bits), .pv (.int .u64 x0.set.a), .pv (.int .u64 x0.set.b), .pv (.int .u64 x0.set.c), .pv (.int .u64 x0.set.d), .pv (.sl (List.map tCd.enc x0.l))]) hO rfl rfl rfl rfl ?_
  clear hO; intro id1 h hO
  refine X.box ([.pv (.int .i64 deep1)]) hO rfl rfl rfl rfl ?_
  clear hO; intro id2 h hO
  refine X.pure (.pv (.bool false)) rfl rfl ?_
  refine X.stepZ ?_
  replace hB := bS hB; obtain ⟨c3, hmid, hB⟩ := hB
  refine X.goMid (fun st => ∃ (g : Nat → V) (h : Heap), Own h ([.blk id2 [.pv (.int .i64 deep1)], .blk id1 [.pv (.int .i64 x0.kind), .pv (.str x0.bits), .pv (.int .u64 x0.set.a), .pv (.int .u64 x0.set.b), .pv (.int .u64 x0.set.c), .pv (.int .u64 x0.set.d), .pv (.sl (List.map tCd.enc x0.l))]]) ∧ st = ⟨TL 56 (upds g [(2, .ptr id1 0), (3, .ptr id2 0), (24, .pv (.bool c3))]), h⟩) ?_ ?_
  · replace hB := hmid
    refine X.load 0 (.pv (.int .i64 deep1)) hO rfl rfl rfl rfl ?_
    refine X.pure (.pv (.bool (decide (deep1 < (1 : Int))))) rfl rfl ?_
    refine X.pure (.pv (.bool (decide (deep1 < (1 : Int))))) rfl rfl ?_
    revert hB
    revert hO
    generalize (decide (deep1 < (1 : Int))) = c4
    cases c4 with
    | true =>
      intro hO hB
      replace hB := bT hB
      refine X.no rfl rfl ?_
      refine X.no rfl rfl ?_
      refine X.no rfl rfl ?_
      refine X.no rfl rfl ?_
      refine X.pure (.pv (.bool true)) rfl rfl ?_
      refine X.pure (.pv (.bool true)) rfl rfl ?_
      refine X.no rfl rfl ?_
      refine X.no rfl rfl ?_
      refine X.no rfl rfl ?_
      refine X.no rfl rfl ?_
      refine X.void rfl rfl ?_
      refine X.void rfl rfl ?_
      refine X.void rfl rfl ?_
      refine X.void rfl rfl ?_
      refine X.no rfl rfl ?_
      refine X.pure (.pv (.bool true)) rfl rfl ?_
      refine X.stepZ ?_
      obtain rfl := Option.some.inj hB
      exact X.skipL ⟨_, _, hO, st_keep _ ⟨rfl, rfl, rfl, trivial⟩⟩
    | false =>
      intro hO hB
      replace hB := bF hB
      refine X.yes rfl rfl ?_
      refine X.pure (.ptr id1 1) rfl rfl ?_
      refine X.yes rfl rfl ?_
      refine X.load 1 (.pv (.str x0.bits)) hO rfl rfl rfl rfl ?_
      refine X.yes rfl rfl ?_
      replace hB := bS hB; obtain ⟨y5, hy5, hB⟩ := hB
      refine X.callW [.pv (.str x0.bits), .pv (.str [48, 49])] [.str x0.bits, .str [48, 49]] _ (hF53 _ _ _ hy5) rF53 rfl rfl ⟨Wk.pv, Wk.pv, trivial⟩ ?_
      refine X.yes rfl rfl ?_
      refine X.pure (.pv (.bool (!(y5 == [])))) rfl rfl ?_
      refine X.pure (.pv (.bool (!(y5 == [])))) rfl rfl ?_
      refine X.pure (.pv (.bool (!(y5 == [])))) rfl rfl ?_
      revert hB
      revert hO
      generalize (y5 == []) = c6
      cases c6 with
      | true =>
        intro hO hB
        replace hB := bT hB
        refine X.yes rfl rfl ?_
        refine X.pure (.ptr id1 0) rfl rfl ?_
        refine X.yes rfl rfl ?_
        refine X.load 1 (.pv (.int .i64 x0.kind)) hO rfl rfl rfl rfl ?_
        refine X.yes rfl rfl ?_
        refine X.pure (.pv (.bool (x0.kind != (2 : Int)))) rfl rfl ?_
        refine X.yes rfl rfl ?_
        refine X.pure (.pv (.bool (x0.kind != (2 : Int)))) rfl rfl ?_
        revert hB
        revert hO
        generalize (x0.kind != (2 : Int)) = c7
        cases c7 with
        | true =>
          intro hO hB
          replace hB := bT hB
          refine X.yes rfl rfl ?_
          refine X.pure (.ptr id1 2) rfl rfl ?_
          refine X.yes rfl rfl ?_
          refine X.load 1 (.pv (.agg (W4.cells x0.set))) hO rfl rfl rfl rfl ?_
          refine X.yes rfl rfl ?_
          refine X.pure (.pv (.agg [.int .u64 (0 : Int), .int .u64 (0 : Int), .int .u64 (0 : Int), .int .u64 (0 : Int)])) rfl rfl ?_
          refine X.yes rfl rfl ?_
          refine X.pure (.pv (.bool (!((x0.set.a == (0 : Int)) && ((x0.set.b == (0 : Int)) && ((x0.set.c == (0 : Int)) && ((x0.set.d == (0 : Int)) && true))))))) rfl rfl ?_
          refine X.yes rfl rfl ?_
          refine X.pure (.pv (.bool (!((x0.set.a == (0 : Int)) && ((x0.set.b == (0 : Int)) && ((x0.set.c == (0 : Int)) && ((x0.set.d == (0 : Int)) && true))))))) rfl rfl ?_
          refine X.pure (.pv (.bool (!((x0.set.a == (0 : Int)) && ((x0.set.b == (0 : Int)) && ((x0.set.c == (0 : Int)) && ((x0.set.d == (0 : Int)) && true))))))) rfl rfl ?_
          refine X.stepZ ?_
          obtain rfl := Option.some.inj hB
          exact X.skipL ⟨_, _, hO, st_keep _ ⟨rfl, rfl, rfl, trivial⟩⟩
        | false =>
          intro hO hB
          replace hB := bF hB
          refine X.no rfl rfl ?_
          refine X.no rfl rfl ?_
          refine X.no rfl rfl ?_
          refine X.no rfl rfl ?_
          refine X.yes rfl rfl ?_
          refine X.pure (.pv (.bool false)) rfl rfl ?_
          refine X.pure (.pv (.bool false)) rfl rfl ?_
          refine X.stepZ ?_
          obtain rfl := Option.some.inj hB
          exact X.skipL ⟨_, _, hO, st_keep _ ⟨rfl, rfl, rfl, trivial⟩⟩
      | false =>
        intro hO hB
        replace hB := bF hB
        refine X.no rfl rfl ?_
        refine X.no rfl rfl ?_
        refine X.no rfl rfl ?_
        refine X.no rfl rfl ?_
        refine X.void rfl rfl ?_
        refine X.void rfl rfl ?_
        refine X.void rfl rfl ?_
        refine X.void rfl rfl ?_
        refine X.no rfl rfl ?_
        refine X.pure (.pv (.bool true)) rfl rfl ?_
        refine X.stepZ ?_
        obtain rfl := Option.some.inj hB
        exact X.skipL ⟨_, _, hO, st_keep _ ⟨rfl, rfl, rfl, trivial⟩⟩
  · rintro st ⟨g, h, hO, rfl⟩
    revert hB
    revert hO
    generalize c3 = c8
    cases c8 with
    | true =>
      intro hO hB
      replace hB := bT hB
      refine X.condT rfl rfl ?_
      refine X.pure (.pv (.bool false)) rfl rfl ?_
      refine X.stepZ ?_
      obtain rfl := Option.some.inj hB
      exact X.retS (Fin.leaf (us := [.pv (.bool false)]) rfl rfl (pureRes_one Wk.pv (by intro vs h; cases h)))
    | false =>
      intro hO hB
      replace hB := bF hB
      refine X.condF rfl rfl ?_
      refine X.skipS ?_
      refine X.pure (.pv (.int .i64 (0 : Int))) rfl rfl ?_
      refine X.stepZ ?_
      refine X.pure (.ptr id1 0) rfl rfl ?_
      refine X.load 1 (.pv (.int .i64 x0.kind)) hO rfl rfl rfl rfl ?_
      refine X.stepZ ?_
      refine X.blockS ?_
      refine X.pure (.pv (.bool (x0.kind == (0 : Int)))) rfl rfl ?_
      refine X.pure (.pv (.bool (x0.kind == (0 : Int)))) rfl rfl ?_
      refine X.stepZ ?_
      revert hB
      revert hO
      generalize (x0.kind == (0 : Int)) = c9
      cases c9 with
      | true =>
        intro hO hB
        replace hB := bT hB
        refine X.condT rfl rfl ?_
        refine X.pure (.ptr id1 1) rfl rfl ?_
        refine X.load 1 (.pv (.str x0.bits)) hO rfl rfl rfl rfl ?_
        refine X.pure (.pv (.bool (!(x0.bits == [])))) rfl rfl ?_
        refine X.stepZ ?_
        revert hB
        revert hO
        generalize (x0.bits == []) = c10
        cases c10 with
        | true =>
          intro hO hB
          replace hB := bT hB
          refine X.condF rfl rfl ?_
          refine X.skipS ?_
          refine X.skipB ?_
          refine X.pure (.ptr id1 6) rfl rfl ?_
          refine X.load 1 (.pv (.sl (List.map tCd.enc x0.l))) hO rfl rfl rfl rfl ?_
          refine X.len (l := x0.l) (g := tCd.enc) rfl rfl SlP.pv ?_
          refine X.pure (.pv (.int .i64 (0 : Int))) rfl rfl ?_
          refine X.pure (.pv (.bool ((x0.l.length : Int) == (0 : Int)))) rfl rfl ?_
          refine X.pure (.pv (.bool ((x0.l.length : Int) == (0 : Int)))) rfl rfl ?_
          revert hB
          revert hO
          generalize ((x0.l.length : Int) == (0 : Int)) = c11
          cases c11 with
          | true =>
            intro hO hB
            replace hB := bT hB
            refine X.yes rfl rfl ?_
            refine X.pure (.ptr id1 6) rfl rfl ?_
            refine X.yes rfl rfl ?_
            refine X.load 1 (.pv (.sl (List.map tCd.enc x0.l))) hO rfl rfl rfl rfl ?_
            refine X.yes rfl rfl ?_
            refine X.pure (.fn 54 [.ptr id2 0]) rfl rfl ?_
            refine X.yes rfl rfl ?_
            replace hB := bS hB; obtain ⟨y13, hy13, hB⟩ := hB
            refine X.callF (ps := [.int .i64 deep1]) (p1 := .sl (List.map tCd.enc x0.l)) 0 hO rfl (hF33 _ _ _ _ _ (fun a0 q hq => hF54 _ _ _ hq) rF54 hy13) rF33 rfl rfl Wk.pv rfl ?_
            clear hO; intro h hO
            refine X.yes rfl rfl ?_
            refine X.pure (.pv (.bool (!y13))) rfl rfl ?_
            refine X.pure (.pv (.bool (!y13))) rfl rfl ?_
            refine X.pure (.pv (.bool (!y13))) rfl rfl ?_
            refine X.stepZ ?_
            obtain rfl := Option.some.inj hB
            exact X.retS (Fin.leaf (us := [.pv (.bool (!y13))]) rfl rfl (pureRes_one Wk.pv (by intro vs h; cases h)))
          | false =>
            intro hO hB
            replace hB := bF hB
            refine X.no rfl rfl ?_
            refine X.no rfl rfl ?_
            refine X.no rfl rfl ?_
            refine X.no rfl rfl ?_
            refine X.no rfl rfl ?_
            refine X.pure (.pv (.bool false)) rfl rfl ?_
            refine X.pure (.pv (.bool false)) rfl rfl ?_
            refine X.stepZ ?_
            obtain rfl := Option.some.inj hB
            exact X.retS (Fin.leaf (us := [.pv (.bool false)]) rfl rfl (pureRes_one Wk.pv (by intro vs h; cases h)))
        | false =>
          intro hO hB
          replace hB := bF hB
          refine X.condT rfl rfl ?_
          refine X.pure (.pv (.bool false)) rfl rfl ?_
          refine X.stepZ ?_
          obtain rfl := Option.some.inj hB
          exact X.retS (Fin.leaf (us := [.pv (.bool false)]) rfl rfl (pureRes_one Wk.pv (by intro vs h; cases h)))
      | false =>
        intro hO hB
        replace hB := bF hB
        refine X.condF rfl rfl ?_
        refine X.pure (.pv (.bool (x0.kind == (1 : Int)))) rfl rfl ?_
        refine X.pure (.pv (.bool (x0.kind == (1 : Int)))) rfl rfl ?_
        refine X.stepZ ?_
        revert hB
        revert hO
        generalize (x0.kind == (1 : Int)) = c14
        cases c14 with
        | true =>
          intro hO hB
          replace hB := bT hB
          refine X.condT rfl rfl ?_
          refine X.skipS ?_
          refine X.condT rfl rfl ?_
          refine X.skipS ?_
          refine X.skipB ?_
          refine X.pure (.ptr id1 6) rfl rfl ?_
          refine X.load 1 (.pv (.sl (List.map tCd.enc x0.l))) hO rfl rfl rfl rfl ?_
          refine X.len (l := x0.l) (g := tCd.enc) rfl rfl SlP.pv ?_
          refine X.pure (.pv (.int .i64 (0 : Int))) rfl rfl ?_
          refine X.pure (.pv (.bool ((x0.l.length : Int) == (0 : Int)))) rfl rfl ?_
          refine X.pure (.pv (.bool ((x0.l.length : Int) == (0 : Int)))) rfl rfl ?_
          revert hB
          revert hO
          generalize ((x0.l.length : Int) == (0 : Int)) = c15
          cases c15 with
          | true =>
            intro hO hB
            replace hB := bT hB
            refine X.yes rfl rfl ?_
            refine X.pure (.ptr id1 6) rfl rfl ?_
            refine X.yes rfl rfl ?_
            refine X.load 1 (.pv (.sl (List.map tCd.enc x0.l))) hO rfl rfl rfl rfl ?_
            refine X.yes rfl rfl ?_
            refine X.pure (.fn 54 [.ptr id2 0]) rfl rfl ?_
            refine X.yes rfl rfl ?_
            replace hB := bS hB; obtain ⟨y17, hy17, hB⟩ := hB
            refine X.callF (ps := [.int .i64 deep1]) (p1 := .sl (List.map tCd.enc x0.l)) 0 hO rfl (hF33 _ _ _ _ _ (fun a0 q hq => hF54 _ _ _ hq) rF54 hy17) rF33 rfl rfl Wk.pv rfl ?_
            clear hO; intro h hO
            refine X.yes rfl rfl ?_
            refine X.pure (.pv (.bool (!y17))) rfl rfl ?_
            refine X.pure (.pv (.bool (!y17))) rfl rfl ?_
            refine X.pure (.pv (.bool (!y17))) rfl rfl ?_
            refine X.stepZ ?_
            obtain rfl := Option.some.inj hB
            exact X.retS (Fin.leaf (us := [.pv (.bool (!y17))]) rfl rfl (pureRes_one Wk.pv (by intro vs h; cases h)))
          | false =>
            intro hO hB
            replace hB := bF hB
            refine X.no rfl rfl ?_
            refine X.no rfl rfl ?_
            refine X.no rfl rfl ?_
            refine X.no rfl rfl ?_
            refine X.no rfl rfl ?_
            refine X.pure (.pv (.bool false)) rfl rfl ?_
            refine X.pure (.pv (.bool false)) rfl rfl ?_
            refine X.stepZ ?_
            obtain rfl := Option.some.inj hB
            exact X.retS (Fin.leaf (us := [.pv (.bool false)]) rfl rfl (pureRes_one Wk.pv (by intro vs h; cases h)))
        | false =>
          intro hO hB
          replace hB := bF hB
          refine X.condF rfl rfl ?_
          refine X.pure (.pv (.bool (x0.kind == (2 : Int)))) rfl rfl ?_
          refine X.pure (.pv (.bool (x0.kind == (2 : Int)))) rfl rfl ?_
          refine X.stepZ ?_
          revert hB
          revert hO
          generalize (x0.kind == (2 : Int)) = c18
          cases c18 with
          | true =>
            intro hO hB
            replace hB := bT hB
            refine X.condT rfl rfl ?_
            refine X.skipS ?_
            refine X.skipB ?_
            refine X.pure (.ptr id1 6) rfl rfl ?_
            refine X.load 1 (.pv (.sl (List.map tCd.enc x0.l))) hO rfl rfl rfl rfl ?_
            refine X.len (l := x0.l) (g := tCd.enc) rfl rfl SlP.pv ?_
            refine X.pure (.pv (.int .i64 (0 : Int))) rfl rfl ?_
            refine X.pure (.pv (.bool ((x0.l.length : Int) == (0 : Int)))) rfl rfl ?_
            refine X.pure (.pv (.bool ((x0.l.length : Int) == (0 : Int)))) rfl rfl ?_
            revert hB
            revert hO
            generalize ((x0.l.length : Int) == (0 : Int)) = c19
            cases c19 with
            | true =>
              intro hO hB
              replace hB := bT hB
              refine X.yes rfl rfl ?_
              refine X.pure (.ptr id1 6) rfl rfl ?_
              refine X.yes rfl rfl ?_
              refine X.load 1 (.pv (.sl (List.map tCd.enc x0.l))) hO rfl rfl rfl rfl ?_
              refine X.yes rfl rfl ?_
              refine X.pure (.fn 54 [.ptr id2 0]) rfl rfl ?_
              refine X.yes rfl rfl ?_
              replace hB := bS hB; obtain ⟨y21, hy21, hB⟩ := hB
              refine X.callF (ps := [.int .i64 deep1]) (p1 := .sl (List.map tCd.enc x0.l)) 0 hO rfl (hF33 _ _ _ _ _ (fun a0 q hq => hF54 _ _ _ hq) rF54 hy21) rF33 rfl rfl Wk.pv rfl ?_
              clear hO; intro h hO
              refine X.yes rfl rfl ?_
              refine X.pure (.pv (.bool (!y21))) rfl rfl ?_
              refine X.pure (.pv (.bool (!y21))) rfl rfl ?_
              refine X.pure (.pv (.bool (!y21))) rfl rfl ?_
              refine X.stepZ ?_
              obtain rfl := Option.some.inj hB
              exact X.retS (Fin.leaf (us := [.pv (.bool (!y21))]) rfl rfl (pureRes_one Wk.pv (by intro vs h; cases h)))
            | false =>
              intro hO hB
              replace hB := bF hB
              refine X.no rfl rfl ?_
              refine X.no rfl rfl ?_
              refine X.no rfl rfl ?_
              refine X.no rfl rfl ?_
              refine X.no rfl rfl ?_
              refine X.pure (.pv (.bool false)) rfl rfl ?_
              refine X.pure (.pv (.bool false)) rfl rfl ?_
              refine X.stepZ ?_
              obtain rfl := Option.some.inj hB
              exact X.retS (Fin.leaf (us := [.pv (.bool false)]) rfl rfl (pureRes_one Wk.pv (by intro vs h; cases h)))
          | false =>
            intro hO hB
            replace hB := bF hB
            refine X.condF rfl rfl ?_
            refine X.pure (.pv (.bool (x0.kind == (3 : Int)))) rfl rfl ?_
            refine X.pure (.pv (.bool (x0.kind == (3 : Int)))) rfl rfl ?_
            refine X.stepZ ?_
            revert hB
            revert hO
            generalize (x0.kind == (3 : Int)) = c22
            cases c22 with
            | true =>
              intro hO hB
              replace hB := bT hB
              refine X.condT rfl rfl ?_
              refine X.pure (.pv (.int .i64 (2 : Int))) rfl rfl ?_
              refine X.stepZ ?_
              refine X.skipB ?_
              refine X.pure (.ptr id1 6) rfl rfl ?_
              refine X.load 1 (.pv (.sl (List.map tCd.enc x0.l))) hO rfl rfl rfl rfl ?_
              refine X.len (l := x0.l) (g := tCd.enc) rfl rfl SlP.pv ?_
              refine X.pure (.pv (.int .i64 (2 : Int))) rfl rfl ?_
              refine X.pure (.pv (.bool ((x0.l.length : Int) == (2 : Int)))) rfl rfl ?_
              refine X.pure (.pv (.bool ((x0.l.length : Int) == (2 : Int)))) rfl rfl ?_
              revert hB
              revert hO
              generalize ((x0.l.length : Int) == (2 : Int)) = c23
              cases c23 with
              | true =>
                intro hO hB
                replace hB := bT hB
                refine X.yes rfl rfl ?_
                refine X.pure (.ptr id1 6) rfl rfl ?_
                refine X.yes rfl rfl ?_
                refine X.load 1 (.pv (.sl (List.map tCd.enc x0.l))) hO rfl rfl rfl rfl ?_
                refine X.yes rfl rfl ?_
                refine X.pure (.fn 54 [.ptr id2 0]) rfl rfl ?_
                refine X.yes rfl rfl ?_
                replace hB := bS hB; obtain ⟨y25, hy25, hB⟩ := hB
                refine X.callF (ps := [.int .i64 deep1]) (p1 := .sl (List.map tCd.enc x0.l)) 0 hO rfl (hF33 _ _ _ _ _ (fun a0 q hq => hF54 _ _ _ hq) rF54 hy25) rF33 rfl rfl Wk.pv rfl ?_
                clear hO; intro h hO
                refine X.yes rfl rfl ?_
                refine X.pure (.pv (.bool (!y25))) rfl rfl ?_
                refine X.pure (.pv (.bool (!y25))) rfl rfl ?_
                refine X.pure (.pv (.bool (!y25))) rfl rfl ?_
                refine X.stepZ ?_
                obtain rfl := Option.some.inj hB
                exact X.retS (Fin.leaf (us := [.pv (.bool (!y25))]) rfl rfl (pureRes_one Wk.pv (by intro vs h; cases h)))
              | false =>
                intro hO hB
                replace hB := bF hB
                refine X.no rfl rfl ?_
                refine X.no rfl rfl ?_
                refine X.no rfl rfl ?_
                refine X.no rfl rfl ?_
                refine X.no rfl rfl ?_
                refine X.pure (.pv (.bool false)) rfl rfl ?_
                refine X.pure (.pv (.bool false)) rfl rfl ?_
                refine X.stepZ ?_
                obtain rfl := Option.some.inj hB
                exact X.retS (Fin.leaf (us := [.pv (.bool false)]) rfl rfl (pureRes_one Wk.pv (by intro vs h; cases h)))
            | false =>
              intro hO hB
              replace hB := bF hB
              refine X.condF rfl rfl ?_
              refine X.pure (.pv (.bool (x0.kind == (4 : Int)))) rfl rfl ?_
              refine X.pure (.pv (.bool (x0.kind == (4 : Int)))) rfl rfl ?_
              refine X.stepZ ?_
              revert hB
              revert hO
              generalize (x0.kind == (4 : Int)) = c26
              cases c26 with
              | true =>
                intro hO hB
                replace hB := bT hB
                refine X.condT rfl rfl ?_
                refine X.pure (.ptr id1 6) rfl rfl ?_
                refine X.load 1 (.pv (.sl (List.map tCd.enc x0.l))) hO rfl rfl rfl rfl ?_
                refine X.len (l := x0.l) (g := tCd.enc) rfl rfl SlP.pv ?_
                refine X.pure (.pv (.int .i64 (x0.l.length : Int))) rfl rfl ?_
                refine X.stepZ ?_
                refine X.skipB ?_
                refine X.pure (.ptr id1 6) rfl rfl ?_
                refine X.load 1 (.pv (.sl (List.map tCd.enc x0.l))) hO rfl rfl rfl rfl ?_
                refine X.len (l := x0.l) (g := tCd.enc) rfl rfl SlP.pv ?_
                refine X.pure (.pv (.int .i64 (x0.l.length : Int))) rfl rfl ?_
                refine X.pure (.pv (.bool ((x0.l.length : Int) == (x0.l.length : Int)))) rfl rfl ?_
                refine X.pure (.pv (.bool ((x0.l.length : Int) == (x0.l.length : Int)))) rfl rfl ?_
                revert hB
                revert hO
                generalize ((x0.l.length : Int) == (x0.l.length : Int)) = c27
                cases c27 with
                | true =>
                  intro hO hB
                  replace hB := bT hB
                  refine X.yes rfl rfl ?_
                  refine X.pure (.ptr id1 6) rfl rfl ?_
                  refine X.yes rfl rfl ?_
                  refine X.load 1 (.pv (.sl (List.map tCd.enc x0.l))) hO rfl rfl rfl rfl ?_
                  refine X.yes rfl rfl ?_
                  refine X.pure (.fn 54 [.ptr id2 0]) rfl rfl ?_
                  refine X.yes rfl rfl ?_
                  replace hB := bS hB; obtain ⟨y29, hy29, hB⟩ := hB
                  refine X.callF (ps := [.int .i64 deep1]) (p1 := .sl (List.map tCd.enc x0.l)) 0 hO rfl (hF33 _ _ _ _ _ (fun a0 q hq => hF54 _ _ _ hq) rF54 hy29) rF33 rfl rfl Wk.pv rfl ?_
                  clear hO; intro h hO
                  refine X.yes rfl rfl ?_
                  refine X.pure (.pv (.bool (!y29))) rfl rfl ?_
                  refine X.pure (.pv (.bool (!y29))) rfl rfl ?_
                  refine X.pure (.pv (.bool (!y29))) rfl rfl ?_
                  refine X.stepZ ?_
                  obtain rfl := Option.some.inj hB
                  exact X.retS (Fin.leaf (us := [.pv (.bool (!y29))]) rfl rfl (pureRes_one Wk.pv (by intro vs h; cases h)))
                | false =>
                  intro hO hB
                  replace hB := bF hB
                  refine X.no rfl rfl ?_
                  refine X.no rfl rfl ?_
                  refine X.no rfl rfl ?_
                  refine X.no rfl rfl ?_
                  refine X.no rfl rfl ?_
                  refine X.pure (.pv (.bool false)) rfl rfl ?_
                  refine X.pure (.pv (.bool false)) rfl rfl ?_
                  refine X.stepZ ?_
                  obtain rfl := Option.some.inj hB
                  exact X.retS (Fin.leaf (us := [.pv (.bool false)]) rfl rfl (pureRes_one Wk.pv (by intro vs h; cases h)))
              | false =>
                intro hO hB
                replace hB := bF hB
                refine X.condF rfl rfl ?_
                refine X.pure (.pv (.bool (x0.kind == (5 : Int)))) rfl rfl ?_
                refine X.pure (.pv (.bool (x0.kind == (5 : Int)))) rfl rfl ?_
                refine X.stepZ ?_
                revert hB
                revert hO
                generalize (x0.kind == (5 : Int)) = c30
                cases c30 with
                | true =>
                  intro hO hB
                  replace hB := bT hB
                  refine X.condT rfl rfl ?_
                  refine X.pure (.pv (.int .i64 (1 : Int))) rfl rfl ?_
                  refine X.stepZ ?_
                  refine X.skipB ?_
                  refine X.pure (.ptr id1 6) rfl rfl ?_
                  refine X.load 1 (.pv (.sl (List.map tCd.enc x0.l))) hO rfl rfl rfl rfl ?_
                  refine X.len (l := x0.l) (g := tCd.enc) rfl rfl SlP.pv ?_
                  refine X.pure (.pv (.int .i64 (1 : Int))) rfl rfl ?_
                  refine X.pure (.pv (.bool ((x0.l.length : Int) == (1 : Int)))) rfl rfl ?_
                  refine X.pure (.pv (.bool ((x0.l.length : Int) == (1 : Int)))) rfl rfl ?_
                  revert hB
                  revert hO
                  generalize ((x0.l.length : Int) == (1 : Int)) = c31
                  cases c31 with
                  | true =>
                    intro hO hB
                    replace hB := bT hB
                    refine X.yes rfl rfl ?_
                    refine X.pure (.ptr id1 6) rfl rfl ?_
                    refine X.yes rfl rfl ?_
                    refine X.load 1 (.pv (.sl (List.map tCd.enc x0.l))) hO rfl rfl rfl rfl ?_
                    refine X.yes rfl rfl ?_
                    refine X.pure (.fn 54 [.ptr id2 0]) rfl rfl ?_
                    refine X.yes rfl rfl ?_
                    replace hB := bS hB; obtain ⟨y33, hy33, hB⟩ := hB
                    refine X.callF (ps := [.int .i64 deep1]) (p1 := .sl (List.map tCd.enc x0.l)) 0 hO rfl (hF33 _ _ _ _ _ (fun a0 q hq => hF54 _ _ _ hq) rF54 hy33) rF33 rfl rfl Wk.pv rfl ?_
                    clear hO; intro h hO
                    refine X.yes rfl rfl ?_
                    refine X.pure (.pv (.bool (!y33))) rfl rfl ?_
                    refine X.pure (.pv (.bool (!y33))) rfl rfl ?_
                    refine X.pure (.pv (.bool (!y33))) rfl rfl ?_
                    refine X.stepZ ?_
                    obtain rfl := Option.some.inj hB
                    exact X.retS (Fin.leaf (us := [.pv (.bool (!y33))]) rfl rfl (pureRes_one Wk.pv (by intro vs h; cases h)))
                  | false =>
                    intro hO hB
                    replace hB := bF hB
                    refine X.no rfl rfl ?_
                    refine X.no rfl rfl ?_
                    refine X.no rfl rfl ?_
                    refine X.no rfl rfl ?_
                    refine X.no rfl rfl ?_
                    refine X.pure (.pv (.bool false)) rfl rfl ?_
                    refine X.pure (.pv (.bool false)) rfl rfl ?_
                    refine X.stepZ ?_
                    obtain rfl := Option.some.inj hB
                    exact X.retS (Fin.leaf (us := [.pv (.bool false)]) rfl rfl (pureRes_one Wk.pv (by intro vs h; cases h)))
                | false =>
                  intro hO hB
                  replace hB := bF hB
                  refine X.condF rfl rfl ?_
                  refine X.pure (.pv (.bool false)) rfl rfl ?_
                  refine X.stepZ ?_
                  obtain rfl := Option.some.inj hB
                  exact X.retS (Fin.leaf (us := [.pv (.bool false)]) rfl rfl (pureRes_one Wk.pv (by intro vs h; cases h)))
noncomputable def B30 (F55 : W4 → Option (BitVec 256)) (s0 : W4) : Option (BitVec 256) :=
  (F55 s0).bind fun y3 =>
  some y3
set_option maxRecDepth 100000 in
set_option maxHeartbeats 4000000 in
theorem B30_ok {E : Env} (F55 : W4 → Option (BitVec 256)) (hF55 : ∀ (r : (BitVec 256)) (a0 : W4), F55 a0 = some r → limP E 55 [.agg (W4.cells a0)] = some [.agg (bits256 r)]) (rF55 : E.raw 55 = false) (H : Has E 30 c30)  (s0 : W4) (r : (BitVec 256)) (hB : B30 F55 s0 = some r) : limP E 30 [.agg (W4.cells s0)] = some [.agg (bits256 r)] := by
  have hO : Own [] [] := Own.nil
  refine Has.startD H rfl ?_; unfold B30 at hB
  refine X.box ([.pv (.int .u64 s0.a), .pv (.int .u64 s0.b), .pv (.int .u64 s0.c), .pv (.int .u64 s0.d)]) hO rfl rfl rfl rfl ?_
  clear hO; intro id1 h hO
  refine X.new hO ?_
  clear hO; intro id2 h hO
  replace hO : Own h ([.blk id2 ((bits256 (0#256)).map V.pv), .blk id1 [.pv (.int .u64 s0.a), .pv (.int .u64 s0.b), .pv (.int .u64 s0.c), .pv (.int .u64 s0.d)]]) := zB_alone hO
  refine X.stepZ ?_
  refine X.load 1 (.pv (.agg (W4.cells s0))) hO rfl rfl rfl rfl ?_
  replace hB := bS hB; obtain ⟨y3, hy3, hB⟩ := hB
  refine X.callW [.pv (.agg (W4.cells s0))] [.agg (W4.cells s0)] _ (hF55 _ _ hy3) rF55 rfl rfl ⟨Wk.pv, trivial⟩ ?_
  refine X.store 0 (((bits256 y3).map V.pv)) hO rfl rfl rfl rfl storeV_bits rfl ?_
  clear hO; intro h hO
  refine X.stepZ ?_
  obtain rfl := Option.some.inj hB
  exact X.retS (Fin.leaf (us := [.pv (.agg (bits256 y3))]) rfl (resS_cell (load_own 0 hO rfl cutV_bits)) (pureRes_one Wk.pv (by intro vs h; cases h)))
noncomputable def B31 (bits0 : List UInt8) (x1 : Cd) : Option Cd :=
  bif (x1.kind != (0 : Int)) then
    ((joinS bits0 x1.bits).bind fun z4 =>
     some (Cd.mk x1.kind z4 x1.set x1.l))
  else
    (some x1)
set_option maxRecDepth 100000 in
set_option maxHeartbeats 4000000 in
theorem B31_ok {E : Env}  (H : Has E 31 c31)  (bits0 : List UInt8) (x1 : Cd) (r : Cd) (hB : B31 bits0 x1 = some r) : limP E 31 [.str bits0, .agg (Cd.cells x1)] = some [.agg (Cd.cells r)] := by
  have hO : Own [] [] := Own.nil
  refine Has.startD H rfl ?_; unfold B31 at hB
  refine X.box ([.pv (.int .i64 x1.kind), .pv (.str x1.bits), .pv (.int .u64 x1.set.a), .pv (.int .u64 x1.set.b), .pv (.int .u64 x1.set.c), .pv (.int .u64 x1.set.d), .pv (.sl (List.map tCd.enc x1.l))]) hO rfl rfl rfl rfl ?_
  clear hO; intro id1 h hO
  refine X.new hO ?_
  clear hO; intro id2 h hO
  replace hO : Own h ([.blk id2 [.pv (.int .i64 (0 : Int)), .pv (.str []), .pv (.int .u64 (0 : Int)), .pv (.int .u64 (0 : Int)), .pv (.int .u64 (0 : Int)), .pv (.int .u64 (0 : Int)), .nils], .blk id1 [.pv (.int .i64 x1.kind), .pv (.str x1.bits), .pv (.int .u64 x1.set.a), .pv (.int .u64 x1.set.b), .pv (.int .u64 x1.set.c), .pv (.int .u64 x1.set.d), .pv (.sl (List.map tCd.enc x1.l))]]) := hO
  refine X.stepZ ?_
  refine X.pure (.ptr id1 0) rfl rfl ?_
  refine X.load 1 (.pv (.int .i64 x1.kind)) hO rfl rfl rfl rfl ?_
  refine X.pure (.pv (.bool (x1.kind != (0 : Int)))) rfl rfl ?_
  refine X.stepZ ?_
  revert hB
  revert hO
  generalize (x1.kind != (0 : Int)) = c3
  cases c3 with
  | true =>
    intro hO hB
    replace hB := bT hB
    refine X.condT rfl rfl ?_
    refine X.pure (.pv (.str bits0)) rfl rfl ?_
    refine X.pure (.ptr id1 1) rfl rfl ?_
    refine X.load 1 (.pv (.str x1.bits)) hO rfl rfl rfl rfl ?_
    replace hB := bS hB; obtain ⟨z4, hz4, hB⟩ := hB
    refine X.joinS hz4 rfl rfl rfl ?_
    refine X.pure (.ptr id1 1) rfl rfl ?_
    refine X.store 1 ([.pv (.int .i64 x1.kind), .pv (.str z4), .pv (.int .u64 x1.set.a), .pv (.int .u64 x1.set.b), .pv (.int .u64 x1.set.c), .pv (.int .u64 x1.set.d), .pv (.sl (List.map tCd.enc x1.l))]) hO rfl rfl rfl rfl rfl rfl ?_
    clear hO; intro h hO
    refine X.stepZ ?_
    refine X.load 1 (.pv (.agg [.int .i64 x1.kind, .str z4, .int .u64 x1.set.a, .int .u64 x1.set.b, .int .u64 x1.set.c, .int .u64 x1.set.d, .sl (List.map tCd.enc x1.l)])) hO rfl rfl rfl rfl ?_
    refine X.store 0 ([.pv (.int .i64 x1.kind), .pv (.str z4), .pv (.int .u64 x1.set.a), .pv (.int .u64 x1.set.b), .pv (.int .u64 x1.set.c), .pv (.int .u64 x1.set.d), .pv (.sl (List.map tCd.enc x1.l))]) hO rfl rfl rfl rfl rfl rfl ?_
    clear hO; intro h hO
    refine X.stepZ ?_
    obtain rfl := Option.some.inj hB
    exact X.retS (Fin.leaf (us := [.pv (.agg [.int .i64 x1.kind, .str z4, .int .u64 x1.set.a, .int .u64 x1.set.b, .int .u64 x1.set.c, .int .u64 x1.set.d, .sl (List.map tCd.enc x1.l)])]) rfl (resS_cell (load_own 0 hO rfl rfl)) (pureRes_one Wk.pv (by intro vs h; cases h)))
  | false =>
    intro hO hB
    replace hB := bF hB
    refine X.condF rfl rfl ?_
    refine X.skipS ?_
    refine X.load 1 (.pv (.agg (Cd.cells x1))) hO rfl rfl rfl rfl ?_
    refine X.store 0 ([.pv (.int .i64 x1.kind), .pv (.str x1.bits), .pv (.int .u64 x1.set.a), .pv (.int .u64 x1.set.b), .pv (.int .u64 x1.set.c), .pv (.int .u64 x1.set.d), .pv (.sl (List.map tCd.enc x1.l))]) hO rfl rfl rfl rfl rfl rfl ?_
    clear hO; intro h hO
    refine X.stepZ ?_
    obtain rfl := Option.some.inj hB
    exact X.retS (Fin.leaf (us := [.pv (.agg (Cd.cells x1))]) rfl (resS_cell (load_own 0 hO rfl rfl)) (pureRes_one Wk.pv (by intro vs h; cases h)))
noncomputable def B32 (bits0 : List UInt8) (x1 : Rc) : Option Rc :=
  bif (x1.kind != (0 : Int)) then
    ((joinS bits0 x1.bits).bind fun z4 =>
     some (Rc.mk x1.kind z4 x1.set x1.l))
  else
    (some x1)
set_option maxRecDepth 100000 in
set_option maxHeartbeats 4000000 in
theorem B32_ok {E : Env}  (H : Has E 32 c32)  (bits0 : List UInt8) (x1 : Rc) (r : Rc) (hB : B32 bits0 x1 = some r) : limP E 32 [.str bits0, .agg (Rc.cells x1)] = some [.agg (Rc.cells r)] := by
  have hO : Own [] [] := Own.nil
  refine Has.startD H rfl ?_; unfold B32 at hB
  refine X.box ((([.pv (.int .i64 x1.kind), .pv (.str x1.bits)] : List V) ++ (((bits256 x1.set).map V.pv) ++ ([.pv (.sl (List.map tRc.enc x1.l))] : List V)))) hO rfl rfl (big_cells rfl rfl) (big_all rfl rfl) ?_
  clear hO; intro id1 h hO
  refine X.new hO ?_
  clear hO; intro id2 h hO
  replace hO : Own h ([.blk id2 (([.pv (.int .i64 (0 : Int)), .pv (.str [])] : List V) ++ (((bits256 (0#256)).map V.pv) ++ ([.nils] : List V))), .blk id1 (([.pv (.int .i64 x1.kind), .pv (.str x1.bits)] : List V) ++ (((bits256 x1.set).map V.pv) ++ ([.pv (.sl (List.map tRc.enc x1.l))] : List V)))]) := zB_app hO
  refine X.stepZ ?_
  refine X.pure (.ptr id1 0) rfl rfl ?_
  refine X.load 1 (.pv (.int .i64 x1.kind)) hO rfl rfl rfl (big_cutA rfl rfl) ?_
  refine X.pure (.pv (.bool (x1.kind != (0 : Int)))) rfl rfl ?_
  refine X.stepZ ?_
  revert hB
  revert hO
  generalize (x1.kind != (0 : Int)) = c3
  cases c3 with
  | true =>
    intro hO hB
    replace hB := bT hB
    refine X.condT rfl rfl ?_
    refine X.pure (.pv (.str bits0)) rfl rfl ?_
    refine X.pure (.ptr id1 1) rfl rfl ?_
    refine X.load 1 (.pv (.str x1.bits)) hO rfl rfl rfl (big_cutA rfl rfl) ?_
    replace hB := bS hB; obtain ⟨z4, hz4, hB⟩ := hB
    refine X.joinS hz4 rfl rfl rfl ?_
    refine X.pure (.ptr id1 1) rfl rfl ?_
    refine X.store 1 ((([.pv (.int .i64 x1.kind), .pv (.str z4)] : List V) ++ (((bits256 x1.set).map V.pv) ++ ([.pv (.sl (List.map tRc.enc x1.l))] : List V)))) hO rfl rfl rfl rfl (big_storeA rfl) rfl ?_
    clear hO; intro h hO
    refine X.stepZ ?_
    refine X.load 1 (.pv (.agg (([.int .i64 x1.kind, .str z4] : List PV) ++ ((bits256 x1.set) ++ ([.sl (List.map tRc.enc x1.l)] : List PV))))) hO rfl rfl rfl (big_whole rfl (mkAgg_big rfl rfl)) ?_
    refine X.store 0 ((([.pv (.int .i64 x1.kind), .pv (.str z4)] : List V) ++ (((bits256 x1.set).map V.pv) ++ ([.pv (.sl (List.map tRc.enc x1.l))] : List V)))) hO rfl rfl rfl rfl (storeV_all (big_cells rfl rfl) (big_len.trans rfl) (big_len.trans rfl) (big_all rfl rfl)) rfl ?_
    clear hO; intro h hO
    refine X.stepZ ?_
    obtain rfl := Option.some.inj hB
    exact X.retS (Fin.leaf (us := [.pv (.agg (([.int .i64 x1.kind, .str z4] : List PV) ++ ((bits256 x1.set) ++ ([.sl (List.map tRc.enc x1.l)] : List PV))))]) rfl (resS_cell (load_own 0 hO rfl (big_whole rfl (mkAgg_big rfl rfl)))) (pureRes_one Wk.pv (by intro vs h; cases h)))
  | false =>
    intro hO hB
    replace hB := bF hB
    refine X.condF rfl rfl ?_
    refine X.skipS ?_
    refine X.load 1 (.pv (.agg (Rc.cells x1))) hO rfl rfl rfl (big_whole rfl (mkAgg_big rfl rfl)) ?_
    refine X.store 0 ((([.pv (.int .i64 x1.kind), .pv (.str x1.bits)] : List V) ++ (((bits256 x1.set).map V.pv) ++ ([.pv (.sl (List.map tRc.enc x1.l))] : List V)))) hO rfl rfl rfl rfl (storeV_all (big_cells rfl rfl) (big_len.trans rfl) (big_len.trans rfl) (big_all rfl rfl)) rfl ?_
    clear hO; intro h hO
    refine X.stepZ ?_
    obtain rfl := Option.some.inj hB
    exact X.retS (Fin.leaf (us := [.pv (.agg (Rc.cells x1))]) rfl (resS_cell (load_own 0 hO rfl (big_whole rfl (mkAgg_big rfl rfl)))) (pureRes_one Wk.pv (by intro vs h; cases h)))
noncomputable def B33 (F56 : (List Cd) → (Cd → Option Bool) → Option Int) (s0 : (List Cd)) (f1 : (Cd → Option Bool)) : Option Bool :=
  (F56 s0 f1).bind fun y2 =>
  some (decide (y2 ≥ (0 : Int)))
set_option maxRecDepth 100000 in
set_option maxHeartbeats 4000000 in
theorem B33_ok {E : Env} (F56 : (List Cd) → (Cd → Option Bool) → Option Int) (hF56 : ∀ (r : Int) (a0 : (List Cd)) (φ : (Cd → Option Bool)) (g : FuncId) (cs : List PV), (∀ (b0 : Cd) (q : Bool), φ b0 = some q → limP E g ([.agg (Cd.cells b0)] ++ cs) = some [.bool q]) → E.raw g = false → F56 a0 φ = some r → limP E 56 [.sl (List.map tCd.enc a0), .fn g cs] = some [.int .i64 r]) (rF56 : E.raw 56 = false) (H : Has E 33 c33)  (s0 : (List Cd)) (f1 : (Cd → Option Bool)) (g1 : FuncId) (cs1 : List PV) (hf1 : ∀ (b0 : Cd) (q : Bool), f1 b0 = some q → limP E g1 ([.agg (Cd.cells b0)] ++ cs1) = some [.bool q]) (rf1 : E.raw g1 = false) (r : Bool) (hB : B33 F56 s0 f1 = some r) : limP E 33 [.sl (List.map tCd.enc s0), .fn g1 cs1] = some [.bool r] := by
  have hO : Own [] [] := Own.nil
  refine Has.startD H rfl ?_; unfold B33 at hB
  refine X.pure (.pv (.bool false)) rfl rfl ?_
  refine X.stepZ ?_
  refine X.pure (.pv (.sl (List.map tCd.enc s0))) rfl rfl ?_
  refine X.pure (.pv (.fn g1 cs1)) rfl rfl ?_
  replace hB := bS hB; obtain ⟨y2, hy2, hB⟩ := hB
  refine X.callW [.pv (.sl (List.map tCd.enc s0)), .pv (.fn g1 cs1)] [.sl (List.map tCd.enc s0), .fn g1 cs1] _ (hF56 _ _ _ _ _ hf1 rf1 hy2) rF56 rfl rfl ⟨Wk.pv, Wk.pv, trivial⟩ ?_
  refine X.pure (.pv (.bool (decide (y2 ≥ (0 : Int))))) rfl rfl ?_
  refine X.pure (.pv (.bool (decide (y2 ≥ (0 : Int))))) rfl rfl ?_
  refine X.stepZ ?_
  obtain rfl := Option.some.inj hB
  exact X.retS (Fin.leaf (us := [.pv (.bool (decide (y2 ≥ (0 : Int))))]) rfl rfl (pureRes_one Wk.pv (by intro vs h; cases h)))
noncomputable def B34 (F35 : Cd → Cd → Option Bool) (y0 : Cd) (cap0 : Cd) : Option Bool :=
  (F35 cap0 y0).bind fun y2 =>
  some y2
set_option maxRecDepth 100000 in
set_option maxHeartbeats 4000000 in
theorem B34_ok {E : Env} (F35 : Cd → Cd → Option Bool) (hF35 : ∀ (r : Bool) (a0 : Cd) (a1 : Cd), F35 a0 a1 = some r → limP E 35 [.agg (Cd.cells a0), .agg (Cd.cells a1)] = some [.bool r]) (rF35 : E.raw 35 = false) (H : Has E 34 c34)  (y0 : Cd) (cap0 : Cd) (r : Bool) (hB : B34 F35 y0 cap0 = some r) : limP E 34 [.agg (Cd.cells y0), .ip (Cd.cells cap0) 0] = some [.bool r] := by
  have hO : Own [] [] := Own.nil
  refine Has.startD H rfl ?_; unfold B34 at hB
  refine X.box ([.pv (.int .i64 y0.kind), .pv (.str y0.bits), .pv (.int .u64 y0.set.a), .pv (.int .u64 y0.set.b), .pv (.int .u64 y0.set.c), .pv (.int .u64 y0.set.d), .pv (.sl (List.map tCd.enc y0.l))]) hO rfl rfl rfl rfl ?_
  clear hO; intro id1 h hO
  refine X.pure (.pv (.bool false)) rfl rfl ?_
  refine X.stepZ ?_
  refine X.pure (.pv (.agg (Cd.cells cap0))) rfl rfl ?_
  refine X.load 0 (.pv (.agg (Cd.cells y0))) hO rfl rfl rfl rfl ?_
  replace hB := bS hB; obtain ⟨y2, hy2, hB⟩ := hB
  refine X.callW [.pv (.agg (Cd.cells cap0)), .pv (.agg (Cd.cells y0))] [.agg (Cd.cells cap0), .agg (Cd.cells y0)] _ (hF35 _ _ _ hy2) rF35 rfl rfl ⟨Wk.pv, Wk.pv, trivial⟩ ?_
  refine X.pure (.pv (.bool y2)) rfl rfl ?_
  refine X.stepZ ?_
  obtain rfl := Option.some.inj hB
  exact X.retS (Fin.leaf (us := [.pv (.bool y2)]) rfl rfl (pureRes_one Wk.pv (by intro vs h; cases h)))
noncomputable def B35 (F35 : Cd → Cd → Option Bool) (F57 : (List Cd) → (List Cd) → (Cd → Cd → Option Bool) → Option Bool) (a0 : Cd) (b1 : Cd) : Option Bool :=
  (bif (a0.kind == b1.kind) then
    (bif ((a0.set.a == b1.set.a) && ((a0.set.b == b1.set.b) && ((a0.set.c == b1.set.c) && ((a0.set.d == b1.set.d) && true)))) then
       ((F57 a0.l b1.l (fun a0 a1 => F35 a0 a1)).bind fun y7 =>
        some y7)
     else
       (some false))
  else
    (some false)).bind fun c3 =>
  some c3
set_option maxRecDepth 100000 in
set_option maxHeartbeats 4000000 in
theorem B35_ok {E : Env} (F35 : Cd → Cd → Option Bool) (F57 : (List Cd) → (List Cd) → (Cd → Cd → Option Bool) → Option Bool) (hF35 : ∀ (r : Bool) (a0 : Cd) (a1 : Cd), F35 a0 a1 = some r → limP E 35 [.agg (Cd.cells a0), .agg (Cd.cells a1)] = some [.bool r]) (rF35 : E.raw 35 = false) (hF57 : ∀ (r : Bool) (a0 : (List Cd)) (a1 : (List Cd)) (φ : (Cd → Cd → Option Bool)) (g : FuncId) (cs : List PV), (∀ (b0 : Cd) (b1 : Cd) (q : Bool), φ b0 b1 = some q → limP E g ([.agg (Cd.cells b0), .agg (Cd.cells b1)] ++ cs) = some [.bool q]) → E.raw g = false → F57 a0 a1 φ = some r → limP E 57 [.sl (List.map tCd.enc a0), .sl (List.map tCd.enc a1), .fn g cs] = some [.bool r]) (rF57 : E.raw 57 = false) (H : Has E 35 c35)  (a0 : Cd) (b1 : Cd) (r : Bool) (hB : B35 F35 F57 a0 b1 = some r) : limP E 35 [.agg (Cd.cells a0), .agg (Cd.cells b1)] = some [.bool r] := by
  have hO : Own [] [] := Own.nil
  refine Has.startD H rfl ?_; unfold B35 at hB
  refine X.box ([.pv (.int .i64 a0.kind), .pv (.str a0.bits), .pv (.int .u64 a0.set.a), .pv (.int .u64 a0.set.b), .pv (.int .u64 a0.set.c), .pv (.int .u64 a0.set.d), .pv (.sl (List.map tCd.enc a0.l))]) hO rfl rfl rfl rfl ?_
  clear hO; intro id1 h hO
  refine X.box ([.pv (.int .i64 b1.kind), .pv (.str b1.bits), .pv (.int .u64 b1.set.a), .pv (.int .u64 b1.set.b), .pv (.int .u64 b1.set.c), .pv (.int .u64 b1.set.d), .pv (.sl (List.map tCd.enc b1.l))]) hO rfl rfl rfl rfl ?_
  clear hO; intro id2 h hO
  refine X.pure (.pv (.bool false)) rfl rfl ?_
  refine X.stepZ ?_
  replace hB := bS hB; obtain ⟨c3, hmid, hB⟩ := hB
  refine X.goMid (fun st => ∃ (g : Nat → V) (h : Heap), Own h ([]) ∧ st = ⟨TL 24 (upds g [(4, .pv (.bool c3))]), h⟩) ?_ ?_
  · replace hB := hmid
    refine X.pure (.ptr id1 0) rfl rfl ?_
    refine X.load 1 (.pv (.int .i64 a0.kind)) hO rfl rfl rfl rfl ?_
    refine X.pure (.ptr id2 0) rfl rfl ?_
    refine X.load 0 (.pv (.int .i64 b1.kind)) hO rfl rfl rfl rfl ?_
    refine X.pure (.pv (.bool (a0.kind == b1.kind))) rfl rfl ?_
    refine X.pure (.pv (.bool (a0.kind == b1.kind))) rfl rfl ?_
    revert hB
    revert hO
    generalize (a0.kind == b1.kind) = c4
    cases c4 with
    | true =>
      intro hO hB
      replace hB := bT hB
      refine X.yes rfl rfl ?_
      refine X.pure (.ptr id1 2) rfl rfl ?_
      refine X.yes rfl rfl ?_
      refine X.load 1 (.pv (.agg (W4.cells a0.set))) hO rfl rfl rfl rfl ?_
      refine X.yes rfl rfl ?_
      refine X.pure (.ptr id2 2) rfl rfl ?_
      refine X.yes rfl rfl ?_
      refine X.load 0 (.pv (.agg (W4.cells b1.set))) hO rfl rfl rfl rfl ?_
      refine X.yes rfl rfl ?_
      refine X.pure (.pv (.bool ((a0.set.a == b1.set.a) && ((a0.set.b == b1.set.b) && ((a0.set.c == b1.set.c) && ((a0.set.d == b1.set.d) && true)))))) rfl rfl ?_
      refine X.pure (.pv (.bool ((a0.set.a == b1.set.a) && ((a0.set.b == b1.set.b) && ((a0.set.c == b1.set.c) && ((a0.set.d == b1.set.d) && true)))))) rfl rfl ?_
      refine X.pure (.pv (.bool ((a0.set.a == b1.set.a) && ((a0.set.b == b1.set.b) && ((a0.set.c == b1.set.c) && ((a0.set.d == b1.set.d) && true)))))) rfl rfl ?_
      revert hB
      revert hO
      generalize ((a0.set.a == b1.set.a) && ((a0.set.b == b1.set.b) && ((a0.set.c == b1.set.c) && ((a0.set.d == b1.set.d) && true)))) = c5
      cases c5 with
      | true =>
        intro hO hB
        replace hB := bT hB
        refine X.yes rfl rfl ?_
        refine X.pure (.ptr id1 6) rfl rfl ?_
        refine X.yes rfl rfl ?_
        refine X.load 1 (.pv (.sl (List.map tCd.enc a0.l))) hO rfl rfl rfl rfl ?_
        refine X.yes rfl rfl ?_
        refine X.pure (.ptr id2 6) rfl rfl ?_
        refine X.yes rfl rfl ?_
        refine X.load 0 (.pv (.sl (List.map tCd.enc b1.l))) hO rfl rfl rfl rfl ?_
        refine X.yes rfl rfl ?_
        replace hB := bS hB; obtain ⟨y7, hy7, hB⟩ := hB
        refine X.callW [.pv (.sl (List.map tCd.enc a0.l)), .pv (.sl (List.map tCd.enc b1.l)), .pv (.fn 35 [])] [.sl (List.map tCd.enc a0.l), .sl (List.map tCd.enc b1.l), .fn 35 []] _ (hF57 _ _ _ _ _ _ (fun a0 a1 q hq => hF35 _ _ _ hq) rF35 hy7) rF57 rfl rfl ⟨Wk.pv, Wk.pv, Wk.pv, trivial⟩ ?_
        refine X.pure (.pv (.bool y7)) rfl rfl ?_
        refine X.pure (.pv (.bool y7)) rfl rfl ?_
        refine X.stepZ ?_
        obtain rfl := Option.some.inj hB
        exact X.skipL ⟨_, _, (hO.sub (.cons _ (.cons _ .slnil))), st_keep _ ⟨rfl, trivial⟩⟩
      | false =>
        intro hO hB
        replace hB := bF hB
        refine X.no rfl rfl ?_
        refine X.no rfl rfl ?_
        refine X.no rfl rfl ?_
        refine X.no rfl rfl ?_
        refine X.no rfl rfl ?_
        refine X.pure (.pv (.bool false)) rfl rfl ?_
        refine X.pure (.pv (.bool false)) rfl rfl ?_
        refine X.stepZ ?_
        obtain rfl := Option.some.inj hB
        exact X.skipL ⟨_, _, (hO.sub (.cons _ (.cons _ .slnil))), st_keep _ ⟨rfl, trivial⟩⟩
    | false =>
      intro hO hB
      replace hB := bF hB
      refine X.no rfl rfl ?_
      refine X.no rfl rfl ?_
      refine X.no rfl rfl ?_
      refine X.no rfl rfl ?_
      refine X.no rfl rfl ?_
      refine X.pure (.pv (.bool false)) rfl rfl ?_
      refine X.pure (.pv (.bool false)) rfl rfl ?_
      refine X.no rfl rfl ?_
      refine X.no rfl rfl ?_
      refine X.no rfl rfl ?_
      refine X.no rfl rfl ?_
      refine X.no rfl rfl ?_
      refine X.pure (.pv (.bool false)) rfl rfl ?_
      refine X.pure (.pv (.bool false)) rfl rfl ?_
      refine X.stepZ ?_
      obtain rfl := Option.some.inj hB
      exact X.skipL ⟨_, _, (hO.sub (.cons _ (.cons _ .slnil))), st_keep _ ⟨rfl, trivial⟩⟩
  · rintro st ⟨g, h, hO, rfl⟩
    obtain rfl := Option.some.inj hB
    exact X.retS (Fin.leaf (us := [.pv (.bool c3)]) rfl rfl (pureRes_one Wk.pv (by intro vs h; cases h)))
noncomputable def B36_L0 (F36 : Rc → Rc → Option Bool) (a0 : Rc) (b1 : Rc) (i6 : Int) : Option (Lp Int Unit Bool) :=
  bif (decide (i6 < (a0.l.length : Int))) then
    ((idx a0.l i6).bind fun y13 =>
     (idx b1.l i6).bind fun y14 =>
     (F36 y13 y14).bind fun y15 =>
     bif y15 then
       (some (.next (IntKind.i64.wrap (i6 + (1 : Int)))))
     else
       (some (.ret (false))))
  else
    (some (.brk ()))
noncomputable def B36_K0 : Option Bool :=
  some true
abbrev R36_0 (a0 : Rc) (b1 : Rc) (id1 : Nat) (id2 : Nat) : Int → St → Prop := fun s st => ∃ (g : Nat → V) (h : Heap), Own h ([.blk id2 (([.pv (.int .i64 b1.kind), .pv (.str b1.bits)] : List V) ++ (((bits256 b1.set).map V.pv) ++ ([.pv (.sl (List.map tRc.enc b1.l))] : List V))), .blk id1 (([.pv (.int .i64 a0.kind), .pv (.str a0.bits)] : List V) ++ (((bits256 a0.set).map V.pv) ++ ([.pv (.sl (List.map tRc.enc a0.l))] : List V)))]) ∧ st = ⟨TL 46 (upds g [(2, .ptr id1 0), (3, .ptr id2 0), (5, .pv (.int .i64 s))]), h⟩
abbrev A36_0 : Unit → St → Prop := fun s st => ∃ (g : Nat → V) (h : Heap), Own h ([]) ∧ st = ⟨TL 46 (upds g []), h⟩
noncomputable def B36 (F36 : Rc → Rc → Option Bool) (a0 : Rc) (b1 : Rc) : Option Bool :=
  bif ((a0.kind != b1.kind) || (bif (a0.set == b1.set) then ((a0.l.length : Int) != (b1.l.length : Int)) else true)) then
    (some false)
  else
    (loopK (fun (s : Int) => B36_L0 F36 a0 b1 s) (0 : Int) (fun (t : Unit) => B36_K0))
set_option maxRecDepth 100000 in
set_option maxHeartbeats 4000000 in
theorem B36_ok {E : Env} (F36 : Rc → Rc → Option Bool) (hF36 : ∀ (r : Bool) (a0 : Rc) (a1 : Rc), F36 a0 a1 = some r → limP E 36 [.agg (Rc.cells a0), .agg (Rc.cells a1)] = some [.bool r]) (rF36 : E.raw 36 = false) (H : Has E 36 c36)  (a0 : Rc) (b1 : Rc) (r : Bool) (hB : B36 F36 a0 b1 = some r) : limP E 36 [.agg (Rc.cells a0), .agg (Rc.cells b1)] = some [.bool r] := by
  have hO : Own [] [] := Own.nil
  refine Has.startD H rfl ?_; unfold B36 at hB
  refine X.box ((([.pv (.int .i64 a0.kind), .pv (.str a0.bits)] : List V) ++ (((bits256 a0.set).map V.pv) ++ ([.pv (.sl (List.map tRc.enc a0.l))] : List V)))) hO rfl rfl (big_cells rfl rfl) (big_all rfl rfl) ?_
  clear hO; intro id1 h hO
  refine X.box ((([.pv (.int .i64 b1.kind), .pv (.str b1.bits)] : List V) ++ (((bits256 b1.set).map V.pv) ++ ([.pv (.sl (List.map tRc.enc b1.l))] : List V)))) hO rfl rfl (big_cells rfl rfl) (big_all rfl rfl) ?_
  clear hO; intro id2 h hO
  refine X.pure (.pv (.bool false)) rfl rfl ?_
  refine X.stepZ ?_
  refine X.goMid (fun st => ∃ (g : Nat → V) (h : Heap), Own h ([.blk id2 (([.pv (.int .i64 b1.kind), .pv (.str b1.bits)] : List V) ++ (((bits256 b1.set).map V.pv) ++ ([.pv (.sl (List.map tRc.enc b1.l))] : List V))), .blk id1 (([.pv (.int .i64 a0.kind), .pv (.str a0.bits)] : List V) ++ (((bits256 a0.set).map V.pv) ++ ([.pv (.sl (List.map tRc.enc a0.l))] : List V)))]) ∧ st = ⟨TL 46 (upds g [(2, .ptr id1 0), (3, .ptr id2 0), (26, .pv (.bool ((a0.kind != b1.kind) || (bif (a0.set == b1.set) then ((a0.l.length : Int) != (b1.l.length : Int)) else true))))]), h⟩) ?_ ?_
  · refine X.pure (.ptr id1 0) rfl rfl ?_
    refine X.load 1 (.pv (.int .i64 a0.kind)) hO rfl rfl rfl (big_cutA rfl rfl) ?_
    refine X.pure (.ptr id2 0) rfl rfl ?_
    refine X.load 0 (.pv (.int .i64 b1.kind)) hO rfl rfl rfl (big_cutA rfl rfl) ?_
    refine X.pure (.pv (.bool (a0.kind != b1.kind))) rfl rfl ?_
    refine X.pure (.pv (.bool (a0.kind != b1.kind))) rfl rfl ?_
    revert hO
    generalize (a0.kind != b1.kind) = c3
    cases c3 with
    | true =>
      intro hO
      refine X.no rfl rfl ?_
      refine X.no rfl rfl ?_
      refine X.no rfl rfl ?_
      refine X.no rfl rfl ?_
      refine X.no rfl rfl ?_
      refine X.pure (.pv (.bool true)) rfl rfl ?_
      refine X.pure (.pv (.bool true)) rfl rfl ?_
      refine X.no rfl rfl ?_
      refine X.no rfl rfl ?_
      refine X.no rfl rfl ?_
      refine X.no rfl rfl ?_
      refine X.no rfl rfl ?_
      refine X.no rfl rfl ?_
      refine X.no rfl rfl ?_
      refine X.pure (.pv (.bool true)) rfl rfl ?_
      refine X.stepZ ?_
      exact X.skipL ⟨_, _, hO, st_keep _ ⟨rfl, rfl, rfl, trivial⟩⟩
    | false =>
      intro hO
      refine X.yes rfl rfl ?_
      refine X.pure (.ptr id1 2) rfl rfl ?_
      refine X.yes rfl rfl ?_
      refine X.load 1 (.pv (.agg (bits256 a0.set))) hO rfl rfl rfl (big_cutB rfl) ?_
      refine X.yes rfl rfl ?_
      refine X.pure (.ptr id2 2) rfl rfl ?_
      refine X.yes rfl rfl ?_
      refine X.load 0 (.pv (.agg (bits256 b1.set))) hO rfl rfl rfl (big_cutB rfl) ?_
      refine X.yes rfl rfl ?_
      refine X.pure (.pv (.bool (!(a0.set == b1.set)))) rfl (eq256_neq _ _) ?_
      refine X.pure (.pv (.bool (!(a0.set == b1.set)))) rfl rfl ?_
      refine X.pure (.pv (.bool (!(a0.set == b1.set)))) rfl rfl ?_
      revert hO
      generalize (a0.set == b1.set) = c4
      cases c4 with
      | true =>
        intro hO
        refine X.yes rfl rfl ?_
        refine X.pure (.ptr id1 258) rfl rfl ?_
        refine X.yes rfl rfl ?_
        refine X.load 1 (.pv (.sl (List.map tRc.enc a0.l))) hO rfl rfl rfl (big_cutC (k := 0) rfl rfl) ?_
        refine X.yes rfl rfl ?_
        refine X.len (l := a0.l) (g := tRc.enc) rfl rfl SlP.pv ?_
        refine X.yes rfl rfl ?_
        refine X.pure (.ptr id2 258) rfl rfl ?_
        refine X.yes rfl rfl ?_
        refine X.load 0 (.pv (.sl (List.map tRc.enc b1.l))) hO rfl rfl rfl (big_cutC (k := 0) rfl rfl) ?_
        refine X.yes rfl rfl ?_
        refine X.len (l := b1.l) (g := tRc.enc) rfl rfl SlP.pv ?_
        refine X.yes rfl rfl ?_
        refine X.pure (.pv (.bool ((a0.l.length : Int) != (b1.l.length : Int)))) rfl rfl ?_
        refine X.pure (.pv (.bool ((a0.l.length : Int) != (b1.l.length : Int)))) rfl rfl ?_
        refine X.stepZ ?_
        exact X.skipL ⟨_, _, hO, st_keep _ ⟨rfl, rfl, rfl, trivial⟩⟩
      | false =>
        intro hO
        refine X.no rfl rfl ?_
        refine X.no rfl rfl ?_
        refine X.no rfl rfl ?_
        refine X.no rfl rfl ?_
        refine X.no rfl rfl ?_
        refine X.no rfl rfl ?_
        refine X.no rfl rfl ?_
        refine X.pure (.pv (.bool true)) rfl rfl ?_
        refine X.stepZ ?_
        exact X.skipL ⟨_, _, hO, st_keep _ ⟨rfl, rfl, rfl, trivial⟩⟩
  · rintro st ⟨g, h, hO, rfl⟩
    revert hB
    revert hO
    generalize ((a0.kind != b1.kind) || (bif (a0.set == b1.set) then ((a0.l.length : Int) != (b1.l.length : Int)) else true)) = c5
    cases c5 with
    | true =>
      intro hO hB
      replace hB := bT hB
      refine X.condT rfl rfl ?_
      refine X.pure (.pv (.bool false)) rfl rfl ?_
      refine X.stepZ ?_
      obtain rfl := Option.some.inj hB
      exact X.retS (Fin.leaf (us := [.pv (.bool false)]) rfl rfl (pureRes_one Wk.pv (by intro vs h; cases h)))
    | false =>
      intro hO hB
      replace hB := bF hB
      refine X.condF rfl rfl ?_
      refine X.skipS ?_
      refine X.pure (.pv (.int .i64 (0 : Int))) rfl rfl ?_
      refine X.stepZ ?_
      refine X.loopQ (s0 := (0 : Int)) (R36_0 a0 b1 id1 id2) (A36_0) hB ?_ ?_ ?_
      · exact ⟨_, _, hO, st_keep _ ⟨rfl, rfl, rfl, trivial⟩⟩
      · rintro i6 st o ⟨g, h, hO, rfl⟩ hB
        replace hB : B36_L0 F36 a0 b1 i6 = some o := hB
        unfold B36_L0 at hB
        replace hO : Own h ([.blk id2 (([.pv (.int .i64 b1.kind), .pv (.str b1.bits)] : List V) ++ (((bits256 b1.set).map V.pv) ++ ([.pv (.sl (List.map tRc.enc b1.l))] : List V))), .blk id1 (([.pv (.int .i64 a0.kind), .pv (.str a0.bits)] : List V) ++ (((bits256 a0.set).map V.pv) ++ ([.pv (.sl (List.map tRc.enc a0.l))] : List V)))]) := hO
        refine X.pure (.pv (.int .i64 i6)) rfl rfl ?_
        refine X.pure (.ptr id1 258) rfl rfl ?_
        refine X.load 1 (.pv (.sl (List.map tRc.enc a0.l))) hO rfl rfl rfl (big_cutC (k := 0) rfl rfl) ?_
        refine X.len (l := a0.l) (g := tRc.enc) rfl rfl SlP.pv ?_
        refine X.pure (.pv (.bool (decide (i6 < (a0.l.length : Int))))) rfl rfl ?_
        refine X.stepZ ?_
        revert hB
        revert hO
        generalize (decide (i6 < (a0.l.length : Int))) = c12
        cases c12 with
        | true =>
          intro hO hB
          replace hB := bT hB
          refine X.condT rfl rfl ?_
          refine X.skipS ?_
          refine X.blockS ?_
          refine X.drawS [([], []), ([1], []), ([], []), ([], []), ([], []), ([], []), ([0], []), ([], []), ([], []), ([], []), ([], []), ([], [])] (m := List.map Res.ids [.blk id2 (([.pv (.int .i64 b1.kind), .pv (.str b1.bits)] : List V) ++ (((bits256 b1.set).map V.pv) ++ ([.pv (.sl (List.map tRc.enc b1.l))] : List V))), .blk id1 (([.pv (.int .i64 a0.kind), .pv (.str a0.bits)] : List V) ++ (((bits256 a0.set).map V.pv) ++ ([.pv (.sl (List.map tRc.enc a0.l))] : List V)))]) hO.labOk rfl ?_
          refine XS.calm [] (.ptr id1 258) rfl (rfl) (lab_none rfl) rfl ?_
          refine XS.read [1] (.pv (.sl (List.map tRc.enc a0.l))) rfl rfl (load_op 1 hO rfl rfl (big_cutC (k := 0) rfl rfl)) List.mem_cons_self ?_
          refine XS.calm [] (.pv (.int .i64 i6)) rfl (rfl) (lab_none rfl) rfl ?_
          replace hB := bS hB; obtain ⟨y13, hy13, hB⟩ := hB
          refine XS.calm [] (.pv (.ip (tRc.cells y13) 0)) rfl (at_op tRc hy13 rfl SlP.pv rfl rfl) (lab_none rfl) rfl ?_
          refine XS.calm [] (.pv (.agg (Rc.cells y13))) rfl ((loadIp_op rfl (big_ip rfl rfl (big_whole rfl (mkAgg_big rfl rfl))))) (lab_none rfl) rfl ?_
          refine XS.calm [] (.ptr id2 258) rfl (rfl) (lab_none rfl) rfl ?_
          refine XS.read [0] (.pv (.sl (List.map tRc.enc b1.l))) rfl rfl (load_op 0 hO rfl rfl (big_cutC (k := 0) rfl rfl)) List.mem_cons_self ?_
          refine XS.calm [] (.pv (.int .i64 i6)) rfl (rfl) (lab_none rfl) rfl ?_
          replace hB := bS hB; obtain ⟨y14, hy14, hB⟩ := hB
          refine XS.calm [] (.pv (.ip (tRc.cells y14) 0)) rfl (at_op tRc hy14 rfl SlP.pv rfl rfl) (lab_none rfl) rfl ?_
          refine XS.calm [] (.pv (.agg (Rc.cells y14))) rfl ((loadIp_op rfl (big_ip rfl rfl (big_whole rfl (mkAgg_big rfl rfl))))) (lab_none rfl) rfl ?_
          replace hB := bS hB; obtain ⟨y15, hy15, hB⟩ := hB
          refine XS.callP [.agg (Rc.cells y13), .agg (Rc.cells y14)] _ (hF36 _ _ _ hy15) rF36 rfl rfl ?_
          refine XS.calm [] (.pv (.bool (!y15))) rfl (rfl) (lab_none rfl) rfl ?_
          refine XS.nil ?_
          revert hB
          revert hO
          generalize y15 = c16
          cases c16 with
          | true =>
            intro hO hB
            replace hB := bT hB
            refine X.condF rfl rfl ?_
            refine X.skipS ?_
            refine X.skipB ?_
            refine X.pure (.pv (.int .i64 i6)) rfl rfl ?_
            refine X.pure (.pv (.int .i64 (IntKind.i64.wrap (i6 + (1 : Int))))) rfl rfl ?_
            refine X.pure (.pv (.int .i64 (IntKind.i64.wrap (i6 + (1 : Int))))) rfl rfl ?_
            refine X.stepZ ?_
            obtain rfl := Option.some.inj hB
            exact X.nextL ⟨_, _, hO, st_keep _ ⟨rfl, rfl, rfl, trivial⟩⟩
          | false =>
            intro hO hB
            replace hB := bF hB
            refine X.condT rfl rfl ?_
            refine X.pure (.pv (.bool false)) rfl rfl ?_
            refine X.stepZ ?_
            obtain rfl := Option.some.inj hB
            refine X.retS ?_
            intro e; subst e
            exact Fin.leaf (us := [.pv (.bool false)]) rfl rfl (pureRes_one Wk.pv (by intro vs h; cases h))
        | false =>
          intro hO hB
          replace hB := bF hB
          refine X.condF rfl rfl ?_
          refine X.exitS ?_
          obtain rfl := Option.some.inj hB
          exact LP.brk' ⟨_, _, (hO.sub (.cons _ (.cons _ .slnil))), st_keep _ trivial⟩
      · rintro _ st ⟨g, h, hO, rfl⟩ hB
        replace hB : B36_K0 = some _ := hB
        unfold B36_K0 at hB
        replace hO : Own h ([]) := hO
        refine X.pure (.pv (.bool true)) rfl rfl ?_
        refine X.stepZ ?_
        obtain rfl := Option.some.inj hB
        exact X.retS (Fin.leaf (us := [.pv (.bool true)]) rfl rfl (pureRes_one Wk.pv (by intro vs h; cases h)))
end Pl
