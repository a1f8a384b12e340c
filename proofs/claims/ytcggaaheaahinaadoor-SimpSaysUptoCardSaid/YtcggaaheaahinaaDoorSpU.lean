/- SpU: steps, walks, laws: see the remarks within. -/
import Derived.Test.YtcggaaheaahinaaDoorSpT
set_option linter.unusedSimpArgs false
set_option linter.unusedVariables false

set_option linter.unusedVariables false
namespace Pl
open Go Ab Go.Proofs.YtcggaaheaahinaaDoor.Mach
noncomputable def B37_L0 (F37 : Cd → Option Cd) (x0 : Cd) (t227 : Int) (xs8 : (List (Option Cd))) : Option (Lp (Int × (List (Option Cd))) (List (Option Cd)) Cd) :=
  bif (decide (t227 < (x0.l.length : Int))) then
    ((idx x0.l t227).bind fun y16 =>
     (F37 y16).bind fun y18 =>
     (idx xs8 t227).bind fun y19 =>
     some (.next ((IntKind.i64.wrap (t227 + (1 : Int))), (List.set xs8 (Int.toNat t227) (some y18)))))
  else
    (some (.brk xs8))
noncomputable def B37_K0 (F9 : (List Cd) → Option (List Cd)) (F11 : (List Cd) → Option (List Cd)) (F31 : List UInt8 → Cd → Option Cd) (x0 : Cd) (xs14 : (List (Option Cd))) : Option Cd :=
  bif (x0.kind == (3 : Int)) then
    (((idx xs14 (0 : Int)).bind fun y22 =>
     (y22).bind fun y23 =>
     bif (y23.kind == (0 : Int)) then
       (some true)
     else
       ((idx xs14 (1 : Int)).bind fun y25 =>
        (y25).bind fun y26 =>
        some (y26.kind == (0 : Int)))).bind fun c21 =>
     bif c21 then
       (some (Cd.mk (0 : Int) [] (W4.mk (0 : Int) (0 : Int) (0 : Int) (0 : Int)) ([] : List Cd)))
     else
       ((idx xs14 (0 : Int)).bind fun y28 =>
        (y28).bind fun y29 =>
        bif (y29.kind == (1 : Int)) then
          ((idx xs14 (0 : Int)).bind fun y31 =>
           (y31).bind fun y32 =>
           (joinS x0.bits y32.bits).bind fun z33 =>
           (idx xs14 (1 : Int)).bind fun y34 =>
           (y34).bind fun y35 =>
           (F31 z33 y35).bind fun y36 =>
           some y36)
        else
          (some (Cd.mk (3 : Int) x0.bits (W4.mk (0 : Int) (0 : Int) (0 : Int) (0 : Int)) (List.map (fun o => o.getD Cd.z0) xs14)))))
  else
    ((F9 (List.map (fun o => o.getD Cd.z0) xs14)).bind fun y37 =>
     (F11 y37).bind fun y38 =>
     bif ((y38.length : Int) == (0 : Int)) then
       (some (Cd.mk (0 : Int) [] (W4.mk (0 : Int) (0 : Int) (0 : Int) (0 : Int)) ([] : List Cd)))
     else
       (bif ((y38.length : Int) == (1 : Int)) then
          ((idx y38 (0 : Int)).bind fun y41 =>
           (F31 x0.bits y41).bind fun y42 =>
           some y42)
        else
          (some (Cd.mk (4 : Int) x0.bits (W4.mk (0 : Int) (0 : Int) (0 : Int) (0 : Int)) y38))))
abbrev R37_0 (x0 : Cd) (id1 : Nat) (id2 : Nat) (m5 : Nat) (id6 : Nat) : (Int × (List (Option Cd))) → St → Prop := fun s st => ∃ (g : Nat → V) (h : Heap), Own h ([.arr id6 m5 7 (aCd.all s.2), .blk id2 [.pv (.int .i64 (0 : Int)), .pv (.str []), .pv (.int .u64 (0 : Int)), .pv (.int .u64 (0 : Int)), .pv (.int .u64 (0 : Int)), .pv (.int .u64 (0 : Int)), .nils], .blk id1 [.pv (.int .i64 x0.kind), .pv (.str x0.bits), .pv (.int .u64 x0.set.a), .pv (.int .u64 x0.set.b), .pv (.int .u64 x0.set.c), .pv (.int .u64 x0.set.d), .pv (.sl (List.map tCd.enc x0.l))]]) ∧ st = ⟨TL 91 (upds g [(1, .ptr id1 0), (2, .ptr id2 0), (3, .sln id6 0 m5 7 true), (20, .pv (.sl (List.map tCd.enc x0.l))), (21, .pv (.int .i64 (x0.l.length : Int))), (22, .pv (.int .i64 s.1))]), h⟩
abbrev A37_0 (x0 : Cd) (id1 : Nat) (id2 : Nat) (m5 : Nat) (id6 : Nat) : (List (Option Cd)) → St → Prop := fun s st => ∃ (g : Nat → V) (h : Heap), Own h ([.arr id6 m5 7 (aCd.all s), .blk id2 [.pv (.int .i64 (0 : Int)), .pv (.str []), .pv (.int .u64 (0 : Int)), .pv (.int .u64 (0 : Int)), .pv (.int .u64 (0 : Int)), .pv (.int .u64 (0 : Int)), .nils], .blk id1 [.pv (.int .i64 x0.kind), .pv (.str x0.bits), .pv (.int .u64 x0.set.a), .pv (.int .u64 x0.set.b), .pv (.int .u64 x0.set.c), .pv (.int .u64 x0.set.d), .pv (.sl (List.map tCd.enc x0.l))]]) ∧ st = ⟨TL 91 (upds g [(1, .ptr id1 0), (2, .ptr id2 0), (3, .sln id6 0 m5 7 true)]), h⟩
noncomputable def B37 (F9 : (List Cd) → Option (List Cd)) (F11 : (List Cd) → Option (List Cd)) (F31 : List UInt8 → Cd → Option Cd) (F37 : Cd → Option Cd) (x0 : Cd) : Option Cd :=
  bif ((x0.kind != (3 : Int)) && (x0.kind != (4 : Int))) then
    (some x0)
  else
    ((mkn 80 (x0.l.length : Int) (x0.l.length : Int)).bind fun m5 =>
     loopK (fun (s : (Int × (List (Option Cd)))) => B37_L0 F37 x0 s.1 s.2) ((0 : Int), (List.replicate m5 (none : Option Cd))) (fun (t : (List (Option Cd))) => B37_K0 F9 F11 F31 x0 t))
set_option maxRecDepth 100000 in
set_option maxHeartbeats 4000000 in
theorem B37_ok {E : Env} (F9 : (List Cd) → Option (List Cd)) (F11 : (List Cd) → Option (List Cd)) (F31 : List UInt8 → Cd → Option Cd) (F37 : Cd → Option Cd) (hF9 : ∀ (r : (List Cd)) (a0 : (List Cd)), F9 a0 = some r → limP E 9 [.sl (List.map tCd.enc a0)] = some [.sl (List.map tCd.enc r)]) (rF9 : E.raw 9 = false) (hF11 : ∀ (r : (List Cd)) (a0 : (List Cd)), F11 a0 = some r → limP E 11 [.sl (List.map tCd.enc a0)] = some [.sl (List.map tCd.enc r)]) (rF11 : E.raw 11 = false) (hF31 : ∀ (r : Cd) (a0 : List UInt8) (a1 : Cd), F31 a0 a1 = some r → limP E 31 [.str a0, .agg (Cd.cells a1)] = some [.agg (Cd.cells r)]) (rF31 : E.raw 31 = false) (hF37 : ∀ (r : Cd) (a0 : Cd), F37 a0 = some r → limP E 37 [.agg (Cd.cells a0)] = some [.agg (Cd.cells r)]) (rF37 : E.raw 37 = false) (H : Has E 37 c37)  (x0 : Cd) (r : Cd) (hB : B37 F9 F11 F31 F37 x0 = some r) : limP E 37 [.agg (Cd.cells x0)] = some [.agg (Cd.cells r)] := by
  have hO : Own [] [] := Own.nil
  refine Has.startD H rfl ?_; unfold B37 at hB
  refine X.box ([.pv (.int .i64 x0.kind), .pv (.str x0.bits), .pv (.int .u64 x0.set.a), .pv (.int .u64 x0.set.b), .pv (.int .u64 x0.set.c), .pv (.int .u64 x0.set.d), .pv (.sl (List.map tCd.enc x0.l))]) hO rfl rfl rfl rfl ?_
  clear hO; intro id1 h hO
  refine X.new hO ?_
  clear hO; intro id2 h hO
  replace hO : Own h ([.blk id2 [.pv (.int .i64 (0 : Int)), .pv (.str []), .pv (.int .u64 (0 : Int)), .pv (.int .u64 (0 : Int)), .pv (.int .u64 (0 : Int)), .pv (.int .u64 (0 : Int)), .nils], .blk id1 [.pv (.int .i64 x0.kind), .pv (.str x0.bits), .pv (.int .u64 x0.set.a), .pv (.int .u64 x0.set.b), .pv (.int .u64 x0.set.c), .pv (.int .u64 x0.set.d), .pv (.sl (List.map tCd.enc x0.l))]]) := hO
  refine X.stepZ ?_
  refine X.goMid (fun st => ∃ (g : Nat → V) (h : Heap), Own h ([.blk id2 [.pv (.int .i64 (0 : Int)), .pv (.str []), .pv (.int .u64 (0 : Int)), .pv (.int .u64 (0 : Int)), .pv (.int .u64 (0 : Int)), .pv (.int .u64 (0 : Int)), .nils], .blk id1 [.pv (.int .i64 x0.kind), .pv (.str x0.bits), .pv (.int .u64 x0.set.a), .pv (.int .u64 x0.set.b), .pv (.int .u64 x0.set.c), .pv (.int .u64 x0.set.d), .pv (.sl (List.map tCd.enc x0.l))]]) ∧ st = ⟨TL 91 (upds g [(1, .ptr id1 0), (2, .ptr id2 0), (13, .pv (.bool ((x0.kind != (3 : Int)) && (x0.kind != (4 : Int)))))]), h⟩) ?_ ?_
  · refine X.pure (.ptr id1 0) rfl rfl ?_
    refine X.load 1 (.pv (.int .i64 x0.kind)) hO rfl rfl rfl rfl ?_
    refine X.pure (.pv (.bool (x0.kind != (3 : Int)))) rfl rfl ?_
    refine X.pure (.pv (.bool (x0.kind != (3 : Int)))) rfl rfl ?_
    revert hO
    generalize (x0.kind != (3 : Int)) = c3
    cases c3 with
    | true =>
      intro hO
      refine X.yes rfl rfl ?_
      refine X.pure (.ptr id1 0) rfl rfl ?_
      refine X.yes rfl rfl ?_
      refine X.load 1 (.pv (.int .i64 x0.kind)) hO rfl rfl rfl rfl ?_
      refine X.yes rfl rfl ?_
      refine X.pure (.pv (.bool (x0.kind != (4 : Int)))) rfl rfl ?_
      refine X.pure (.pv (.bool (x0.kind != (4 : Int)))) rfl rfl ?_
      refine X.stepZ ?_
      exact X.skipL ⟨_, _, hO, st_keep _ ⟨rfl, rfl, rfl, trivial⟩⟩
    | false =>
      intro hO
      refine X.no rfl rfl ?_
      refine X.no rfl rfl ?_
      refine X.no rfl rfl ?_
      refine X.pure (.pv (.bool false)) rfl rfl ?_
      refine X.stepZ ?_
      exact X.skipL ⟨_, _, hO, st_keep _ ⟨rfl, rfl, rfl, trivial⟩⟩
  · rintro st ⟨g, h, hO, rfl⟩
    revert hB
    revert hO
    generalize ((x0.kind != (3 : Int)) && (x0.kind != (4 : Int))) = c4
    cases c4 with
    | true =>
      intro hO hB
      replace hB := bT hB
      refine X.condT rfl rfl ?_
      refine X.load 1 (.pv (.agg (Cd.cells x0))) hO rfl rfl rfl rfl ?_
      refine X.store 0 ([.pv (.int .i64 x0.kind), .pv (.str x0.bits), .pv (.int .u64 x0.set.a), .pv (.int .u64 x0.set.b), .pv (.int .u64 x0.set.c), .pv (.int .u64 x0.set.d), .pv (.sl (List.map tCd.enc x0.l))]) hO rfl rfl rfl rfl rfl rfl ?_
      clear hO; intro h hO
      refine X.stepZ ?_
      obtain rfl := Option.some.inj hB
      exact X.retS (Fin.leaf (us := [.pv (.agg (Cd.cells x0))]) rfl (resS_cell (load_own 0 hO rfl rfl)) (pureRes_one Wk.pv (by intro vs h; cases h)))
    | false =>
      intro hO hB
      replace hB := bF hB
      refine X.condF rfl rfl ?_
      refine X.skipS ?_
      refine X.pure (.ptr id1 6) rfl rfl ?_
      refine X.load 1 (.pv (.sl (List.map tCd.enc x0.l))) hO rfl rfl rfl rfl ?_
      refine X.len (l := x0.l) (g := tCd.enc) rfl rfl SlP.pv ?_
      replace hB := bS hB; obtain ⟨m5, hm5, hB⟩ := hB
      refine X.mkArr aCd (none : Option Cd) hm5 hO rfl rfl rfl rfl rfl (.inl rfl) (by decide) ?_
      clear hO; intro id6 h hO
      refine X.pure (.sln id6 0 m5 7 true) rfl rfl ?_
      refine X.stepZ ?_
      refine X.pure (.ptr id1 6) rfl rfl ?_
      refine X.load 2 (.pv (.sl (List.map tCd.enc x0.l))) hO rfl rfl rfl rfl ?_
      refine X.len (l := x0.l) (g := tCd.enc) rfl rfl SlP.pv ?_
      refine X.pure (.pv (.int .i64 (0 : Int))) rfl rfl ?_
      refine X.stepZ ?_
      refine X.loopQ (s0 := ((0 : Int), (List.replicate m5 (none : Option Cd)))) (R37_0 x0 id1 id2 m5 id6) (A37_0 x0 id1 id2 m5 id6) hB ?_ ?_ ?_
      · exact ⟨_, _, hO, st_keep _ ⟨rfl, rfl, rfl, rfl, rfl, rfl, trivial⟩⟩
      · rintro ⟨t227, xs8⟩ st o ⟨g, h, hO, rfl⟩ hB
        replace hB : B37_L0 F37 x0 t227 xs8 = some o := hB
        unfold B37_L0 at hB
        replace hO : Own h ([.arr id6 m5 7 (aCd.all xs8), .blk id2 [.pv (.int .i64 (0 : Int)), .pv (.str []), .pv (.int .u64 (0 : Int)), .pv (.int .u64 (0 : Int)), .pv (.int .u64 (0 : Int)), .pv (.int .u64 (0 : Int)), .nils], .blk id1 [.pv (.int .i64 x0.kind), .pv (.str x0.bits), .pv (.int .u64 x0.set.a), .pv (.int .u64 x0.set.b), .pv (.int .u64 x0.set.c), .pv (.int .u64 x0.set.d), .pv (.sl (List.map tCd.enc x0.l))]]) := hO
        refine X.pure (.pv (.bool (decide (t227 < (x0.l.length : Int))))) rfl rfl ?_
        refine X.stepZ ?_
        revert hB
        revert hO
        generalize (decide (t227 < (x0.l.length : Int))) = c15
        cases c15 with
        | true =>
          intro hO hB
          replace hB := bT hB
          refine X.condT rfl rfl ?_
          refine X.skipS ?_
          refine X.blockS ?_
          refine X.pure (.pv (.int .i64 t227)) rfl rfl ?_
          replace hB := bS hB; obtain ⟨y16, hy16, hB⟩ := hB
          refine X.at tCd hy16 rfl rfl SlP.pv rfl rfl ?_
          refine X.pure (.pv (.agg (Cd.cells y16))) rfl rfl ?_
          refine X.new hO ?_
          clear hO; intro id17 h hO
          replace hO : Own h ([.blk id17 [.pv (.int .i64 (0 : Int)), .pv (.str []), .pv (.int .u64 (0 : Int)), .pv (.int .u64 (0 : Int)), .pv (.int .u64 (0 : Int)), .pv (.int .u64 (0 : Int)), .nils], .arr id6 m5 7 (aCd.all xs8), .blk id2 [.pv (.int .i64 (0 : Int)), .pv (.str []), .pv (.int .u64 (0 : Int)), .pv (.int .u64 (0 : Int)), .pv (.int .u64 (0 : Int)), .pv (.int .u64 (0 : Int)), .nils], .blk id1 [.pv (.int .i64 x0.kind), .pv (.str x0.bits), .pv (.int .u64 x0.set.a), .pv (.int .u64 x0.set.b), .pv (.int .u64 x0.set.c), .pv (.int .u64 x0.set.d), .pv (.sl (List.map tCd.enc x0.l))]]) := hO
          refine X.pure (.pv (.int .i64 t227)) rfl rfl ?_
          refine X.store 0 ([.pv (.int .i64 y16.kind), .pv (.str y16.bits), .pv (.int .u64 y16.set.a), .pv (.int .u64 y16.set.b), .pv (.int .u64 y16.set.c), .pv (.int .u64 y16.set.d), .pv (.sl (List.map tCd.enc y16.l))]) hO rfl rfl rfl rfl rfl rfl ?_
          clear hO; intro h hO
          refine X.stepZ ?_
          refine X.pure (.sln id6 0 m5 7 true) rfl rfl ?_
          refine X.pure (.pv (.int .i64 t227)) rfl rfl ?_
          refine X.load 0 (.pv (.agg (Cd.cells y16))) hO rfl rfl rfl rfl ?_
          replace hB := bS hB; obtain ⟨y18, hy18, hB⟩ := hB
          refine X.callW [.pv (.agg (Cd.cells y16))] [.agg (Cd.cells y16)] _ (hF37 _ _ hy18) rF37 rfl rfl ⟨Wk.pv, trivial⟩ ?_
          replace hB := bS hB; obtain ⟨y19, hy19, hB⟩ := hB
          refine X.pure (.ptr id6 (0 + Int.toNat t227 * 7)) rfl (atArr_op (A := aCd) 1 hO rfl hy19 (by decide) rfl rfl rfl) ?_
          refine X.storeArr 1 (A := aCd) (o := 0) (some y18) hO rfl hy19 rfl rfl rfl (by rw [Nat.zero_add] <;> rfl) rfl (storeV_all (c' := (aCd).vc (some y18)) rfl (AE.len _ _) (AE.len _ _) rfl) rfl ?_
          clear hO; intro h hO
          refine X.stepZ ?_
          refine X.skipB ?_
          refine X.pure (.pv (.int .i64 (IntKind.i64.wrap (t227 + (1 : Int))))) rfl rfl ?_
          refine X.pure (.pv (.int .i64 (IntKind.i64.wrap (t227 + (1 : Int))))) rfl rfl ?_
          refine X.stepZ ?_
          obtain rfl := Option.some.inj hB
          exact X.nextL ⟨_, _, (hO.sub (.cons _ (.cons_cons _ (.cons_cons _ (.cons_cons _ .slnil))))), st_keep _ ⟨rfl, rfl, rfl, rfl, rfl, rfl, trivial⟩⟩
        | false =>
          intro hO hB
          replace hB := bF hB
          refine X.condF rfl rfl ?_
          refine X.exitS ?_
          obtain rfl := Option.some.inj hB
          exact LP.brk' ⟨_, _, hO, st_keep _ ⟨rfl, rfl, rfl, trivial⟩⟩
      · rintro xs14 st ⟨g, h, hO, rfl⟩ hB
        replace hB : B37_K0 F9 F11 F31 x0 xs14 = some _ := hB
        unfold B37_K0 at hB
        replace hO : Own h ([.arr id6 m5 7 (aCd.all xs14), .blk id2 [.pv (.int .i64 (0 : Int)), .pv (.str []), .pv (.int .u64 (0 : Int)), .pv (.int .u64 (0 : Int)), .pv (.int .u64 (0 : Int)), .pv (.int .u64 (0 : Int)), .nils], .blk id1 [.pv (.int .i64 x0.kind), .pv (.str x0.bits), .pv (.int .u64 x0.set.a), .pv (.int .u64 x0.set.b), .pv (.int .u64 x0.set.c), .pv (.int .u64 x0.set.d), .pv (.sl (List.map tCd.enc x0.l))]]) := hO
        refine X.pure (.ptr id1 0) rfl rfl ?_
        refine X.load 2 (.pv (.int .i64 x0.kind)) hO rfl rfl rfl rfl ?_
        refine X.pure (.pv (.bool (x0.kind == (3 : Int)))) rfl rfl ?_
        refine X.stepZ ?_
        revert hB
        revert hO
        generalize (x0.kind == (3 : Int)) = c20
        cases c20 with
        | true =>
          intro hO hB
          replace hB := bT hB
          refine X.condT rfl rfl ?_
          refine X.blockS ?_
          replace hB := bS hB; obtain ⟨c21, hmid, hB⟩ := hB
          refine X.goMid (fun st => ∃ (g : Nat → V) (h : Heap), Own h ([.arr id6 m5 7 (aCd.all xs14), .blk id2 [.pv (.int .i64 (0 : Int)), .pv (.str []), .pv (.int .u64 (0 : Int)), .pv (.int .u64 (0 : Int)), .pv (.int .u64 (0 : Int)), .pv (.int .u64 (0 : Int)), .nils], .blk id1 [.pv (.int .i64 x0.kind), .pv (.str x0.bits), .pv (.int .u64 x0.set.a), .pv (.int .u64 x0.set.b), .pv (.int .u64 x0.set.c), .pv (.int .u64 x0.set.d), .pv (.sl (List.map tCd.enc x0.l))]]) ∧ st = ⟨TL 91 (upds g [(1, .ptr id1 0), (2, .ptr id2 0), (3, .sln id6 0 m5 7 true), (36, .pv (.bool c21))]), h⟩) ?_ ?_
          · replace hB := hmid
            refine X.pure (.sln id6 0 m5 7 true) rfl rfl ?_
            replace hB := bS hB; obtain ⟨y22, hy22, hB⟩ := hB
            refine X.pure (.ptr id6 (0 + Int.toNat (0 : Int) * 7)) rfl (atArr_op (A := aCd) 0 hO rfl hy22 (by decide) rfl rfl rfl) ?_
            refine X.pure (.ptr id6 (0 + Int.toNat (0 : Int) * 7 + 0)) rfl rfl ?_
            replace hB := bS hB; obtain ⟨y23, hz0, hB⟩ := hB
            subst hz0
            refine X.pure (.pv (.int .i64 y23.kind)) rfl (loadArr_op (A := aCd) (o := 0) 0 hO rfl hy22 rfl rfl (by rw [Nat.zero_add] <;> rfl) rfl) ?_
            refine X.pure (.pv (.bool (y23.kind == (0 : Int)))) rfl rfl ?_
            refine X.pure (.pv (.bool (y23.kind == (0 : Int)))) rfl rfl ?_
            revert hB
            revert hO
            generalize (y23.kind == (0 : Int)) = c24
            cases c24 with
            | true =>
              intro hO hB
              replace hB := bT hB
              refine X.no rfl rfl ?_
              refine X.no rfl rfl ?_
              refine X.no rfl rfl ?_
              refine X.no rfl rfl ?_
              refine X.no rfl rfl ?_
              refine X.pure (.pv (.bool true)) rfl rfl ?_
              refine X.pure (.pv (.bool true)) rfl rfl ?_
              refine X.stepZ ?_
              obtain rfl := Option.some.inj hB
              exact X.skipL ⟨_, _, hO, st_keep _ ⟨rfl, rfl, rfl, rfl, trivial⟩⟩
            | false =>
              intro hO hB
              replace hB := bF hB
              refine X.yes rfl rfl ?_
              refine X.pure (.sln id6 0 m5 7 true) rfl rfl ?_
              refine X.yes rfl rfl ?_
              replace hB := bS hB; obtain ⟨y25, hy25, hB⟩ := hB
              refine X.pure (.ptr id6 (0 + Int.toNat (1 : Int) * 7)) rfl (atArr_op (A := aCd) 0 hO rfl hy25 (by decide) rfl rfl rfl) ?_
              refine X.yes rfl rfl ?_
              refine X.pure (.ptr id6 (0 + Int.toNat (1 : Int) * 7 + 0)) rfl rfl ?_
              refine X.yes rfl rfl ?_
              replace hB := bS hB; obtain ⟨y26, hz0, hB⟩ := hB
              subst hz0
              refine X.pure (.pv (.int .i64 y26.kind)) rfl (loadArr_op (A := aCd) (o := 0) 0 hO rfl hy25 rfl rfl (by rw [Nat.zero_add] <;> rfl) rfl) ?_
              refine X.yes rfl rfl ?_
              refine X.pure (.pv (.bool (y26.kind == (0 : Int)))) rfl rfl ?_
              refine X.pure (.pv (.bool (y26.kind == (0 : Int)))) rfl rfl ?_
              refine X.pure (.pv (.bool (y26.kind == (0 : Int)))) rfl rfl ?_
              refine X.stepZ ?_
              obtain rfl := Option.some.inj hB
              exact X.skipL ⟨_, _, hO, st_keep _ ⟨rfl, rfl, rfl, rfl, trivial⟩⟩
          · rintro st ⟨g, h, hO, rfl⟩
            revert hB
            revert hO
            generalize c21 = c27
            cases c27 with
            | true =>
              intro hO hB
              replace hB := bT hB
              refine X.condT rfl rfl ?_
              refine X.pure (.agg [.pv (.int .i64 (0 : Int)), .pv (.str []), .pv (.int .u64 (0 : Int)), .pv (.int .u64 (0 : Int)), .pv (.int .u64 (0 : Int)), .pv (.int .u64 (0 : Int)), .nils]) rfl rfl ?_
              refine X.store 1 ([.pv (.int .i64 (0 : Int)), .pv (.str []), .pv (.int .u64 (0 : Int)), .pv (.int .u64 (0 : Int)), .pv (.int .u64 (0 : Int)), .pv (.int .u64 (0 : Int)), .nils]) hO rfl rfl rfl rfl rfl rfl ?_
              clear hO; intro h hO
              refine X.stepZ ?_
              obtain rfl := Option.some.inj hB
              exact X.retS (Fin.leaf (us := [.agg [.pv (.int .i64 (0 : Int)), .pv (.str []), .pv (.int .u64 (0 : Int)), .pv (.int .u64 (0 : Int)), .pv (.int .u64 (0 : Int)), .pv (.int .u64 (0 : Int)), .nils]]) rfl (resS_cell (load_own 1 hO rfl rfl)) (pureRes_one (Wk.agg ⟨Wk1.pv, Wk1.pv, Wk1.pv, Wk1.pv, Wk1.pv, Wk1.pv, (SlP.nils).wk1, trivial⟩) (by intro vs h; cases h)))
            | false =>
              intro hO hB
              replace hB := bF hB
              refine X.condF rfl rfl ?_
              refine X.pure (.sln id6 0 m5 7 true) rfl rfl ?_
              replace hB := bS hB; obtain ⟨y28, hy28, hB⟩ := hB
              refine X.pure (.ptr id6 (0 + Int.toNat (0 : Int) * 7)) rfl (atArr_op (A := aCd) 0 hO rfl hy28 (by decide) rfl rfl rfl) ?_
              refine X.pure (.ptr id6 (0 + Int.toNat (0 : Int) * 7 + 0)) rfl rfl ?_
              replace hB := bS hB; obtain ⟨y29, hz0, hB⟩ := hB
              subst hz0
              refine X.pure (.pv (.int .i64 y29.kind)) rfl (loadArr_op (A := aCd) (o := 0) 0 hO rfl hy28 rfl rfl (by rw [Nat.zero_add] <;> rfl) rfl) ?_
              refine X.pure (.pv (.bool (y29.kind == (1 : Int)))) rfl rfl ?_
              refine X.pure (.pv (.bool (y29.kind == (1 : Int)))) rfl rfl ?_
              refine X.stepZ ?_
              revert hB
              revert hO
              generalize (y29.kind == (1 : Int)) = c30
              cases c30 with
              | true =>
                intro hO hB
                replace hB := bT hB
                refine X.condT rfl rfl ?_
                refine X.drawS [([], []), ([2], []), ([], []), ([], []), ([], []), ([0], []), ([], []), ([], []), ([], []), ([0], []), ([], []), ([1, 3], [1, 3])] (m := List.map Res.ids [.arr id6 m5 7 (aCd.all xs14), .blk id2 [.pv (.int .i64 (0 : Int)), .pv (.str []), .pv (.int .u64 (0 : Int)), .pv (.int .u64 (0 : Int)), .pv (.int .u64 (0 : Int)), .pv (.int .u64 (0 : Int)), .nils], .blk id1 [.pv (.int .i64 x0.kind), .pv (.str x0.bits), .pv (.int .u64 x0.set.a), .pv (.int .u64 x0.set.b), .pv (.int .u64 x0.set.c), .pv (.int .u64 x0.set.d), .pv (.sl (List.map tCd.enc x0.l))]]) hO.labOk rfl ?_
                refine XS.calm [] (.ptr id1 1) rfl (rfl) (lab_none rfl) rfl ?_
                refine XS.read [2] (.pv (.str x0.bits)) rfl rfl (load_op 2 hO rfl rfl rfl) List.mem_cons_self ?_
                refine XS.calm [] (.sln id6 0 m5 7 true) rfl (rfl) (lab_none rfl) rfl ?_
                replace hB := bS hB; obtain ⟨y31, hy31, hB⟩ := hB
                refine XS.calm [] (.ptr id6 (0 + Int.toNat (0 : Int) * 7)) rfl (atArr_op (A := aCd) 0 hO rfl hy31 (by decide) rfl rfl rfl) (lab_none rfl) rfl ?_
                refine XS.calm [] (.ptr id6 (0 + Int.toNat (0 : Int) * 7 + 1)) rfl (rfl) (lab_none rfl) rfl ?_
                replace hB := bS hB; obtain ⟨y32, hz0, hB⟩ := hB
                subst hz0
                refine XS.read [0] (.pv (.str y32.bits)) rfl rfl (loadArr_op (A := aCd) (o := 1) 0 hO rfl hy31 rfl rfl (by rw [Nat.zero_add] <;> rfl) rfl) List.mem_cons_self ?_
                replace hB := bS hB; obtain ⟨z33, hz33, hB⟩ := hB
                refine XS.calm [] (.pv (.str z33)) rfl (joinS_op hz33 rfl rfl) (lab_none rfl) rfl ?_
                refine XS.calm [] (.sln id6 0 m5 7 true) rfl (rfl) (lab_none rfl) rfl ?_
                replace hB := bS hB; obtain ⟨y34, hy34, hB⟩ := hB
                refine XS.calm [] (.ptr id6 (0 + Int.toNat (1 : Int) * 7)) rfl (atArr_op (A := aCd) 0 hO rfl hy34 (by decide) rfl rfl rfl) (lab_none rfl) rfl ?_
                replace hB := bS hB; obtain ⟨y35, hz0, hB⟩ := hB
                subst hz0
                refine XS.read [0] (.pv (.agg (Cd.cells y35))) rfl rfl (loadArr_op (A := aCd) (o := 0) 0 hO rfl hy34 rfl rfl (by rw [Nat.zero_add] <;> rfl) rfl) List.mem_cons_self ?_
                replace hB := bS hB; obtain ⟨y36, hy36, hB⟩ := hB
                refine XS.callP [.str z33, .agg (Cd.cells y35)] _ (hF31 _ _ _ hy36) rF31 rfl rfl ?_
                refine XS.store 1 [1] [1, 3] ([.pv (.int .i64 y36.kind), .pv (.str y36.bits), .pv (.int .u64 y36.set.a), .pv (.int .u64 y36.set.b), .pv (.int .u64 y36.set.c), .pv (.int .u64 y36.set.d), .pv (.sl (List.map tCd.enc y36.l))]) hO rfl rfl rfl rfl rfl rfl List.mem_cons_self rfl ?_
                clear hO; intro h hO
                refine XS.nil ?_
                obtain rfl := Option.some.inj hB
                exact X.retS (Fin.leaf (us := [.pv (.agg (Cd.cells y36))]) rfl (resS_cell (load_own 1 hO rfl rfl)) (pureRes_one Wk.pv (by intro vs h; cases h)))
              | false =>
                intro hO hB
                replace hB := bF hB
                refine X.condF rfl rfl ?_
                refine X.skipS ?_
                refine X.skipB ?_
                refine X.pure (.ptr id1 1) rfl rfl ?_
                refine X.load 2 (.pv (.str x0.bits)) hO rfl rfl rfl rfl ?_
                refine X.pure (.sln id6 0 m5 7 true) rfl rfl ?_
                refine X.pure (.agg [.pv (.int .i64 (3 : Int)), .pv (.str x0.bits), .pv (.int .u64 (0 : Int)), .pv (.int .u64 (0 : Int)), .pv (.int .u64 (0 : Int)), .pv (.int .u64 (0 : Int)), .sln id6 0 m5 7 true]) rfl rfl ?_
                refine X.store 1 ([.pv (.int .i64 (3 : Int)), .pv (.str x0.bits), .pv (.int .u64 (0 : Int)), .pv (.int .u64 (0 : Int)), .pv (.int .u64 (0 : Int)), .pv (.int .u64 (0 : Int)), .sln id6 0 m5 7 true]) hO rfl rfl rfl rfl rfl rfl ?_
                clear hO; intro h hO
                refine X.stepZ ?_
                obtain rfl := Option.some.inj hB
                exact X.retS (Fin.leaf (us := [.agg [.pv (.int .i64 (3 : Int)), .pv (.str x0.bits), .pv (.int .u64 (0 : Int)), .pv (.int .u64 (0 : Int)), .pv (.int .u64 (0 : Int)), .pv (.int .u64 (0 : Int)), .sln id6 0 m5 7 true]]) rfl (resS_cell (load_own 1 hO rfl rfl)) (pureRes_aggArr sCd (vs := [.pv (.int .i64 (3 : Int)), .pv (.str x0.bits), .pv (.int .u64 (0 : Int)), .pv (.int .u64 (0 : Int)), .pv (.int .u64 (0 : Int)), .pv (.int .u64 (0 : Int))]) (us := []) (ps := [.int .i64 (3 : Int), .str x0.bits, .int .u64 (0 : Int), .int .u64 (0 : Int), .int .u64 (0 : Int), .int .u64 (0 : Int)]) (qs := []) 0 hO rfl (by decide) rfl ⟨Wk1.pv, Wk1.pv, Wk1.pv, Wk1.pv, Wk1.pv, Wk1.pv, trivial⟩ trivial))
        | false =>
          intro hO hB
          replace hB := bF hB
          refine X.condF rfl rfl ?_
          refine X.skipS ?_
          refine X.pure (.sln id6 0 m5 7 true) rfl rfl ?_
          replace hB := bS hB; obtain ⟨y37, hy37, hB⟩ := hB
          refine X.callA sCd 0 hO rfl (by decide) rfl (hF9 _ _ hy37) rF9 rfl rfl rfl ?_
          clear hO; intro h hO
          replace hB := bS hB; obtain ⟨y38, hy38, hB⟩ := hB
          refine X.callW [.pv (.sl (List.map tCd.enc y37))] [.sl (List.map tCd.enc y37)] _ (hF11 _ _ hy38) rF11 rfl rfl ⟨Wk.pv, trivial⟩ ?_
          refine X.pure (.pv (.sl (List.map tCd.enc y38))) rfl rfl ?_
          refine X.stepZ ?_
          refine X.pure (.pv (.sl (List.map tCd.enc y38))) rfl rfl ?_
          refine X.len (l := y38) (g := tCd.enc) rfl rfl SlP.pv ?_
          refine X.stepZ ?_
          refine X.blockS ?_
          refine X.pure (.pv (.bool ((y38.length : Int) == (0 : Int)))) rfl rfl ?_
          refine X.pure (.pv (.bool ((y38.length : Int) == (0 : Int)))) rfl rfl ?_
          refine X.stepZ ?_
          revert hB
          revert hO
          generalize ((y38.length : Int) == (0 : Int)) = c39
          cases c39 with
          | true =>
            intro hO hB
            replace hB := bT hB
            refine X.condT rfl rfl ?_
            refine X.pure (.agg [.pv (.int .i64 (0 : Int)), .pv (.str []), .pv (.int .u64 (0 : Int)), .pv (.int .u64 (0 : Int)), .pv (.int .u64 (0 : Int)), .pv (.int .u64 (0 : Int)), .nils]) rfl rfl ?_
            refine X.store 0 ([.pv (.int .i64 (0 : Int)), .pv (.str []), .pv (.int .u64 (0 : Int)), .pv (.int .u64 (0 : Int)), .pv (.int .u64 (0 : Int)), .pv (.int .u64 (0 : Int)), .nils]) hO rfl rfl rfl rfl rfl rfl ?_
            clear hO; intro h hO
            refine X.stepZ ?_
            obtain rfl := Option.some.inj hB
            exact X.retS (Fin.leaf (us := [.agg [.pv (.int .i64 (0 : Int)), .pv (.str []), .pv (.int .u64 (0 : Int)), .pv (.int .u64 (0 : Int)), .pv (.int .u64 (0 : Int)), .pv (.int .u64 (0 : Int)), .nils]]) rfl (resS_cell (load_own 0 hO rfl rfl)) (pureRes_one (Wk.agg ⟨Wk1.pv, Wk1.pv, Wk1.pv, Wk1.pv, Wk1.pv, Wk1.pv, (SlP.nils).wk1, trivial⟩) (by intro vs h; cases h)))
          | false =>
            intro hO hB
            replace hB := bF hB
            refine X.condF rfl rfl ?_
            refine X.pure (.pv (.bool ((y38.length : Int) == (1 : Int)))) rfl rfl ?_
            refine X.pure (.pv (.bool ((y38.length : Int) == (1 : Int)))) rfl rfl ?_
            refine X.stepZ ?_
            revert hB
            revert hO
            generalize ((y38.length : Int) == (1 : Int)) = c40
            cases c40 with
            | true =>
              intro hO hB
              replace hB := bT hB
              refine X.condT rfl rfl ?_
              refine X.drawS [([], []), ([1], []), ([], []), ([], []), ([], []), ([], []), ([0, 2], [0, 2])] (m := List.map Res.ids [.blk id2 [.pv (.int .i64 (0 : Int)), .pv (.str []), .pv (.int .u64 (0 : Int)), .pv (.int .u64 (0 : Int)), .pv (.int .u64 (0 : Int)), .pv (.int .u64 (0 : Int)), .nils], .blk id1 [.pv (.int .i64 x0.kind), .pv (.str x0.bits), .pv (.int .u64 x0.set.a), .pv (.int .u64 x0.set.b), .pv (.int .u64 x0.set.c), .pv (.int .u64 x0.set.d), .pv (.sl (List.map tCd.enc x0.l))]]) hO.labOk rfl ?_
              refine XS.calm [] (.ptr id1 1) rfl (rfl) (lab_none rfl) rfl ?_
              refine XS.read [1] (.pv (.str x0.bits)) rfl rfl (load_op 1 hO rfl rfl rfl) List.mem_cons_self ?_
              refine XS.calm [] (.pv (.sl (List.map tCd.enc y38))) rfl (rfl) (lab_none rfl) rfl ?_
              replace hB := bS hB; obtain ⟨y41, hy41, hB⟩ := hB
              refine XS.calm [] (.pv (.ip (tCd.cells y41) 0)) rfl (at_op tCd hy41 rfl SlP.pv rfl rfl) (lab_none rfl) rfl ?_
              refine XS.calm [] (.pv (.agg (Cd.cells y41))) rfl (rfl) (lab_none rfl) rfl ?_
              replace hB := bS hB; obtain ⟨y42, hy42, hB⟩ := hB
              refine XS.callP [.str x0.bits, .agg (Cd.cells y41)] _ (hF31 _ _ _ hy42) rF31 rfl rfl ?_
              refine XS.store 0 [0] [0, 2] ([.pv (.int .i64 y42.kind), .pv (.str y42.bits), .pv (.int .u64 y42.set.a), .pv (.int .u64 y42.set.b), .pv (.int .u64 y42.set.c), .pv (.int .u64 y42.set.d), .pv (.sl (List.map tCd.enc y42.l))]) hO rfl rfl rfl rfl rfl rfl List.mem_cons_self rfl ?_
              clear hO; intro h hO
              refine XS.nil ?_
              obtain rfl := Option.some.inj hB
              exact X.retS (Fin.leaf (us := [.pv (.agg (Cd.cells y42))]) rfl (resS_cell (load_own 0 hO rfl rfl)) (pureRes_one Wk.pv (by intro vs h; cases h)))
            | false =>
              intro hO hB
              replace hB := bF hB
              refine X.condF rfl rfl ?_
              refine X.skipS ?_
              refine X.skipB ?_
              refine X.pure (.ptr id1 1) rfl rfl ?_
              refine X.load 1 (.pv (.str x0.bits)) hO rfl rfl rfl rfl ?_
              refine X.pure (.pv (.sl (List.map tCd.enc y38))) rfl rfl ?_
              refine X.pure (.pv (.agg [.int .i64 (4 : Int), .str x0.bits, .int .u64 (0 : Int), .int .u64 (0 : Int), .int .u64 (0 : Int), .int .u64 (0 : Int), .sl (List.map tCd.enc y38)])) rfl rfl ?_
              refine X.store 0 ([.pv (.int .i64 (4 : Int)), .pv (.str x0.bits), .pv (.int .u64 (0 : Int)), .pv (.int .u64 (0 : Int)), .pv (.int .u64 (0 : Int)), .pv (.int .u64 (0 : Int)), .pv (.sl (List.map tCd.enc y38))]) hO rfl rfl rfl rfl rfl rfl ?_
              clear hO; intro h hO
              refine X.stepZ ?_
              obtain rfl := Option.some.inj hB
              exact X.retS (Fin.leaf (us := [.pv (.agg [.int .i64 (4 : Int), .str x0.bits, .int .u64 (0 : Int), .int .u64 (0 : Int), .int .u64 (0 : Int), .int .u64 (0 : Int), .sl (List.map tCd.enc y38)])]) rfl (resS_cell (load_own 0 hO rfl rfl)) (pureRes_one Wk.pv (by intro vs h; cases h)))
noncomputable def B38 (F58 : Rc → Int → Option Int) (F59 : Rc → Int → Option Int) (F60 : Rc → Option Bool) (x0 : Rc) : Option Bool :=
  ((F58 x0 (20001 : Int)).bind fun y3 =>
  bif (decide (y3 ≤ (20000 : Int))) then
    ((F59 x0 (8000 : Int)).bind fun y5 =>
     bif (decide (y5 ≤ (8000 : Int))) then
       ((F60 x0).bind fun y7 =>
        some y7)
     else
       (some false))
  else
    (some false)).bind fun c2 =>
  some c2
set_option maxRecDepth 100000 in
set_option maxHeartbeats 4000000 in
theorem B38_ok {E : Env} (F58 : Rc → Int → Option Int) (F59 : Rc → Int → Option Int) (F60 : Rc → Option Bool) (hF58 : ∀ (r : Int) (a0 : Rc) (a1 : Int), F58 a0 a1 = some r → limP E 58 [.agg (Rc.cells a0), .int .i64 a1] = some [.int .i64 r]) (rF58 : E.raw 58 = false) (hF59 : ∀ (r : Int) (a0 : Rc) (a1 : Int), F59 a0 a1 = some r → limP E 59 [.agg (Rc.cells a0), .int .i64 a1] = some [.int .i64 r]) (rF59 : E.raw 59 = false) (hF60 : ∀ (r : Bool) (a0 : Rc), F60 a0 = some r → limP E 60 [.agg (Rc.cells a0)] = some [.bool r]) (rF60 : E.raw 60 = false) (H : Has E 38 c38)  (x0 : Rc) (r : Bool) (hB : B38 F58 F59 F60 x0 = some r) : limP E 38 [.agg (Rc.cells x0)] = some [.bool r] := by
  have hO : Own [] [] := Own.nil
  refine Has.startD H rfl ?_; unfold B38 at hB
  refine X.box ((([.pv (.int .i64 x0.kind), .pv (.str x0.bits)] : List V) ++ (((bits256 x0.set).map V.pv) ++ ([.pv (.sl (List.map tRc.enc x0.l))] : List V)))) hO rfl rfl (big_cells rfl rfl) (big_all rfl rfl) ?_
  clear hO; intro id1 h hO
  refine X.pure (.pv (.bool false)) rfl rfl ?_
  refine X.stepZ ?_
  replace hB := bS hB; obtain ⟨c2, hmid, hB⟩ := hB
  refine X.goMid (fun st => ∃ (g : Nat → V) (h : Heap), Own h ([]) ∧ st = ⟨TL 15 (upds g [(2, .pv (.bool c2))]), h⟩) ?_ ?_
  · replace hB := hmid
    refine X.load 0 (.pv (.agg (Rc.cells x0))) hO rfl rfl rfl (big_whole rfl (mkAgg_big rfl rfl)) ?_
    replace hB := bS hB; obtain ⟨y3, hy3, hB⟩ := hB
    refine X.callW [.pv (.agg (Rc.cells x0)), .pv (.int .i64 (20001 : Int))] [.agg (Rc.cells x0), .int .i64 (20001 : Int)] _ (hF58 _ _ _ hy3) rF58 rfl rfl ⟨Wk.pv, Wk.pv, trivial⟩ ?_
    refine X.pure (.pv (.bool (decide (y3 ≤ (20000 : Int))))) rfl rfl ?_
    refine X.pure (.pv (.bool (decide (y3 ≤ (20000 : Int))))) rfl rfl ?_
    revert hB
    revert hO
    generalize (decide (y3 ≤ (20000 : Int))) = c4
    cases c4 with
    | true =>
      intro hO hB
      replace hB := bT hB
      refine X.yes rfl rfl ?_
      refine X.load 0 (.pv (.agg (Rc.cells x0))) hO rfl rfl rfl (big_whole rfl (mkAgg_big rfl rfl)) ?_
      refine X.yes rfl rfl ?_
      replace hB := bS hB; obtain ⟨y5, hy5, hB⟩ := hB
      refine X.callW [.pv (.agg (Rc.cells x0)), .pv (.int .i64 (8000 : Int))] [.agg (Rc.cells x0), .int .i64 (8000 : Int)] _ (hF59 _ _ _ hy5) rF59 rfl rfl ⟨Wk.pv, Wk.pv, trivial⟩ ?_
      refine X.yes rfl rfl ?_
      refine X.pure (.pv (.bool (decide (y5 ≤ (8000 : Int))))) rfl rfl ?_
      refine X.pure (.pv (.bool (decide (y5 ≤ (8000 : Int))))) rfl rfl ?_
      refine X.pure (.pv (.bool (decide (y5 ≤ (8000 : Int))))) rfl rfl ?_
      revert hB
      revert hO
      generalize (decide (y5 ≤ (8000 : Int))) = c6
      cases c6 with
      | true =>
        intro hO hB
        replace hB := bT hB
        refine X.yes rfl rfl ?_
        refine X.load 0 (.pv (.agg (Rc.cells x0))) hO rfl rfl rfl (big_whole rfl (mkAgg_big rfl rfl)) ?_
        refine X.yes rfl rfl ?_
        replace hB := bS hB; obtain ⟨y7, hy7, hB⟩ := hB
        refine X.callW [.pv (.agg (Rc.cells x0))] [.agg (Rc.cells x0)] _ (hF60 _ _ hy7) rF60 rfl rfl ⟨Wk.pv, trivial⟩ ?_
        refine X.pure (.pv (.bool y7)) rfl rfl ?_
        refine X.pure (.pv (.bool y7)) rfl rfl ?_
        refine X.stepZ ?_
        obtain rfl := Option.some.inj hB
        exact X.skipL ⟨_, _, (hO.sub (.cons _ .slnil)), st_keep _ ⟨rfl, trivial⟩⟩
      | false =>
        intro hO hB
        replace hB := bF hB
        refine X.no rfl rfl ?_
        refine X.no rfl rfl ?_
        refine X.pure (.pv (.bool false)) rfl rfl ?_
        refine X.pure (.pv (.bool false)) rfl rfl ?_
        refine X.stepZ ?_
        obtain rfl := Option.some.inj hB
        exact X.skipL ⟨_, _, (hO.sub (.cons _ .slnil)), st_keep _ ⟨rfl, trivial⟩⟩
    | false =>
      intro hO hB
      replace hB := bF hB
      refine X.no rfl rfl ?_
      refine X.no rfl rfl ?_
      refine X.no rfl rfl ?_
      refine X.pure (.pv (.bool false)) rfl rfl ?_
      refine X.pure (.pv (.bool false)) rfl rfl ?_
      refine X.no rfl rfl ?_
      refine X.no rfl rfl ?_
      refine X.pure (.pv (.bool false)) rfl rfl ?_
      refine X.pure (.pv (.bool false)) rfl rfl ?_
      refine X.stepZ ?_
      obtain rfl := Option.some.inj hB
      exact X.skipL ⟨_, _, (hO.sub (.cons _ .slnil)), st_keep _ ⟨rfl, trivial⟩⟩
  · rintro st ⟨g, h, hO, rfl⟩
    obtain rfl := Option.some.inj hB
    exact X.retS (Fin.leaf (us := [.pv (.bool c2)]) rfl rfl (pureRes_one Wk.pv (by intro vs h; cases h)))
noncomputable def B39_L0 (F39 : Rc → Option Rc) (x0 : Rc) (l16 : (List Rc)) (i18 : Int) : Option (Lp ((List Rc) × Int) (List Rc) Rc) :=
  bif (decide (i18 < (x0.l.length : Int))) then
    ((idx x0.l i18).bind fun y27 =>
     (F39 y27).bind fun y28 =>
     (join 304 l16 [y28]).bind fun z29 =>
     some (.next (z29, (IntKind.i64.wrap (i18 + (1 : Int))))))
  else
    (some (.brk l16))
noncomputable def B39_K0 (F10 : (List Rc) → Option (List Rc)) (F12 : (List Rc) → Option (List Rc)) (F32 : List UInt8 → Rc → Option Rc) (x0 : Rc) (l24 : (List Rc)) : Option Rc :=
  (F10 l24).bind fun y31 =>
  (F12 y31).bind fun y32 =>
  bif ((y32.length : Int) == (0 : Int)) then
    (some (Rc.mk (0 : Int) [] (0#256) ([] : List Rc)))
  else
    (bif ((y32.length : Int) == (1 : Int)) then
       ((idx y32 (0 : Int)).bind fun y36 =>
        (F32 x0.bits y36).bind fun y37 =>
        some y37)
     else
       (some (Rc.mk (4 : Int) x0.bits (0#256) y32)))
abbrev R39_0 (x0 : Rc) (id1 : Nat) (id2 : Nat) : ((List Rc) × Int) → St → Prop := fun s st => ∃ (g : Nat → V) (h : Heap) (v17 : V), Own h ([.row v17 (List.map tRc.enc s.1), .blk id2 (([.pv (.int .i64 (0 : Int)), .pv (.str [])] : List V) ++ (((bits256 (0#256)).map V.pv) ++ ([.nils] : List V))), .blk id1 (([.pv (.int .i64 x0.kind), .pv (.str x0.bits)] : List V) ++ (((bits256 x0.set).map V.pv) ++ ([.pv (.sl (List.map tRc.enc x0.l))] : List V)))]) ∧ st = ⟨TL 85 (upds g [(1, .ptr id1 0), (2, .ptr id2 0), (5, v17), (6, .pv (.int .i64 s.2))]), h⟩
abbrev A39_0 (x0 : Rc) (id1 : Nat) (id2 : Nat) : (List Rc) → St → Prop := fun s st => ∃ (g : Nat → V) (h : Heap) (v25 : V), Own h ([.row v25 (List.map tRc.enc s), .blk id2 (([.pv (.int .i64 (0 : Int)), .pv (.str [])] : List V) ++ (((bits256 (0#256)).map V.pv) ++ ([.nils] : List V))), .blk id1 (([.pv (.int .i64 x0.kind), .pv (.str x0.bits)] : List V) ++ (((bits256 x0.set).map V.pv) ++ ([.pv (.sl (List.map tRc.enc x0.l))] : List V)))]) ∧ st = ⟨TL 85 (upds g [(1, .ptr id1 0), (2, .ptr id2 0), (5, v25)]), h⟩
noncomputable def B39 (F10 : (List Rc) → Option (List Rc)) (F12 : (List Rc) → Option (List Rc)) (F32 : List UInt8 → Rc → Option Rc) (F39 : Rc → Option Rc) (x0 : Rc) : Option Rc :=
  bif (x0.kind == (3 : Int)) then
    ((idx x0.l (0 : Int)).bind fun y4 =>
     (F39 y4).bind fun y5 =>
     (idx x0.l (1 : Int)).bind fun y6 =>
     (F39 y6).bind fun y7 =>
     bif ((y5.kind == (0 : Int)) || (y7.kind == (0 : Int))) then
       (some (Rc.mk (0 : Int) [] (0#256) ([] : List Rc)))
     else
       (bif (y5.kind == (1 : Int)) then
          ((joinS x0.bits y5.bits).bind fun z13 =>
           (F32 z13 y7).bind fun y14 =>
           some y14)
        else
          (some (Rc.mk (3 : Int) x0.bits (0#256) [y5, y7]))))
  else
    (bif (x0.kind == (4 : Int)) then
       (loopK (fun (s : ((List Rc) × Int)) => B39_L0 F39 x0 s.1 s.2) (([] : List Rc), (0 : Int)) (fun (t : (List Rc)) => B39_K0 F10 F12 F32 x0 t))
     else
       (some x0))
set_option maxRecDepth 100000 in
set_option maxHeartbeats 4000000 in
theorem B39_ok {E : Env} (F10 : (List Rc) → Option (List Rc)) (F12 : (List Rc) → Option (List Rc)) (F32 : List UInt8 → Rc → Option Rc) (F39 : Rc → Option Rc) (hF10 : ∀ (r : (List Rc)) (a0 : (List Rc)), F10 a0 = some r → limP E 10 [.sl (List.map tRc.enc a0)] = some [.sl (List.map tRc.enc r)]) (rF10 : E.raw 10 = false) (hF12 : ∀ (r : (List Rc)) (a0 : (List Rc)), F12 a0 = some r → limP E 12 [.sl (List.map tRc.enc a0)] = some [.sl (List.map tRc.enc r)]) (rF12 : E.raw 12 = false) (hF32 : ∀ (r : Rc) (a0 : List UInt8) (a1 : Rc), F32 a0 a1 = some r → limP E 32 [.str a0, .agg (Rc.cells a1)] = some [.agg (Rc.cells r)]) (rF32 : E.raw 32 = false) (hF39 : ∀ (r : Rc) (a0 : Rc), F39 a0 = some r → limP E 39 [.agg (Rc.cells a0)] = some [.agg (Rc.cells r)]) (rF39 : E.raw 39 = false) (H : Has E 39 c39)  (x0 : Rc) (r : Rc) (hB : B39 F10 F12 F32 F39 x0 = some r) : limP E 39 [.agg (Rc.cells x0)] = some [.agg (Rc.cells r)] := by
  have hO : Own [] [] := Own.nil
  refine Has.startD H rfl ?_; unfold B39 at hB
  refine X.box ((([.pv (.int .i64 x0.kind), .pv (.str x0.bits)] : List V) ++ (((bits256 x0.set).map V.pv) ++ ([.pv (.sl (List.map tRc.enc x0.l))] : List V)))) hO rfl rfl (big_cells rfl rfl) (big_all rfl rfl) ?_
  clear hO; intro id1 h hO
  refine X.new hO ?_
  clear hO; intro id2 h hO
  replace hO : Own h ([.blk id2 (([.pv (.int .i64 (0 : Int)), .pv (.str [])] : List V) ++ (((bits256 (0#256)).map V.pv) ++ ([.nils] : List V))), .blk id1 (([.pv (.int .i64 x0.kind), .pv (.str x0.bits)] : List V) ++ (((bits256 x0.set).map V.pv) ++ ([.pv (.sl (List.map tRc.enc x0.l))] : List V)))]) := zB_app hO
  refine X.stepZ ?_
  refine X.pure (.ptr id1 0) rfl rfl ?_
  refine X.load 1 (.pv (.int .i64 x0.kind)) hO rfl rfl rfl (big_cutA rfl rfl) ?_
  refine X.stepZ ?_
  refine X.blockS ?_
  refine X.pure (.pv (.bool (x0.kind == (3 : Int)))) rfl rfl ?_
  refine X.pure (.pv (.bool (x0.kind == (3 : Int)))) rfl rfl ?_
  refine X.stepZ ?_
  revert hB
  revert hO
  generalize (x0.kind == (3 : Int)) = c3
  cases c3 with
  | true =>
    intro hO hB
    replace hB := bT hB
    refine X.condT rfl rfl ?_
    refine X.drawS [([], []), ([1], []), ([], []), ([], []), ([], []), ([], []), ([1], []), ([], []), ([], []), ([], []), ([2], [2]), ([3], [3]), ([2, 4], [2, 4]), ([3, 5], [3, 5])] (m := List.map Res.ids [.blk id2 (([.pv (.int .i64 (0 : Int)), .pv (.str [])] : List V) ++ (((bits256 (0#256)).map V.pv) ++ ([.nils] : List V))), .blk id1 (([.pv (.int .i64 x0.kind), .pv (.str x0.bits)] : List V) ++ (((bits256 x0.set).map V.pv) ++ ([.pv (.sl (List.map tRc.enc x0.l))] : List V)))]) hO.labOk rfl ?_
    refine XS.calm [] (.ptr id1 258) rfl (rfl) (lab_none rfl) rfl ?_
    refine XS.read [1] (.pv (.sl (List.map tRc.enc x0.l))) rfl rfl (load_op 1 hO rfl rfl (big_cutC (k := 0) rfl rfl)) List.mem_cons_self ?_
    replace hB := bS hB; obtain ⟨y4, hy4, hB⟩ := hB
    refine XS.calm [] (.pv (.ip (tRc.cells y4) 0)) rfl (at_op tRc hy4 rfl SlP.pv rfl rfl) (lab_none rfl) rfl ?_
    refine XS.calm [] (.pv (.agg (Rc.cells y4))) rfl ((loadIp_op rfl (big_ip rfl rfl (big_whole rfl (mkAgg_big rfl rfl))))) (lab_none rfl) rfl ?_
    replace hB := bS hB; obtain ⟨y5, hy5, hB⟩ := hB
    refine XS.callP [.agg (Rc.cells y4)] _ (hF39 _ _ hy5) rF39 rfl rfl ?_
    refine XS.calm [] (.ptr id1 258) rfl (rfl) (lab_none rfl) rfl ?_
    refine XS.read [1] (.pv (.sl (List.map tRc.enc x0.l))) rfl rfl (load_op 1 hO rfl rfl (big_cutC (k := 0) rfl rfl)) List.mem_cons_self ?_
    replace hB := bS hB; obtain ⟨y6, hy6, hB⟩ := hB
    refine XS.calm [] (.pv (.ip (tRc.cells y6) 0)) rfl (at_op tRc hy6 rfl SlP.pv rfl rfl) (lab_none rfl) rfl ?_
    refine XS.calm [] (.pv (.agg (Rc.cells y6))) rfl ((loadIp_op rfl (big_ip rfl rfl (big_whole rfl (mkAgg_big rfl rfl))))) (lab_none rfl) rfl ?_
    replace hB := bS hB; obtain ⟨y7, hy7, hB⟩ := hB
    refine XS.callP [.agg (Rc.cells y6)] _ (hF39 _ _ hy7) rF39 rfl rfl ?_
    refine XS.new [2] hO rfl ?_
    clear hO; intro id8 h hO
    replace hO : Own h ([.blk id8 (([.pv (.int .i64 (0 : Int)), .pv (.str [])] : List V) ++ (((bits256 (0#256)).map V.pv) ++ ([.nils] : List V))), .blk id2 (([.pv (.int .i64 (0 : Int)), .pv (.str [])] : List V) ++ (((bits256 (0#256)).map V.pv) ++ ([.nils] : List V))), .blk id1 (([.pv (.int .i64 x0.kind), .pv (.str x0.bits)] : List V) ++ (((bits256 x0.set).map V.pv) ++ ([.pv (.sl (List.map tRc.enc x0.l))] : List V)))]) := zB_app hO
    refine XS.new [3] hO rfl ?_
    clear hO; intro id9 h hO
    replace hO : Own h ([.blk id9 (([.pv (.int .i64 (0 : Int)), .pv (.str [])] : List V) ++ (((bits256 (0#256)).map V.pv) ++ ([.nils] : List V))), .blk id8 (([.pv (.int .i64 (0 : Int)), .pv (.str [])] : List V) ++ (((bits256 (0#256)).map V.pv) ++ ([.nils] : List V))), .blk id2 (([.pv (.int .i64 (0 : Int)), .pv (.str [])] : List V) ++ (((bits256 (0#256)).map V.pv) ++ ([.nils] : List V))), .blk id1 (([.pv (.int .i64 x0.kind), .pv (.str x0.bits)] : List V) ++ (((bits256 x0.set).map V.pv) ++ ([.pv (.sl (List.map tRc.enc x0.l))] : List V)))]) := zB_app hO
    refine XS.store 1 [2] [2, 4] ((([.pv (.int .i64 y5.kind), .pv (.str y5.bits)] : List V) ++ (((bits256 y5.set).map V.pv) ++ ([.pv (.sl (List.map tRc.enc y5.l))] : List V)))) hO rfl rfl rfl rfl (storeV_all (big_cells rfl rfl) (big_len.trans rfl) (big_len.trans rfl) (big_all rfl rfl)) rfl List.mem_cons_self rfl ?_
    clear hO; intro h hO
    refine XS.store 0 [3] [3, 5] ((([.pv (.int .i64 y7.kind), .pv (.str y7.bits)] : List V) ++ (((bits256 y7.set).map V.pv) ++ ([.pv (.sl (List.map tRc.enc y7.l))] : List V)))) hO rfl rfl rfl rfl (storeV_all (big_cells rfl rfl) (big_len.trans rfl) (big_len.trans rfl) (big_all rfl rfl)) rfl List.mem_cons_self rfl ?_
    clear hO; intro h hO
    refine XS.nil ?_
    refine X.goMid (fun st => ∃ (g : Nat → V) (h : Heap), Own h ([.blk id9 (([.pv (.int .i64 y7.kind), .pv (.str y7.bits)] : List V) ++ (((bits256 y7.set).map V.pv) ++ ([.pv (.sl (List.map tRc.enc y7.l))] : List V))), .blk id8 (([.pv (.int .i64 y5.kind), .pv (.str y5.bits)] : List V) ++ (((bits256 y5.set).map V.pv) ++ ([.pv (.sl (List.map tRc.enc y5.l))] : List V))), .blk id2 (([.pv (.int .i64 (0 : Int)), .pv (.str [])] : List V) ++ (((bits256 (0#256)).map V.pv) ++ ([.nils] : List V))), .blk id1 (([.pv (.int .i64 x0.kind), .pv (.str x0.bits)] : List V) ++ (((bits256 x0.set).map V.pv) ++ ([.pv (.sl (List.map tRc.enc x0.l))] : List V)))]) ∧ st = ⟨TL 85 (upds g [(1, .ptr id1 0), (2, .ptr id2 0), (3, .ptr id8 0), (4, .ptr id9 0), (28, .pv (.bool ((y5.kind == (0 : Int)) || (y7.kind == (0 : Int)))))]), h⟩) ?_ ?_
    · refine X.pure (.ptr id8 0) rfl rfl ?_
      refine X.load 1 (.pv (.int .i64 y5.kind)) hO rfl rfl rfl (big_cutA rfl rfl) ?_
      refine X.pure (.pv (.bool (y5.kind == (0 : Int)))) rfl rfl ?_
      refine X.pure (.pv (.bool (y5.kind == (0 : Int)))) rfl rfl ?_
      revert hO
      generalize (y5.kind == (0 : Int)) = c10
      cases c10 with
      | true =>
        intro hO
        refine X.no rfl rfl ?_
        refine X.no rfl rfl ?_
        refine X.no rfl rfl ?_
        refine X.pure (.pv (.bool true)) rfl rfl ?_
        refine X.stepZ ?_
        exact X.skipL ⟨_, _, hO, st_keep _ ⟨rfl, rfl, rfl, rfl, rfl, trivial⟩⟩
      | false =>
        intro hO
        refine X.yes rfl rfl ?_
        refine X.pure (.ptr id9 0) rfl rfl ?_
        refine X.yes rfl rfl ?_
        refine X.load 0 (.pv (.int .i64 y7.kind)) hO rfl rfl rfl (big_cutA rfl rfl) ?_
        refine X.yes rfl rfl ?_
        refine X.pure (.pv (.bool (y7.kind == (0 : Int)))) rfl rfl ?_
        refine X.pure (.pv (.bool (y7.kind == (0 : Int)))) rfl rfl ?_
        refine X.stepZ ?_
        exact X.skipL ⟨_, _, hO, st_keep _ ⟨rfl, rfl, rfl, rfl, rfl, trivial⟩⟩
    · rintro st ⟨g, h, hO, rfl⟩
      revert hB
      revert hO
      generalize ((y5.kind == (0 : Int)) || (y7.kind == (0 : Int))) = c11
      cases c11 with
      | true =>
        intro hO hB
        replace hB := bT hB
        refine X.condT rfl rfl ?_
        refine X.pure (.agg (([.pv (.int .i64 (0 : Int)), .pv (.str [])] : List V) ++ (((bits256 (0#256)).map V.pv) ++ ([.nils] : List V)))) rfl (build_op (vs := []) (ls := []) rfl rfl (zB_fill fill_nil) (mkAgg_row (big_at (k := 0) (j := 258) rfl rfl) (by intro p e; cases e))) ?_
        refine X.store 2 ((([.pv (.int .i64 (0 : Int)), .pv (.str [])] : List V) ++ (((bits256 (0#256)).map V.pv) ++ ([.nils] : List V)))) hO rfl rfl rfl rfl (storeV_all rfl (big_len.trans rfl) (big_len.trans rfl) (big_all rfl rfl)) rfl ?_
        clear hO; intro h hO
        refine X.stepZ ?_
        obtain rfl := Option.some.inj hB
        exact X.retS (Fin.leaf (us := [.agg (([.pv (.int .i64 (0 : Int)), .pv (.str [])] : List V) ++ (((bits256 (0#256)).map V.pv) ++ ([.nils] : List V)))]) rfl (resS_cell (load_own 2 hO rfl (big_whole rfl (mkAgg_row (big_at (k := 0) (j := 258) rfl rfl) (by intro p e; cases e))))) (pureRes_one (Wk.agg (Wk1L.app (vs := [.pv (.int .i64 (0 : Int)), .pv (.str [])]) (ps := [.int .i64 (0 : Int), .str []]) ⟨Wk1.pv, Wk1.pv, trivial⟩ (Wk1L.app (us := [.nils]) (qs := [.sl []]) (Wk1L.pvs _) ⟨(SlP.nils).wk1, trivial⟩))) (by intro vs h; cases h)))
      | false =>
        intro hO hB
        replace hB := bF hB
        refine X.condF rfl rfl ?_
        refine X.skipS ?_
        refine X.pure (.ptr id8 0) rfl rfl ?_
        refine X.load 1 (.pv (.int .i64 y5.kind)) hO rfl rfl rfl (big_cutA rfl rfl) ?_
        refine X.pure (.pv (.bool (y5.kind == (1 : Int)))) rfl rfl ?_
        refine X.stepZ ?_
        revert hB
        revert hO
        generalize (y5.kind == (1 : Int)) = c12
        cases c12 with
        | true =>
          intro hO hB
          replace hB := bT hB
          refine X.condT rfl rfl ?_
          refine X.pure (.ptr id1 1) rfl rfl ?_
          refine X.load 3 (.pv (.str x0.bits)) hO rfl rfl rfl (big_cutA rfl rfl) ?_
          refine X.pure (.ptr id8 1) rfl rfl ?_
          refine X.load 1 (.pv (.str y5.bits)) hO rfl rfl rfl (big_cutA rfl rfl) ?_
          replace hB := bS hB; obtain ⟨z13, hz13, hB⟩ := hB
          refine X.joinS hz13 rfl rfl rfl ?_
          refine X.load 0 (.pv (.agg (Rc.cells y7))) hO rfl rfl rfl (big_whole rfl (mkAgg_big rfl rfl)) ?_
          replace hB := bS hB; obtain ⟨y14, hy14, hB⟩ := hB
          refine X.callW [.pv (.str z13), .pv (.agg (Rc.cells y7))] [.str z13, .agg (Rc.cells y7)] _ (hF32 _ _ _ hy14) rF32 rfl rfl ⟨Wk.pv, Wk.pv, trivial⟩ ?_
          refine X.store 2 ((([.pv (.int .i64 y14.kind), .pv (.str y14.bits)] : List V) ++ (((bits256 y14.set).map V.pv) ++ ([.pv (.sl (List.map tRc.enc y14.l))] : List V)))) hO rfl rfl rfl rfl (storeV_all (big_cells rfl rfl) (big_len.trans rfl) (big_len.trans rfl) (big_all rfl rfl)) rfl ?_
          clear hO; intro h hO
          refine X.stepZ ?_
          obtain rfl := Option.some.inj hB
          exact X.retS (Fin.leaf (us := [.pv (.agg (Rc.cells y14))]) rfl (resS_cell (load_own 2 hO rfl (big_whole rfl (mkAgg_big rfl rfl)))) (pureRes_one Wk.pv (by intro vs h; cases h)))
        | false =>
          intro hO hB
          replace hB := bF hB
          refine X.condF rfl rfl ?_
          refine X.skipS ?_
          refine X.pure (.ptr id1 1) rfl rfl ?_
          refine X.load 3 (.pv (.str x0.bits)) hO rfl rfl rfl (big_cutA rfl rfl) ?_
          refine X.load 1 (.pv (.agg (Rc.cells y5))) hO rfl rfl rfl (big_whole rfl (mkAgg_big rfl rfl)) ?_
          refine X.load 0 (.pv (.agg (Rc.cells y7))) hO rfl rfl rfl (big_whole rfl (mkAgg_big rfl rfl)) ?_
          refine X.pure (.slx (List.map tRc.enc [y5, y7])) rfl (by simp only [List.map_cons, List.map_nil, tRc.he]; rfl) ?_
          refine X.pure (.agg (([.pv (.int .i64 (3 : Int)), .pv (.str x0.bits)] : List V) ++ (((bits256 (0#256)).map V.pv) ++ ([.slx (List.map tRc.enc [y5, y7])] : List V)))) rfl (build_op (vs := [.pv (.int .i64 (3 : Int)), .pv (.str x0.bits), .slx (List.map tRc.enc [y5, y7])]) (ls := [(0, 1, .pv (.int .i64 (3 : Int))), (1, 1, .pv (.str x0.bits)), (258, 1, .slx (List.map tRc.enc [y5, y7]))]) rfl rfl (zB_fill (fill_cons (big_storeA rfl) (fill_cons (big_storeA rfl) (fill_cons (big_storeC (k := 0) rfl rfl) fill_nil)))) (mkAgg_row (big_at (k := 0) (j := 258) rfl rfl) (by intro p e; cases e))) ?_
          refine X.store 2 ((([.pv (.int .i64 (3 : Int)), .pv (.str x0.bits)] : List V) ++ (((bits256 (0#256)).map V.pv) ++ ([.slx (List.map tRc.enc [y5, y7])] : List V)))) hO rfl rfl rfl rfl (storeV_all rfl (big_len.trans rfl) (big_len.trans rfl) (big_all rfl rfl)) rfl ?_
          clear hO; intro h hO
          refine X.stepZ ?_
          obtain rfl := Option.some.inj hB
          exact X.retS (Fin.leaf (us := [.agg (([.pv (.int .i64 (3 : Int)), .pv (.str x0.bits)] : List V) ++ (((bits256 (0#256)).map V.pv) ++ ([.slx (List.map tRc.enc [y5, y7])] : List V)))]) rfl (resS_cell (load_own 2 hO rfl (big_whole rfl (mkAgg_row (big_at (k := 0) (j := 258) rfl rfl) (by intro p e; cases e))))) (pureRes_one (Wk.agg (Wk1L.app (vs := [.pv (.int .i64 (3 : Int)), .pv (.str x0.bits)]) (ps := [.int .i64 (3 : Int), .str x0.bits]) ⟨Wk1.pv, Wk1.pv, trivial⟩ (Wk1L.app (us := [.slx (List.map tRc.enc [y5, y7])]) (qs := [.sl (List.map tRc.enc [y5, y7])]) (Wk1L.pvs _) ⟨(SlP.slx).wk1, trivial⟩))) (by intro vs h; cases h)))
  | false =>
    intro hO hB
    replace hB := bF hB
    refine X.condF rfl rfl ?_
    refine X.pure (.pv (.bool (x0.kind == (4 : Int)))) rfl rfl ?_
    refine X.pure (.pv (.bool (x0.kind == (4 : Int)))) rfl rfl ?_
    refine X.stepZ ?_
    revert hB
    revert hO
    generalize (x0.kind == (4 : Int)) = c15
    cases c15 with
    | true =>
      intro hO hB
      replace hB := bT hB
      refine X.condT rfl rfl ?_
      refine X.pure (.nils) rfl rfl ?_
      refine X.stepZ ?_
      refine X.pure (.pv (.int .i64 (0 : Int))) rfl rfl ?_
      refine X.stepZ ?_
      refine X.loopQ (s0 := (([] : List Rc), (0 : Int))) (R39_0 x0 id1 id2) (A39_0 x0 id1 id2) hB ?_ ?_ ?_
      · exact ⟨_, _, .nils, (hO).addNil, st_keep _ ⟨rfl, rfl, rfl, rfl, trivial⟩⟩
      · rintro ⟨l16, i18⟩ st o ⟨g, h, v17, hO, rfl⟩ hB
        replace hB : B39_L0 F39 x0 l16 i18 = some o := hB
        unfold B39_L0 at hB
        replace hO : Own h ([.row v17 (List.map tRc.enc l16), .blk id2 (([.pv (.int .i64 (0 : Int)), .pv (.str [])] : List V) ++ (((bits256 (0#256)).map V.pv) ++ ([.nils] : List V))), .blk id1 (([.pv (.int .i64 x0.kind), .pv (.str x0.bits)] : List V) ++ (((bits256 x0.set).map V.pv) ++ ([.pv (.sl (List.map tRc.enc x0.l))] : List V)))]) := hO
        refine X.pure (.pv (.int .i64 i18)) rfl rfl ?_
        refine X.pure (.ptr id1 258) rfl rfl ?_
        refine X.load 2 (.pv (.sl (List.map tRc.enc x0.l))) hO rfl rfl rfl (big_cutC (k := 0) rfl rfl) ?_
        refine X.len (l := x0.l) (g := tRc.enc) rfl rfl SlP.pv ?_
        refine X.pure (.pv (.bool (decide (i18 < (x0.l.length : Int))))) rfl rfl ?_
        refine X.stepZ ?_
        revert hB
        revert hO
        generalize (decide (i18 < (x0.l.length : Int))) = c26
        cases c26 with
        | true =>
          intro hO hB
          replace hB := bT hB
          refine X.condT rfl rfl ?_
          refine X.skipS ?_
          refine X.blockS ?_
          refine X.pure (v17) rfl rfl ?_
          refine X.pure (.ptr id1 258) rfl rfl ?_
          refine X.load 2 (.pv (.sl (List.map tRc.enc x0.l))) hO rfl rfl rfl (big_cutC (k := 0) rfl rfl) ?_
          refine X.pure (.pv (.int .i64 i18)) rfl rfl ?_
          replace hB := bS hB; obtain ⟨y27, hy27, hB⟩ := hB
          refine X.at tRc hy27 rfl rfl SlP.pv rfl rfl ?_
          refine X.pure (.pv (.agg (Rc.cells y27))) rfl (loadIp_op rfl (big_ip rfl rfl (big_whole rfl (mkAgg_big rfl rfl)))) ?_
          replace hB := bS hB; obtain ⟨y28, hy28, hB⟩ := hB
          refine X.callW [.pv (.agg (Rc.cells y27))] [.agg (Rc.cells y27)] _ (hF39 _ _ hy28) rF39 rfl rfl ⟨Wk.pv, trivial⟩ ?_
          refine X.pure (.slx (List.map tRc.enc [y28])) rfl (by simp only [List.map_cons, List.map_nil, tRc.he]; rfl) ?_
          replace hB := bS hB; obtain ⟨z29, hz29, hB⟩ := hB
          refine X.append tRc 0 hz29 hO rfl rfl rfl rfl SlP.slx rfl rfl (fun _ => rfl) ?_
          clear hO; intro v30 h hO
          refine X.pure (v30) rfl rfl ?_
          refine X.stepZ ?_
          refine X.skipB ?_
          refine X.pure (.pv (.int .i64 i18)) rfl rfl ?_
          refine X.pure (.pv (.int .i64 (IntKind.i64.wrap (i18 + (1 : Int))))) rfl rfl ?_
          refine X.pure (.pv (.int .i64 (IntKind.i64.wrap (i18 + (1 : Int))))) rfl rfl ?_
          refine X.stepZ ?_
          obtain rfl := Option.some.inj hB
          exact X.nextL ⟨_, _, v30, hO, st_keep _ ⟨rfl, rfl, rfl, rfl, trivial⟩⟩
        | false =>
          intro hO hB
          replace hB := bF hB
          refine X.condF rfl rfl ?_
          refine X.exitS ?_
          obtain rfl := Option.some.inj hB
          exact LP.brk' ⟨_, _, v17, hO, st_keep _ ⟨rfl, rfl, rfl, trivial⟩⟩
      · rintro l24 st ⟨g, h, v25, hO, rfl⟩ hB
        replace hB : B39_K0 F10 F12 F32 x0 l24 = some _ := hB
        unfold B39_K0 at hB
        replace hO : Own h ([.row v25 (List.map tRc.enc l24), .blk id2 (([.pv (.int .i64 (0 : Int)), .pv (.str [])] : List V) ++ (((bits256 (0#256)).map V.pv) ++ ([.nils] : List V))), .blk id1 (([.pv (.int .i64 x0.kind), .pv (.str x0.bits)] : List V) ++ (((bits256 x0.set).map V.pv) ++ ([.pv (.sl (List.map tRc.enc x0.l))] : List V)))]) := hO
        refine X.pure (v25) rfl rfl ?_
        replace hB := bS hB; obtain ⟨y31, hy31, hB⟩ := hB
        refine X.callW [v25] [.sl (List.map tRc.enc l24)] _ (hF10 _ _ hy31) rF10 rfl rfl ⟨((hO.slp (k := 0) rfl)).wk, trivial⟩ ?_
        replace hB := bS hB; obtain ⟨y32, hy32, hB⟩ := hB
        refine X.callW [.pv (.sl (List.map tRc.enc y31))] [.sl (List.map tRc.enc y31)] _ (hF12 _ _ hy32) rF12 rfl rfl ⟨Wk.pv, trivial⟩ ?_
        refine X.pure (.pv (.sl (List.map tRc.enc y32))) rfl rfl ?_
        refine X.stepZ ?_
        refine X.pure (.pv (.sl (List.map tRc.enc y32))) rfl rfl ?_
        refine X.len (l := y32) (g := tRc.enc) rfl rfl SlP.pv ?_
        refine X.pure (.pv (.bool ((y32.length : Int) == (0 : Int)))) rfl rfl ?_
        refine X.stepZ ?_
        revert hB
        revert hO
        generalize ((y32.length : Int) == (0 : Int)) = c33
        cases c33 with
        | true =>
          intro hO hB
          replace hB := bT hB
          refine X.condT rfl rfl ?_
          refine X.pure (.agg (([.pv (.int .i64 (0 : Int)), .pv (.str [])] : List V) ++ (((bits256 (0#256)).map V.pv) ++ ([.nils] : List V)))) rfl (build_op (vs := []) (ls := []) rfl rfl (zB_fill fill_nil) (mkAgg_row (big_at (k := 0) (j := 258) rfl rfl) (by intro p e; cases e))) ?_
          refine X.store 1 ((([.pv (.int .i64 (0 : Int)), .pv (.str [])] : List V) ++ (((bits256 (0#256)).map V.pv) ++ ([.nils] : List V)))) hO rfl rfl rfl rfl (storeV_all rfl (big_len.trans rfl) (big_len.trans rfl) (big_all rfl rfl)) rfl ?_
          clear hO; intro h hO
          refine X.stepZ ?_
          obtain rfl := Option.some.inj hB
          exact X.retS (Fin.leaf (us := [.agg (([.pv (.int .i64 (0 : Int)), .pv (.str [])] : List V) ++ (((bits256 (0#256)).map V.pv) ++ ([.nils] : List V)))]) rfl (resS_cell (load_own 1 hO rfl (big_whole rfl (mkAgg_row (big_at (k := 0) (j := 258) rfl rfl) (by intro p e; cases e))))) (pureRes_one (Wk.agg (Wk1L.app (vs := [.pv (.int .i64 (0 : Int)), .pv (.str [])]) (ps := [.int .i64 (0 : Int), .str []]) ⟨Wk1.pv, Wk1.pv, trivial⟩ (Wk1L.app (us := [.nils]) (qs := [.sl []]) (Wk1L.pvs _) ⟨(SlP.nils).wk1, trivial⟩))) (by intro vs h; cases h)))
        | false =>
          intro hO hB
          replace hB := bF hB
          refine X.condF rfl rfl ?_
          refine X.skipS ?_
          refine X.pure (.pv (.sl (List.map tRc.enc y32))) rfl rfl ?_
          refine X.len (l := y32) (g := tRc.enc) rfl rfl SlP.pv ?_
          refine X.pure (.pv (.bool ((y32.length : Int) == (1 : Int)))) rfl rfl ?_
          refine X.stepZ ?_
          revert hB
          revert hO
          generalize ((y32.length : Int) == (1 : Int)) = c34
          cases c34 with
          | true =>
            intro hO hB
            replace hB := bT hB
            refine X.condT rfl rfl ?_
            have hl35 : ∀ x ∈ V.ids v25, x ∈ lab (List.map Res.ids [.row v25 (List.map tRc.enc l24), .blk id2 (([.pv (.int .i64 (0 : Int)), .pv (.str [])] : List V) ++ (((bits256 (0#256)).map V.pv) ++ ([.nils] : List V))), .blk id1 (([.pv (.int .i64 x0.kind), .pv (.str x0.bits)] : List V) ++ (((bits256 x0.set).map V.pv) ++ ([.pv (.sl (List.map tRc.enc x0.l))] : List V)))]) [0] := lab_row hO (k := 0) rfl rfl
            refine X.drawS [([], []), ([2], []), ([], []), ([], []), ([], []), ([], []), ([1, 3], [1, 3])] (m := List.map Res.ids [.row v25 (List.map tRc.enc l24), .blk id2 (([.pv (.int .i64 (0 : Int)), .pv (.str [])] : List V) ++ (((bits256 (0#256)).map V.pv) ++ ([.nils] : List V))), .blk id1 (([.pv (.int .i64 x0.kind), .pv (.str x0.bits)] : List V) ++ (((bits256 x0.set).map V.pv) ++ ([.pv (.sl (List.map tRc.enc x0.l))] : List V)))]) hO.labOk rfl ?_
            refine XS.calm [] (.ptr id1 1) rfl (rfl) (lab_none rfl) rfl ?_
            refine XS.read [2] (.pv (.str x0.bits)) rfl rfl (load_op 2 hO rfl rfl (big_cutA rfl rfl)) List.mem_cons_self ?_
            refine XS.calm [] (.pv (.sl (List.map tRc.enc y32))) rfl (rfl) (lab_none rfl) rfl ?_
            replace hB := bS hB; obtain ⟨y36, hy36, hB⟩ := hB
            refine XS.calm [] (.pv (.ip (tRc.cells y36) 0)) rfl (at_op tRc hy36 rfl SlP.pv rfl rfl) (lab_none rfl) rfl ?_
            refine XS.calm [] (.pv (.agg (Rc.cells y36))) rfl ((loadIp_op rfl (big_ip rfl rfl (big_whole rfl (mkAgg_big rfl rfl))))) (lab_none rfl) rfl ?_
            replace hB := bS hB; obtain ⟨y37, hy37, hB⟩ := hB
            refine XS.callP [.str x0.bits, .agg (Rc.cells y36)] _ (hF32 _ _ _ hy37) rF32 rfl rfl ?_
            refine XS.store 1 [1] [1, 3] ((([.pv (.int .i64 y37.kind), .pv (.str y37.bits)] : List V) ++ (((bits256 y37.set).map V.pv) ++ ([.pv (.sl (List.map tRc.enc y37.l))] : List V)))) hO rfl rfl rfl rfl (storeV_all (big_cells rfl rfl) (big_len.trans rfl) (big_len.trans rfl) (big_all rfl rfl)) rfl List.mem_cons_self rfl ?_
            clear hO; intro h hO
            refine XS.nil ?_
            obtain rfl := Option.some.inj hB
            exact X.retS (Fin.leaf (us := [.pv (.agg (Rc.cells y37))]) rfl (resS_cell (load_own 1 hO rfl (big_whole rfl (mkAgg_big rfl rfl)))) (pureRes_one Wk.pv (by intro vs h; cases h)))
          | false =>
            intro hO hB
            replace hB := bF hB
            refine X.condF rfl rfl ?_
            refine X.skipS ?_
            refine X.pure (.ptr id1 1) rfl rfl ?_
            refine X.load 2 (.pv (.str x0.bits)) hO rfl rfl rfl (big_cutA rfl rfl) ?_
            refine X.pure (.pv (.sl (List.map tRc.enc y32))) rfl rfl ?_
            refine X.pure (.pv (.agg (([.int .i64 (4 : Int), .str x0.bits] : List PV) ++ ((bits256 (0#256)) ++ ([.sl (List.map tRc.enc y32)] : List PV))))) rfl (build_op (vs := [.pv (.int .i64 (4 : Int)), .pv (.str x0.bits), .pv (.sl (List.map tRc.enc y32))]) (ls := [(0, 1, .pv (.int .i64 (4 : Int))), (1, 1, .pv (.str x0.bits)), (258, 1, .pv (.sl (List.map tRc.enc y32)))]) rfl rfl (zB_fill (fill_cons (big_storeA rfl) (fill_cons (big_storeA rfl) (fill_cons (big_storeC (k := 0) rfl rfl) fill_nil)))) (mkAgg_big rfl rfl)) ?_
            refine X.store 1 ((([.pv (.int .i64 (4 : Int)), .pv (.str x0.bits)] : List V) ++ (((bits256 (0#256)).map V.pv) ++ ([.pv (.sl (List.map tRc.enc y32))] : List V)))) hO rfl rfl rfl rfl (storeV_all (big_cells rfl rfl) (big_len.trans rfl) (big_len.trans rfl) (big_all rfl rfl)) rfl ?_
            clear hO; intro h hO
            refine X.stepZ ?_
            obtain rfl := Option.some.inj hB
            exact X.retS (Fin.leaf (us := [.pv (.agg (([.int .i64 (4 : Int), .str x0.bits] : List PV) ++ ((bits256 (0#256)) ++ ([.sl (List.map tRc.enc y32)] : List PV))))]) rfl (resS_cell (load_own 1 hO rfl (big_whole rfl (mkAgg_big rfl rfl)))) (pureRes_one Wk.pv (by intro vs h; cases h)))
    | false =>
      intro hO hB
      replace hB := bF hB
      refine X.condF rfl rfl ?_
      refine X.skipS ?_
      refine X.skipB ?_
      refine X.load 1 (.pv (.agg (Rc.cells x0))) hO rfl rfl rfl (big_whole rfl (mkAgg_big rfl rfl)) ?_
      refine X.store 0 ((([.pv (.int .i64 x0.kind), .pv (.str x0.bits)] : List V) ++ (((bits256 x0.set).map V.pv) ++ ([.pv (.sl (List.map tRc.enc x0.l))] : List V)))) hO rfl rfl rfl rfl (storeV_all (big_cells rfl rfl) (big_len.trans rfl) (big_len.trans rfl) (big_all rfl rfl)) rfl ?_
      clear hO; intro h hO
      refine X.stepZ ?_
      obtain rfl := Option.some.inj hB
      exact X.retS (Fin.leaf (us := [.pv (.agg (Rc.cells x0))]) rfl (resS_cell (load_own 0 hO rfl (big_whole rfl (mkAgg_big rfl rfl)))) (pureRes_one Wk.pv (by intro vs h; cases h)))
noncomputable def B54 (F29 : Cd → Int → Option Bool) (y0 : Cd) (cap0 : Int) : Option Bool :=
  (F29 y0 (IntKind.i64.wrap (cap0 - (1 : Int)))).bind fun y2 =>
  some (!y2)
set_option maxRecDepth 100000 in
set_option maxHeartbeats 4000000 in
theorem B54_ok {E : Env} (F29 : Cd → Int → Option Bool) (hF29 : ∀ (r : Bool) (a0 : Cd) (a1 : Int), F29 a0 a1 = some r → limP E 29 [.agg (Cd.cells a0), .int .i64 a1] = some [.bool r]) (rF29 : E.raw 29 = false) (H : Has E 54 c54)  (y0 : Cd) (cap0 : Int) (r : Bool) (hB : B54 F29 y0 cap0 = some r) : limP E 54 [.agg (Cd.cells y0), .ip [.int .i64 cap0] 0] = some [.bool r] := by
  have hO : Own [] [] := Own.nil
  refine Has.startD H rfl ?_; unfold B54 at hB
  refine X.box ([.pv (.int .i64 y0.kind), .pv (.str y0.bits), .pv (.int .u64 y0.set.a), .pv (.int .u64 y0.set.b), .pv (.int .u64 y0.set.c), .pv (.int .u64 y0.set.d), .pv (.sl (List.map tCd.enc y0.l))]) hO rfl rfl rfl rfl ?_
  clear hO; intro id1 h hO
  refine X.pure (.pv (.bool false)) rfl rfl ?_
  refine X.stepZ ?_
  refine X.load 0 (.pv (.agg (Cd.cells y0))) hO rfl rfl rfl rfl ?_
  refine X.pure (.pv (.int .i64 cap0)) rfl rfl ?_
  refine X.pure (.pv (.int .i64 (IntKind.i64.wrap (cap0 - (1 : Int))))) rfl rfl ?_
  replace hB := bS hB; obtain ⟨y2, hy2, hB⟩ := hB
  refine X.callW [.pv (.agg (Cd.cells y0)), .pv (.int .i64 (IntKind.i64.wrap (cap0 - (1 : Int))))] [.agg (Cd.cells y0), .int .i64 (IntKind.i64.wrap (cap0 - (1 : Int)))] _ (hF29 _ _ _ hy2) rF29 rfl rfl ⟨Wk.pv, Wk.pv, trivial⟩ ?_
  refine X.pure (.pv (.bool (!y2))) rfl rfl ?_
  refine X.pure (.pv (.bool (!y2))) rfl rfl ?_
  refine X.stepZ ?_
  obtain rfl := Option.some.inj hB
  exact X.retS (Fin.leaf (us := [.pv (.bool (!y2))]) rfl rfl (pureRes_one Wk.pv (by intro vs h; cases h)))
noncomputable def B55_L0 (w0 : W4) (b4 : Int) (w5 : (BitVec 256)) : Option (Lp (Int × (BitVec 256)) (BitVec 256) (BitVec 256)) :=
  bif (decide (b4 < (256 : Int))) then
    (bif ((IntKind.i64.wrap (Int.tdiv b4 (64 : Int))) == (0 : Int)) then
       ((shrI .u64 w0.a (IntKind.u64.wrap (Int.tmod b4 (64 : Int)))).bind fun z22 =>
        (at256 b4).bind fun k23 =>
        some (.next ((IntKind.i64.wrap (b4 + (1 : Int))), (setBit w5 k23 ((IntKind.u64.wrap (BitVec.ofInt 64 z22 &&& BitVec.ofInt 64 (1 : Int)).toNat) == (1 : Int))))))
     else
       (bif ((IntKind.i64.wrap (Int.tdiv b4 (64 : Int))) == (1 : Int)) then
          ((shrI .u64 w0.b (IntKind.u64.wrap (Int.tmod b4 (64 : Int)))).bind fun z25 =>
           (at256 b4).bind fun k26 =>
           some (.next ((IntKind.i64.wrap (b4 + (1 : Int))), (setBit w5 k26 ((IntKind.u64.wrap (BitVec.ofInt 64 z25 &&& BitVec.ofInt 64 (1 : Int)).toNat) == (1 : Int))))))
        else
          (bif ((IntKind.i64.wrap (Int.tdiv b4 (64 : Int))) == (2 : Int)) then
             ((shrI .u64 w0.c (IntKind.u64.wrap (Int.tmod b4 (64 : Int)))).bind fun z28 =>
              (at256 b4).bind fun k29 =>
              some (.next ((IntKind.i64.wrap (b4 + (1 : Int))), (setBit w5 k29 ((IntKind.u64.wrap (BitVec.ofInt 64 z28 &&& BitVec.ofInt 64 (1 : Int)).toNat) == (1 : Int))))))
           else
             (bif ((IntKind.i64.wrap (Int.tdiv b4 (64 : Int))) == (3 : Int)) then
                ((shrI .u64 w0.d (IntKind.u64.wrap (Int.tmod b4 (64 : Int)))).bind fun z31 =>
                 (at256 b4).bind fun k32 =>
                 some (.next ((IntKind.i64.wrap (b4 + (1 : Int))), (setBit w5 k32 ((IntKind.u64.wrap (BitVec.ofInt 64 z31 &&& BitVec.ofInt 64 (1 : Int)).toNat) == (1 : Int))))))
              else
                (none)))))
  else
    (some (.brk w5))
noncomputable def B55_K0 (w19 : (BitVec 256)) : Option (BitVec 256) :=
  some w19
abbrev R55_0 (w0 : W4) (id1 : Nat) (id2 : Nat) (id3 : Nat) : (Int × (BitVec 256)) → St → Prop := fun s st => ∃ (g : Nat → V) (h : Heap), Own h ([.blk id3 ((bits256 s.2).map V.pv), .blk id2 ((bits256 (0#256)).map V.pv), .blk id1 [.pv (.int .u64 w0.a), .pv (.int .u64 w0.b), .pv (.int .u64 w0.c), .pv (.int .u64 w0.d)]]) ∧ st = ⟨TL 22 (upds g [(1, .ptr id1 0), (2, .ptr id2 0), (3, .ptr id3 0), (4, .pv (.int .i64 s.1))]), h⟩
abbrev A55_0 (id2 : Nat) (id3 : Nat) : (BitVec 256) → St → Prop := fun s st => ∃ (g : Nat → V) (h : Heap), Own h ([.blk id3 ((bits256 s).map V.pv), .blk id2 ((bits256 (0#256)).map V.pv)]) ∧ st = ⟨TL 22 (upds g [(2, .ptr id2 0), (3, .ptr id3 0)]), h⟩
noncomputable def B55 (w0 : W4) : Option (BitVec 256) :=
  loopK (fun (s : (Int × (BitVec 256))) => B55_L0 w0 s.1 s.2) ((0 : Int), (0#256)) (fun (t : (BitVec 256)) => B55_K0 t)
set_option maxRecDepth 100000 in
set_option maxHeartbeats 4000000 in
theorem B55_ok {E : Env}  (H : Has E 55 c55)  (w0 : W4) (r : (BitVec 256)) (hB : B55 w0 = some r) : limP E 55 [.agg (W4.cells w0)] = some [.agg (bits256 r)] := by
  have hO : Own [] [] := Own.nil
  refine Has.startD H rfl ?_; unfold B55 at hB
  refine X.box ([.pv (.int .u64 w0.a), .pv (.int .u64 w0.b), .pv (.int .u64 w0.c), .pv (.int .u64 w0.d)]) hO rfl rfl rfl rfl ?_
  clear hO; intro id1 h hO
  refine X.new hO ?_
  clear hO; intro id2 h hO
  replace hO : Own h ([.blk id2 ((bits256 (0#256)).map V.pv), .blk id1 [.pv (.int .u64 w0.a), .pv (.int .u64 w0.b), .pv (.int .u64 w0.c), .pv (.int .u64 w0.d)]]) := zB_alone hO
  refine X.stepZ ?_
  refine X.new hO ?_
  clear hO; intro id3 h hO
  replace hO : Own h ([.blk id3 ((bits256 (0#256)).map V.pv), .blk id2 ((bits256 (0#256)).map V.pv), .blk id1 [.pv (.int .u64 w0.a), .pv (.int .u64 w0.b), .pv (.int .u64 w0.c), .pv (.int .u64 w0.d)]]) := zB_alone hO
  refine X.stepZ ?_
  refine X.pure (.pv (.int .i64 (0 : Int))) rfl rfl ?_
  refine X.stepZ ?_
  refine X.loopQ (s0 := ((0 : Int), (0#256))) (R55_0 w0 id1 id2 id3) (A55_0 id2 id3) hB ?_ ?_ ?_
  · exact ⟨_, _, hO, st_keep _ ⟨rfl, rfl, rfl, rfl, trivial⟩⟩
  · rintro ⟨b4, w5⟩ st o ⟨g, h, hO, rfl⟩ hB
    replace hB : B55_L0 w0 b4 w5 = some o := hB
    unfold B55_L0 at hB
    replace hO : Own h ([.blk id3 ((bits256 w5).map V.pv), .blk id2 ((bits256 (0#256)).map V.pv), .blk id1 [.pv (.int .u64 w0.a), .pv (.int .u64 w0.b), .pv (.int .u64 w0.c), .pv (.int .u64 w0.d)]]) := hO
    refine X.pure (.pv (.int .i64 b4)) rfl rfl ?_
    refine X.pure (.pv (.bool (decide (b4 < (256 : Int))))) rfl rfl ?_
    refine X.stepZ ?_
    revert hB
    revert hO
    generalize (decide (b4 < (256 : Int))) = c20
    cases c20 with
    | true =>
      intro hO hB
      replace hB := bT hB
      refine X.condT rfl rfl ?_
      refine X.skipS ?_
      refine X.blockS ?_
      refine X.pure (.pv (.int .i64 b4)) rfl rfl ?_
      refine X.pure (.pv (.int .i64 b4)) rfl rfl ?_
      refine X.pure (.pv (.int .i64 (IntKind.i64.wrap (Int.tdiv b4 (64 : Int))))) rfl rfl ?_
      rcases Decidable.em ((IntKind.i64.wrap (Int.tdiv b4 (64 : Int))) = (0 : Int)) with hi21 | hi21
      · replace hB := bT' (beq_iff_eq.2 hi21) hB
        refine X.pure (.ptr id1 0) rfl (iaddrK_op (i := (IntKind.i64.wrap (Int.tdiv b4 (64 : Int)))) 0 4 1 hi21 rfl rfl rfl) ?_
        refine X.load 2 (.pv (.int .u64 w0.a)) hO rfl rfl rfl rfl ?_
        refine X.pure (.pv (.int .i64 b4)) rfl rfl ?_
        refine X.pure (.pv (.int .i64 (Int.tmod b4 (64 : Int)))) rfl rfl ?_
        refine X.pure (.pv (.int .u64 (IntKind.u64.wrap (Int.tmod b4 (64 : Int))))) rfl rfl ?_
        replace hB := bS hB; obtain ⟨z22, hz22, hB⟩ := hB
        refine X.pure (.pv (.int .u64 z22)) rfl (shr_op hz22 rfl rfl) ?_
        refine X.pure (.pv (.int .u64 (IntKind.u64.wrap (BitVec.ofInt 64 z22 &&& BitVec.ofInt 64 (1 : Int)).toNat))) rfl rfl ?_
        refine X.pure (.pv (.bool ((IntKind.u64.wrap (BitVec.ofInt 64 z22 &&& BitVec.ofInt 64 (1 : Int)).toNat) == (1 : Int)))) rfl rfl ?_
        replace hB := bS hB; obtain ⟨k23, hk23, hB⟩ := hB
        refine X.pure (.ptr id3 (0 + k23 * 1)) rfl (iaddrB_op hk23 rfl rfl) ?_
        refine X.store 0 (((bits256 (setBit w5 k23 ((IntKind.u64.wrap (BitVec.ofInt 64 z22 &&& BitVec.ofInt 64 (1 : Int)).toNat) == (1 : Int)))).map V.pv)) hO rfl rfl rfl rfl (storeV_bit0 hk23) rfl ?_
        clear hO; intro h hO
        refine X.stepZ ?_
        refine X.skipB ?_
        refine X.pure (.pv (.int .i64 b4)) rfl rfl ?_
        refine X.pure (.pv (.int .i64 (IntKind.i64.wrap (b4 + (1 : Int))))) rfl rfl ?_
        refine X.pure (.pv (.int .i64 (IntKind.i64.wrap (b4 + (1 : Int))))) rfl rfl ?_
        refine X.stepZ ?_
        obtain rfl := Option.some.inj hB
        exact X.nextL ⟨_, _, hO, st_keep _ ⟨rfl, rfl, rfl, rfl, trivial⟩⟩
      · replace hB := bF' (beq_eq_false_iff_ne.2 hi21) hB
        rcases Decidable.em ((IntKind.i64.wrap (Int.tdiv b4 (64 : Int))) = (1 : Int)) with hi24 | hi24
        · replace hB := bT' (beq_iff_eq.2 hi24) hB
          refine X.pure (.ptr id1 1) rfl (iaddrK_op (i := (IntKind.i64.wrap (Int.tdiv b4 (64 : Int)))) 1 4 1 hi24 rfl rfl rfl) ?_
          refine X.load 2 (.pv (.int .u64 w0.b)) hO rfl rfl rfl rfl ?_
          refine X.pure (.pv (.int .i64 b4)) rfl rfl ?_
          refine X.pure (.pv (.int .i64 (Int.tmod b4 (64 : Int)))) rfl rfl ?_
          refine X.pure (.pv (.int .u64 (IntKind.u64.wrap (Int.tmod b4 (64 : Int))))) rfl rfl ?_
          replace hB := bS hB; obtain ⟨z25, hz25, hB⟩ := hB
          refine X.pure (.pv (.int .u64 z25)) rfl (shr_op hz25 rfl rfl) ?_
          refine X.pure (.pv (.int .u64 (IntKind.u64.wrap (BitVec.ofInt 64 z25 &&& BitVec.ofInt 64 (1 : Int)).toNat))) rfl rfl ?_
          refine X.pure (.pv (.bool ((IntKind.u64.wrap (BitVec.ofInt 64 z25 &&& BitVec.ofInt 64 (1 : Int)).toNat) == (1 : Int)))) rfl rfl ?_
          replace hB := bS hB; obtain ⟨k26, hk26, hB⟩ := hB
          refine X.pure (.ptr id3 (0 + k26 * 1)) rfl (iaddrB_op hk26 rfl rfl) ?_
          refine X.store 0 (((bits256 (setBit w5 k26 ((IntKind.u64.wrap (BitVec.ofInt 64 z25 &&& BitVec.ofInt 64 (1 : Int)).toNat) == (1 : Int)))).map V.pv)) hO rfl rfl rfl rfl (storeV_bit0 hk26) rfl ?_
          clear hO; intro h hO
          refine X.stepZ ?_
          refine X.skipB ?_
          refine X.pure (.pv (.int .i64 b4)) rfl rfl ?_
          refine X.pure (.pv (.int .i64 (IntKind.i64.wrap (b4 + (1 : Int))))) rfl rfl ?_
          refine X.pure (.pv (.int .i64 (IntKind.i64.wrap (b4 + (1 : Int))))) rfl rfl ?_
          refine X.stepZ ?_
          obtain rfl := Option.some.inj hB
          exact X.nextL ⟨_, _, hO, st_keep _ ⟨rfl, rfl, rfl, rfl, trivial⟩⟩
        · replace hB := bF' (beq_eq_false_iff_ne.2 hi24) hB
          rcases Decidable.em ((IntKind.i64.wrap (Int.tdiv b4 (64 : Int))) = (2 : Int)) with hi27 | hi27
          · replace hB := bT' (beq_iff_eq.2 hi27) hB
            refine X.pure (.ptr id1 2) rfl (iaddrK_op (i := (IntKind.i64.wrap (Int.tdiv b4 (64 : Int)))) 2 4 1 hi27 rfl rfl rfl) ?_
            refine X.load 2 (.pv (.int .u64 w0.c)) hO rfl rfl rfl rfl ?_
            refine X.pure (.pv (.int .i64 b4)) rfl rfl ?_
            refine X.pure (.pv (.int .i64 (Int.tmod b4 (64 : Int)))) rfl rfl ?_
            refine X.pure (.pv (.int .u64 (IntKind.u64.wrap (Int.tmod b4 (64 : Int))))) rfl rfl ?_
            replace hB := bS hB; obtain ⟨z28, hz28, hB⟩ := hB
            refine X.pure (.pv (.int .u64 z28)) rfl (shr_op hz28 rfl rfl) ?_
            refine X.pure (.pv (.int .u64 (IntKind.u64.wrap (BitVec.ofInt 64 z28 &&& BitVec.ofInt 64 (1 : Int)).toNat))) rfl rfl ?_
            refine X.pure (.pv (.bool ((IntKind.u64.wrap (BitVec.ofInt 64 z28 &&& BitVec.ofInt 64 (1 : Int)).toNat) == (1 : Int)))) rfl rfl ?_
            replace hB := bS hB; obtain ⟨k29, hk29, hB⟩ := hB
            refine X.pure (.ptr id3 (0 + k29 * 1)) rfl (iaddrB_op hk29 rfl rfl) ?_
            refine X.store 0 (((bits256 (setBit w5 k29 ((IntKind.u64.wrap (BitVec.ofInt 64 z28 &&& BitVec.ofInt 64 (1 : Int)).toNat) == (1 : Int)))).map V.pv)) hO rfl rfl rfl rfl (storeV_bit0 hk29) rfl ?_
            clear hO; intro h hO
            refine X.stepZ ?_
            refine X.skipB ?_
            refine X.pure (.pv (.int .i64 b4)) rfl rfl ?_
            refine X.pure (.pv (.int .i64 (IntKind.i64.wrap (b4 + (1 : Int))))) rfl rfl ?_
            refine X.pure (.pv (.int .i64 (IntKind.i64.wrap (b4 + (1 : Int))))) rfl rfl ?_
            refine X.stepZ ?_
            obtain rfl := Option.some.inj hB
            exact X.nextL ⟨_, _, hO, st_keep _ ⟨rfl, rfl, rfl, rfl, trivial⟩⟩
          · replace hB := bF' (beq_eq_false_iff_ne.2 hi27) hB
            rcases Decidable.em ((IntKind.i64.wrap (Int.tdiv b4 (64 : Int))) = (3 : Int)) with hi30 | hi30
            · replace hB := bT' (beq_iff_eq.2 hi30) hB
              refine X.pure (.ptr id1 3) rfl (iaddrK_op (i := (IntKind.i64.wrap (Int.tdiv b4 (64 : Int)))) 3 4 1 hi30 rfl rfl rfl) ?_
              refine X.load 2 (.pv (.int .u64 w0.d)) hO rfl rfl rfl rfl ?_
              refine X.pure (.pv (.int .i64 b4)) rfl rfl ?_
              refine X.pure (.pv (.int .i64 (Int.tmod b4 (64 : Int)))) rfl rfl ?_
              refine X.pure (.pv (.int .u64 (IntKind.u64.wrap (Int.tmod b4 (64 : Int))))) rfl rfl ?_
              replace hB := bS hB; obtain ⟨z31, hz31, hB⟩ := hB
              refine X.pure (.pv (.int .u64 z31)) rfl (shr_op hz31 rfl rfl) ?_
              refine X.pure (.pv (.int .u64 (IntKind.u64.wrap (BitVec.ofInt 64 z31 &&& BitVec.ofInt 64 (1 : Int)).toNat))) rfl rfl ?_
              refine X.pure (.pv (.bool ((IntKind.u64.wrap (BitVec.ofInt 64 z31 &&& BitVec.ofInt 64 (1 : Int)).toNat) == (1 : Int)))) rfl rfl ?_
              replace hB := bS hB; obtain ⟨k32, hk32, hB⟩ := hB
              refine X.pure (.ptr id3 (0 + k32 * 1)) rfl (iaddrB_op hk32 rfl rfl) ?_
              refine X.store 0 (((bits256 (setBit w5 k32 ((IntKind.u64.wrap (BitVec.ofInt 64 z31 &&& BitVec.ofInt 64 (1 : Int)).toNat) == (1 : Int)))).map V.pv)) hO rfl rfl rfl rfl (storeV_bit0 hk32) rfl ?_
              clear hO; intro h hO
              refine X.stepZ ?_
              refine X.skipB ?_
              refine X.pure (.pv (.int .i64 b4)) rfl rfl ?_
              refine X.pure (.pv (.int .i64 (IntKind.i64.wrap (b4 + (1 : Int))))) rfl rfl ?_
              refine X.pure (.pv (.int .i64 (IntKind.i64.wrap (b4 + (1 : Int))))) rfl rfl ?_
              refine X.stepZ ?_
              obtain rfl := Option.some.inj hB
              exact X.nextL ⟨_, _, hO, st_keep _ ⟨rfl, rfl, rfl, rfl, trivial⟩⟩
            · replace hB := bF' (beq_eq_false_iff_ne.2 hi30) hB
              cases hB
    | false =>
      intro hO hB
      replace hB := bF hB
      refine X.condF rfl rfl ?_
      refine X.exitS ?_
      obtain rfl := Option.some.inj hB
      exact LP.brk' ⟨_, _, (hO.sub (.cons_cons _ (.cons_cons _ (.cons _ .slnil)))), st_keep _ ⟨rfl, rfl, trivial⟩⟩
  · rintro w19 st ⟨g, h, hO, rfl⟩ hB
    replace hB : B55_K0 w19 = some _ := hB
    unfold B55_K0 at hB
    replace hO : Own h ([.blk id3 ((bits256 w19).map V.pv), .blk id2 ((bits256 (0#256)).map V.pv)]) := hO
    refine X.load 0 (.pv (.agg (bits256 w19))) hO rfl rfl rfl cutV_bits ?_
    refine X.store 1 (((bits256 w19).map V.pv)) hO rfl rfl rfl rfl storeV_bits rfl ?_
    clear hO; intro h hO
    refine X.stepZ ?_
    obtain rfl := Option.some.inj hB
    exact X.retS (Fin.leaf (us := [.pv (.agg (bits256 w19))]) rfl (resS_cell (load_own 1 hO rfl cutV_bits)) (pureRes_one Wk.pv (by intro vs h; cases h)))
noncomputable def B56_L0 (s0 : (List Cd)) (f1 : (Cd → Option Bool)) (t81 : Int) : Option (Lp Int Unit Int) :=
  bif (decide (t81 < (s0.length : Int))) then
    ((idx s0 t81).bind fun y7 =>
     (f1 y7).bind fun y8 =>
     bif y8 then
       (some (.ret (t81)))
     else
       (some (.next (IntKind.i64.wrap (t81 + (1 : Int))))))
  else
    (some (.brk ()))
noncomputable def B56_K0 : Option Int :=
  some (-1 : Int)
abbrev R56_0 (g1 : FuncId) (cs1 : List PV) (s0 : (List Cd)) : Int → St → Prop := fun s st => ∃ (g : Nat → V) (h : Heap), Own h ([]) ∧ st = ⟨TL 19 (upds g [(0, .pv (.sl (List.map tCd.enc s0))), (1, .pv (.fn g1 cs1)), (7, .pv (.int .i64 (s0.length : Int))), (8, .pv (.int .i64 s))]), h⟩
abbrev A56_0 : Unit → St → Prop := fun s st => ∃ (g : Nat → V) (h : Heap), Own h ([]) ∧ st = ⟨TL 19 (upds g []), h⟩
noncomputable def B56 (s0 : (List Cd)) (f1 : (Cd → Option Bool)) : Option Int :=
  loopK (fun (s : Int) => B56_L0 s0 f1 s) (0 : Int) (fun (t : Unit) => B56_K0)
set_option maxRecDepth 100000 in
set_option maxHeartbeats 4000000 in
theorem B56_ok {E : Env}  (H : Has E 56 c56)  (s0 : (List Cd)) (f1 : (Cd → Option Bool)) (g1 : FuncId) (cs1 : List PV) (hf1 : ∀ (b0 : Cd) (q : Bool), f1 b0 = some q → limP E g1 ([.agg (Cd.cells b0)] ++ cs1) = some [.bool q]) (rf1 : E.raw g1 = false) (r : Int) (hB : B56 s0 f1 = some r) : limP E 56 [.sl (List.map tCd.enc s0), .fn g1 cs1] = some [.int .i64 r] := by
  have hO : Own [] [] := Own.nil
  refine Has.startD H rfl ?_; unfold B56 at hB
  refine X.pure (.pv (.int .i64 (0 : Int))) rfl rfl ?_
  refine X.stepZ ?_
  refine X.pure (.pv (.sl (List.map tCd.enc s0))) rfl rfl ?_
  refine X.len (l := s0) (g := tCd.enc) rfl rfl SlP.pv ?_
  refine X.pure (.pv (.int .i64 (0 : Int))) rfl rfl ?_
  refine X.stepZ ?_
  refine X.loopQ (s0 := (0 : Int)) (R56_0 g1 cs1 s0) (A56_0) hB ?_ ?_ ?_
  · exact ⟨_, _, hO, st_keep _ ⟨rfl, rfl, rfl, rfl, trivial⟩⟩
  · rintro t81 st o ⟨g, h, hO, rfl⟩ hB
    replace hB : B56_L0 s0 f1 t81 = some o := hB
    unfold B56_L0 at hB
    replace hO : Own h ([]) := hO
    refine X.pure (.pv (.bool (decide (t81 < (s0.length : Int))))) rfl rfl ?_
    refine X.stepZ ?_
    revert hB
    revert hO
    generalize (decide (t81 < (s0.length : Int))) = c6
    cases c6 with
    | true =>
      intro hO hB
      replace hB := bT hB
      refine X.condT rfl rfl ?_
      refine X.skipS ?_
      refine X.blockS ?_
      refine X.pure (.pv (.int .i64 t81)) rfl rfl ?_
      refine X.pure (.pv (.int .i64 t81)) rfl rfl ?_
      refine X.stepZ ?_
      refine X.pure (.pv (.fn g1 cs1)) rfl rfl ?_
      refine X.pure (.pv (.sl (List.map tCd.enc s0))) rfl rfl ?_
      refine X.pure (.pv (.int .i64 t81)) rfl rfl ?_
      replace hB := bS hB; obtain ⟨y7, hy7, hB⟩ := hB
      refine X.at tCd hy7 rfl rfl SlP.pv rfl rfl ?_
      refine X.pure (.pv (.agg (Cd.cells y7))) rfl rfl ?_
      replace hB := bS hB; obtain ⟨y8, hy8, hB⟩ := hB
      refine X.callV [.pv (.agg (Cd.cells y7))] [.agg (Cd.cells y7)] _ (hf1 _ _ hy8) rf1 rfl rfl rfl ⟨Wk.pv, trivial⟩ ?_
      refine X.stepZ ?_
      revert hB
      revert hO
      generalize y8 = c9
      cases c9 with
      | true =>
        intro hO hB
        replace hB := bT hB
        refine X.condT rfl rfl ?_
        refine X.pure (.pv (.int .i64 t81)) rfl rfl ?_
        refine X.pure (.pv (.int .i64 t81)) rfl rfl ?_
        refine X.stepZ ?_
        obtain rfl := Option.some.inj hB
        refine X.retS ?_
        intro e; subst e
        exact Fin.leaf (us := [.pv (.int .i64 t81)]) rfl rfl (pureRes_one Wk.pv (by intro vs h; cases h))
      | false =>
        intro hO hB
        replace hB := bF hB
        refine X.condF rfl rfl ?_
        refine X.skipS ?_
        refine X.skipB ?_
        refine X.pure (.pv (.int .i64 (IntKind.i64.wrap (t81 + (1 : Int))))) rfl rfl ?_
        refine X.pure (.pv (.int .i64 (IntKind.i64.wrap (t81 + (1 : Int))))) rfl rfl ?_
        refine X.stepZ ?_
        obtain rfl := Option.some.inj hB
        exact X.nextL ⟨_, _, hO, st_keep _ ⟨rfl, rfl, rfl, rfl, trivial⟩⟩
    | false =>
      intro hO hB
      replace hB := bF hB
      refine X.condF rfl rfl ?_
      refine X.exitS ?_
      obtain rfl := Option.some.inj hB
      exact LP.brk' ⟨_, _, hO, st_keep _ trivial⟩
  · rintro _ st ⟨g, h, hO, rfl⟩ hB
    replace hB : B56_K0 = some _ := hB
    unfold B56_K0 at hB
    replace hO : Own h ([]) := hO
    refine X.pure (.pv (.int .i64 (-1 : Int))) rfl rfl ?_
    refine X.stepZ ?_
    obtain rfl := Option.some.inj hB
    exact X.retS (Fin.leaf (us := [.pv (.int .i64 (-1 : Int))]) rfl rfl (pureRes_one Wk.pv (by intro vs h; cases h)))
noncomputable def B57_L0 (s10 : (List Cd)) (s21 : (List Cd)) (eq2 : (Cd → Cd → Option Bool)) (t172 : Int) : Option (Lp Int Unit Bool) :=
  bif (decide (t172 < (s10.length : Int))) then
    ((idx s10 t172).bind fun y11 =>
     (idx s21 t172).bind fun y13 =>
     (eq2 y11 y13).bind fun y15 =>
     bif y15 then
       (some (.next (IntKind.i64.wrap (t172 + (1 : Int)))))
     else
       (some (.ret (false))))
  else
    (some (.brk ()))
noncomputable def B57_K0 : Option Bool :=
  some true
abbrev R57_0 (g2 : FuncId) (cs2 : List PV) (s10 : (List Cd)) (s21 : (List Cd)) : Int → St → Prop := fun s st => ∃ (g : Nat → V) (h : Heap), Own h ([]) ∧ st = ⟨TL 32 (upds g [(1, .pv (.sl (List.map tCd.enc s21))), (2, .pv (.fn g2 cs2)), (15, .pv (.sl (List.map tCd.enc s10))), (16, .pv (.int .i64 (s10.length : Int))), (17, .pv (.int .i64 s))]), h⟩
abbrev A57_0 : Unit → St → Prop := fun s st => ∃ (g : Nat → V) (h : Heap), Own h ([]) ∧ st = ⟨TL 32 (upds g []), h⟩
noncomputable def B57 (s10 : (List Cd)) (s21 : (List Cd)) (eq2 : (Cd → Cd → Option Bool)) : Option Bool :=
  bif ((s10.length : Int) != (s21.length : Int)) then
    (some false)
  else
    (loopK (fun (s : Int) => B57_L0 s10 s21 eq2 s) (0 : Int) (fun (t : Unit) => B57_K0))
set_option maxRecDepth 100000 in
set_option maxHeartbeats 4000000 in
theorem B57_ok {E : Env}  (H : Has E 57 c57)  (s10 : (List Cd)) (s21 : (List Cd)) (eq2 : (Cd → Cd → Option Bool)) (g2 : FuncId) (cs2 : List PV) (heq2 : ∀ (b0 : Cd) (b1 : Cd) (q : Bool), eq2 b0 b1 = some q → limP E g2 ([.agg (Cd.cells b0), .agg (Cd.cells b1)] ++ cs2) = some [.bool q]) (req2 : E.raw g2 = false) (r : Bool) (hB : B57 s10 s21 eq2 = some r) : limP E 57 [.sl (List.map tCd.enc s10), .sl (List.map tCd.enc s21), .fn g2 cs2] = some [.bool r] := by
  have hO : Own [] [] := Own.nil
  refine Has.startD H rfl ?_; unfold B57 at hB
  refine X.pure (.pv (.bool false)) rfl rfl ?_
  refine X.stepZ ?_
  refine X.pure (.pv (.sl (List.map tCd.enc s10))) rfl rfl ?_
  refine X.len (l := s10) (g := tCd.enc) rfl rfl SlP.pv ?_
  refine X.pure (.pv (.sl (List.map tCd.enc s21))) rfl rfl ?_
  refine X.len (l := s21) (g := tCd.enc) rfl rfl SlP.pv ?_
  refine X.pure (.pv (.bool ((s10.length : Int) != (s21.length : Int)))) rfl rfl ?_
  refine X.stepZ ?_
  revert hB
  revert hO
  generalize ((s10.length : Int) != (s21.length : Int)) = c1
  cases c1 with
  | true =>
    intro hO hB
    replace hB := bT hB
    refine X.condT rfl rfl ?_
    refine X.pure (.pv (.bool false)) rfl rfl ?_
    refine X.stepZ ?_
    obtain rfl := Option.some.inj hB
    exact X.retS (Fin.leaf (us := [.pv (.bool false)]) rfl rfl (pureRes_one Wk.pv (by intro vs h; cases h)))
  | false =>
    intro hO hB
    replace hB := bF hB
    refine X.condF rfl rfl ?_
    refine X.skipS ?_
    refine X.pure (.pv (.sl (List.map tCd.enc s10))) rfl rfl ?_
    refine X.len (l := s10) (g := tCd.enc) rfl rfl SlP.pv ?_
    refine X.pure (.pv (.int .i64 (0 : Int))) rfl rfl ?_
    refine X.stepZ ?_
    refine X.loopQ (s0 := (0 : Int)) (R57_0 g2 cs2 s10 s21) (A57_0) hB ?_ ?_ ?_
    · exact ⟨_, _, hO, st_keep _ ⟨rfl, rfl, rfl, rfl, rfl, trivial⟩⟩
    · rintro t172 st o ⟨g, h, hO, rfl⟩ hB
      replace hB : B57_L0 s10 s21 eq2 t172 = some o := hB
      unfold B57_L0 at hB
      replace hO : Own h ([]) := hO
      refine X.pure (.pv (.bool (decide (t172 < (s10.length : Int))))) rfl rfl ?_
      refine X.stepZ ?_
      revert hB
      revert hO
      generalize (decide (t172 < (s10.length : Int))) = c10
      cases c10 with
      | true =>
        intro hO hB
        replace hB := bT hB
        refine X.condT rfl rfl ?_
        refine X.skipS ?_
        refine X.blockS ?_
        refine X.pure (.pv (.int .i64 t172)) rfl rfl ?_
        replace hB := bS hB; obtain ⟨y11, hy11, hB⟩ := hB
        refine X.at tCd hy11 rfl rfl SlP.pv rfl rfl ?_
        refine X.pure (.pv (.agg (Cd.cells y11))) rfl rfl ?_
        refine X.new hO ?_
        clear hO; intro id12 h hO
        replace hO : Own h ([.blk id12 [.pv (.int .i64 (0 : Int)), .pv (.str []), .pv (.int .u64 (0 : Int)), .pv (.int .u64 (0 : Int)), .pv (.int .u64 (0 : Int)), .pv (.int .u64 (0 : Int)), .nils]]) := hO
        refine X.pure (.pv (.int .i64 t172)) rfl rfl ?_
        refine X.store 0 ([.pv (.int .i64 y11.kind), .pv (.str y11.bits), .pv (.int .u64 y11.set.a), .pv (.int .u64 y11.set.b), .pv (.int .u64 y11.set.c), .pv (.int .u64 y11.set.d), .pv (.sl (List.map tCd.enc y11.l))]) hO rfl rfl rfl rfl rfl rfl ?_
        clear hO; intro h hO
        refine X.stepZ ?_
        refine X.pure (.pv (.sl (List.map tCd.enc s21))) rfl rfl ?_
        refine X.pure (.pv (.int .i64 t172)) rfl rfl ?_
        replace hB := bS hB; obtain ⟨y13, hy13, hB⟩ := hB
        refine X.at tCd hy13 rfl rfl SlP.pv rfl rfl ?_
        refine X.pure (.pv (.agg (Cd.cells y13))) rfl rfl ?_
        refine X.new hO ?_
        clear hO; intro id14 h hO
        replace hO : Own h ([.blk id14 [.pv (.int .i64 (0 : Int)), .pv (.str []), .pv (.int .u64 (0 : Int)), .pv (.int .u64 (0 : Int)), .pv (.int .u64 (0 : Int)), .pv (.int .u64 (0 : Int)), .nils], .blk id12 [.pv (.int .i64 y11.kind), .pv (.str y11.bits), .pv (.int .u64 y11.set.a), .pv (.int .u64 y11.set.b), .pv (.int .u64 y11.set.c), .pv (.int .u64 y11.set.d), .pv (.sl (List.map tCd.enc y11.l))]]) := hO
        refine X.store 0 ([.pv (.int .i64 y13.kind), .pv (.str y13.bits), .pv (.int .u64 y13.set.a), .pv (.int .u64 y13.set.b), .pv (.int .u64 y13.set.c), .pv (.int .u64 y13.set.d), .pv (.sl (List.map tCd.enc y13.l))]) hO rfl rfl rfl rfl rfl rfl ?_
        clear hO; intro h hO
        refine X.stepZ ?_
        refine X.pure (.pv (.fn g2 cs2)) rfl rfl ?_
        refine X.load 1 (.pv (.agg (Cd.cells y11))) hO rfl rfl rfl rfl ?_
        refine X.load 0 (.pv (.agg (Cd.cells y13))) hO rfl rfl rfl rfl ?_
        replace hB := bS hB; obtain ⟨y15, hy15, hB⟩ := hB
        refine X.callV [.pv (.agg (Cd.cells y11)), .pv (.agg (Cd.cells y13))] [.agg (Cd.cells y11), .agg (Cd.cells y13)] _ (heq2 _ _ _ hy15) req2 rfl rfl rfl ⟨Wk.pv, Wk.pv, trivial⟩ ?_
        refine X.pure (.pv (.bool (!y15))) rfl rfl ?_
        refine X.stepZ ?_
        revert hB
        revert hO
        generalize y15 = c16
        cases c16 with
        | true =>
          intro hO hB
          replace hB := bT hB
          refine X.condF rfl rfl ?_
          refine X.skipS ?_
          refine X.skipB ?_
          refine X.pure (.pv (.int .i64 (IntKind.i64.wrap (t172 + (1 : Int))))) rfl rfl ?_
          refine X.pure (.pv (.int .i64 (IntKind.i64.wrap (t172 + (1 : Int))))) rfl rfl ?_
          refine X.stepZ ?_
          obtain rfl := Option.some.inj hB
          exact X.nextL ⟨_, _, (hO.sub (.cons _ (.cons _ .slnil))), st_keep _ ⟨rfl, rfl, rfl, rfl, rfl, trivial⟩⟩
        | false =>
          intro hO hB
          replace hB := bF hB
          refine X.condT rfl rfl ?_
          refine X.pure (.pv (.bool false)) rfl rfl ?_
          refine X.stepZ ?_
          obtain rfl := Option.some.inj hB
          refine X.retS ?_
          intro e; subst e
          exact Fin.leaf (us := [.pv (.bool false)]) rfl rfl (pureRes_one Wk.pv (by intro vs h; cases h))
      | false =>
        intro hO hB
        replace hB := bF hB
        refine X.condF rfl rfl ?_
        refine X.exitS ?_
        obtain rfl := Option.some.inj hB
        exact LP.brk' ⟨_, _, hO, st_keep _ trivial⟩
    · rintro _ st ⟨g, h, hO, rfl⟩ hB
      replace hB : B57_K0 = some _ := hB
      unfold B57_K0 at hB
      replace hO : Own h ([]) := hO
      refine X.pure (.pv (.bool true)) rfl rfl ?_
      refine X.stepZ ?_
      obtain rfl := Option.some.inj hB
      exact X.retS (Fin.leaf (us := [.pv (.bool true)]) rfl rfl (pureRes_one Wk.pv (by intro vs h; cases h)))
noncomputable def B58_L0 (F58 : Rc → Int → Option Int) (x0 : Rc) (most1 : Int) (k2 : Int) (i3 : Int) : Option (Lp (Int × Int) Int Int) :=
  bif ((decide (i3 < (x0.l.length : Int))) && (decide (k2 ≤ most1))) then
    ((idx x0.l i3).bind fun y11 =>
     (F58 y11 (IntKind.i64.wrap (most1 - k2))).bind fun y12 =>
     some (.next ((IntKind.i64.wrap (k2 + y12)), (IntKind.i64.wrap (i3 + (1 : Int))))))
  else
    (some (.brk k2))
noncomputable def B58_K0 (most1 : Int) (k8 : Int) : Option Int :=
  bif (decide (k8 > most1)) then
    (some most1)
  else
    (some k8)
abbrev R58_0 (x0 : Rc) (most1 : Int) (id1 : Nat) : (Int × Int) → St → Prop := fun s st => ∃ (g : Nat → V) (h : Heap), Own h ([.blk id1 (([.pv (.int .i64 x0.kind), .pv (.str x0.bits)] : List V) ++ (((bits256 x0.set).map V.pv) ++ ([.pv (.sl (List.map tRc.enc x0.l))] : List V)))]) ∧ st = ⟨TL 35 (upds g [(1, .pv (.int .i64 most1)), (2, .ptr id1 0), (5, .pv (.int .i64 s.1)), (6, .pv (.int .i64 s.2))]), h⟩
abbrev A58_0 (most1 : Int) : Int → St → Prop := fun s st => ∃ (g : Nat → V) (h : Heap), Own h ([]) ∧ st = ⟨TL 35 (upds g [(1, .pv (.int .i64 most1)), (5, .pv (.int .i64 s))]), h⟩
noncomputable def B58 (F58 : Rc → Int → Option Int) (x0 : Rc) (most1 : Int) : Option Int :=
  loopK (fun (s : (Int × Int)) => B58_L0 F58 x0 most1 s.1 s.2) ((1 : Int), (0 : Int)) (fun (t : Int) => B58_K0 most1 t)
set_option maxRecDepth 100000 in
set_option maxHeartbeats 4000000 in
theorem B58_ok {E : Env} (F58 : Rc → Int → Option Int) (hF58 : ∀ (r : Int) (a0 : Rc) (a1 : Int), F58 a0 a1 = some r → limP E 58 [.agg (Rc.cells a0), .int .i64 a1] = some [.int .i64 r]) (rF58 : E.raw 58 = false) (H : Has E 58 c58)  (x0 : Rc) (most1 : Int) (r : Int) (hB : B58 F58 x0 most1 = some r) : limP E 58 [.agg (Rc.cells x0), .int .i64 most1] = some [.int .i64 r] := by
  have hO : Own [] [] := Own.nil
  refine Has.startD H rfl ?_; unfold B58 at hB
  refine X.box ((([.pv (.int .i64 x0.kind), .pv (.str x0.bits)] : List V) ++ (((bits256 x0.set).map V.pv) ++ ([.pv (.sl (List.map tRc.enc x0.l))] : List V)))) hO rfl rfl (big_cells rfl rfl) (big_all rfl rfl) ?_
  clear hO; intro id1 h hO
  refine X.pure (.pv (.int .i64 (0 : Int))) rfl rfl ?_
  refine X.stepZ ?_
  refine X.pure (.pv (.int .i64 (1 : Int))) rfl rfl ?_
  refine X.stepZ ?_
  refine X.pure (.pv (.int .i64 (0 : Int))) rfl rfl ?_
  refine X.stepZ ?_
  refine X.loopQ (s0 := ((1 : Int), (0 : Int))) (R58_0 x0 most1 id1) (A58_0 most1) hB ?_ ?_ ?_
  · exact ⟨_, _, hO, st_keep _ ⟨rfl, rfl, rfl, rfl, trivial⟩⟩
  · rintro ⟨k2, i3⟩ st o ⟨g, h, hO, rfl⟩ hB
    replace hB : B58_L0 F58 x0 most1 k2 i3 = some o := hB
    unfold B58_L0 at hB
    replace hO : Own h ([.blk id1 (([.pv (.int .i64 x0.kind), .pv (.str x0.bits)] : List V) ++ (((bits256 x0.set).map V.pv) ++ ([.pv (.sl (List.map tRc.enc x0.l))] : List V)))]) := hO
    refine X.goMid (fun st => ∃ (g : Nat → V) (h : Heap), Own h ([.blk id1 (([.pv (.int .i64 x0.kind), .pv (.str x0.bits)] : List V) ++ (((bits256 x0.set).map V.pv) ++ ([.pv (.sl (List.map tRc.enc x0.l))] : List V)))]) ∧ st = ⟨TL 35 (upds g [(1, .pv (.int .i64 most1)), (2, .ptr id1 0), (5, .pv (.int .i64 k2)), (6, .pv (.int .i64 i3)), (16, .pv (.bool ((decide (i3 < (x0.l.length : Int))) && (decide (k2 ≤ most1)))))]), h⟩) ?_ ?_
    · refine X.pure (.pv (.int .i64 i3)) rfl rfl ?_
      refine X.pure (.ptr id1 258) rfl rfl ?_
      refine X.load 0 (.pv (.sl (List.map tRc.enc x0.l))) hO rfl rfl rfl (big_cutC (k := 0) rfl rfl) ?_
      refine X.len (l := x0.l) (g := tRc.enc) rfl rfl SlP.pv ?_
      refine X.pure (.pv (.bool (decide (i3 < (x0.l.length : Int))))) rfl rfl ?_
      refine X.pure (.pv (.bool (decide (i3 < (x0.l.length : Int))))) rfl rfl ?_
      revert hO
      generalize (decide (i3 < (x0.l.length : Int))) = c9
      cases c9 with
      | true =>
        intro hO
        refine X.yes rfl rfl ?_
        refine X.pure (.pv (.int .i64 k2)) rfl rfl ?_
        refine X.yes rfl rfl ?_
        refine X.pure (.pv (.int .i64 most1)) rfl rfl ?_
        refine X.yes rfl rfl ?_
        refine X.pure (.pv (.bool (decide (k2 ≤ most1)))) rfl rfl ?_
        refine X.pure (.pv (.bool (decide (k2 ≤ most1)))) rfl rfl ?_
        refine X.stepZ ?_
        exact X.skipL ⟨_, _, hO, st_keep _ ⟨rfl, rfl, rfl, rfl, rfl, trivial⟩⟩
      | false =>
        intro hO
        refine X.no rfl rfl ?_
        refine X.no rfl rfl ?_
        refine X.no rfl rfl ?_
        refine X.pure (.pv (.bool false)) rfl rfl ?_
        refine X.stepZ ?_
        exact X.skipL ⟨_, _, hO, st_keep _ ⟨rfl, rfl, rfl, rfl, rfl, trivial⟩⟩
    · rintro st ⟨g, h, hO, rfl⟩
      revert hB
      revert hO
      generalize ((decide (i3 < (x0.l.length : Int))) && (decide (k2 ≤ most1))) = c10
      cases c10 with
      | true =>
        intro hO hB
        replace hB := bT hB
        refine X.condT rfl rfl ?_
        refine X.skipS ?_
        refine X.blockS ?_
        refine X.pure (.pv (.int .i64 k2)) rfl rfl ?_
        refine X.pure (.ptr id1 258) rfl rfl ?_
        refine X.load 0 (.pv (.sl (List.map tRc.enc x0.l))) hO rfl rfl rfl (big_cutC (k := 0) rfl rfl) ?_
        refine X.pure (.pv (.int .i64 i3)) rfl rfl ?_
        replace hB := bS hB; obtain ⟨y11, hy11, hB⟩ := hB
        refine X.at tRc hy11 rfl rfl SlP.pv rfl rfl ?_
        refine X.pure (.pv (.agg (Rc.cells y11))) rfl (loadIp_op rfl (big_ip rfl rfl (big_whole rfl (mkAgg_big rfl rfl)))) ?_
        refine X.pure (.pv (.int .i64 most1)) rfl rfl ?_
        refine X.pure (.pv (.int .i64 k2)) rfl rfl ?_
        refine X.pure (.pv (.int .i64 (IntKind.i64.wrap (most1 - k2)))) rfl rfl ?_
        replace hB := bS hB; obtain ⟨y12, hy12, hB⟩ := hB
        refine X.callW [.pv (.agg (Rc.cells y11)), .pv (.int .i64 (IntKind.i64.wrap (most1 - k2)))] [.agg (Rc.cells y11), .int .i64 (IntKind.i64.wrap (most1 - k2))] _ (hF58 _ _ _ hy12) rF58 rfl rfl ⟨Wk.pv, Wk.pv, trivial⟩ ?_
        refine X.pure (.pv (.int .i64 (IntKind.i64.wrap (k2 + y12)))) rfl rfl ?_
        refine X.pure (.pv (.int .i64 (IntKind.i64.wrap (k2 + y12)))) rfl rfl ?_
        refine X.stepZ ?_
        refine X.skipB ?_
        refine X.pure (.pv (.int .i64 i3)) rfl rfl ?_
        refine X.pure (.pv (.int .i64 (IntKind.i64.wrap (i3 + (1 : Int))))) rfl rfl ?_
        refine X.pure (.pv (.int .i64 (IntKind.i64.wrap (i3 + (1 : Int))))) rfl rfl ?_
        refine X.stepZ ?_
        obtain rfl := Option.some.inj hB
        exact X.nextL ⟨_, _, hO, st_keep _ ⟨rfl, rfl, rfl, rfl, trivial⟩⟩
      | false =>
        intro hO hB
        replace hB := bF hB
        refine X.condF rfl rfl ?_
        refine X.exitS ?_
        obtain rfl := Option.some.inj hB
        exact LP.brk' ⟨_, _, (hO.sub (.cons _ .slnil)), st_keep _ ⟨rfl, rfl, trivial⟩⟩
  · rintro k8 st ⟨g, h, hO, rfl⟩ hB
    replace hB : B58_K0 most1 k8 = some _ := hB
    unfold B58_K0 at hB
    replace hO : Own h ([]) := hO
    refine X.pure (.pv (.int .i64 k8)) rfl rfl ?_
    refine X.pure (.pv (.int .i64 most1)) rfl rfl ?_
    refine X.pure (.pv (.bool (decide (k8 > most1)))) rfl rfl ?_
    refine X.stepZ ?_
    revert hB
    revert hO
    generalize (decide (k8 > most1)) = c13
    cases c13 with
    | true =>
      intro hO hB
      replace hB := bT hB
      refine X.condT rfl rfl ?_
      refine X.pure (.pv (.int .i64 most1)) rfl rfl ?_
      refine X.pure (.pv (.int .i64 most1)) rfl rfl ?_
      refine X.stepZ ?_
      obtain rfl := Option.some.inj hB
      exact X.retS (Fin.leaf (us := [.pv (.int .i64 most1)]) rfl rfl (pureRes_one Wk.pv (by intro vs h; cases h)))
    | false =>
      intro hO hB
      replace hB := bF hB
      refine X.condF rfl rfl ?_
      refine X.skipS ?_
      refine X.pure (.pv (.int .i64 k8)) rfl rfl ?_
      refine X.pure (.pv (.int .i64 k8)) rfl rfl ?_
      refine X.stepZ ?_
      obtain rfl := Option.some.inj hB
      exact X.retS (Fin.leaf (us := [.pv (.int .i64 k8)]) rfl rfl (pureRes_one Wk.pv (by intro vs h; cases h)))
noncomputable def B59_L0 (F59 : Rc → Int → Option Int) (x0 : Rc) (most1 : Int) (d3 : Int) (i4 : Int) : Option (Lp (Int × Int) Int Int) :=
  bif (decide (i4 < (x0.l.length : Int))) then
    ((idx x0.l i4).bind fun y11 =>
     (F59 y11 (IntKind.i64.wrap (most1 - (1 : Int)))).bind fun y12 =>
     bif (decide (y12 > d3)) then
       (some (.next (y12, (IntKind.i64.wrap (i4 + (1 : Int))))))
     else
       (some (.next (d3, (IntKind.i64.wrap (i4 + (1 : Int)))))))
  else
    (some (.brk d3))
noncomputable def B59_K0 (d9 : Int) : Option Int :=
  some (IntKind.i64.wrap (d9 + (1 : Int)))
abbrev R59_0 (x0 : Rc) (most1 : Int) (id1 : Nat) : (Int × Int) → St → Prop := fun s st => ∃ (g : Nat → V) (h : Heap), Own h ([.blk id1 (([.pv (.int .i64 x0.kind), .pv (.str x0.bits)] : List V) ++ (((bits256 x0.set).map V.pv) ++ ([.pv (.sl (List.map tRc.enc x0.l))] : List V)))]) ∧ st = ⟨TL 31 (upds g [(1, .pv (.int .i64 most1)), (2, .ptr id1 0), (5, .pv (.int .i64 s.1)), (6, .pv (.int .i64 s.2))]), h⟩
abbrev A59_0 : Int → St → Prop := fun s st => ∃ (g : Nat → V) (h : Heap), Own h ([]) ∧ st = ⟨TL 31 (upds g [(5, .pv (.int .i64 s))]), h⟩
noncomputable def B59 (F59 : Rc → Int → Option Int) (x0 : Rc) (most1 : Int) : Option Int :=
  bif (decide (most1 ≤ (0 : Int))) then
    (some (1 : Int))
  else
    (loopK (fun (s : (Int × Int)) => B59_L0 F59 x0 most1 s.1 s.2) ((0 : Int), (0 : Int)) (fun (t : Int) => B59_K0 t))
set_option maxRecDepth 100000 in
set_option maxHeartbeats 4000000 in
theorem B59_ok {E : Env} (F59 : Rc → Int → Option Int) (hF59 : ∀ (r : Int) (a0 : Rc) (a1 : Int), F59 a0 a1 = some r → limP E 59 [.agg (Rc.cells a0), .int .i64 a1] = some [.int .i64 r]) (rF59 : E.raw 59 = false) (H : Has E 59 c59)  (x0 : Rc) (most1 : Int) (r : Int) (hB : B59 F59 x0 most1 = some r) : limP E 59 [.agg (Rc.cells x0), .int .i64 most1] = some [.int .i64 r] := by
  have hO : Own [] [] := Own.nil
  refine Has.startD H rfl ?_; unfold B59 at hB
  refine X.box ((([.pv (.int .i64 x0.kind), .pv (.str x0.bits)] : List V) ++ (((bits256 x0.set).map V.pv) ++ ([.pv (.sl (List.map tRc.enc x0.l))] : List V)))) hO rfl rfl (big_cells rfl rfl) (big_all rfl rfl) ?_
  clear hO; intro id1 h hO
  refine X.pure (.pv (.int .i64 (0 : Int))) rfl rfl ?_
  refine X.stepZ ?_
  refine X.pure (.pv (.int .i64 most1)) rfl rfl ?_
  refine X.pure (.pv (.bool (decide (most1 ≤ (0 : Int))))) rfl rfl ?_
  refine X.stepZ ?_
  revert hB
  revert hO
  generalize (decide (most1 ≤ (0 : Int))) = c2
  cases c2 with
  | true =>
    intro hO hB
    replace hB := bT hB
    refine X.condT rfl rfl ?_
    refine X.pure (.pv (.int .i64 (1 : Int))) rfl rfl ?_
    refine X.stepZ ?_
    obtain rfl := Option.some.inj hB
    exact X.retS (Fin.leaf (us := [.pv (.int .i64 (1 : Int))]) rfl rfl (pureRes_one Wk.pv (by intro vs h; cases h)))
  | false =>
    intro hO hB
    replace hB := bF hB
    refine X.condF rfl rfl ?_
    refine X.skipS ?_
    refine X.pure (.pv (.int .i64 (0 : Int))) rfl rfl ?_
    refine X.stepZ ?_
    refine X.pure (.pv (.int .i64 (0 : Int))) rfl rfl ?_
    refine X.stepZ ?_
    refine X.loopQ (s0 := ((0 : Int), (0 : Int))) (R59_0 x0 most1 id1) (A59_0) hB ?_ ?_ ?_
    · exact ⟨_, _, hO, st_keep _ ⟨rfl, rfl, rfl, rfl, trivial⟩⟩
    · rintro ⟨d3, i4⟩ st o ⟨g, h, hO, rfl⟩ hB
      replace hB : B59_L0 F59 x0 most1 d3 i4 = some o := hB
      unfold B59_L0 at hB
      replace hO : Own h ([.blk id1 (([.pv (.int .i64 x0.kind), .pv (.str x0.bits)] : List V) ++ (((bits256 x0.set).map V.pv) ++ ([.pv (.sl (List.map tRc.enc x0.l))] : List V)))]) := hO
      refine X.pure (.pv (.int .i64 i4)) rfl rfl ?_
      refine X.pure (.ptr id1 258) rfl rfl ?_
      refine X.load 0 (.pv (.sl (List.map tRc.enc x0.l))) hO rfl rfl rfl (big_cutC (k := 0) rfl rfl) ?_
      refine X.len (l := x0.l) (g := tRc.enc) rfl rfl SlP.pv ?_
      refine X.pure (.pv (.bool (decide (i4 < (x0.l.length : Int))))) rfl rfl ?_
      refine X.stepZ ?_
      revert hB
      revert hO
      generalize (decide (i4 < (x0.l.length : Int))) = c10
      cases c10 with
      | true =>
        intro hO hB
        replace hB := bT hB
        refine X.condT rfl rfl ?_
        refine X.skipS ?_
        refine X.blockS ?_
        refine X.pure (.ptr id1 258) rfl rfl ?_
        refine X.load 0 (.pv (.sl (List.map tRc.enc x0.l))) hO rfl rfl rfl (big_cutC (k := 0) rfl rfl) ?_
        refine X.pure (.pv (.int .i64 i4)) rfl rfl ?_
        replace hB := bS hB; obtain ⟨y11, hy11, hB⟩ := hB
        refine X.at tRc hy11 rfl rfl SlP.pv rfl rfl ?_
        refine X.pure (.pv (.agg (Rc.cells y11))) rfl (loadIp_op rfl (big_ip rfl rfl (big_whole rfl (mkAgg_big rfl rfl)))) ?_
        refine X.pure (.pv (.int .i64 most1)) rfl rfl ?_
        refine X.pure (.pv (.int .i64 (IntKind.i64.wrap (most1 - (1 : Int))))) rfl rfl ?_
        replace hB := bS hB; obtain ⟨y12, hy12, hB⟩ := hB
        refine X.callW [.pv (.agg (Rc.cells y11)), .pv (.int .i64 (IntKind.i64.wrap (most1 - (1 : Int))))] [.agg (Rc.cells y11), .int .i64 (IntKind.i64.wrap (most1 - (1 : Int)))] _ (hF59 _ _ _ hy12) rF59 rfl rfl ⟨Wk.pv, Wk.pv, trivial⟩ ?_
        refine X.pure (.pv (.int .i64 y12)) rfl rfl ?_
        refine X.stepZ ?_
        refine X.pure (.pv (.int .i64 y12)) rfl rfl ?_
        refine X.pure (.pv (.int .i64 d3)) rfl rfl ?_
        refine X.pure (.pv (.bool (decide (y12 > d3)))) rfl rfl ?_
        refine X.stepZ ?_
        revert hB
        revert hO
        generalize (decide (y12 > d3)) = c13
        cases c13 with
        | true =>
          intro hO hB
          replace hB := bT hB
          refine X.condT rfl rfl ?_
          refine X.pure (.pv (.int .i64 y12)) rfl rfl ?_
          refine X.pure (.pv (.int .i64 y12)) rfl rfl ?_
          refine X.stepZ ?_
          refine X.skipB ?_
          refine X.pure (.pv (.int .i64 i4)) rfl rfl ?_
          refine X.pure (.pv (.int .i64 (IntKind.i64.wrap (i4 + (1 : Int))))) rfl rfl ?_
          refine X.pure (.pv (.int .i64 (IntKind.i64.wrap (i4 + (1 : Int))))) rfl rfl ?_
          refine X.stepZ ?_
          obtain rfl := Option.some.inj hB
          exact X.nextL ⟨_, _, hO, st_keep _ ⟨rfl, rfl, rfl, rfl, trivial⟩⟩
        | false =>
          intro hO hB
          replace hB := bF hB
          refine X.condF rfl rfl ?_
          refine X.skipS ?_
          refine X.skipB ?_
          refine X.pure (.pv (.int .i64 i4)) rfl rfl ?_
          refine X.pure (.pv (.int .i64 (IntKind.i64.wrap (i4 + (1 : Int))))) rfl rfl ?_
          refine X.pure (.pv (.int .i64 (IntKind.i64.wrap (i4 + (1 : Int))))) rfl rfl ?_
          refine X.stepZ ?_
          obtain rfl := Option.some.inj hB
          exact X.nextL ⟨_, _, hO, st_keep _ ⟨rfl, rfl, rfl, rfl, trivial⟩⟩
      | false =>
        intro hO hB
        replace hB := bF hB
        refine X.condF rfl rfl ?_
        refine X.exitS ?_
        obtain rfl := Option.some.inj hB
        exact LP.brk' ⟨_, _, (hO.sub (.cons _ .slnil)), st_keep _ ⟨rfl, trivial⟩⟩
    · rintro d9 st ⟨g, h, hO, rfl⟩ hB
      replace hB : B59_K0 d9 = some _ := hB
      unfold B59_K0 at hB
      replace hO : Own h ([]) := hO
      refine X.pure (.pv (.int .i64 d9)) rfl rfl ?_
      refine X.pure (.pv (.int .i64 (IntKind.i64.wrap (d9 + (1 : Int))))) rfl rfl ?_
      refine X.pure (.pv (.int .i64 (IntKind.i64.wrap (d9 + (1 : Int))))) rfl rfl ?_
      refine X.stepZ ?_
      obtain rfl := Option.some.inj hB
      exact X.retS (Fin.leaf (us := [.pv (.int .i64 (IntKind.i64.wrap (d9 + (1 : Int))))]) rfl rfl (pureRes_one Wk.pv (by intro vs h; cases h)))
noncomputable def B60_L1 (F60 : Rc → Option Bool) (x0 : Rc) (i64 : Int) : Option (Lp Int Unit Bool) :=
  bif (decide (i64 < (x0.l.length : Int))) then
    ((idx x0.l i64).bind fun y70 =>
     (F60 y70).bind fun y71 =>
     bif y71 then
       (some (.next (IntKind.i64.wrap (i64 + (1 : Int)))))
     else
       (some (.ret (false))))
  else
    (some (.brk ()))
noncomputable def B60_K1 : Option Bool :=
  some true
abbrev R60_1 (x0 : Rc) (id1 : Nat) : Int → St → Prop := fun s st => ∃ (g : Nat → V) (h : Heap), Own h ([.blk id1 (([.pv (.int .i64 x0.kind), .pv (.str x0.bits)] : List V) ++ (((bits256 x0.set).map V.pv) ++ ([.pv (.sl (List.map tRc.enc x0.l))] : List V)))]) ∧ st = ⟨TL 96 (upds g [(1, .ptr id1 0), (3, .pv (.int .i64 (x0.l.length : Int))), (5, .pv (.int .i64 s))]), h⟩
abbrev A60_1 : Unit → St → Prop := fun s st => ∃ (g : Nat → V) (h : Heap), Own h ([]) ∧ st = ⟨TL 96 (upds g []), h⟩
noncomputable def B60_L0 (x0 : Rc) (i51 : Int) : Option (Lp Int Unit Bool) :=
  bif (decide (i51 < (x0.bits.length : Int))) then
    (((idxS x0.bits i51).bind fun y60 =>
     bif (y60 != (48 : Int)) then
       ((idxS x0.bits i51).bind fun y62 =>
        some (y62 != (49 : Int)))
     else
       (some false)).bind fun c59 =>
     bif c59 then
       (some (.ret (false)))
     else
       (some (.next (IntKind.i64.wrap (i51 + (1 : Int))))))
  else
    (some (.brk ()))
noncomputable def B60_K0 (F60 : Rc → Option Bool) (x0 : Rc) : Option Bool :=
  loopK (fun (s : Int) => B60_L1 F60 x0 s) (0 : Int) (fun (t : Unit) => B60_K1)
abbrev R60_0 (x0 : Rc) (id1 : Nat) : Int → St → Prop := fun s st => ∃ (g : Nat → V) (h : Heap), Own h ([.blk id1 (([.pv (.int .i64 x0.kind), .pv (.str x0.bits)] : List V) ++ (((bits256 x0.set).map V.pv) ++ ([.pv (.sl (List.map tRc.enc x0.l))] : List V)))]) ∧ st = ⟨TL 96 (upds g [(1, .ptr id1 0), (3, .pv (.int .i64 (x0.l.length : Int))), (4, .pv (.int .i64 s))]), h⟩
abbrev A60_0 (x0 : Rc) (id1 : Nat) : Unit → St → Prop := fun s st => ∃ (g : Nat → V) (h : Heap), Own h ([.blk id1 (([.pv (.int .i64 x0.kind), .pv (.str x0.bits)] : List V) ++ (((bits256 x0.set).map V.pv) ++ ([.pv (.sl (List.map tRc.enc x0.l))] : List V)))]) ∧ st = ⟨TL 96 (upds g [(1, .ptr id1 0), (3, .pv (.int .i64 (x0.l.length : Int)))]), h⟩
noncomputable def B60 (F60 : Rc → Option Bool) (x0 : Rc) : Option Bool :=
  bif ((decide (x0.kind < (0 : Int))) || ((decide (x0.kind > (5 : Int))) || (bif (decide (x0.kind < (3 : Int))) then ((decide ((x0.l.length : Int) > (0 : Int))) || (bif (x0.kind == (3 : Int)) then (((x0.l.length : Int) != (2 : Int)) || (bif (x0.kind == (5 : Int)) then (((x0.l.length : Int) != (1 : Int)) || (bif (x0.kind != (2 : Int)) then (bif (x0.set == (0#256)) then ((x0.kind == (0 : Int)) && (!(x0.bits == []))) else true) else ((x0.kind == (0 : Int)) && (!(x0.bits == []))))) else (bif (x0.kind != (2 : Int)) then (bif (x0.set == (0#256)) then ((x0.kind == (0 : Int)) && (!(x0.bits == []))) else true) else ((x0.kind == (0 : Int)) && (!(x0.bits == [])))))) else (bif (x0.kind == (5 : Int)) then (((x0.l.length : Int) != (1 : Int)) || (bif (x0.kind != (2 : Int)) then (bif (x0.set == (0#256)) then ((x0.kind == (0 : Int)) && (!(x0.bits == []))) else true) else ((x0.kind == (0 : Int)) && (!(x0.bits == []))))) else (bif (x0.kind != (2 : Int)) then (bif (x0.set == (0#256)) then ((x0.kind == (0 : Int)) && (!(x0.bits == []))) else true) else ((x0.kind == (0 : Int)) && (!(x0.bits == []))))))) else (bif (x0.kind == (3 : Int)) then (((x0.l.length : Int) != (2 : Int)) || (bif (x0.kind == (5 : Int)) then (((x0.l.length : Int) != (1 : Int)) || (bif (x0.kind != (2 : Int)) then (bif (x0.set == (0#256)) then ((x0.kind == (0 : Int)) && (!(x0.bits == []))) else true) else ((x0.kind == (0 : Int)) && (!(x0.bits == []))))) else (bif (x0.kind != (2 : Int)) then (bif (x0.set == (0#256)) then ((x0.kind == (0 : Int)) && (!(x0.bits == []))) else true) else ((x0.kind == (0 : Int)) && (!(x0.bits == [])))))) else (bif (x0.kind == (5 : Int)) then (((x0.l.length : Int) != (1 : Int)) || (bif (x0.kind != (2 : Int)) then (bif (x0.set == (0#256)) then ((x0.kind == (0 : Int)) && (!(x0.bits == []))) else true) else ((x0.kind == (0 : Int)) && (!(x0.bits == []))))) else (bif (x0.kind != (2 : Int)) then (bif (x0.set == (0#256)) then ((x0.kind == (0 : Int)) && (!(x0.bits == []))) else true) else ((x0.kind == (0 : Int)) && (!(x0.bits == []))))))))) then
    (some false)
  else
    (loopK (fun (s : Int) => B60_L0 x0 s) (0 : Int) (fun (t : Unit) => B60_K0 F60 x0))
set_option maxRecDepth 100000 in
set_option maxHeartbeats 4000000 in
theorem B60_ok {E : Env} (F60 : Rc → Option Bool) (hF60 : ∀ (r : Bool) (a0 : Rc), F60 a0 = some r → limP E 60 [.agg (Rc.cells a0)] = some [.bool r]) (rF60 : E.raw 60 = false) (H : Has E 60 c60)  (x0 : Rc) (r : Bool) (hB : B60 F60 x0 = some r) : limP E 60 [.agg (Rc.cells x0)] = some [.bool r] := by
  have hO : Own [] [] := Own.nil
  refine Has.startD H rfl ?_; unfold B60 at hB
  refine X.box ((([.pv (.int .i64 x0.kind), .pv (.str x0.bits)] : List V) ++ (((bits256 x0.set).map V.pv) ++ ([.pv (.sl (List.map tRc.enc x0.l))] : List V)))) hO rfl rfl (big_cells rfl rfl) (big_all rfl rfl) ?_
  clear hO; intro id1 h hO
  refine X.pure (.pv (.bool false)) rfl rfl ?_
  refine X.stepZ ?_
  refine X.pure (.ptr id1 258) rfl rfl ?_
  refine X.load 0 (.pv (.sl (List.map tRc.enc x0.l))) hO rfl rfl rfl (big_cutC (k := 0) rfl rfl) ?_
  refine X.len (l := x0.l) (g := tRc.enc) rfl rfl SlP.pv ?_
  refine X.pure (.pv (.int .i64 (x0.l.length : Int))) rfl rfl ?_
  refine X.stepZ ?_
  refine X.goMid (fun st => ∃ (g : Nat → V) (h : Heap), Own h ([.blk id1 (([.pv (.int .i64 x0.kind), .pv (.str x0.bits)] : List V) ++ (((bits256 x0.set).map V.pv) ++ ([.pv (.sl (List.map tRc.enc x0.l))] : List V)))]) ∧ st = ⟨TL 96 (upds g [(1, .ptr id1 0), (3, .pv (.int .i64 (x0.l.length : Int))), (64, .pv (.bool ((decide (x0.kind < (0 : Int))) || ((decide (x0.kind > (5 : Int))) || (bif (decide (x0.kind < (3 : Int))) then ((decide ((x0.l.length : Int) > (0 : Int))) || (bif (x0.kind == (3 : Int)) then (((x0.l.length : Int) != (2 : Int)) || (bif (x0.kind == (5 : Int)) then (((x0.l.length : Int) != (1 : Int)) || (bif (x0.kind != (2 : Int)) then (bif (x0.set == (0#256)) then ((x0.kind == (0 : Int)) && (!(x0.bits == []))) else true) else ((x0.kind == (0 : Int)) && (!(x0.bits == []))))) else (bif (x0.kind != (2 : Int)) then (bif (x0.set == (0#256)) then ((x0.kind == (0 : Int)) && (!(x0.bits == []))) else true) else ((x0.kind == (0 : Int)) && (!(x0.bits == [])))))) else (bif (x0.kind == (5 : Int)) then (((x0.l.length : Int) != (1 : Int)) || (bif (x0.kind != (2 : Int)) then (bif (x0.set == (0#256)) then ((x0.kind == (0 : Int)) && (!(x0.bits == []))) else true) else ((x0.kind == (0 : Int)) && (!(x0.bits == []))))) else (bif (x0.kind != (2 : Int)) then (bif (x0.set == (0#256)) then ((x0.kind == (0 : Int)) && (!(x0.bits == []))) else true) else ((x0.kind == (0 : Int)) && (!(x0.bits == []))))))) else (bif (x0.kind == (3 : Int)) then (((x0.l.length : Int) != (2 : Int)) || (bif (x0.kind == (5 : Int)) then (((x0.l.length : Int) != (1 : Int)) || (bif (x0.kind != (2 : Int)) then (bif (x0.set == (0#256)) then ((x0.kind == (0 : Int)) && (!(x0.bits == []))) else true) else ((x0.kind == (0 : Int)) && (!(x0.bits == []))))) else (bif (x0.kind != (2 : Int)) then (bif (x0.set == (0#256)) then ((x0.kind == (0 : Int)) && (!(x0.bits == []))) else true) else ((x0.kind == (0 : Int)) && (!(x0.bits == [])))))) else (bif (x0.kind == (5 : Int)) then (((x0.l.length : Int) != (1 : Int)) || (bif (x0.kind != (2 : Int)) then (bif (x0.set == (0#256)) then ((x0.kind == (0 : Int)) && (!(x0.bits == []))) else true) else ((x0.kind == (0 : Int)) && (!(x0.bits == []))))) else (bif (x0.kind != (2 : Int)) then (bif (x0.set == (0#256)) then ((x0.kind == (0 : Int)) && (!(x0.bits == []))) else true) else ((x0.kind == (0 : Int)) && (!(x0.bits == [])))))))))))]), h⟩) ?_ ?_
  · refine X.pure (.ptr id1 0) rfl rfl ?_
    refine X.load 0 (.pv (.int .i64 x0.kind)) hO rfl rfl rfl (big_cutA rfl rfl) ?_
    refine X.pure (.pv (.bool (decide (x0.kind < (0 : Int))))) rfl rfl ?_
    refine X.pure (.pv (.bool (decide (x0.kind < (0 : Int))))) rfl rfl ?_
    revert hO
    generalize (decide (x0.kind < (0 : Int))) = c2
    cases c2 with
    | true =>
      intro hO
      refine X.no rfl rfl ?_
      refine X.no rfl rfl ?_
      refine X.no rfl rfl ?_
      refine X.pure (.pv (.bool true)) rfl rfl ?_
      refine X.pure (.pv (.bool true)) rfl rfl ?_
      refine X.no rfl rfl ?_
      refine X.no rfl rfl ?_
      refine X.no rfl rfl ?_
      refine X.no rfl rfl ?_
      refine X.void rfl rfl ?_
      refine X.void rfl rfl ?_
      refine X.no rfl rfl ?_
      refine X.pure (.pv (.bool true)) rfl rfl ?_
      refine X.pure (.pv (.bool true)) rfl rfl ?_
      refine X.no rfl rfl ?_
      refine X.no rfl rfl ?_
      refine X.no rfl rfl ?_
      refine X.no rfl rfl ?_
      refine X.void rfl rfl ?_
      refine X.void rfl rfl ?_
      refine X.no rfl rfl ?_
      refine X.pure (.pv (.bool true)) rfl rfl ?_
      refine X.pure (.pv (.bool true)) rfl rfl ?_
      refine X.no rfl rfl ?_
      refine X.no rfl rfl ?_
      refine X.no rfl rfl ?_
      refine X.no rfl rfl ?_
      refine X.void rfl rfl ?_
      refine X.void rfl rfl ?_
      refine X.no rfl rfl ?_
      refine X.pure (.pv (.bool true)) rfl rfl ?_
      refine X.pure (.pv (.bool true)) rfl rfl ?_
      refine X.no rfl rfl ?_
      refine X.no rfl rfl ?_
      refine X.no rfl rfl ?_
      refine X.no rfl rfl ?_
      refine X.void rfl rfl ?_
      refine X.void rfl rfl ?_
      refine X.void rfl rfl ?_
      refine X.void rfl rfl ?_
      refine X.no rfl rfl ?_
      refine X.pure (.pv (.bool true)) rfl rfl ?_
      refine X.pure (.pv (.bool true)) rfl rfl ?_
      refine X.no rfl rfl ?_
      refine X.no rfl rfl ?_
      refine X.no rfl rfl ?_
      refine X.no rfl rfl ?_
      refine X.void rfl rfl ?_
      refine X.void rfl rfl ?_
      refine X.void rfl rfl ?_
      refine X.no rfl rfl ?_
      refine X.pure (.pv (.bool true)) rfl rfl ?_
      refine X.stepZ ?_
      exact X.skipL ⟨_, _, hO, st_keep _ ⟨rfl, rfl, rfl, trivial⟩⟩
    | false =>
      intro hO
      refine X.yes rfl rfl ?_
      refine X.pure (.ptr id1 0) rfl rfl ?_
      refine X.yes rfl rfl ?_
      refine X.load 0 (.pv (.int .i64 x0.kind)) hO rfl rfl rfl (big_cutA rfl rfl) ?_
      refine X.yes rfl rfl ?_
      refine X.pure (.pv (.bool (decide (x0.kind > (5 : Int))))) rfl rfl ?_
      refine X.pure (.pv (.bool (decide (x0.kind > (5 : Int))))) rfl rfl ?_
      refine X.pure (.pv (.bool (decide (x0.kind > (5 : Int))))) rfl rfl ?_
      revert hO
      generalize (decide (x0.kind > (5 : Int))) = c3
      cases c3 with
      | true =>
        intro hO
        refine X.no rfl rfl ?_
        refine X.no rfl rfl ?_
        refine X.no rfl rfl ?_
        refine X.no rfl rfl ?_
        refine X.void rfl rfl ?_
        refine X.void rfl rfl ?_
        refine X.no rfl rfl ?_
        refine X.pure (.pv (.bool true)) rfl rfl ?_
        refine X.pure (.pv (.bool true)) rfl rfl ?_
        refine X.no rfl rfl ?_
        refine X.no rfl rfl ?_
        refine X.no rfl rfl ?_
        refine X.no rfl rfl ?_
        refine X.void rfl rfl ?_
        refine X.void rfl rfl ?_
        refine X.no rfl rfl ?_
        refine X.pure (.pv (.bool true)) rfl rfl ?_
        refine X.pure (.pv (.bool true)) rfl rfl ?_
        refine X.no rfl rfl ?_
        refine X.no rfl rfl ?_
        refine X.no rfl rfl ?_
        refine X.no rfl rfl ?_
        refine X.void rfl rfl ?_
        refine X.void rfl rfl ?_
        refine X.no rfl rfl ?_
        refine X.pure (.pv (.bool true)) rfl rfl ?_
        refine X.pure (.pv (.bool true)) rfl rfl ?_
        refine X.no rfl rfl ?_
        refine X.no rfl rfl ?_
        refine X.no rfl rfl ?_
        refine X.no rfl rfl ?_
        refine X.void rfl rfl ?_
        refine X.void rfl rfl ?_
        refine X.void rfl rfl ?_
        refine X.void rfl rfl ?_
        refine X.no rfl rfl ?_
        refine X.pure (.pv (.bool true)) rfl rfl ?_
        refine X.pure (.pv (.bool true)) rfl rfl ?_
        refine X.no rfl rfl ?_
        refine X.no rfl rfl ?_
        refine X.no rfl rfl ?_
        refine X.no rfl rfl ?_
        refine X.void rfl rfl ?_
        refine X.void rfl rfl ?_
        refine X.void rfl rfl ?_
        refine X.no rfl rfl ?_
        refine X.pure (.pv (.bool true)) rfl rfl ?_
        refine X.stepZ ?_
        exact X.skipL ⟨_, _, hO, st_keep _ ⟨rfl, rfl, rfl, trivial⟩⟩
      | false =>
        intro hO
        refine X.yes rfl rfl ?_
        refine X.pure (.ptr id1 0) rfl rfl ?_
        refine X.yes rfl rfl ?_
        refine X.load 0 (.pv (.int .i64 x0.kind)) hO rfl rfl rfl (big_cutA rfl rfl) ?_
        refine X.yes rfl rfl ?_
        refine X.pure (.pv (.bool (decide (x0.kind < (3 : Int))))) rfl rfl ?_
        refine X.yes rfl rfl ?_
        refine X.pure (.pv (.bool (decide (x0.kind < (3 : Int))))) rfl rfl ?_
        revert hO
        generalize (decide (x0.kind < (3 : Int))) = c4
        cases c4 with
        | true =>
          intro hO
          refine X.yes rfl rfl ?_
          refine X.pure (.pv (.int .i64 (x0.l.length : Int))) rfl rfl ?_
          refine X.yes rfl rfl ?_
          refine X.pure (.pv (.bool (decide ((x0.l.length : Int) > (0 : Int))))) rfl rfl ?_
          refine X.yes rfl rfl ?_
          refine X.pure (.pv (.bool (decide ((x0.l.length : Int) > (0 : Int))))) rfl rfl ?_
          refine X.pure (.pv (.bool (decide ((x0.l.length : Int) > (0 : Int))))) rfl rfl ?_
          refine X.pure (.pv (.bool (decide ((x0.l.length : Int) > (0 : Int))))) rfl rfl ?_
          revert hO
          generalize (decide ((x0.l.length : Int) > (0 : Int))) = c5
          cases c5 with
          | true =>
            intro hO
            refine X.no rfl rfl ?_
            refine X.no rfl rfl ?_
            refine X.no rfl rfl ?_
            refine X.no rfl rfl ?_
            refine X.void rfl rfl ?_
            refine X.void rfl rfl ?_
            refine X.no rfl rfl ?_
            refine X.pure (.pv (.bool true)) rfl rfl ?_
            refine X.pure (.pv (.bool true)) rfl rfl ?_
            refine X.no rfl rfl ?_
            refine X.no rfl rfl ?_
            refine X.no rfl rfl ?_
            refine X.no rfl rfl ?_
            refine X.void rfl rfl ?_
            refine X.void rfl rfl ?_
            refine X.no rfl rfl ?_
            refine X.pure (.pv (.bool true)) rfl rfl ?_
            refine X.pure (.pv (.bool true)) rfl rfl ?_
            refine X.no rfl rfl ?_
            refine X.no rfl rfl ?_
            refine X.no rfl rfl ?_
            refine X.no rfl rfl ?_
            refine X.void rfl rfl ?_
            refine X.void rfl rfl ?_
            refine X.void rfl rfl ?_
            refine X.void rfl rfl ?_
            refine X.no rfl rfl ?_
            refine X.pure (.pv (.bool true)) rfl rfl ?_
            refine X.pure (.pv (.bool true)) rfl rfl ?_
            refine X.no rfl rfl ?_
            refine X.no rfl rfl ?_
            refine X.no rfl rfl ?_
            refine X.no rfl rfl ?_
            refine X.void rfl rfl ?_
            refine X.void rfl rfl ?_
            refine X.void rfl rfl ?_
            refine X.no rfl rfl ?_
            refine X.pure (.pv (.bool true)) rfl rfl ?_
            refine X.stepZ ?_
            exact X.skipL ⟨_, _, hO, st_keep _ ⟨rfl, rfl, rfl, trivial⟩⟩
          | false =>
            intro hO
            refine X.yes rfl rfl ?_
            refine X.pure (.ptr id1 0) rfl rfl ?_
            refine X.yes rfl rfl ?_
            refine X.load 0 (.pv (.int .i64 x0.kind)) hO rfl rfl rfl (big_cutA rfl rfl) ?_
            refine X.yes rfl rfl ?_
            refine X.pure (.pv (.bool (x0.kind == (3 : Int)))) rfl rfl ?_
            refine X.yes rfl rfl ?_
            refine X.pure (.pv (.bool (x0.kind == (3 : Int)))) rfl rfl ?_
            revert hO
            generalize (x0.kind == (3 : Int)) = c6
            cases c6 with
            | true =>
              intro hO
              refine X.yes rfl rfl ?_
              refine X.pure (.pv (.int .i64 (x0.l.length : Int))) rfl rfl ?_
              refine X.yes rfl rfl ?_
              refine X.pure (.pv (.bool ((x0.l.length : Int) != (2 : Int)))) rfl rfl ?_
              refine X.yes rfl rfl ?_
              refine X.pure (.pv (.bool ((x0.l.length : Int) != (2 : Int)))) rfl rfl ?_
              refine X.pure (.pv (.bool ((x0.l.length : Int) != (2 : Int)))) rfl rfl ?_
              refine X.pure (.pv (.bool ((x0.l.length : Int) != (2 : Int)))) rfl rfl ?_
              revert hO
              generalize ((x0.l.length : Int) != (2 : Int)) = c7
              cases c7 with
              | true =>
                intro hO
                refine X.no rfl rfl ?_
                refine X.no rfl rfl ?_
                refine X.no rfl rfl ?_
                refine X.no rfl rfl ?_
                refine X.void rfl rfl ?_
                refine X.void rfl rfl ?_
                refine X.no rfl rfl ?_
                refine X.pure (.pv (.bool true)) rfl rfl ?_
                refine X.pure (.pv (.bool true)) rfl rfl ?_
                refine X.no rfl rfl ?_
                refine X.no rfl rfl ?_
                refine X.no rfl rfl ?_
                refine X.no rfl rfl ?_
                refine X.void rfl rfl ?_
                refine X.void rfl rfl ?_
                refine X.void rfl rfl ?_
                refine X.void rfl rfl ?_
                refine X.no rfl rfl ?_
                refine X.pure (.pv (.bool true)) rfl rfl ?_
                refine X.pure (.pv (.bool true)) rfl rfl ?_
                refine X.no rfl rfl ?_
                refine X.no rfl rfl ?_
                refine X.no rfl rfl ?_
                refine X.no rfl rfl ?_
                refine X.void rfl rfl ?_
                refine X.void rfl rfl ?_
                refine X.void rfl rfl ?_
                refine X.no rfl rfl ?_
                refine X.pure (.pv (.bool true)) rfl rfl ?_
                refine X.stepZ ?_
                exact X.skipL ⟨_, _, hO, st_keep _ ⟨rfl, rfl, rfl, trivial⟩⟩
              | false =>
                intro hO
                refine X.yes rfl rfl ?_
                refine X.pure (.ptr id1 0) rfl rfl ?_
                refine X.yes rfl rfl ?_
                refine X.load 0 (.pv (.int .i64 x0.kind)) hO rfl rfl rfl (big_cutA rfl rfl) ?_
                refine X.yes rfl rfl ?_
                refine X.pure (.pv (.bool (x0.kind == (5 : Int)))) rfl rfl ?_
                refine X.yes rfl rfl ?_
                refine X.pure (.pv (.bool (x0.kind == (5 : Int)))) rfl rfl ?_
                revert hO
                generalize (x0.kind == (5 : Int)) = c8
                cases c8 with
                | true =>
                  intro hO
                  refine X.yes rfl rfl ?_
                  refine X.pure (.pv (.int .i64 (x0.l.length : Int))) rfl rfl ?_
                  refine X.yes rfl rfl ?_
                  refine X.pure (.pv (.bool ((x0.l.length : Int) != (1 : Int)))) rfl rfl ?_
                  refine X.yes rfl rfl ?_
                  refine X.pure (.pv (.bool ((x0.l.length : Int) != (1 : Int)))) rfl rfl ?_
                  refine X.pure (.pv (.bool ((x0.l.length : Int) != (1 : Int)))) rfl rfl ?_
                  refine X.pure (.pv (.bool ((x0.l.length : Int) != (1 : Int)))) rfl rfl ?_
                  revert hO
                  generalize ((x0.l.length : Int) != (1 : Int)) = c9
                  cases c9 with
                  | true =>
                    intro hO
                    refine X.no rfl rfl ?_
                    refine X.no rfl rfl ?_
                    refine X.no rfl rfl ?_
                    refine X.no rfl rfl ?_
                    refine X.void rfl rfl ?_
                    refine X.void rfl rfl ?_
                    refine X.void rfl rfl ?_
                    refine X.void rfl rfl ?_
                    refine X.no rfl rfl ?_
                    refine X.pure (.pv (.bool true)) rfl rfl ?_
                    refine X.pure (.pv (.bool true)) rfl rfl ?_
                    refine X.no rfl rfl ?_
                    refine X.no rfl rfl ?_
                    refine X.no rfl rfl ?_
                    refine X.no rfl rfl ?_
                    refine X.void rfl rfl ?_
                    refine X.void rfl rfl ?_
                    refine X.void rfl rfl ?_
                    refine X.no rfl rfl ?_
                    refine X.pure (.pv (.bool true)) rfl rfl ?_
                    refine X.stepZ ?_
                    exact X.skipL ⟨_, _, hO, st_keep _ ⟨rfl, rfl, rfl, trivial⟩⟩
                  | false =>
                    intro hO
                    refine X.yes rfl rfl ?_
                    refine X.pure (.ptr id1 0) rfl rfl ?_
                    refine X.yes rfl rfl ?_
                    refine X.load 0 (.pv (.int .i64 x0.kind)) hO rfl rfl rfl (big_cutA rfl rfl) ?_
                    refine X.yes rfl rfl ?_
                    refine X.pure (.pv (.bool (x0.kind != (2 : Int)))) rfl rfl ?_
                    refine X.yes rfl rfl ?_
                    refine X.pure (.pv (.bool (x0.kind != (2 : Int)))) rfl rfl ?_
                    revert hO
                    generalize (x0.kind != (2 : Int)) = c10
                    cases c10 with
                    | true =>
                      intro hO
                      refine X.yes rfl rfl ?_
                      refine X.pure (.ptr id1 2) rfl rfl ?_
                      refine X.yes rfl rfl ?_
                      refine X.load 0 (.pv (.agg (bits256 x0.set))) hO rfl rfl rfl (big_cutB rfl) ?_
                      refine X.yes rfl rfl ?_
                      refine X.pure (.pv (.agg (bits256 (0#256)))) rfl zero256_op ?_
                      refine X.yes rfl rfl ?_
                      refine X.pure (.pv (.bool (!(x0.set == (0#256))))) rfl (eq256_neq _ _) ?_
                      refine X.yes rfl rfl ?_
                      refine X.pure (.pv (.bool (!(x0.set == (0#256))))) rfl rfl ?_
                      refine X.pure (.pv (.bool (!(x0.set == (0#256))))) rfl rfl ?_
                      refine X.pure (.pv (.bool (!(x0.set == (0#256))))) rfl rfl ?_
                      revert hO
                      generalize (x0.set == (0#256)) = c11
                      cases c11 with
                      | true =>
                        intro hO
                        refine X.yes rfl rfl ?_
                        refine X.pure (.ptr id1 0) rfl rfl ?_
                        refine X.yes rfl rfl ?_
                        refine X.load 0 (.pv (.int .i64 x0.kind)) hO rfl rfl rfl (big_cutA rfl rfl) ?_
                        refine X.yes rfl rfl ?_
                        refine X.pure (.pv (.bool (x0.kind == (0 : Int)))) rfl rfl ?_
                        refine X.yes rfl rfl ?_
                        refine X.pure (.pv (.bool (x0.kind == (0 : Int)))) rfl rfl ?_
                        revert hO
                        generalize (x0.kind == (0 : Int)) = c12
                        cases c12 with
                        | true =>
                          intro hO
                          refine X.yes rfl rfl ?_
                          refine X.pure (.ptr id1 1) rfl rfl ?_
                          refine X.yes rfl rfl ?_
                          refine X.load 0 (.pv (.str x0.bits)) hO rfl rfl rfl (big_cutA rfl rfl) ?_
                          refine X.yes rfl rfl ?_
                          refine X.pure (.pv (.bool (!(x0.bits == [])))) rfl rfl ?_
                          refine X.yes rfl rfl ?_
                          refine X.pure (.pv (.bool (!(x0.bits == [])))) rfl rfl ?_
                          refine X.pure (.pv (.bool (!(x0.bits == [])))) rfl rfl ?_
                          refine X.stepZ ?_
                          exact X.skipL ⟨_, _, hO, st_keep _ ⟨rfl, rfl, rfl, trivial⟩⟩
                        | false =>
                          intro hO
                          refine X.no rfl rfl ?_
                          refine X.no rfl rfl ?_
                          refine X.no rfl rfl ?_
                          refine X.yes rfl rfl ?_
                          refine X.pure (.pv (.bool false)) rfl rfl ?_
                          refine X.pure (.pv (.bool false)) rfl rfl ?_
                          refine X.stepZ ?_
                          exact X.skipL ⟨_, _, hO, st_keep _ ⟨rfl, rfl, rfl, trivial⟩⟩
                      | false =>
                        intro hO
                        refine X.no rfl rfl ?_
                        refine X.no rfl rfl ?_
                        refine X.no rfl rfl ?_
                        refine X.no rfl rfl ?_
                        refine X.void rfl rfl ?_
                        refine X.void rfl rfl ?_
                        refine X.void rfl rfl ?_
                        refine X.no rfl rfl ?_
                        refine X.pure (.pv (.bool true)) rfl rfl ?_
                        refine X.stepZ ?_
                        exact X.skipL ⟨_, _, hO, st_keep _ ⟨rfl, rfl, rfl, trivial⟩⟩
                    | false =>
                      intro hO
                      refine X.no rfl rfl ?_
                      refine X.no rfl rfl ?_
                      refine X.no rfl rfl ?_
                      refine X.no rfl rfl ?_
                      refine X.yes rfl rfl ?_
                      refine X.pure (.pv (.bool false)) rfl rfl ?_
                      refine X.pure (.pv (.bool false)) rfl rfl ?_
                      refine X.pure (.pv (.bool false)) rfl rfl ?_
                      refine X.yes rfl rfl ?_
                      refine X.pure (.ptr id1 0) rfl rfl ?_
                      refine X.yes rfl rfl ?_
                      refine X.load 0 (.pv (.int .i64 x0.kind)) hO rfl rfl rfl (big_cutA rfl rfl) ?_
                      refine X.yes rfl rfl ?_
                      refine X.pure (.pv (.bool (x0.kind == (0 : Int)))) rfl rfl ?_
                      refine X.yes rfl rfl ?_
                      refine X.pure (.pv (.bool (x0.kind == (0 : Int)))) rfl rfl ?_
                      revert hO
                      generalize (x0.kind == (0 : Int)) = c13
                      cases c13 with
                      | true =>
                        intro hO
                        refine X.yes rfl rfl ?_
                        refine X.pure (.ptr id1 1) rfl rfl ?_
                        refine X.yes rfl rfl ?_
                        refine X.load 0 (.pv (.str x0.bits)) hO rfl rfl rfl (big_cutA rfl rfl) ?_
                        refine X.yes rfl rfl ?_
                        refine X.pure (.pv (.bool (!(x0.bits == [])))) rfl rfl ?_
                        refine X.yes rfl rfl ?_
                        refine X.pure (.pv (.bool (!(x0.bits == [])))) rfl rfl ?_
                        refine X.pure (.pv (.bool (!(x0.bits == [])))) rfl rfl ?_
                        refine X.stepZ ?_
                        exact X.skipL ⟨_, _, hO, st_keep _ ⟨rfl, rfl, rfl, trivial⟩⟩
                      | false =>
                        intro hO
                        refine X.no rfl rfl ?_
                        refine X.no rfl rfl ?_
                        refine X.no rfl rfl ?_
                        refine X.yes rfl rfl ?_
                        refine X.pure (.pv (.bool false)) rfl rfl ?_
                        refine X.pure (.pv (.bool false)) rfl rfl ?_
                        refine X.stepZ ?_
                        exact X.skipL ⟨_, _, hO, st_keep _ ⟨rfl, rfl, rfl, trivial⟩⟩
                | false =>
                  intro hO
                  refine X.no rfl rfl ?_
                  refine X.no rfl rfl ?_
                  refine X.yes rfl rfl ?_
                  refine X.pure (.pv (.bool false)) rfl rfl ?_
                  refine X.pure (.pv (.bool false)) rfl rfl ?_
                  refine X.pure (.pv (.bool false)) rfl rfl ?_
                  refine X.yes rfl rfl ?_
                  refine X.pure (.ptr id1 0) rfl rfl ?_
                  refine X.yes rfl rfl ?_
                  refine X.load 0 (.pv (.int .i64 x0.kind)) hO rfl rfl rfl (big_cutA rfl rfl) ?_
                  refine X.yes rfl rfl ?_
                  refine X.pure (.pv (.bool (x0.kind != (2 : Int)))) rfl rfl ?_
                  refine X.yes rfl rfl ?_
                  refine X.pure (.pv (.bool (x0.kind != (2 : Int)))) rfl rfl ?_
                  revert hO
                  generalize (x0.kind != (2 : Int)) = c14
                  cases c14 with
                  | true =>
                    intro hO
                    refine X.yes rfl rfl ?_
                    refine X.pure (.ptr id1 2) rfl rfl ?_
                    refine X.yes rfl rfl ?_
                    refine X.load 0 (.pv (.agg (bits256 x0.set))) hO rfl rfl rfl (big_cutB rfl) ?_
                    refine X.yes rfl rfl ?_
                    refine X.pure (.pv (.agg (bits256 (0#256)))) rfl zero256_op ?_
                    refine X.yes rfl rfl ?_
                    refine X.pure (.pv (.bool (!(x0.set == (0#256))))) rfl (eq256_neq _ _) ?_
                    refine X.yes rfl rfl ?_
                    refine X.pure (.pv (.bool (!(x0.set == (0#256))))) rfl rfl ?_
                    refine X.pure (.pv (.bool (!(x0.set == (0#256))))) rfl rfl ?_
                    refine X.pure (.pv (.bool (!(x0.set == (0#256))))) rfl rfl ?_
                    revert hO
                    generalize (x0.set == (0#256)) = c15
                    cases c15 with
                    | true =>
                      intro hO
                      refine X.yes rfl rfl ?_
                      refine X.pure (.ptr id1 0) rfl rfl ?_
                      refine X.yes rfl rfl ?_
                      refine X.load 0 (.pv (.int .i64 x0.kind)) hO rfl rfl rfl (big_cutA rfl rfl) ?_
                      refine X.yes rfl rfl ?_
                      refine X.pure (.pv (.bool (x0.kind == (0 : Int)))) rfl rfl ?_
                      refine X.yes rfl rfl ?_
                      refine X.pure (.pv (.bool (x0.kind == (0 : Int)))) rfl rfl ?_
                      revert hO
                      generalize (x0.kind == (0 : Int)) = c16
                      cases c16 with
                      | true =>
                        intro hO
                        refine X.yes rfl rfl ?_
                        refine X.pure (.ptr id1 1) rfl rfl ?_
                        refine X.yes rfl rfl ?_
                        refine X.load 0 (.pv (.str x0.bits)) hO rfl rfl rfl (big_cutA rfl rfl) ?_
                        refine X.yes rfl rfl ?_
                        refine X.pure (.pv (.bool (!(x0.bits == [])))) rfl rfl ?_
                        refine X.yes rfl rfl ?_
                        refine X.pure (.pv (.bool (!(x0.bits == [])))) rfl rfl ?_
                        refine X.pure (.pv (.bool (!(x0.bits == [])))) rfl rfl ?_
                        refine X.stepZ ?_
                        exact X.skipL ⟨_, _, hO, st_keep _ ⟨rfl, rfl, rfl, trivial⟩⟩
                      | false =>
                        intro hO
                        refine X.no rfl rfl ?_
                        refine X.no rfl rfl ?_
                        refine X.no rfl rfl ?_
                        refine X.yes rfl rfl ?_
                        refine X.pure (.pv (.bool false)) rfl rfl ?_
                        refine X.pure (.pv (.bool false)) rfl rfl ?_
                        refine X.stepZ ?_
                        exact X.skipL ⟨_, _, hO, st_keep _ ⟨rfl, rfl, rfl, trivial⟩⟩
                    | false =>
                      intro hO
                      refine X.no rfl rfl ?_
                      refine X.no rfl rfl ?_
                      refine X.no rfl rfl ?_
                      refine X.no rfl rfl ?_
                      refine X.void rfl rfl ?_
                      refine X.void rfl rfl ?_
                      refine X.void rfl rfl ?_
                      refine X.no rfl rfl ?_
                      refine X.pure (.pv (.bool true)) rfl rfl ?_
                      refine X.stepZ ?_
                      exact X.skipL ⟨_, _, hO, st_keep _ ⟨rfl, rfl, rfl, trivial⟩⟩
                  | false =>
                    intro hO
                    refine X.no rfl rfl ?_
                    refine X.no rfl rfl ?_
                    refine X.no rfl rfl ?_
                    refine X.no rfl rfl ?_
                    refine X.yes rfl rfl ?_
                    refine X.pure (.pv (.bool false)) rfl rfl ?_
                    refine X.pure (.pv (.bool false)) rfl rfl ?_
                    refine X.pure (.pv (.bool false)) rfl rfl ?_
                    refine X.yes rfl rfl ?_
                    refine X.pure (.ptr id1 0) rfl rfl ?_
                    refine X.yes rfl rfl ?_
                    refine X.load 0 (.pv (.int .i64 x0.kind)) hO rfl rfl rfl (big_cutA rfl rfl) ?_
                    refine X.yes rfl rfl ?_
                    refine X.pure (.pv (.bool (x0.kind == (0 : Int)))) rfl rfl ?_
                    refine X.yes rfl rfl ?_
                    refine X.pure (.pv (.bool (x0.kind == (0 : Int)))) rfl rfl ?_
                    revert hO
                    generalize (x0.kind == (0 : Int)) = c17
                    cases c17 with
                    | true =>
                      intro hO
                      refine X.yes rfl rfl ?_
                      refine X.pure (.ptr id1 1) rfl rfl ?_
                      refine X.yes rfl rfl ?_
                      refine X.load 0 (.pv (.str x0.bits)) hO rfl rfl rfl (big_cutA rfl rfl) ?_
                      refine X.yes rfl rfl ?_
                      refine X.pure (.pv (.bool (!(x0.bits == [])))) rfl rfl ?_
                      refine X.yes rfl rfl ?_
                      refine X.pure (.pv (.bool (!(x0.bits == [])))) rfl rfl ?_
                      refine X.pure (.pv (.bool (!(x0.bits == [])))) rfl rfl ?_
                      refine X.stepZ ?_
                      exact X.skipL ⟨_, _, hO, st_keep _ ⟨rfl, rfl, rfl, trivial⟩⟩
                    | false =>
                      intro hO
                      refine X.no rfl rfl ?_
                      refine X.no rfl rfl ?_
                      refine X.no rfl rfl ?_
                      refine X.yes rfl rfl ?_
                      refine X.pure (.pv (.bool false)) rfl rfl ?_
                      refine X.pure (.pv (.bool false)) rfl rfl ?_
                      refine X.stepZ ?_
                      exact X.skipL ⟨_, _, hO, st_keep _ ⟨rfl, rfl, rfl, trivial⟩⟩
            | false =>
              intro hO
              refine X.no rfl rfl ?_
              refine X.no rfl rfl ?_
              refine X.yes rfl rfl ?_
              refine X.pure (.pv (.bool false)) rfl rfl ?_
              refine X.pure (.pv (.bool false)) rfl rfl ?_
              refine X.pure (.pv (.bool false)) rfl rfl ?_
              refine X.yes rfl rfl ?_
              refine X.pure (.ptr id1 0) rfl rfl ?_
              refine X.yes rfl rfl ?_
              refine X.load 0 (.pv (.int .i64 x0.kind)) hO rfl rfl rfl (big_cutA rfl rfl) ?_
              refine X.yes rfl rfl ?_
              refine X.pure (.pv (.bool (x0.kind == (5 : Int)))) rfl rfl ?_
              refine X.yes rfl rfl ?_
              refine X.pure (.pv (.bool (x0.kind == (5 : Int)))) rfl rfl ?_
              revert hO
              generalize (x0.kind == (5 : Int)) = c18
              cases c18 with
              | true =>
                intro hO
                refine X.yes rfl rfl ?_
                refine X.pure (.pv (.int .i64 (x0.l.length : Int))) rfl rfl ?_
                refine X.yes rfl rfl ?_
                refine X.pure (.pv (.bool ((x0.l.length : Int) != (1 : Int)))) rfl rfl ?_
                refine X.yes rfl rfl ?_
                refine X.pure (.pv (.bool ((x0.l.length : Int) != (1 : Int)))) rfl rfl ?_
                refine X.pure (.pv (.bool ((x0.l.length : Int) != (1 : Int)))) rfl rfl ?_
                refine X.pure (.pv (.bool ((x0.l.length : Int) != (1 : Int)))) rfl rfl ?_
                revert hO
                generalize ((x0.l.length : Int) != (1 : Int)) = c19
                cases c19 with
                | true =>
                  intro hO
                  refine X.no rfl rfl ?_
                  refine X.no rfl rfl ?_
                  refine X.no rfl rfl ?_
                  refine X.no rfl rfl ?_
                  refine X.void rfl rfl ?_
                  refine X.void rfl rfl ?_
                  refine X.void rfl rfl ?_
                  refine X.void rfl rfl ?_
                  refine X.no rfl rfl ?_
                  refine X.pure (.pv (.bool true)) rfl rfl ?_
                  refine X.pure (.pv (.bool true)) rfl rfl ?_
                  refine X.no rfl rfl ?_
                  refine X.no rfl rfl ?_
                  refine X.no rfl rfl ?_
                  refine X.no rfl rfl ?_
                  refine X.void rfl rfl ?_
                  refine X.void rfl rfl ?_
                  refine X.void rfl rfl ?_
                  refine X.no rfl rfl ?_
                  refine X.pure (.pv (.bool true)) rfl rfl ?_
                  refine X.stepZ ?_
                  exact X.skipL ⟨_, _, hO, st_keep _ ⟨rfl, rfl, rfl, trivial⟩⟩
                | false =>
                  intro hO
                  refine X.yes rfl rfl ?_
                  refine X.pure (.ptr id1 0) rfl rfl ?_
                  refine X.yes rfl rfl ?_
                  refine X.load 0 (.pv (.int .i64 x0.kind)) hO rfl rfl rfl (big_cutA rfl rfl) ?_
                  refine X.yes rfl rfl ?_
                  refine X.pure (.pv (.bool (x0.kind != (2 : Int)))) rfl rfl ?_
                  refine X.yes rfl rfl ?_
                  refine X.pure (.pv (.bool (x0.kind != (2 : Int)))) rfl rfl ?_
                  revert hO
                  generalize (x0.kind != (2 : Int)) = c20
                  cases c20 with
                  | true =>
                    intro hO
                    refine X.yes rfl rfl ?_
                    refine X.pure (.ptr id1 2) rfl rfl ?_
                    refine X.yes rfl rfl ?_
                    refine X.load 0 (.pv (.agg (bits256 x0.set))) hO rfl rfl rfl (big_cutB rfl) ?_
                    refine X.yes rfl rfl ?_
                    refine X.pure (.pv (.agg (bits256 (0#256)))) rfl zero256_op ?_
                    refine X.yes rfl rfl ?_
                    refine X.pure (.pv (.bool (!(x0.set == (0#256))))) rfl (eq256_neq _ _) ?_
                    refine X.yes rfl rfl ?_
                    refine X.pure (.pv (.bool (!(x0.set == (0#256))))) rfl rfl ?_
                    refine X.pure (.pv (.bool (!(x0.set == (0#256))))) rfl rfl ?_
                    refine X.pure (.pv (.bool (!(x0.set == (0#256))))) rfl rfl ?_
                    revert hO
                    generalize (x0.set == (0#256)) = c21
                    cases c21 with
                    | true =>
                      intro hO
                      refine X.yes rfl rfl ?_
                      refine X.pure (.ptr id1 0) rfl rfl ?_
                      refine X.yes rfl rfl ?_
                      refine X.load 0 (.pv (.int .i64 x0.kind)) hO rfl rfl rfl (big_cutA rfl rfl) ?_
                      refine X.yes rfl rfl ?_
                      refine X.pure (.pv (.bool (x0.kind == (0 : Int)))) rfl rfl ?_
                      refine X.yes rfl rfl ?_
                      refine X.pure (.pv (.bool (x0.kind == (0 : Int)))) rfl rfl ?_
                      revert hO
                      generalize (x0.kind == (0 : Int)) = c22
                      cases c22 with
                      | true =>
                        intro hO
                        refine X.yes rfl rfl ?_
                        refine X.pure (.ptr id1 1) rfl rfl ?_
                        refine X.yes rfl rfl ?_
                        refine X.load 0 (.pv (.str x0.bits)) hO rfl rfl rfl (big_cutA rfl rfl) ?_
                        refine X.yes rfl rfl ?_
                        refine X.pure (.pv (.bool (!(x0.bits == [])))) rfl rfl ?_
                        refine X.yes rfl rfl ?_
                        refine X.pure (.pv (.bool (!(x0.bits == [])))) rfl rfl ?_
                        refine X.pure (.pv (.bool (!(x0.bits == [])))) rfl rfl ?_
                        refine X.stepZ ?_
                        exact X.skipL ⟨_, _, hO, st_keep _ ⟨rfl, rfl, rfl, trivial⟩⟩
                      | false =>
                        intro hO
                        refine X.no rfl rfl ?_
                        refine X.no rfl rfl ?_
                        refine X.no rfl rfl ?_
                        refine X.yes rfl rfl ?_
                        refine X.pure (.pv (.bool false)) rfl rfl ?_
                        refine X.pure (.pv (.bool false)) rfl rfl ?_
                        refine X.stepZ ?_
                        exact X.skipL ⟨_, _, hO, st_keep _ ⟨rfl, rfl, rfl, trivial⟩⟩
                    | false =>
                      intro hO
                      refine X.no rfl rfl ?_
                      refine X.no rfl rfl ?_
                      refine X.no rfl rfl ?_
                      refine X.no rfl rfl ?_
                      refine X.void rfl rfl ?_
                      refine X.void rfl rfl ?_
                      refine X.void rfl rfl ?_
                      refine X.no rfl rfl ?_
                      refine X.pure (.pv (.bool true)) rfl rfl ?_
                      refine X.stepZ ?_
                      exact X.skipL ⟨_, _, hO, st_keep _ ⟨rfl, rfl, rfl, trivial⟩⟩
                  | false =>
                    intro hO
                    refine X.no rfl rfl ?_
                    refine X.no rfl rfl ?_
                    refine X.no rfl rfl ?_
                    refine X.no rfl rfl ?_
                    refine X.yes rfl rfl ?_
                    refine X.pure (.pv (.bool false)) rfl rfl ?_
                    refine X.pure (.pv (.bool false)) rfl rfl ?_
                    refine X.pure (.pv (.bool false)) rfl rfl ?_
                    refine X.yes rfl rfl ?_
                    refine X.pure (.ptr id1 0) rfl rfl ?_
                    refine X.yes rfl rfl ?_
                    refine X.load 0 (.pv (.int .i64 x0.kind)) hO rfl rfl rfl (big_cutA rfl rfl) ?_
                    refine X.yes rfl rfl ?_
                    refine X.pure (.pv (.bool (x0.kind == (0 : Int)))) rfl rfl ?_
                    refine X.yes rfl rfl ?_
                    refine X.pure (.pv (.bool (x0.kind == (0 : Int)))) rfl rfl ?_
                    revert hO
                    generalize (x0.kind == (0 : Int)) = c23
                    cases c23 with
                    | true =>
                      intro hO
                      refine X.yes rfl rfl ?_
                      refine X.pure (.ptr id1 1) rfl rfl ?_
                      refine X.yes rfl rfl ?_
                      refine X.load 0 (.pv (.str x0.bits)) hO rfl rfl rfl (big_cutA rfl rfl) ?_
                      refine X.yes rfl rfl ?_
                      refine X.pure (.pv (.bool (!(x0.bits == [])))) rfl rfl ?_
                      refine X.yes rfl rfl ?_
                      refine X.pure (.pv (.bool (!(x0.bits == [])))) rfl rfl ?_
                      refine X.pure (.pv (.bool (!(x0.bits == [])))) rfl rfl ?_
                      refine X.stepZ ?_
                      exact X.skipL ⟨_, _, hO, st_keep _ ⟨rfl, rfl, rfl, trivial⟩⟩
                    | false =>
                      intro hO
                      refine X.no rfl rfl ?_
                      refine X.no rfl rfl ?_
                      refine X.no rfl rfl ?_
                      refine X.yes rfl rfl ?_
                      refine X.pure (.pv (.bool false)) rfl rfl ?_
                      refine X.pure (.pv (.bool false)) rfl rfl ?_
                      refine X.stepZ ?_
                      exact X.skipL ⟨_, _, hO, st_keep _ ⟨rfl, rfl, rfl, trivial⟩⟩
              | false =>
                intro hO
                refine X.no rfl rfl ?_
                refine X.no rfl rfl ?_
                refine X.yes rfl rfl ?_
                refine X.pure (.pv (.bool false)) rfl rfl ?_
                refine X.pure (.pv (.bool false)) rfl rfl ?_
                refine X.pure (.pv (.bool false)) rfl rfl ?_
                refine X.yes rfl rfl ?_
                refine X.pure (.ptr id1 0) rfl rfl ?_
                refine X.yes rfl rfl ?_
                refine X.load 0 (.pv (.int .i64 x0.kind)) hO rfl rfl rfl (big_cutA rfl rfl) ?_
                refine X.yes rfl rfl ?_
                refine X.pure (.pv (.bool (x0.kind != (2 : Int)))) rfl rfl ?_
                refine X.yes rfl rfl ?_
                refine X.pure (.pv (.bool (x0.kind != (2 : Int)))) rfl rfl ?_
                revert hO
                generalize (x0.kind != (2 : Int)) = c24
                cases c24 with
                | true =>
                  intro hO
                  refine X.yes rfl rfl ?_
                  refine X.pure (.ptr id1 2) rfl rfl ?_
                  refine X.yes rfl rfl ?_
                  refine X.load 0 (.pv (.agg (bits256 x0.set))) hO rfl rfl rfl (big_cutB rfl) ?_
                  refine X.yes rfl rfl ?_
                  refine X.pure (.pv (.agg (bits256 (0#256)))) rfl zero256_op ?_
                  refine X.yes rfl rfl ?_
                  refine X.pure (.pv (.bool (!(x0.set == (0#256))))) rfl (eq256_neq _ _) ?_
                  refine X.yes rfl rfl ?_
                  refine X.pure (.pv (.bool (!(x0.set == (0#256))))) rfl rfl ?_
                  refine X.pure (.pv (.bool (!(x0.set == (0#256))))) rfl rfl ?_
                  refine X.pure (.pv (.bool (!(x0.set == (0#256))))) rfl rfl ?_
                  revert hO
                  generalize (x0.set == (0#256)) = c25
                  cases c25 with
                  | true =>
                    intro hO
                    refine X.yes rfl rfl ?_
                    refine X.pure (.ptr id1 0) rfl rfl ?_
                    refine X.yes rfl rfl ?_
                    refine X.load 0 (.pv (.int .i64 x0.kind)) hO rfl rfl rfl (big_cutA rfl rfl) ?_
                    refine X.yes rfl rfl ?_
                    refine X.pure (.pv (.bool (x0.kind == (0 : Int)))) rfl rfl ?_
                    refine X.yes rfl rfl ?_
                    refine X.pure (.pv (.bool (x0.kind == (0 : Int)))) rfl rfl ?_
                    revert hO
                    generalize (x0.kind == (0 : Int)) = c26
                    cases c26 with
                    | true =>
                      intro hO
                      refine X.yes rfl rfl ?_
                      refine X.pure (.ptr id1 1) rfl rfl ?_
                      refine X.yes rfl rfl ?_
                      refine X.load 0 (.pv (.str x0.bits)) hO rfl rfl rfl (big_cutA rfl rfl) ?_
                      refine X.yes rfl rfl ?_
                      refine X.pure (.pv (.bool (!(x0.bits == [])))) rfl rfl ?_
                      refine X.yes rfl rfl ?_
                      refine X.pure (.pv (.bool (!(x0.bits == [])))) rfl rfl ?_
                      refine X.pure (.pv (.bool (!(x0.bits == [])))) rfl rfl ?_
                      refine X.stepZ ?_
                      exact X.skipL ⟨_, _, hO, st_keep _ ⟨rfl, rfl, rfl, trivial⟩⟩
                    | false =>
                      intro hO
                      refine X.no rfl rfl ?_
                      refine X.no rfl rfl ?_
                      refine X.no rfl rfl ?_
                      refine X.yes rfl rfl ?_
                      refine X.pure (.pv (.bool false)) rfl rfl ?_
                      refine X.pure (.pv (.bool false)) rfl rfl ?_
                      refine X.stepZ ?_
                      exact X.skipL ⟨_, _, hO, st_keep _ ⟨rfl, rfl, rfl, trivial⟩⟩
                  | false =>
                    intro hO
                    refine X.no rfl rfl ?_
                    refine X.no rfl rfl ?_
                    refine X.no rfl rfl ?_
                    refine X.no rfl rfl ?_
                    refine X.void rfl rfl ?_
                    refine X.void rfl rfl ?_
                    refine X.void rfl rfl ?_
                    refine X.no rfl rfl ?_
                    refine X.pure (.pv (.bool true)) rfl rfl ?_
                    refine X.stepZ ?_
                    exact X.skipL ⟨_, _, hO, st_keep _ ⟨rfl, rfl, rfl, trivial⟩⟩
                | false =>
                  intro hO
                  refine X.no rfl rfl ?_
                  refine X.no rfl rfl ?_
                  refine X.no rfl rfl ?_
                  refine X.no rfl rfl ?_
                  refine X.yes rfl rfl ?_
                  refine X.pure (.pv (.bool false)) rfl rfl ?_
                  refine X.pure (.pv (.bool false)) rfl rfl ?_
                  refine X.pure (.pv (.bool false)) rfl rfl ?_
                  refine X.yes rfl rfl ?_
                  refine X.pure (.ptr id1 0) rfl rfl ?_
                  refine X.yes rfl rfl ?_
                  refine X.load 0 (.pv (.int .i64 x0.kind)) hO rfl rfl rfl (big_cutA rfl rfl) ?_
                  refine X.yes rfl rfl ?_
                  refine X.pure (.pv (.bool (x0.kind == (0 : Int)))) rfl rfl ?_
                  refine X.yes rfl rfl ?_
                  refine X.pure (.pv (.bool (x0.kind == (0 : Int)))) rfl rfl ?_
                  revert hO
                  generalize (x0.kind == (0 : Int)) = c27
                  cases c27 with
                  | true =>
                    intro hO
                    refine X.yes rfl rfl ?_
                    refine X.pure (.ptr id1 1) rfl rfl ?_
                    refine X.yes rfl rfl ?_
                    refine X.load 0 (.pv (.str x0.bits)) hO rfl rfl rfl (big_cutA rfl rfl) ?_
                    refine X.yes rfl rfl ?_
                    refine X.pure (.pv (.bool (!(x0.bits == [])))) rfl rfl ?_
                    refine X.yes rfl rfl ?_
                    refine X.pure (.pv (.bool (!(x0.bits == [])))) rfl rfl ?_
                    refine X.pure (.pv (.bool (!(x0.bits == [])))) rfl rfl ?_
                    refine X.stepZ ?_
                    exact X.skipL ⟨_, _, hO, st_keep _ ⟨rfl, rfl, rfl, trivial⟩⟩
                  | false =>
                    intro hO
                    refine X.no rfl rfl ?_
                    refine X.no rfl rfl ?_
                    refine X.no rfl rfl ?_
                    refine X.yes rfl rfl ?_
                    refine X.pure (.pv (.bool false)) rfl rfl ?_
                    refine X.pure (.pv (.bool false)) rfl rfl ?_
                    refine X.stepZ ?_
                    exact X.skipL ⟨_, _, hO, st_keep _ ⟨rfl, rfl, rfl, trivial⟩⟩
        | false =>
          intro hO
          refine X.no rfl rfl ?_
          refine X.no rfl rfl ?_
          refine X.yes rfl rfl ?_
          refine X.pure (.pv (.bool false)) rfl rfl ?_
          refine X.pure (.pv (.bool false)) rfl rfl ?_
          refine X.pure (.pv (.bool false)) rfl rfl ?_
          refine X.yes rfl rfl ?_
          refine X.pure (.ptr id1 0) rfl rfl ?_
          refine X.yes rfl rfl ?_
          refine X.load 0 (.pv (.int .i64 x0.kind)) hO rfl rfl rfl (big_cutA rfl rfl) ?_
          refine X.yes rfl rfl ?_
          refine X.pure (.pv (.bool (x0.kind == (3 : Int)))) rfl rfl ?_
          refine X.yes rfl rfl ?_
          refine X.pure (.pv (.bool (x0.kind == (3 : Int)))) rfl rfl ?_
          revert hO
          generalize (x0.kind == (3 : Int)) = c28
          cases c28 with
          | true =>
            intro hO
            refine X.yes rfl rfl ?_
            refine X.pure (.pv (.int .i64 (x0.l.length : Int))) rfl rfl ?_
            refine X.yes rfl rfl ?_
            refine X.pure (.pv (.bool ((x0.l.length : Int) != (2 : Int)))) rfl rfl ?_
            refine X.yes rfl rfl ?_
            refine X.pure (.pv (.bool ((x0.l.length : Int) != (2 : Int)))) rfl rfl ?_
            refine X.pure (.pv (.bool ((x0.l.length : Int) != (2 : Int)))) rfl rfl ?_
            refine X.pure (.pv (.bool ((x0.l.length : Int) != (2 : Int)))) rfl rfl ?_
            revert hO
            generalize ((x0.l.length : Int) != (2 : Int)) = c29
            cases c29 with
            | true =>
              intro hO
              refine X.no rfl rfl ?_
              refine X.no rfl rfl ?_
              refine X.no rfl rfl ?_
              refine X.no rfl rfl ?_
              refine X.void rfl rfl ?_
              refine X.void rfl rfl ?_
              refine X.no rfl rfl ?_
              refine X.pure (.pv (.bool true)) rfl rfl ?_
              refine X.pure (.pv (.bool true)) rfl rfl ?_
              refine X.no rfl rfl ?_
              refine X.no rfl rfl ?_
              refine X.no rfl rfl ?_
              refine X.no rfl rfl ?_
              refine X.void rfl rfl ?_
              refine X.void rfl rfl ?_
              refine X.void rfl rfl ?_
              refine X.void rfl rfl ?_
              refine X.no rfl rfl ?_
              refine X.pure (.pv (.bool true)) rfl rfl ?_
              refine X.pure (.pv (.bool true)) rfl rfl ?_
              refine X.no rfl rfl ?_
              refine X.no rfl rfl ?_
              refine X.no rfl rfl ?_
              refine X.no rfl rfl ?_
              refine X.void rfl rfl ?_
              refine X.void rfl rfl ?_
              refine X.void rfl rfl ?_
              refine X.no rfl rfl ?_
              refine X.pure (.pv (.bool true)) rfl rfl ?_
              refine X.stepZ ?_
              exact X.skipL ⟨_, _, hO, st_keep _ ⟨rfl, rfl, rfl, trivial⟩⟩
            | false =>
              intro hO
              refine X.yes rfl rfl ?_
              refine X.pure (.ptr id1 0) rfl rfl ?_
              refine X.yes rfl rfl ?_
              refine X.load 0 (.pv (.int .i64 x0.kind)) hO rfl rfl rfl (big_cutA rfl rfl) ?_
              refine X.yes rfl rfl ?_
              refine X.pure (.pv (.bool (x0.kind == (5 : Int)))) rfl rfl ?_
              refine X.yes rfl rfl ?_
              refine X.pure (.pv (.bool (x0.kind == (5 : Int)))) rfl rfl ?_
              revert hO
              generalize (x0.kind == (5 : Int)) = c30
              cases c30 with
              | true =>
                intro hO
                refine X.yes rfl rfl ?_
                refine X.pure (.pv (.int .i64 (x0.l.length : Int))) rfl rfl ?_
                refine X.yes rfl rfl ?_
                refine X.pure (.pv (.bool ((x0.l.length : Int) != (1 : Int)))) rfl rfl ?_
                refine X.yes rfl rfl ?_
                refine X.pure (.pv (.bool ((x0.l.length : Int) != (1 : Int)))) rfl rfl ?_
                refine X.pure (.pv (.bool ((x0.l.length : Int) != (1 : Int)))) rfl rfl ?_
                refine X.pure (.pv (.bool ((x0.l.length : Int) != (1 : Int)))) rfl rfl ?_
                revert hO
                generalize ((x0.l.length : Int) != (1 : Int)) = c31
                cases c31 with
                | true =>
                  intro hO
                  refine X.no rfl rfl ?_
                  refine X.no rfl rfl ?_
                  refine X.no rfl rfl ?_
                  refine X.no rfl rfl ?_
                  refine X.void rfl rfl ?_
                  refine X.void rfl rfl ?_
                  refine X.void rfl rfl ?_
                  refine X.void rfl rfl ?_
                  refine X.no rfl rfl ?_
                  refine X.pure (.pv (.bool true)) rfl rfl ?_
                  refine X.pure (.pv (.bool true)) rfl rfl ?_
                  refine X.no rfl rfl ?_
                  refine X.no rfl rfl ?_
                  refine X.no rfl rfl ?_
                  refine X.no rfl rfl ?_
                  refine X.void rfl rfl ?_
                  refine X.void rfl rfl ?_
                  refine X.void rfl rfl ?_
                  refine X.no rfl rfl ?_
                  refine X.pure (.pv (.bool true)) rfl rfl ?_
                  refine X.stepZ ?_
                  exact X.skipL ⟨_, _, hO, st_keep _ ⟨rfl, rfl, rfl, trivial⟩⟩
                | false =>
                  intro hO
                  refine X.yes rfl rfl ?_
                  refine X.pure (.ptr id1 0) rfl rfl ?_
                  refine X.yes rfl rfl ?_
                  refine X.load 0 (.pv (.int .i64 x0.kind)) hO rfl rfl rfl (big_cutA rfl rfl) ?_
                  refine X.yes rfl rfl ?_
                  refine X.pure (.pv (.bool (x0.kind != (2 : Int)))) rfl rfl ?_
                  refine X.yes rfl rfl ?_
                  refine X.pure (.pv (.bool (x0.kind != (2 : Int)))) rfl rfl ?_
                  revert hO
                  generalize (x0.kind != (2 : Int)) = c32
                  cases c32 with
                  | true =>
                    intro hO
                    refine X.yes rfl rfl ?_
                    refine X.pure (.ptr id1 2) rfl rfl ?_
                    refine X.yes rfl rfl ?_
                    refine X.load 0 (.pv (.agg (bits256 x0.set))) hO rfl rfl rfl (big_cutB rfl) ?_
                    refine X.yes rfl rfl ?_
                    refine X.pure (.pv (.agg (bits256 (0#256)))) rfl zero256_op ?_
                    refine X.yes rfl rfl ?_
                    refine X.pure (.pv (.bool (!(x0.set == (0#256))))) rfl (eq256_neq _ _) ?_
                    refine X.yes rfl rfl ?_
                    refine X.pure (.pv (.bool (!(x0.set == (0#256))))) rfl rfl ?_
                    refine X.pure (.pv (.bool (!(x0.set == (0#256))))) rfl rfl ?_
                    refine X.pure (.pv (.bool (!(x0.set == (0#256))))) rfl rfl ?_
                    revert hO
                    generalize (x0.set == (0#256)) = c33
                    cases c33 with
                    | true =>
                      intro hO
                      refine X.yes rfl rfl ?_
                      refine X.pure (.ptr id1 0) rfl rfl ?_
                      refine X.yes rfl rfl ?_
                      refine X.load 0 (.pv (.int .i64 x0.kind)) hO rfl rfl rfl (big_cutA rfl rfl) ?_
                      refine X.yes rfl rfl ?_
                      refine X.pure (.pv (.bool (x0.kind == (0 : Int)))) rfl rfl ?_
                      refine X.yes rfl rfl ?_
                      refine X.pure (.pv (.bool (x0.kind == (0 : Int)))) rfl rfl ?_
                      revert hO
                      generalize (x0.kind == (0 : Int)) = c34
                      cases c34 with
                      | true =>
                        intro hO
                        refine X.yes rfl rfl ?_
                        refine X.pure (.ptr id1 1) rfl rfl ?_
                        refine X.yes rfl rfl ?_
                        refine X.load 0 (.pv (.str x0.bits)) hO rfl rfl rfl (big_cutA rfl rfl) ?_
                        refine X.yes rfl rfl ?_
                        refine X.pure (.pv (.bool (!(x0.bits == [])))) rfl rfl ?_
                        refine X.yes rfl rfl ?_
                        refine X.pure (.pv (.bool (!(x0.bits == [])))) rfl rfl ?_
                        refine X.pure (.pv (.bool (!(x0.bits == [])))) rfl rfl ?_
                        refine X.stepZ ?_
                        exact X.skipL ⟨_, _, hO, st_keep _ ⟨rfl, rfl, rfl, trivial⟩⟩
                      | false =>
                        intro hO
                        refine X.no rfl rfl ?_
                        refine X.no rfl rfl ?_
                        refine X.no rfl rfl ?_
                        refine X.yes rfl rfl ?_
                        refine X.pure (.pv (.bool false)) rfl rfl ?_
                        refine X.pure (.pv (.bool false)) rfl rfl ?_
                        refine X.stepZ ?_
                        exact X.skipL ⟨_, _, hO, st_keep _ ⟨rfl, rfl, rfl, trivial⟩⟩
                    | false =>
                      intro hO
                      refine X.no rfl rfl ?_
                      refine X.no rfl rfl ?_
                      refine X.no rfl rfl ?_
                      refine X.no rfl rfl ?_
                      refine X.void rfl rfl ?_
                      refine X.void rfl rfl ?_
                      refine X.void rfl rfl ?_
                      refine X.no rfl rfl ?_
                      refine X.pure (.pv (.bool true)) rfl rfl ?_
                      refine X.stepZ ?_
                      exact X.skipL ⟨_, _, hO, st_keep _ ⟨rfl, rfl, rfl, trivial⟩⟩
                  | false =>
                    intro hO
                    refine X.no rfl rfl ?_
                    refine X.no rfl rfl ?_
                    refine X.no rfl rfl ?_
                    refine X.no rfl rfl ?_
                    refine X.yes rfl rfl ?_
                    refine X.pure (.pv (.bool false)) rfl rfl ?_
                    refine X.pure (.pv (.bool false)) rfl rfl ?_
                    refine X.pure (.pv (.bool false)) rfl rfl ?_
                    refine X.yes rfl rfl ?_
                    refine X.pure (.ptr id1 0) rfl rfl ?_
                    refine X.yes rfl rfl ?_
                    refine X.load 0 (.pv (.int .i64 x0.kind)) hO rfl rfl rfl (big_cutA rfl rfl) ?_
                    refine X.yes rfl rfl ?_
                    refine X.pure (.pv (.bool (x0.kind == (0 : Int)))) rfl rfl ?_
                    refine X.yes rfl rfl ?_
                    refine X.pure (.pv (.bool (x0.kind == (0 : Int)))) rfl rfl ?_
                    revert hO
                    generalize (x0.kind == (0 : Int)) = c35
                    cases c35 with
                    | true =>
                      intro hO
                      refine X.yes rfl rfl ?_
                      refine X.pure (.ptr id1 1) rfl rfl ?_
                      refine X.yes rfl rfl ?_
                      refine X.load 0 (.pv (.str x0.bits)) hO rfl rfl rfl (big_cutA rfl rfl) ?_
                      refine X.yes rfl rfl ?_
                      refine X.pure (.pv (.bool (!(x0.bits == [])))) rfl rfl ?_
                      refine X.yes rfl rfl ?_
                      refine X.pure (.pv (.bool (!(x0.bits == [])))) rfl rfl ?_
                      refine X.pure (.pv (.bool (!(x0.bits == [])))) rfl rfl ?_
                      refine X.stepZ ?_
                      exact X.skipL ⟨_, _, hO, st_keep _ ⟨rfl, rfl, rfl, trivial⟩⟩
                    | false =>
                      intro hO
                      refine X.no rfl rfl ?_
                      refine X.no rfl rfl ?_
                      refine X.no rfl rfl ?_
                      refine X.yes rfl rfl ?_
                      refine X.pure (.pv (.bool false)) rfl rfl ?_
                      refine X.pure (.pv (.bool false)) rfl rfl ?_
                      refine X.stepZ ?_
                      exact X.skipL ⟨_, _, hO, st_keep _ ⟨rfl, rfl, rfl, trivial⟩⟩
              | false =>
                intro hO
                refine X.no rfl rfl ?_
                refine X.no rfl rfl ?_
                refine X.yes rfl rfl ?_
                refine X.pure (.pv (.bool false)) rfl rfl ?_
                refine X.pure (.pv (.bool false)) rfl rfl ?_
                refine X.pure (.pv (.bool false)) rfl rfl ?_
                refine X.yes rfl rfl ?_
                refine X.pure (.ptr id1 0) rfl rfl ?_
                refine X.yes rfl rfl ?_
                refine X.load 0 (.pv (.int .i64 x0.kind)) hO rfl rfl rfl (big_cutA rfl rfl) ?_
                refine X.yes rfl rfl ?_
                refine X.pure (.pv (.bool (x0.kind != (2 : Int)))) rfl rfl ?_
                refine X.yes rfl rfl ?_
                refine X.pure (.pv (.bool (x0.kind != (2 : Int)))) rfl rfl ?_
                revert hO
                generalize (x0.kind != (2 : Int)) = c36
                cases c36 with
                | true =>
                  intro hO
                  refine X.yes rfl rfl ?_
                  refine X.pure (.ptr id1 2) rfl rfl ?_
                  refine X.yes rfl rfl ?_
                  refine X.load 0 (.pv (.agg (bits256 x0.set))) hO rfl rfl rfl (big_cutB rfl) ?_
                  refine X.yes rfl rfl ?_
                  refine X.pure (.pv (.agg (bits256 (0#256)))) rfl zero256_op ?_
                  refine X.yes rfl rfl ?_
                  refine X.pure (.pv (.bool (!(x0.set == (0#256))))) rfl (eq256_neq _ _) ?_
                  refine X.yes rfl rfl ?_
                  refine X.pure (.pv (.bool (!(x0.set == (0#256))))) rfl rfl ?_
                  refine X.pure (.pv (.bool (!(x0.set == (0#256))))) rfl rfl ?_
                  refine X.pure (.pv (.bool (!(x0.set == (0#256))))) rfl rfl ?_
                  revert hO
                  generalize (x0.set == (0#256)) = c37
                  cases c37 with
                  | true =>
                    intro hO
                    refine X.yes rfl rfl ?_
                    refine X.pure (.ptr id1 0) rfl rfl ?_
                    refine X.yes rfl rfl ?_
                    refine X.load 0 (.pv (.int .i64 x0.kind)) hO rfl rfl rfl (big_cutA rfl rfl) ?_
                    refine X.yes rfl rfl ?_
                    refine X.pure (.pv (.bool (x0.kind == (0 : Int)))) rfl rfl ?_
                    refine X.yes rfl rfl ?_
                    refine X.pure (.pv (.bool (x0.kind == (0 : Int)))) rfl rfl ?_
                    revert hO
                    generalize (x0.kind == (0 : Int)) = c38
                    cases c38 with
                    | true =>
                      intro hO
                      refine X.yes rfl rfl ?_
                      refine X.pure (.ptr id1 1) rfl rfl ?_
                      refine X.yes rfl rfl ?_
                      refine X.load 0 (.pv (.str x0.bits)) hO rfl rfl rfl (big_cutA rfl rfl) ?_
                      refine X.yes rfl rfl ?_
                      refine X.pure (.pv (.bool (!(x0.bits == [])))) rfl rfl ?_
                      refine X.yes rfl rfl ?_
                      refine X.pure (.pv (.bool (!(x0.bits == [])))) rfl rfl ?_
                      refine X.pure (.pv (.bool (!(x0.bits == [])))) rfl rfl ?_
                      refine X.stepZ ?_
                      exact X.skipL ⟨_, _, hO, st_keep _ ⟨rfl, rfl, rfl, trivial⟩⟩
                    | false =>
                      intro hO
                      refine X.no rfl rfl ?_
                      refine X.no rfl rfl ?_
                      refine X.no rfl rfl ?_
                      refine X.yes rfl rfl ?_
                      refine X.pure (.pv (.bool false)) rfl rfl ?_
                      refine X.pure (.pv (.bool false)) rfl rfl ?_
                      refine X.stepZ ?_
                      exact X.skipL ⟨_, _, hO, st_keep _ ⟨rfl, rfl, rfl, trivial⟩⟩
                  | false =>
                    intro hO
                    refine X.no rfl rfl ?_
                    refine X.no rfl rfl ?_
                    refine X.no rfl rfl ?_
                    refine X.no rfl rfl ?_
                    refine X.void rfl rfl ?_
                    refine X.void rfl rfl ?_
                    refine X.void rfl rfl ?_
                    refine X.no rfl rfl ?_
                    refine X.pure (.pv (.bool true)) rfl rfl ?_
                    refine X.stepZ ?_
                    exact X.skipL ⟨_, _, hO, st_keep _ ⟨rfl, rfl, rfl, trivial⟩⟩
                | false =>
                  intro hO
                  refine X.no rfl rfl ?_
                  refine X.no rfl rfl ?_
                  refine X.no rfl rfl ?_
                  refine X.no rfl rfl ?_
                  refine X.yes rfl rfl ?_
                  refine X.pure (.pv (.bool false)) rfl rfl ?_
                  refine X.pure (.pv (.bool false)) rfl rfl ?_
                  refine X.pure (.pv (.bool false)) rfl rfl ?_
                  refine X.yes rfl rfl ?_
                  refine X.pure (.ptr id1 0) rfl rfl ?_
                  refine X.yes rfl rfl ?_
                  refine X.load 0 (.pv (.int .i64 x0.kind)) hO rfl rfl rfl (big_cutA rfl rfl) ?_
                  refine X.yes rfl rfl ?_
                  refine X.pure (.pv (.bool (x0.kind == (0 : Int)))) rfl rfl ?_
                  refine X.yes rfl rfl ?_
                  refine X.pure (.pv (.bool (x0.kind == (0 : Int)))) rfl rfl ?_
                  revert hO
                  generalize (x0.kind == (0 : Int)) = c39
                  cases c39 with
                  | true =>
                    intro hO
                    refine X.yes rfl rfl ?_
                    refine X.pure (.ptr id1 1) rfl rfl ?_
                    refine X.yes rfl rfl ?_
                    refine X.load 0 (.pv (.str x0.bits)) hO rfl rfl rfl (big_cutA rfl rfl) ?_
                    refine X.yes rfl rfl ?_
                    refine X.pure (.pv (.bool (!(x0.bits == [])))) rfl rfl ?_
                    refine X.yes rfl rfl ?_
                    refine X.pure (.pv (.bool (!(x0.bits == [])))) rfl rfl ?_
                    refine X.pure (.pv (.bool (!(x0.bits == [])))) rfl rfl ?_
                    refine X.stepZ ?_
                    exact X.skipL ⟨_, _, hO, st_keep _ ⟨rfl, rfl, rfl, trivial⟩⟩
                  | false =>
                    intro hO
                    refine X.no rfl rfl ?_
                    refine X.no rfl rfl ?_
                    refine X.no rfl rfl ?_
                    refine X.yes rfl rfl ?_
                    refine X.pure (.pv (.bool false)) rfl rfl ?_
                    refine X.pure (.pv (.bool false)) rfl rfl ?_
                    refine X.stepZ ?_
                    exact X.skipL ⟨_, _, hO, st_keep _ ⟨rfl, rfl, rfl, trivial⟩⟩
          | false =>
            intro hO
            refine X.no rfl rfl ?_
            refine X.no rfl rfl ?_
            refine X.yes rfl rfl ?_
            refine X.pure (.pv (.bool false)) rfl rfl ?_
            refine X.pure (.pv (.bool false)) rfl rfl ?_
            refine X.pure (.pv (.bool false)) rfl rfl ?_
            refine X.yes rfl rfl ?_
            refine X.pure (.ptr id1 0) rfl rfl ?_
            refine X.yes rfl rfl ?_
            refine X.load 0 (.pv (.int .i64 x0.kind)) hO rfl rfl rfl (big_cutA rfl rfl) ?_
            refine X.yes rfl rfl ?_
            refine X.pure (.pv (.bool (x0.kind == (5 : Int)))) rfl rfl ?_
            refine X.yes rfl rfl ?_
            refine X.pure (.pv (.bool (x0.kind == (5 : Int)))) rfl rfl ?_
            revert hO
            generalize (x0.kind == (5 : Int)) = c40
            cases c40 with
            | true =>
              intro hO
              refine X.yes rfl rfl ?_
              refine X.pure (.pv (.int .i64 (x0.l.length : Int))) rfl rfl ?_
              refine X.yes rfl rfl ?_
              refine X.pure (.pv (.bool ((x0.l.length : Int) != (1 : Int)))) rfl rfl ?_
              refine X.yes rfl rfl ?_
              refine X.pure (.pv (.bool ((x0.l.length : Int) != (1 : Int)))) rfl rfl ?_
              refine X.pure (.pv (.bool ((x0.l.length : Int) != (1 : Int)))) rfl rfl ?_
              refine X.pure (.pv (.bool ((x0.l.length : Int) != (1 : Int)))) rfl rfl ?_
              revert hO
              generalize ((x0.l.length : Int) != (1 : Int)) = c41
              cases c41 with
              | true =>
                intro hO
                refine X.no rfl rfl ?_
                refine X.no rfl rfl ?_
                refine X.no rfl rfl ?_
                refine X.no rfl rfl ?_
                refine X.void rfl rfl ?_
                refine X.void rfl rfl ?_
                refine X.void rfl rfl ?_
                refine X.void rfl rfl ?_
                refine X.no rfl rfl ?_
                refine X.pure (.pv (.bool true)) rfl rfl ?_
                refine X.pure (.pv (.bool true)) rfl rfl ?_
                refine X.no rfl rfl ?_
                refine X.no rfl rfl ?_
                refine X.no rfl rfl ?_
                refine X.no rfl rfl ?_
                refine X.void rfl rfl ?_
                refine X.void rfl rfl ?_
                refine X.void rfl rfl ?_
                refine X.no rfl rfl ?_
                refine X.pure (.pv (.bool true)) rfl rfl ?_
                refine X.stepZ ?_
                exact X.skipL ⟨_, _, hO, st_keep _ ⟨rfl, rfl, rfl, trivial⟩⟩
              | false =>
                intro hO
                refine X.yes rfl rfl ?_
                refine X.pure (.ptr id1 0) rfl rfl ?_
                refine X.yes rfl rfl ?_
                refine X.load 0 (.pv (.int .i64 x0.kind)) hO rfl rfl rfl (big_cutA rfl rfl) ?_
                refine X.yes rfl rfl ?_
                refine X.pure (.pv (.bool (x0.kind != (2 : Int)))) rfl rfl ?_
                refine X.yes rfl rfl ?_
                refine X.pure (.pv (.bool (x0.kind != (2 : Int)))) rfl rfl ?_
                revert hO
                generalize (x0.kind != (2 : Int)) = c42
                cases c42 with
                | true =>
                  intro hO
                  refine X.yes rfl rfl ?_
                  refine X.pure (.ptr id1 2) rfl rfl ?_
                  refine X.yes rfl rfl ?_
                  refine X.load 0 (.pv (.agg (bits256 x0.set))) hO rfl rfl rfl (big_cutB rfl) ?_
                  refine X.yes rfl rfl ?_
                  refine X.pure (.pv (.agg (bits256 (0#256)))) rfl zero256_op ?_
                  refine X.yes rfl rfl ?_
                  refine X.pure (.pv (.bool (!(x0.set == (0#256))))) rfl (eq256_neq _ _) ?_
                  refine X.yes rfl rfl ?_
                  refine X.pure (.pv (.bool (!(x0.set == (0#256))))) rfl rfl ?_
                  refine X.pure (.pv (.bool (!(x0.set == (0#256))))) rfl rfl ?_
                  refine X.pure (.pv (.bool (!(x0.set == (0#256))))) rfl rfl ?_
                  revert hO
                  generalize (x0.set == (0#256)) = c43
                  cases c43 with
                  | true =>
                    intro hO
                    refine X.yes rfl rfl ?_
                    refine X.pure (.ptr id1 0) rfl rfl ?_
                    refine X.yes rfl rfl ?_
                    refine X.load 0 (.pv (.int .i64 x0.kind)) hO rfl rfl rfl (big_cutA rfl rfl) ?_
                    refine X.yes rfl rfl ?_
                    refine X.pure (.pv (.bool (x0.kind == (0 : Int)))) rfl rfl ?_
                    refine X.yes rfl rfl ?_
                    refine X.pure (.pv (.bool (x0.kind == (0 : Int)))) rfl rfl ?_
                    revert hO
                    generalize (x0.kind == (0 : Int)) = c44
                    cases c44 with
                    | true =>
                      intro hO
                      refine X.yes rfl rfl ?_
                      refine X.pure (.ptr id1 1) rfl rfl ?_
                      refine X.yes rfl rfl ?_
                      refine X.load 0 (.pv (.str x0.bits)) hO rfl rfl rfl (big_cutA rfl rfl) ?_
                      refine X.yes rfl rfl ?_
                      refine X.pure (.pv (.bool (!(x0.bits == [])))) rfl rfl ?_
                      refine X.yes rfl rfl ?_
                      refine X.pure (.pv (.bool (!(x0.bits == [])))) rfl rfl ?_
                      refine X.pure (.pv (.bool (!(x0.bits == [])))) rfl rfl ?_
                      refine X.stepZ ?_
                      exact X.skipL ⟨_, _, hO, st_keep _ ⟨rfl, rfl, rfl, trivial⟩⟩
                    | false =>
                      intro hO
                      refine X.no rfl rfl ?_
                      refine X.no rfl rfl ?_
                      refine X.no rfl rfl ?_
                      refine X.yes rfl rfl ?_
                      refine X.pure (.pv (.bool false)) rfl rfl ?_
                      refine X.pure (.pv (.bool false)) rfl rfl ?_
                      refine X.stepZ ?_
                      exact X.skipL ⟨_, _, hO, st_keep _ ⟨rfl, rfl, rfl, trivial⟩⟩
                  | false =>
                    intro hO
                    refine X.no rfl rfl ?_
                    refine X.no rfl rfl ?_
                    refine X.no rfl rfl ?_
                    refine X.no rfl rfl ?_
                    refine X.void rfl rfl ?_
                    refine X.void rfl rfl ?_
                    refine X.void rfl rfl ?_
                    refine X.no rfl rfl ?_
                    refine X.pure (.pv (.bool true)) rfl rfl ?_
                    refine X.stepZ ?_
                    exact X.skipL ⟨_, _, hO, st_keep _ ⟨rfl, rfl, rfl, trivial⟩⟩
                | false =>
                  intro hO
                  refine X.no rfl rfl ?_
                  refine X.no rfl rfl ?_
                  refine X.no rfl rfl ?_
                  refine X.no rfl rfl ?_
                  refine X.yes rfl rfl ?_
                  refine X.pure (.pv (.bool false)) rfl rfl ?_
                  refine X.pure (.pv (.bool false)) rfl rfl ?_
                  refine X.pure (.pv (.bool false)) rfl rfl ?_
                  refine X.yes rfl rfl ?_
                  refine X.pure (.ptr id1 0) rfl rfl ?_
                  refine X.yes rfl rfl ?_
                  refine X.load 0 (.pv (.int .i64 x0.kind)) hO rfl rfl rfl (big_cutA rfl rfl) ?_
                  refine X.yes rfl rfl ?_
                  refine X.pure (.pv (.bool (x0.kind == (0 : Int)))) rfl rfl ?_
                  refine X.yes rfl rfl ?_
                  refine X.pure (.pv (.bool (x0.kind == (0 : Int)))) rfl rfl ?_
                  revert hO
                  generalize (x0.kind == (0 : Int)) = c45
                  cases c45 with
                  | true =>
                    intro hO
                    refine X.yes rfl rfl ?_
                    refine X.pure (.ptr id1 1) rfl rfl ?_
                    refine X.yes rfl rfl ?_
                    refine X.load 0 (.pv (.str x0.bits)) hO rfl rfl rfl (big_cutA rfl rfl) ?_
                    refine X.yes rfl rfl ?_
                    refine X.pure (.pv (.bool (!(x0.bits == [])))) rfl rfl ?_
                    refine X.yes rfl rfl ?_
                    refine X.pure (.pv (.bool (!(x0.bits == [])))) rfl rfl ?_
                    refine X.pure (.pv (.bool (!(x0.bits == [])))) rfl rfl ?_
                    refine X.stepZ ?_
                    exact X.skipL ⟨_, _, hO, st_keep _ ⟨rfl, rfl, rfl, trivial⟩⟩
                  | false =>
                    intro hO
                    refine X.no rfl rfl ?_
                    refine X.no rfl rfl ?_
                    refine X.no rfl rfl ?_
                    refine X.yes rfl rfl ?_
                    refine X.pure (.pv (.bool false)) rfl rfl ?_
                    refine X.pure (.pv (.bool false)) rfl rfl ?_
                    refine X.stepZ ?_
                    exact X.skipL ⟨_, _, hO, st_keep _ ⟨rfl, rfl, rfl, trivial⟩⟩
            | false =>
              intro hO
              refine X.no rfl rfl ?_
              refine X.no rfl rfl ?_
              refine X.yes rfl rfl ?_
              refine X.pure (.pv (.bool false)) rfl rfl ?_
              refine X.pure (.pv (.bool false)) rfl rfl ?_
              refine X.pure (.pv (.bool false)) rfl rfl ?_
              refine X.yes rfl rfl ?_
              refine X.pure (.ptr id1 0) rfl rfl ?_
              refine X.yes rfl rfl ?_
              refine X.load 0 (.pv (.int .i64 x0.kind)) hO rfl rfl rfl (big_cutA rfl rfl) ?_
              refine X.yes rfl rfl ?_
              refine X.pure (.pv (.bool (x0.kind != (2 : Int)))) rfl rfl ?_
              refine X.yes rfl rfl ?_
              refine X.pure (.pv (.bool (x0.kind != (2 : Int)))) rfl rfl ?_
              revert hO
              generalize (x0.kind != (2 : Int)) = c46
              cases c46 with
              | true =>
                intro hO
                refine X.yes rfl rfl ?_
                refine X.pure (.ptr id1 2) rfl rfl ?_
                refine X.yes rfl rfl ?_
                refine X.load 0 (.pv (.agg (bits256 x0.set))) hO rfl rfl rfl (big_cutB rfl) ?_
                refine X.yes rfl rfl ?_
                refine X.pure (.pv (.agg (bits256 (0#256)))) rfl zero256_op ?_
                refine X.yes rfl rfl ?_
                refine X.pure (.pv (.bool (!(x0.set == (0#256))))) rfl (eq256_neq _ _) ?_
                refine X.yes rfl rfl ?_
                refine X.pure (.pv (.bool (!(x0.set == (0#256))))) rfl rfl ?_
                refine X.pure (.pv (.bool (!(x0.set == (0#256))))) rfl rfl ?_
                refine X.pure (.pv (.bool (!(x0.set == (0#256))))) rfl rfl ?_
                revert hO
                generalize (x0.set == (0#256)) = c47
                cases c47 with
                | true =>
                  intro hO
                  refine X.yes rfl rfl ?_
                  refine X.pure (.ptr id1 0) rfl rfl ?_
                  refine X.yes rfl rfl ?_
                  refine X.load 0 (.pv (.int .i64 x0.kind)) hO rfl rfl rfl (big_cutA rfl rfl) ?_
                  refine X.yes rfl rfl ?_
                  refine X.pure (.pv (.bool (x0.kind == (0 : Int)))) rfl rfl ?_
                  refine X.yes rfl rfl ?_
                  refine X.pure (.pv (.bool (x0.kind == (0 : Int)))) rfl rfl ?_
                  revert hO
                  generalize (x0.kind == (0 : Int)) = c48
                  cases c48 with
                  | true =>
                    intro hO
                    refine X.yes rfl rfl ?_
                    refine X.pure (.ptr id1 1) rfl rfl ?_
                    refine X.yes rfl rfl ?_
                    refine X.load 0 (.pv (.str x0.bits)) hO rfl rfl rfl (big_cutA rfl rfl) ?_
                    refine X.yes rfl rfl ?_
                    refine X.pure (.pv (.bool (!(x0.bits == [])))) rfl rfl ?_
                    refine X.yes rfl rfl ?_
                    refine X.pure (.pv (.bool (!(x0.bits == [])))) rfl rfl ?_
                    refine X.pure (.pv (.bool (!(x0.bits == [])))) rfl rfl ?_
                    refine X.stepZ ?_
                    exact X.skipL ⟨_, _, hO, st_keep _ ⟨rfl, rfl, rfl, trivial⟩⟩
                  | false =>
                    intro hO
                    refine X.no rfl rfl ?_
                    refine X.no rfl rfl ?_
                    refine X.no rfl rfl ?_
                    refine X.yes rfl rfl ?_
                    refine X.pure (.pv (.bool false)) rfl rfl ?_
                    refine X.pure (.pv (.bool false)) rfl rfl ?_
                    refine X.stepZ ?_
                    exact X.skipL ⟨_, _, hO, st_keep _ ⟨rfl, rfl, rfl, trivial⟩⟩
                | false =>
                  intro hO
                  refine X.no rfl rfl ?_
                  refine X.no rfl rfl ?_
                  refine X.no rfl rfl ?_
                  refine X.no rfl rfl ?_
                  refine X.void rfl rfl ?_
                  refine X.void rfl rfl ?_
                  refine X.void rfl rfl ?_
                  refine X.no rfl rfl ?_
                  refine X.pure (.pv (.bool true)) rfl rfl ?_
                  refine X.stepZ ?_
                  exact X.skipL ⟨_, _, hO, st_keep _ ⟨rfl, rfl, rfl, trivial⟩⟩
              | false =>
                intro hO
                refine X.no rfl rfl ?_
                refine X.no rfl rfl ?_
                refine X.no rfl rfl ?_
                refine X.no rfl rfl ?_
                refine X.yes rfl rfl ?_
                refine X.pure (.pv (.bool false)) rfl rfl ?_
                refine X.pure (.pv (.bool false)) rfl rfl ?_
                refine X.pure (.pv (.bool false)) rfl rfl ?_
                refine X.yes rfl rfl ?_
                refine X.pure (.ptr id1 0) rfl rfl ?_
                refine X.yes rfl rfl ?_
                refine X.load 0 (.pv (.int .i64 x0.kind)) hO rfl rfl rfl (big_cutA rfl rfl) ?_
                refine X.yes rfl rfl ?_
                refine X.pure (.pv (.bool (x0.kind == (0 : Int)))) rfl rfl ?_
                refine X.yes rfl rfl ?_
                refine X.pure (.pv (.bool (x0.kind == (0 : Int)))) rfl rfl ?_
                revert hO
                generalize (x0.kind == (0 : Int)) = c49
                cases c49 with
                | true =>
                  intro hO
                  refine X.yes rfl rfl ?_
                  refine X.pure (.ptr id1 1) rfl rfl ?_
                  refine X.yes rfl rfl ?_
                  refine X.load 0 (.pv (.str x0.bits)) hO rfl rfl rfl (big_cutA rfl rfl) ?_
                  refine X.yes rfl rfl ?_
                  refine X.pure (.pv (.bool (!(x0.bits == [])))) rfl rfl ?_
                  refine X.yes rfl rfl ?_
                  refine X.pure (.pv (.bool (!(x0.bits == [])))) rfl rfl ?_
                  refine X.pure (.pv (.bool (!(x0.bits == [])))) rfl rfl ?_
                  refine X.stepZ ?_
                  exact X.skipL ⟨_, _, hO, st_keep _ ⟨rfl, rfl, rfl, trivial⟩⟩
                | false =>
                  intro hO
                  refine X.no rfl rfl ?_
                  refine X.no rfl rfl ?_
                  refine X.no rfl rfl ?_
                  refine X.yes rfl rfl ?_
                  refine X.pure (.pv (.bool false)) rfl rfl ?_
                  refine X.pure (.pv (.bool false)) rfl rfl ?_
                  refine X.stepZ ?_
                  exact X.skipL ⟨_, _, hO, st_keep _ ⟨rfl, rfl, rfl, trivial⟩⟩
  · rintro st ⟨g, h, hO, rfl⟩
    revert hB
    revert hO
    generalize ((decide (x0.kind < (0 : Int))) || ((decide (x0.kind > (5 : Int))) || (bif (decide (x0.kind < (3 : Int))) then ((decide ((x0.l.length : Int) > (0 : Int))) || (bif (x0.kind == (3 : Int)) then (((x0.l.length : Int) != (2 : Int)) || (bif (x0.kind == (5 : Int)) then (((x0.l.length : Int) != (1 : Int)) || (bif (x0.kind != (2 : Int)) then (bif (x0.set == (0#256)) then ((x0.kind == (0 : Int)) && (!(x0.bits == []))) else true) else ((x0.kind == (0 : Int)) && (!(x0.bits == []))))) else (bif (x0.kind != (2 : Int)) then (bif (x0.set == (0#256)) then ((x0.kind == (0 : Int)) && (!(x0.bits == []))) else true) else ((x0.kind == (0 : Int)) && (!(x0.bits == [])))))) else (bif (x0.kind == (5 : Int)) then (((x0.l.length : Int) != (1 : Int)) || (bif (x0.kind != (2 : Int)) then (bif (x0.set == (0#256)) then ((x0.kind == (0 : Int)) && (!(x0.bits == []))) else true) else ((x0.kind == (0 : Int)) && (!(x0.bits == []))))) else (bif (x0.kind != (2 : Int)) then (bif (x0.set == (0#256)) then ((x0.kind == (0 : Int)) && (!(x0.bits == []))) else true) else ((x0.kind == (0 : Int)) && (!(x0.bits == []))))))) else (bif (x0.kind == (3 : Int)) then (((x0.l.length : Int) != (2 : Int)) || (bif (x0.kind == (5 : Int)) then (((x0.l.length : Int) != (1 : Int)) || (bif (x0.kind != (2 : Int)) then (bif (x0.set == (0#256)) then ((x0.kind == (0 : Int)) && (!(x0.bits == []))) else true) else ((x0.kind == (0 : Int)) && (!(x0.bits == []))))) else (bif (x0.kind != (2 : Int)) then (bif (x0.set == (0#256)) then ((x0.kind == (0 : Int)) && (!(x0.bits == []))) else true) else ((x0.kind == (0 : Int)) && (!(x0.bits == [])))))) else (bif (x0.kind == (5 : Int)) then (((x0.l.length : Int) != (1 : Int)) || (bif (x0.kind != (2 : Int)) then (bif (x0.set == (0#256)) then ((x0.kind == (0 : Int)) && (!(x0.bits == []))) else true) else ((x0.kind == (0 : Int)) && (!(x0.bits == []))))) else (bif (x0.kind != (2 : Int)) then (bif (x0.set == (0#256)) then ((x0.kind == (0 : Int)) && (!(x0.bits == []))) else true) else ((x0.kind == (0 : Int)) && (!(x0.bits == []))))))))) = c50
    cases c50 with
    | true =>
      intro hO hB
      replace hB := bT hB
      refine X.condT rfl rfl ?_
      refine X.pure (.pv (.bool false)) rfl rfl ?_
      refine X.stepZ ?_
      obtain rfl := Option.some.inj hB
      exact X.retS (Fin.leaf (us := [.pv (.bool false)]) rfl rfl (pureRes_one Wk.pv (by intro vs h; cases h)))
    | false =>
      intro hO hB
      replace hB := bF hB
      refine X.condF rfl rfl ?_
      refine X.skipS ?_
      refine X.pure (.pv (.int .i64 (0 : Int))) rfl rfl ?_
      refine X.stepZ ?_
      refine X.loopQ (s0 := (0 : Int)) (R60_0 x0 id1) (A60_0 x0 id1) hB ?_ ?_ ?_
      · exact ⟨_, _, hO, st_keep _ ⟨rfl, rfl, rfl, trivial⟩⟩
      · rintro i51 st o ⟨g, h, hO, rfl⟩ hB
        replace hB : B60_L0 x0 i51 = some o := hB
        unfold B60_L0 at hB
        replace hO : Own h ([.blk id1 (([.pv (.int .i64 x0.kind), .pv (.str x0.bits)] : List V) ++ (((bits256 x0.set).map V.pv) ++ ([.pv (.sl (List.map tRc.enc x0.l))] : List V)))]) := hO
        refine X.pure (.pv (.int .i64 i51)) rfl rfl ?_
        refine X.pure (.ptr id1 1) rfl rfl ?_
        refine X.load 0 (.pv (.str x0.bits)) hO rfl rfl rfl (big_cutA rfl rfl) ?_
        refine X.pure (.pv (.int .i64 (x0.bits.length : Int))) rfl rfl ?_
        refine X.pure (.pv (.bool (decide (i51 < (x0.bits.length : Int))))) rfl rfl ?_
        refine X.stepZ ?_
        revert hB
        revert hO
        generalize (decide (i51 < (x0.bits.length : Int))) = c58
        cases c58 with
        | true =>
          intro hO hB
          replace hB := bT hB
          refine X.condT rfl rfl ?_
          refine X.skipS ?_
          refine X.blockS ?_
          replace hB := bS hB; obtain ⟨c59, hmid, hB⟩ := hB
          refine X.goMid (fun st => ∃ (g : Nat → V) (h : Heap), Own h ([.blk id1 (([.pv (.int .i64 x0.kind), .pv (.str x0.bits)] : List V) ++ (((bits256 x0.set).map V.pv) ++ ([.pv (.sl (List.map tRc.enc x0.l))] : List V)))]) ∧ st = ⟨TL 96 (upds g [(1, .ptr id1 0), (3, .pv (.int .i64 (x0.l.length : Int))), (4, .pv (.int .i64 i51)), (83, .pv (.bool c59))]), h⟩) ?_ ?_
          · replace hB := hmid
            refine X.pure (.ptr id1 1) rfl rfl ?_
            refine X.load 0 (.pv (.str x0.bits)) hO rfl rfl rfl (big_cutA rfl rfl) ?_
            refine X.pure (.pv (.int .i64 i51)) rfl rfl ?_
            replace hB := bS hB; obtain ⟨y60, hy60, hB⟩ := hB
            refine X.idxStr hy60 rfl rfl rfl ?_
            refine X.pure (.pv (.bool (y60 != (48 : Int)))) rfl rfl ?_
            refine X.pure (.pv (.bool (y60 != (48 : Int)))) rfl rfl ?_
            revert hB
            revert hO
            generalize (y60 != (48 : Int)) = c61
            cases c61 with
            | true =>
              intro hO hB
              replace hB := bT hB
              refine X.yes rfl rfl ?_
              refine X.pure (.ptr id1 1) rfl rfl ?_
              refine X.yes rfl rfl ?_
              refine X.load 0 (.pv (.str x0.bits)) hO rfl rfl rfl (big_cutA rfl rfl) ?_
              refine X.yes rfl rfl ?_
              refine X.pure (.pv (.int .i64 i51)) rfl rfl ?_
              refine X.yes rfl rfl ?_
              replace hB := bS hB; obtain ⟨y62, hy62, hB⟩ := hB
              refine X.idxStr hy62 rfl rfl rfl ?_
              refine X.yes rfl rfl ?_
              refine X.pure (.pv (.bool (y62 != (49 : Int)))) rfl rfl ?_
              refine X.pure (.pv (.bool (y62 != (49 : Int)))) rfl rfl ?_
              refine X.stepZ ?_
              obtain rfl := Option.some.inj hB
              exact X.skipL ⟨_, _, hO, st_keep _ ⟨rfl, rfl, rfl, rfl, trivial⟩⟩
            | false =>
              intro hO hB
              replace hB := bF hB
              refine X.no rfl rfl ?_
              refine X.no rfl rfl ?_
              refine X.no rfl rfl ?_
              refine X.no rfl rfl ?_
              refine X.no rfl rfl ?_
              refine X.pure (.pv (.bool false)) rfl rfl ?_
              refine X.stepZ ?_
              obtain rfl := Option.some.inj hB
              exact X.skipL ⟨_, _, hO, st_keep _ ⟨rfl, rfl, rfl, rfl, trivial⟩⟩
          · rintro st ⟨g, h, hO, rfl⟩
            revert hB
            revert hO
            generalize c59 = c63
            cases c63 with
            | true =>
              intro hO hB
              replace hB := bT hB
              refine X.condT rfl rfl ?_
              refine X.pure (.pv (.bool false)) rfl rfl ?_
              refine X.stepZ ?_
              obtain rfl := Option.some.inj hB
              refine X.retS ?_
              intro e; subst e
              exact Fin.leaf (us := [.pv (.bool false)]) rfl rfl (pureRes_one Wk.pv (by intro vs h; cases h))
            | false =>
              intro hO hB
              replace hB := bF hB
              refine X.condF rfl rfl ?_
              refine X.skipS ?_
              refine X.skipB ?_
              refine X.pure (.pv (.int .i64 i51)) rfl rfl ?_
              refine X.pure (.pv (.int .i64 (IntKind.i64.wrap (i51 + (1 : Int))))) rfl rfl ?_
              refine X.pure (.pv (.int .i64 (IntKind.i64.wrap (i51 + (1 : Int))))) rfl rfl ?_
              refine X.stepZ ?_
              obtain rfl := Option.some.inj hB
              exact X.nextL ⟨_, _, hO, st_keep _ ⟨rfl, rfl, rfl, trivial⟩⟩
        | false =>
          intro hO hB
          replace hB := bF hB
          refine X.condF rfl rfl ?_
          refine X.exitS ?_
          obtain rfl := Option.some.inj hB
          exact LP.brk' ⟨_, _, hO, st_keep _ ⟨rfl, rfl, trivial⟩⟩
      · rintro _ st ⟨g, h, hO, rfl⟩ hB
        replace hB : B60_K0 F60 x0 = some _ := hB
        unfold B60_K0 at hB
        replace hO : Own h ([.blk id1 (([.pv (.int .i64 x0.kind), .pv (.str x0.bits)] : List V) ++ (((bits256 x0.set).map V.pv) ++ ([.pv (.sl (List.map tRc.enc x0.l))] : List V)))]) := hO
        refine X.pure (.pv (.int .i64 (0 : Int))) rfl rfl ?_
        refine X.stepZ ?_
        refine X.loopQ (s0 := (0 : Int)) (R60_1 x0 id1) (A60_1) hB ?_ ?_ ?_
        · exact ⟨_, _, hO, st_keep _ ⟨rfl, rfl, rfl, trivial⟩⟩
        · rintro i64 st o ⟨g, h, hO, rfl⟩ hB
          replace hB : B60_L1 F60 x0 i64 = some o := hB
          unfold B60_L1 at hB
          replace hO : Own h ([.blk id1 (([.pv (.int .i64 x0.kind), .pv (.str x0.bits)] : List V) ++ (((bits256 x0.set).map V.pv) ++ ([.pv (.sl (List.map tRc.enc x0.l))] : List V)))]) := hO
          refine X.pure (.pv (.int .i64 i64)) rfl rfl ?_
          refine X.pure (.pv (.int .i64 (x0.l.length : Int))) rfl rfl ?_
          refine X.pure (.pv (.bool (decide (i64 < (x0.l.length : Int))))) rfl rfl ?_
          refine X.stepZ ?_
          revert hB
          revert hO
          generalize (decide (i64 < (x0.l.length : Int))) = c69
          cases c69 with
          | true =>
            intro hO hB
            replace hB := bT hB
            refine X.condT rfl rfl ?_
            refine X.skipS ?_
            refine X.blockS ?_
            refine X.pure (.ptr id1 258) rfl rfl ?_
            refine X.load 0 (.pv (.sl (List.map tRc.enc x0.l))) hO rfl rfl rfl (big_cutC (k := 0) rfl rfl) ?_
            refine X.pure (.pv (.int .i64 i64)) rfl rfl ?_
            replace hB := bS hB; obtain ⟨y70, hy70, hB⟩ := hB
            refine X.at tRc hy70 rfl rfl SlP.pv rfl rfl ?_
            refine X.pure (.pv (.agg (Rc.cells y70))) rfl (loadIp_op rfl (big_ip rfl rfl (big_whole rfl (mkAgg_big rfl rfl)))) ?_
            replace hB := bS hB; obtain ⟨y71, hy71, hB⟩ := hB
            refine X.callW [.pv (.agg (Rc.cells y70))] [.agg (Rc.cells y70)] _ (hF60 _ _ hy71) rF60 rfl rfl ⟨Wk.pv, trivial⟩ ?_
            refine X.pure (.pv (.bool (!y71))) rfl rfl ?_
            refine X.stepZ ?_
            revert hB
            revert hO
            generalize y71 = c72
            cases c72 with
            | true =>
              intro hO hB
              replace hB := bT hB
              refine X.condF rfl rfl ?_
              refine X.skipS ?_
              refine X.skipB ?_
              refine X.pure (.pv (.int .i64 i64)) rfl rfl ?_
              refine X.pure (.pv (.int .i64 (IntKind.i64.wrap (i64 + (1 : Int))))) rfl rfl ?_
              refine X.pure (.pv (.int .i64 (IntKind.i64.wrap (i64 + (1 : Int))))) rfl rfl ?_
              refine X.stepZ ?_
              obtain rfl := Option.some.inj hB
              exact X.nextL ⟨_, _, hO, st_keep _ ⟨rfl, rfl, rfl, trivial⟩⟩
            | false =>
              intro hO hB
              replace hB := bF hB
              refine X.condT rfl rfl ?_
              refine X.pure (.pv (.bool false)) rfl rfl ?_
              refine X.stepZ ?_
              obtain rfl := Option.some.inj hB
              refine X.retS ?_
              intro e; subst e
              exact Fin.leaf (us := [.pv (.bool false)]) rfl rfl (pureRes_one Wk.pv (by intro vs h; cases h))
          | false =>
            intro hO hB
            replace hB := bF hB
            refine X.condF rfl rfl ?_
            refine X.exitS ?_
            obtain rfl := Option.some.inj hB
            exact LP.brk' ⟨_, _, (hO.sub (.cons _ .slnil)), st_keep _ trivial⟩
        · rintro _ st ⟨g, h, hO, rfl⟩ hB
          replace hB : B60_K1 = some _ := hB
          unfold B60_K1 at hB
          replace hO : Own h ([]) := hO
          refine X.pure (.pv (.bool true)) rfl rfl ?_
          refine X.stepZ ?_
          obtain rfl := Option.some.inj hB
          exact X.retS (Fin.leaf (us := [.pv (.bool true)]) rfl rfl (pureRes_one Wk.pv (by intro vs h; cases h)))
noncomputable def B3_L2 (F8 : Cd → Option Rc) (F13 : Rc → Rc → Option Bool) (y39 : (List Cd)) (y40 : (List Rc)) (i56 : Int) : Option (Lp Int Unit Bool) :=
  bif (decide (i56 < (y39.length : Int))) then
    ((idx y39 i56).bind fun y64 =>
     (F8 y64).bind fun y65 =>
     (idx y40 i56).bind fun y66 =>
     (F13 y65 y66).bind fun y67 =>
     bif y67 then
       (some (.next (IntKind.i64.wrap (i56 + (1 : Int)))))
     else
       (some (.ret (false))))
  else
    (some (.brk ()))
noncomputable def B3_K2 (F8 : Cd → Option Rc) (F13 : Rc → Rc → Option Bool) (F14 : Cd → Option Cd) (F15 : Rc → Option Rc) (x0 : Cd) : Option Bool :=
  (F14 x0).bind fun y69 =>
  (F8 y69).bind fun y70 =>
  (F8 x0).bind fun y71 =>
  (F15 y71).bind fun y72 =>
  (F13 y70 y72).bind fun y73 =>
  some y73
abbrev R3_2 (x0 : Cd) (id1 : Nat) (y39 : (List Cd)) (y40 : (List Rc)) : Int → St → Prop := fun s st => ∃ (g : Nat → V) (h : Heap), Own h ([.blk id1 [.pv (.int .i64 x0.kind), .pv (.str x0.bits), .pv (.int .u64 x0.set.a), .pv (.int .u64 x0.set.b), .pv (.int .u64 x0.set.c), .pv (.int .u64 x0.set.d), .pv (.sl (List.map tCd.enc x0.l))]]) ∧ st = ⟨TL 110 (upds g [(2, .ptr id1 0), (9, .pv (.sl (List.map tCd.enc y39))), (10, .pv (.sl (List.map tRc.enc y40))), (12, .pv (.int .i64 s))]), h⟩
abbrev A3_2 (x0 : Cd) (id1 : Nat) : Unit → St → Prop := fun s st => ∃ (g : Nat → V) (h : Heap), Own h ([.blk id1 [.pv (.int .i64 x0.kind), .pv (.str x0.bits), .pv (.int .u64 x0.set.a), .pv (.int .u64 x0.set.b), .pv (.int .u64 x0.set.c), .pv (.int .u64 x0.set.d), .pv (.sl (List.map tCd.enc x0.l))]]) ∧ st = ⟨TL 110 (upds g [(2, .ptr id1 0)]), h⟩
noncomputable def B3_L1 (F8 : Cd → Option Rc) (F13 : Rc → Rc → Option Bool) (y37 : (List Cd)) (y38 : (List Rc)) (i43 : Int) : Option (Lp Int Unit Bool) :=
  bif (decide (i43 < (y37.length : Int))) then
    ((idx y37 i43).bind fun y51 =>
     (F8 y51).bind fun y52 =>
     (idx y38 i43).bind fun y53 =>
     (F13 y52 y53).bind fun y54 =>
     bif y54 then
       (some (.next (IntKind.i64.wrap (i43 + (1 : Int)))))
     else
       (some (.ret (false))))
  else
    (some (.brk ()))
noncomputable def B3_K1 (F8 : Cd → Option Rc) (F13 : Rc → Rc → Option Bool) (F14 : Cd → Option Cd) (F15 : Rc → Option Rc) (x0 : Cd) (y39 : (List Cd)) (y40 : (List Rc)) : Option Bool :=
  loopK (fun (s : Int) => B3_L2 F8 F13 y39 y40 s) (0 : Int) (fun (t : Unit) => B3_K2 F8 F13 F14 F15 x0)
abbrev R3_1 (x0 : Cd) (id1 : Nat) (y37 : (List Cd)) (y38 : (List Rc)) (y39 : (List Cd)) (y40 : (List Rc)) : Int → St → Prop := fun s st => ∃ (g : Nat → V) (h : Heap), Own h ([.blk id1 [.pv (.int .i64 x0.kind), .pv (.str x0.bits), .pv (.int .u64 x0.set.a), .pv (.int .u64 x0.set.b), .pv (.int .u64 x0.set.c), .pv (.int .u64 x0.set.d), .pv (.sl (List.map tCd.enc x0.l))]]) ∧ st = ⟨TL 110 (upds g [(2, .ptr id1 0), (7, .pv (.sl (List.map tCd.enc y37))), (8, .pv (.sl (List.map tRc.enc y38))), (9, .pv (.sl (List.map tCd.enc y39))), (10, .pv (.sl (List.map tRc.enc y40))), (11, .pv (.int .i64 s))]), h⟩
abbrev A3_1 (x0 : Cd) (id1 : Nat) (y39 : (List Cd)) (y40 : (List Rc)) : Unit → St → Prop := fun s st => ∃ (g : Nat → V) (h : Heap), Own h ([.blk id1 [.pv (.int .i64 x0.kind), .pv (.str x0.bits), .pv (.int .u64 x0.set.a), .pv (.int .u64 x0.set.b), .pv (.int .u64 x0.set.c), .pv (.int .u64 x0.set.d), .pv (.sl (List.map tCd.enc x0.l))]]) ∧ st = ⟨TL 110 (upds g [(2, .ptr id1 0), (9, .pv (.sl (List.map tCd.enc y39))), (10, .pv (.sl (List.map tRc.enc y40)))]), h⟩
noncomputable def B3_L0 (F6 : Cd → Int → Option Bool) (F7 : Cd → Option Bool) (F8 : Cd → Option Rc) (l1 : (List Cd)) (w8 : (List Rc)) (i10 : Int) : Option (Lp ((List Rc) × Int) (List Rc) Bool) :=
  bif (decide (i10 < (l1.length : Int))) then
    (((idx l1 i10).bind fun y27 =>
     (F6 y27 (20 : Int)).bind fun y28 =>
     bif y28 then
       (some true)
     else
       ((idx l1 i10).bind fun y30 =>
        (F7 y30).bind fun y31 =>
        some (!y31))).bind fun c26 =>
     bif c26 then
       (some (.ret (true)))
     else
       ((idx l1 i10).bind fun y33 =>
        (F8 y33).bind fun y34 =>
        (join 304 w8 [y34]).bind fun z35 =>
        some (.next (z35, (IntKind.i64.wrap (i10 + (1 : Int)))))))
  else
    (some (.brk w8))
noncomputable def B3_K0 (F8 : Cd → Option Rc) (F9 : (List Cd) → Option (List Cd)) (F10 : (List Rc) → Option (List Rc)) (F11 : (List Cd) → Option (List Cd)) (F12 : (List Rc) → Option (List Rc)) (F13 : Rc → Rc → Option Bool) (F14 : Cd → Option Cd) (F15 : Rc → Option Rc) (x0 : Cd) (l1 : (List Cd)) (w23 : (List Rc)) : Option Bool :=
  (F9 l1).bind fun y37 =>
  (F10 w23).bind fun y38 =>
  (F11 l1).bind fun y39 =>
  (F12 w23).bind fun y40 =>
  bif (((y37.length : Int) != (y38.length : Int)) || ((y39.length : Int) != (y40.length : Int))) then
    (some false)
  else
    (loopK (fun (s : Int) => B3_L1 F8 F13 y37 y38 s) (0 : Int) (fun (t : Unit) => B3_K1 F8 F13 F14 F15 x0 y39 y40))
abbrev R3_0 (x0 : Cd) (l1 : (List Cd)) (id1 : Nat) : ((List Rc) × Int) → St → Prop := fun s st => ∃ (g : Nat → V) (h : Heap) (v9 : V), Own h ([.row v9 (List.map tRc.enc s.1), .blk id1 [.pv (.int .i64 x0.kind), .pv (.str x0.bits), .pv (.int .u64 x0.set.a), .pv (.int .u64 x0.set.b), .pv (.int .u64 x0.set.c), .pv (.int .u64 x0.set.d), .pv (.sl (List.map tCd.enc x0.l))]]) ∧ st = ⟨TL 110 (upds g [(1, .pv (.sl (List.map tCd.enc l1))), (2, .ptr id1 0), (5, v9), (6, .pv (.int .i64 s.2))]), h⟩
abbrev A3_0 (x0 : Cd) (l1 : (List Cd)) (id1 : Nat) : (List Rc) → St → Prop := fun s st => ∃ (g : Nat → V) (h : Heap) (v24 : V), Own h ([.row v24 (List.map tRc.enc s), .blk id1 [.pv (.int .i64 x0.kind), .pv (.str x0.bits), .pv (.int .u64 x0.set.a), .pv (.int .u64 x0.set.b), .pv (.int .u64 x0.set.c), .pv (.int .u64 x0.set.d), .pv (.sl (List.map tCd.enc x0.l))]]) ∧ st = ⟨TL 110 (upds g [(1, .pv (.sl (List.map tCd.enc l1))), (2, .ptr id1 0), (5, v24)]), h⟩
noncomputable def B3 (F5 : Option Bool) (F6 : Cd → Int → Option Bool) (F7 : Cd → Option Bool) (F8 : Cd → Option Rc) (F9 : (List Cd) → Option (List Cd)) (F10 : (List Rc) → Option (List Rc)) (F11 : (List Cd) → Option (List Cd)) (F12 : (List Rc) → Option (List Rc)) (F13 : Rc → Rc → Option Bool) (F14 : Cd → Option Cd) (F15 : Rc → Option Rc) (x0 : Cd) (l1 : (List Cd)) : Option Bool :=
  (F5).bind fun y2 =>
  bif y2 then
    (((F6 x0 (30 : Int)).bind fun y5 =>
     bif y5 then
       (some true)
     else
       (some (decide ((l1.length : Int) > (12 : Int))))).bind fun c4 =>
     bif c4 then
       (some true)
     else
       (loopK (fun (s : ((List Rc) × Int)) => B3_L0 F6 F7 F8 l1 s.1 s.2) (([] : List Rc), (0 : Int)) (fun (t : (List Rc)) => B3_K0 F8 F9 F10 F11 F12 F13 F14 F15 x0 l1 t)))
  else
    (some false)
set_option maxRecDepth 100000 in
set_option maxHeartbeats 4000000 in
theorem B3_ok {E : Env} (F5 : Option Bool) (F6 : Cd → Int → Option Bool) (F7 : Cd → Option Bool) (F8 : Cd → Option Rc) (F9 : (List Cd) → Option (List Cd)) (F10 : (List Rc) → Option (List Rc)) (F11 : (List Cd) → Option (List Cd)) (F12 : (List Rc) → Option (List Rc)) (F13 : Rc → Rc → Option Bool) (F14 : Cd → Option Cd) (F15 : Rc → Option Rc) (hF5 : ∀ (r : Bool) , F5 = some r → limP E 5 [] = some [.bool r]) (rF5 : E.raw 5 = false) (hF6 : ∀ (r : Bool) (a0 : Cd) (a1 : Int), F6 a0 a1 = some r → limP E 6 [.agg (Cd.cells a0), .int .i64 a1] = some [.bool r]) (rF6 : E.raw 6 = false) (hF7 : ∀ (r : Bool) (a0 : Cd), F7 a0 = some r → limP E 7 [.agg (Cd.cells a0)] = some [.bool r]) (rF7 : E.raw 7 = false) (hF8 : ∀ (r : Rc) (a0 : Cd), F8 a0 = some r → limP E 8 [.agg (Cd.cells a0)] = some [.agg (Rc.cells r)]) (rF8 : E.raw 8 = false) (hF9 : ∀ (r : (List Cd)) (a0 : (List Cd)), F9 a0 = some r → limP E 9 [.sl (List.map tCd.enc a0)] = some [.sl (List.map tCd.enc r)]) (rF9 : E.raw 9 = false) (hF10 : ∀ (r : (List Rc)) (a0 : (List Rc)), F10 a0 = some r → limP E 10 [.sl (List.map tRc.enc a0)] = some [.sl (List.map tRc.enc r)]) (rF10 : E.raw 10 = false) (hF11 : ∀ (r : (List Cd)) (a0 : (List Cd)), F11 a0 = some r → limP E 11 [.sl (List.map tCd.enc a0)] = some [.sl (List.map tCd.enc r)]) (rF11 : E.raw 11 = false) (hF12 : ∀ (r : (List Rc)) (a0 : (List Rc)), F12 a0 = some r → limP E 12 [.sl (List.map tRc.enc a0)] = some [.sl (List.map tRc.enc r)]) (rF12 : E.raw 12 = false) (hF13 : ∀ (r : Bool) (a0 : Rc) (a1 : Rc), F13 a0 a1 = some r → limP E 13 [.agg (Rc.cells a0), .agg (Rc.cells a1)] = some [.bool r]) (rF13 : E.raw 13 = false) (hF14 : ∀ (r : Cd) (a0 : Cd), F14 a0 = some r → limP E 14 [.agg (Cd.cells a0)] = some [.agg (Cd.cells r)]) (rF14 : E.raw 14 = false) (hF15 : ∀ (r : Rc) (a0 : Rc), F15 a0 = some r → limP E 15 [.agg (Rc.cells a0)] = some [.agg (Rc.cells r)]) (rF15 : E.raw 15 = false) (H : Has E 3 c3)  (x0 : Cd) (l1 : (List Cd)) (r : Bool) (hB : B3 F5 F6 F7 F8 F9 F10 F11 F12 F13 F14 F15 x0 l1 = some r) : limP E 3 [.agg (Cd.cells x0), .sl (List.map tCd.enc l1)] = some [.bool r] := by
  have hO : Own [] [] := Own.nil
  refine Has.startD H rfl ?_; unfold B3 at hB
  refine X.box ([.pv (.int .i64 x0.kind), .pv (.str x0.bits), .pv (.int .u64 x0.set.a), .pv (.int .u64 x0.set.b), .pv (.int .u64 x0.set.c), .pv (.int .u64 x0.set.d), .pv (.sl (List.map tCd.enc x0.l))]) hO rfl rfl rfl rfl ?_
  clear hO; intro id1 h hO
  refine X.pure (.pv (.bool false)) rfl rfl ?_
  refine X.stepZ ?_
  replace hB := bS hB; obtain ⟨y2, hy2, hB⟩ := hB
  refine X.callW [] [] _ (hF5 _ hy2) rF5 rfl rfl trivial ?_
  refine X.pure (.pv (.bool (!y2))) rfl rfl ?_
  refine X.stepZ ?_
  revert hB
  revert hO
  generalize y2 = c3
  cases c3 with
  | true =>
    intro hO hB
    replace hB := bT hB
    refine X.condF rfl rfl ?_
    refine X.skipS ?_
    replace hB := bS hB; obtain ⟨c4, hmid, hB⟩ := hB
    refine X.goMid (fun st => ∃ (g : Nat → V) (h : Heap), Own h ([.blk id1 [.pv (.int .i64 x0.kind), .pv (.str x0.bits), .pv (.int .u64 x0.set.a), .pv (.int .u64 x0.set.b), .pv (.int .u64 x0.set.c), .pv (.int .u64 x0.set.d), .pv (.sl (List.map tCd.enc x0.l))]]) ∧ st = ⟨TL 110 (upds g [(1, .pv (.sl (List.map tCd.enc l1))), (2, .ptr id1 0), (21, .pv (.bool c4))]), h⟩) ?_ ?_
    · replace hB := hmid
      refine X.load 0 (.pv (.agg (Cd.cells x0))) hO rfl rfl rfl rfl ?_
      replace hB := bS hB; obtain ⟨y5, hy5, hB⟩ := hB
      refine X.callW [.pv (.agg (Cd.cells x0)), .pv (.int .i64 (30 : Int))] [.agg (Cd.cells x0), .int .i64 (30 : Int)] _ (hF6 _ _ _ hy5) rF6 rfl rfl ⟨Wk.pv, Wk.pv, trivial⟩ ?_
      refine X.pure (.pv (.bool y5)) rfl rfl ?_
      revert hB
      revert hO
      generalize y5 = c6
      cases c6 with
      | true =>
        intro hO hB
        replace hB := bT hB
        refine X.no rfl rfl ?_
        refine X.no rfl rfl ?_
        refine X.no rfl rfl ?_
        refine X.pure (.pv (.bool true)) rfl rfl ?_
        refine X.stepZ ?_
        obtain rfl := Option.some.inj hB
        exact X.skipL ⟨_, _, hO, st_keep _ ⟨rfl, rfl, rfl, trivial⟩⟩
      | false =>
        intro hO hB
        replace hB := bF hB
        refine X.yes rfl rfl ?_
        refine X.pure (.pv (.sl (List.map tCd.enc l1))) rfl rfl ?_
        refine X.yes rfl rfl ?_
        refine X.len (l := l1) (g := tCd.enc) rfl rfl SlP.pv ?_
        refine X.yes rfl rfl ?_
        refine X.pure (.pv (.bool (decide ((l1.length : Int) > (12 : Int))))) rfl rfl ?_
        refine X.pure (.pv (.bool (decide ((l1.length : Int) > (12 : Int))))) rfl rfl ?_
        refine X.stepZ ?_
        obtain rfl := Option.some.inj hB
        exact X.skipL ⟨_, _, hO, st_keep _ ⟨rfl, rfl, rfl, trivial⟩⟩
    · rintro st ⟨g, h, hO, rfl⟩
      revert hB
      revert hO
      generalize c4 = c7
      cases c7 with
      | true =>
        intro hO hB
        replace hB := bT hB
        refine X.condT rfl rfl ?_
        refine X.pure (.pv (.bool true)) rfl rfl ?_
        refine X.stepZ ?_
        obtain rfl := Option.some.inj hB
        exact X.retS (Fin.leaf (us := [.pv (.bool true)]) rfl rfl (pureRes_one Wk.pv (by intro vs h; cases h)))
      | false =>
        intro hO hB
        replace hB := bF hB
        refine X.condF rfl rfl ?_
        refine X.skipS ?_
        refine X.pure (.nils) rfl rfl ?_
        refine X.stepZ ?_
        refine X.pure (.pv (.int .i64 (0 : Int))) rfl rfl ?_
        refine X.stepZ ?_
        refine X.loopQ (s0 := (([] : List Rc), (0 : Int))) (R3_0 x0 l1 id1) (A3_0 x0 l1 id1) hB ?_ ?_ ?_
        · exact ⟨_, _, .nils, (hO).addNil, st_keep _ ⟨rfl, rfl, rfl, rfl, trivial⟩⟩
        · rintro ⟨w8, i10⟩ st o ⟨g, h, v9, hO, rfl⟩ hB
          replace hB : B3_L0 F6 F7 F8 l1 w8 i10 = some o := hB
          unfold B3_L0 at hB
          replace hO : Own h ([.row v9 (List.map tRc.enc w8), .blk id1 [.pv (.int .i64 x0.kind), .pv (.str x0.bits), .pv (.int .u64 x0.set.a), .pv (.int .u64 x0.set.b), .pv (.int .u64 x0.set.c), .pv (.int .u64 x0.set.d), .pv (.sl (List.map tCd.enc x0.l))]]) := hO
          refine X.pure (.pv (.int .i64 i10)) rfl rfl ?_
          refine X.pure (.pv (.sl (List.map tCd.enc l1))) rfl rfl ?_
          refine X.len (l := l1) (g := tCd.enc) rfl rfl SlP.pv ?_
          refine X.pure (.pv (.bool (decide (i10 < (l1.length : Int))))) rfl rfl ?_
          refine X.stepZ ?_
          revert hB
          revert hO
          generalize (decide (i10 < (l1.length : Int))) = c25
          cases c25 with
          | true =>
            intro hO hB
            replace hB := bT hB
            refine X.condT rfl rfl ?_
            refine X.skipS ?_
            refine X.blockS ?_
            replace hB := bS hB; obtain ⟨c26, hmid, hB⟩ := hB
            refine X.goMid (fun st => ∃ (g : Nat → V) (h : Heap), Own h ([.row v9 (List.map tRc.enc w8), .blk id1 [.pv (.int .i64 x0.kind), .pv (.str x0.bits), .pv (.int .u64 x0.set.a), .pv (.int .u64 x0.set.b), .pv (.int .u64 x0.set.c), .pv (.int .u64 x0.set.d), .pv (.sl (List.map tCd.enc x0.l))]]) ∧ st = ⟨TL 110 (upds g [(1, .pv (.sl (List.map tCd.enc l1))), (2, .ptr id1 0), (5, v9), (6, .pv (.int .i64 i10)), (40, .pv (.bool c26))]), h⟩) ?_ ?_
            · replace hB := hmid
              refine X.pure (.pv (.sl (List.map tCd.enc l1))) rfl rfl ?_
              refine X.pure (.pv (.int .i64 i10)) rfl rfl ?_
              replace hB := bS hB; obtain ⟨y27, hy27, hB⟩ := hB
              refine X.at tCd hy27 rfl rfl SlP.pv rfl rfl ?_
              refine X.pure (.pv (.agg (Cd.cells y27))) rfl rfl ?_
              replace hB := bS hB; obtain ⟨y28, hy28, hB⟩ := hB
              refine X.callW [.pv (.agg (Cd.cells y27)), .pv (.int .i64 (20 : Int))] [.agg (Cd.cells y27), .int .i64 (20 : Int)] _ (hF6 _ _ _ hy28) rF6 rfl rfl ⟨Wk.pv, Wk.pv, trivial⟩ ?_
              refine X.pure (.pv (.bool y28)) rfl rfl ?_
              revert hB
              revert hO
              generalize y28 = c29
              cases c29 with
              | true =>
                intro hO hB
                replace hB := bT hB
                refine X.no rfl rfl ?_
                refine X.no rfl rfl ?_
                refine X.no rfl rfl ?_
                refine X.no rfl rfl ?_
                refine X.no rfl rfl ?_
                refine X.no rfl rfl ?_
                refine X.pure (.pv (.bool true)) rfl rfl ?_
                refine X.stepZ ?_
                obtain rfl := Option.some.inj hB
                exact X.skipL ⟨_, _, hO, st_keep _ ⟨rfl, rfl, rfl, rfl, rfl, trivial⟩⟩
              | false =>
                intro hO hB
                replace hB := bF hB
                refine X.yes rfl rfl ?_
                refine X.pure (.pv (.sl (List.map tCd.enc l1))) rfl rfl ?_
                refine X.yes rfl rfl ?_
                refine X.pure (.pv (.int .i64 i10)) rfl rfl ?_
                refine X.yes rfl rfl ?_
                replace hB := bS hB; obtain ⟨y30, hy30, hB⟩ := hB
                refine X.at tCd hy30 rfl rfl SlP.pv rfl rfl ?_
                refine X.yes rfl rfl ?_
                refine X.pure (.pv (.agg (Cd.cells y30))) rfl rfl ?_
                refine X.yes rfl rfl ?_
                replace hB := bS hB; obtain ⟨y31, hy31, hB⟩ := hB
                refine X.callW [.pv (.agg (Cd.cells y30))] [.agg (Cd.cells y30)] _ (hF7 _ _ hy31) rF7 rfl rfl ⟨Wk.pv, trivial⟩ ?_
                refine X.yes rfl rfl ?_
                refine X.pure (.pv (.bool (!y31))) rfl rfl ?_
                refine X.pure (.pv (.bool (!y31))) rfl rfl ?_
                refine X.stepZ ?_
                obtain rfl := Option.some.inj hB
                exact X.skipL ⟨_, _, hO, st_keep _ ⟨rfl, rfl, rfl, rfl, rfl, trivial⟩⟩
            · rintro st ⟨g, h, hO, rfl⟩
              revert hB
              revert hO
              generalize c26 = c32
              cases c32 with
              | true =>
                intro hO hB
                replace hB := bT hB
                refine X.condT rfl rfl ?_
                refine X.pure (.pv (.bool true)) rfl rfl ?_
                refine X.stepZ ?_
                obtain rfl := Option.some.inj hB
                refine X.retS ?_
                intro e; subst e
                exact Fin.leaf (us := [.pv (.bool true)]) rfl rfl (pureRes_one Wk.pv (by intro vs h; cases h))
              | false =>
                intro hO hB
                replace hB := bF hB
                refine X.condF rfl rfl ?_
                refine X.skipS ?_
                refine X.pure (v9) rfl rfl ?_
                refine X.pure (.pv (.sl (List.map tCd.enc l1))) rfl rfl ?_
                refine X.pure (.pv (.int .i64 i10)) rfl rfl ?_
                replace hB := bS hB; obtain ⟨y33, hy33, hB⟩ := hB
                refine X.at tCd hy33 rfl rfl SlP.pv rfl rfl ?_
                refine X.pure (.pv (.agg (Cd.cells y33))) rfl rfl ?_
                replace hB := bS hB; obtain ⟨y34, hy34, hB⟩ := hB
                refine X.callW [.pv (.agg (Cd.cells y33))] [.agg (Cd.cells y33)] _ (hF8 _ _ hy34) rF8 rfl rfl ⟨Wk.pv, trivial⟩ ?_
                refine X.pure (.slx (List.map tRc.enc [y34])) rfl (by simp only [List.map_cons, List.map_nil, tRc.he]; rfl) ?_
                replace hB := bS hB; obtain ⟨z35, hz35, hB⟩ := hB
                refine X.append tRc 0 hz35 hO rfl rfl rfl rfl SlP.slx rfl rfl (fun _ => rfl) ?_
                clear hO; intro v36 h hO
                refine X.pure (v36) rfl rfl ?_
                refine X.stepZ ?_
                refine X.skipB ?_
                refine X.pure (.pv (.int .i64 i10)) rfl rfl ?_
                refine X.pure (.pv (.int .i64 (IntKind.i64.wrap (i10 + (1 : Int))))) rfl rfl ?_
                refine X.pure (.pv (.int .i64 (IntKind.i64.wrap (i10 + (1 : Int))))) rfl rfl ?_
                refine X.stepZ ?_
                obtain rfl := Option.some.inj hB
                exact X.nextL ⟨_, _, v36, hO, st_keep _ ⟨rfl, rfl, rfl, rfl, trivial⟩⟩
          | false =>
            intro hO hB
            replace hB := bF hB
            refine X.condF rfl rfl ?_
            refine X.exitS ?_
            obtain rfl := Option.some.inj hB
            exact LP.brk' ⟨_, _, v9, hO, st_keep _ ⟨rfl, rfl, rfl, trivial⟩⟩
        · rintro w23 st ⟨g, h, v24, hO, rfl⟩ hB
          replace hB : B3_K0 F8 F9 F10 F11 F12 F13 F14 F15 x0 l1 w23 = some _ := hB
          unfold B3_K0 at hB
          replace hO : Own h ([.row v24 (List.map tRc.enc w23), .blk id1 [.pv (.int .i64 x0.kind), .pv (.str x0.bits), .pv (.int .u64 x0.set.a), .pv (.int .u64 x0.set.b), .pv (.int .u64 x0.set.c), .pv (.int .u64 x0.set.d), .pv (.sl (List.map tCd.enc x0.l))]]) := hO
          refine X.pure (.pv (.sl (List.map tCd.enc l1))) rfl rfl ?_
          replace hB := bS hB; obtain ⟨y37, hy37, hB⟩ := hB
          refine X.callW [.pv (.sl (List.map tCd.enc l1))] [.sl (List.map tCd.enc l1)] _ (hF9 _ _ hy37) rF9 rfl rfl ⟨Wk.pv, trivial⟩ ?_
          refine X.pure (v24) rfl rfl ?_
          replace hB := bS hB; obtain ⟨y38, hy38, hB⟩ := hB
          refine X.callW [v24] [.sl (List.map tRc.enc w23)] _ (hF10 _ _ hy38) rF10 rfl rfl ⟨((hO.slp (k := 0) rfl)).wk, trivial⟩ ?_
          refine X.pure (.pv (.sl (List.map tCd.enc y37))) rfl rfl ?_
          refine X.pure (.pv (.sl (List.map tRc.enc y38))) rfl rfl ?_
          refine X.stepZ ?_
          refine X.pure (.pv (.sl (List.map tCd.enc l1))) rfl rfl ?_
          replace hB := bS hB; obtain ⟨y39, hy39, hB⟩ := hB
          refine X.callW [.pv (.sl (List.map tCd.enc l1))] [.sl (List.map tCd.enc l1)] _ (hF11 _ _ hy39) rF11 rfl rfl ⟨Wk.pv, trivial⟩ ?_
          refine X.pure (v24) rfl rfl ?_
          replace hB := bS hB; obtain ⟨y40, hy40, hB⟩ := hB
          refine X.callW [v24] [.sl (List.map tRc.enc w23)] _ (hF12 _ _ hy40) rF12 rfl rfl ⟨((hO.slp (k := 0) rfl)).wk, trivial⟩ ?_
          refine X.pure (.pv (.sl (List.map tCd.enc y39))) rfl rfl ?_
          refine X.pure (.pv (.sl (List.map tRc.enc y40))) rfl rfl ?_
          refine X.stepZ ?_
          refine X.goMid (fun st => ∃ (g : Nat → V) (h : Heap), Own h ([.blk id1 [.pv (.int .i64 x0.kind), .pv (.str x0.bits), .pv (.int .u64 x0.set.a), .pv (.int .u64 x0.set.b), .pv (.int .u64 x0.set.c), .pv (.int .u64 x0.set.d), .pv (.sl (List.map tCd.enc x0.l))]]) ∧ st = ⟨TL 110 (upds g [(2, .ptr id1 0), (7, .pv (.sl (List.map tCd.enc y37))), (8, .pv (.sl (List.map tRc.enc y38))), (9, .pv (.sl (List.map tCd.enc y39))), (10, .pv (.sl (List.map tRc.enc y40))), (68, .pv (.bool (((y37.length : Int) != (y38.length : Int)) || ((y39.length : Int) != (y40.length : Int)))))]), h⟩) ?_ ?_
          · refine X.pure (.pv (.sl (List.map tCd.enc y37))) rfl rfl ?_
            refine X.len (l := y37) (g := tCd.enc) rfl rfl SlP.pv ?_
            refine X.pure (.pv (.sl (List.map tRc.enc y38))) rfl rfl ?_
            refine X.len (l := y38) (g := tRc.enc) rfl rfl SlP.pv ?_
            refine X.pure (.pv (.bool ((y37.length : Int) != (y38.length : Int)))) rfl rfl ?_
            refine X.pure (.pv (.bool ((y37.length : Int) != (y38.length : Int)))) rfl rfl ?_
            revert hO
            generalize ((y37.length : Int) != (y38.length : Int)) = c41
            cases c41 with
            | true =>
              intro hO
              refine X.no rfl rfl ?_
              refine X.no rfl rfl ?_
              refine X.no rfl rfl ?_
              refine X.no rfl rfl ?_
              refine X.no rfl rfl ?_
              refine X.pure (.pv (.bool true)) rfl rfl ?_
              refine X.stepZ ?_
              exact X.skipL ⟨_, _, (hO.sub (.cons _ (.cons_cons _ .slnil))), st_keep _ ⟨rfl, rfl, rfl, rfl, rfl, rfl, trivial⟩⟩
            | false =>
              intro hO
              refine X.yes rfl rfl ?_
              refine X.pure (.pv (.sl (List.map tCd.enc y39))) rfl rfl ?_
              refine X.yes rfl rfl ?_
              refine X.len (l := y39) (g := tCd.enc) rfl rfl SlP.pv ?_
              refine X.yes rfl rfl ?_
              refine X.pure (.pv (.sl (List.map tRc.enc y40))) rfl rfl ?_
              refine X.yes rfl rfl ?_
              refine X.len (l := y40) (g := tRc.enc) rfl rfl SlP.pv ?_
              refine X.yes rfl rfl ?_
              refine X.pure (.pv (.bool ((y39.length : Int) != (y40.length : Int)))) rfl rfl ?_
              refine X.pure (.pv (.bool ((y39.length : Int) != (y40.length : Int)))) rfl rfl ?_
              refine X.stepZ ?_
              exact X.skipL ⟨_, _, (hO.sub (.cons _ (.cons_cons _ .slnil))), st_keep _ ⟨rfl, rfl, rfl, rfl, rfl, rfl, trivial⟩⟩
          · rintro st ⟨g, h, hO, rfl⟩
            revert hB
            revert hO
            generalize (((y37.length : Int) != (y38.length : Int)) || ((y39.length : Int) != (y40.length : Int))) = c42
            cases c42 with
            | true =>
              intro hO hB
              replace hB := bT hB
              refine X.condT rfl rfl ?_
              refine X.pure (.pv (.bool false)) rfl rfl ?_
              refine X.stepZ ?_
              obtain rfl := Option.some.inj hB
              exact X.retS (Fin.leaf (us := [.pv (.bool false)]) rfl rfl (pureRes_one Wk.pv (by intro vs h; cases h)))
            | false =>
              intro hO hB
              replace hB := bF hB
              refine X.condF rfl rfl ?_
              refine X.skipS ?_
              refine X.pure (.pv (.int .i64 (0 : Int))) rfl rfl ?_
              refine X.stepZ ?_
              refine X.loopQ (s0 := (0 : Int)) (R3_1 x0 id1 y37 y38 y39 y40) (A3_1 x0 id1 y39 y40) hB ?_ ?_ ?_
              · exact ⟨_, _, hO, st_keep _ ⟨rfl, rfl, rfl, rfl, rfl, rfl, trivial⟩⟩
              · rintro i43 st o ⟨g, h, hO, rfl⟩ hB
                replace hB : B3_L1 F8 F13 y37 y38 i43 = some o := hB
                unfold B3_L1 at hB
                replace hO : Own h ([.blk id1 [.pv (.int .i64 x0.kind), .pv (.str x0.bits), .pv (.int .u64 x0.set.a), .pv (.int .u64 x0.set.b), .pv (.int .u64 x0.set.c), .pv (.int .u64 x0.set.d), .pv (.sl (List.map tCd.enc x0.l))]]) := hO
                refine X.pure (.pv (.int .i64 i43)) rfl rfl ?_
                refine X.pure (.pv (.sl (List.map tCd.enc y37))) rfl rfl ?_
                refine X.len (l := y37) (g := tCd.enc) rfl rfl SlP.pv ?_
                refine X.pure (.pv (.bool (decide (i43 < (y37.length : Int))))) rfl rfl ?_
                refine X.stepZ ?_
                revert hB
                revert hO
                generalize (decide (i43 < (y37.length : Int))) = c50
                cases c50 with
                | true =>
                  intro hO hB
                  replace hB := bT hB
                  refine X.condT rfl rfl ?_
                  refine X.skipS ?_
                  refine X.blockS ?_
                  refine X.drawS [([], []), ([], []), ([], []), ([], []), ([], []), ([], []), ([], []), ([], []), ([], []), ([], []), ([], [])] (m := List.map Res.ids [.blk id1 [.pv (.int .i64 x0.kind), .pv (.str x0.bits), .pv (.int .u64 x0.set.a), .pv (.int .u64 x0.set.b), .pv (.int .u64 x0.set.c), .pv (.int .u64 x0.set.d), .pv (.sl (List.map tCd.enc x0.l))]]) hO.labOk rfl ?_
                  refine XS.calm [] (.pv (.sl (List.map tCd.enc y37))) rfl (rfl) (lab_none rfl) rfl ?_
                  refine XS.calm [] (.pv (.int .i64 i43)) rfl (rfl) (lab_none rfl) rfl ?_
                  replace hB := bS hB; obtain ⟨y51, hy51, hB⟩ := hB
                  refine XS.calm [] (.pv (.ip (tCd.cells y51) 0)) rfl (at_op tCd hy51 rfl SlP.pv rfl rfl) (lab_none rfl) rfl ?_
                  refine XS.calm [] (.pv (.agg (Cd.cells y51))) rfl (rfl) (lab_none rfl) rfl ?_
                  replace hB := bS hB; obtain ⟨y52, hy52, hB⟩ := hB
                  refine XS.callP [.agg (Cd.cells y51)] _ (hF8 _ _ hy52) rF8 rfl rfl ?_
                  refine XS.calm [] (.pv (.sl (List.map tRc.enc y38))) rfl (rfl) (lab_none rfl) rfl ?_
                  refine XS.calm [] (.pv (.int .i64 i43)) rfl (rfl) (lab_none rfl) rfl ?_
                  replace hB := bS hB; obtain ⟨y53, hy53, hB⟩ := hB
                  refine XS.calm [] (.pv (.ip (tRc.cells y53) 0)) rfl (at_op tRc hy53 rfl SlP.pv rfl rfl) (lab_none rfl) rfl ?_
                  refine XS.calm [] (.pv (.agg (Rc.cells y53))) rfl ((loadIp_op rfl (big_ip rfl rfl (big_whole rfl (mkAgg_big rfl rfl))))) (lab_none rfl) rfl ?_
                  replace hB := bS hB; obtain ⟨y54, hy54, hB⟩ := hB
                  refine XS.callP [.agg (Rc.cells y52), .agg (Rc.cells y53)] _ (hF13 _ _ _ hy54) rF13 rfl rfl ?_
                  refine XS.calm [] (.pv (.bool (!y54))) rfl (rfl) (lab_none rfl) rfl ?_
                  refine XS.nil ?_
                  revert hB
                  revert hO
                  generalize y54 = c55
                  cases c55 with
                  | true =>
                    intro hO hB
                    replace hB := bT hB
                    refine X.condF rfl rfl ?_
                    refine X.skipS ?_
                    refine X.skipB ?_
                    refine X.pure (.pv (.int .i64 i43)) rfl rfl ?_
                    refine X.pure (.pv (.int .i64 (IntKind.i64.wrap (i43 + (1 : Int))))) rfl rfl ?_
                    refine X.pure (.pv (.int .i64 (IntKind.i64.wrap (i43 + (1 : Int))))) rfl rfl ?_
                    refine X.stepZ ?_
                    obtain rfl := Option.some.inj hB
                    exact X.nextL ⟨_, _, hO, st_keep _ ⟨rfl, rfl, rfl, rfl, rfl, rfl, trivial⟩⟩
                  | false =>
                    intro hO hB
                    replace hB := bF hB
                    refine X.condT rfl rfl ?_
                    refine X.pure (.pv (.bool false)) rfl rfl ?_
                    refine X.stepZ ?_
                    obtain rfl := Option.some.inj hB
                    refine X.retS ?_
                    intro e; subst e
                    exact Fin.leaf (us := [.pv (.bool false)]) rfl rfl (pureRes_one Wk.pv (by intro vs h; cases h))
                | false =>
                  intro hO hB
                  replace hB := bF hB
                  refine X.condF rfl rfl ?_
                  refine X.exitS ?_
                  obtain rfl := Option.some.inj hB
                  exact LP.brk' ⟨_, _, hO, st_keep _ ⟨rfl, rfl, rfl, trivial⟩⟩
              · rintro _ st ⟨g, h, hO, rfl⟩ hB
                replace hB : B3_K1 F8 F13 F14 F15 x0 y39 y40 = some _ := hB
                unfold B3_K1 at hB
                replace hO : Own h ([.blk id1 [.pv (.int .i64 x0.kind), .pv (.str x0.bits), .pv (.int .u64 x0.set.a), .pv (.int .u64 x0.set.b), .pv (.int .u64 x0.set.c), .pv (.int .u64 x0.set.d), .pv (.sl (List.map tCd.enc x0.l))]]) := hO
                refine X.pure (.pv (.int .i64 (0 : Int))) rfl rfl ?_
                refine X.stepZ ?_
                refine X.loopQ (s0 := (0 : Int)) (R3_2 x0 id1 y39 y40) (A3_2 x0 id1) hB ?_ ?_ ?_
                · exact ⟨_, _, hO, st_keep _ ⟨rfl, rfl, rfl, rfl, trivial⟩⟩
                · rintro i56 st o ⟨g, h, hO, rfl⟩ hB
                  replace hB : B3_L2 F8 F13 y39 y40 i56 = some o := hB
                  unfold B3_L2 at hB
                  replace hO : Own h ([.blk id1 [.pv (.int .i64 x0.kind), .pv (.str x0.bits), .pv (.int .u64 x0.set.a), .pv (.int .u64 x0.set.b), .pv (.int .u64 x0.set.c), .pv (.int .u64 x0.set.d), .pv (.sl (List.map tCd.enc x0.l))]]) := hO
                  refine X.pure (.pv (.int .i64 i56)) rfl rfl ?_
                  refine X.pure (.pv (.sl (List.map tCd.enc y39))) rfl rfl ?_
                  refine X.len (l := y39) (g := tCd.enc) rfl rfl SlP.pv ?_
                  refine X.pure (.pv (.bool (decide (i56 < (y39.length : Int))))) rfl rfl ?_
                  refine X.stepZ ?_
                  revert hB
                  revert hO
                  generalize (decide (i56 < (y39.length : Int))) = c63
                  cases c63 with
                  | true =>
                    intro hO hB
                    replace hB := bT hB
                    refine X.condT rfl rfl ?_
                    refine X.skipS ?_
                    refine X.blockS ?_
                    refine X.drawS [([], []), ([], []), ([], []), ([], []), ([], []), ([], []), ([], []), ([], []), ([], []), ([], []), ([], [])] (m := List.map Res.ids [.blk id1 [.pv (.int .i64 x0.kind), .pv (.str x0.bits), .pv (.int .u64 x0.set.a), .pv (.int .u64 x0.set.b), .pv (.int .u64 x0.set.c), .pv (.int .u64 x0.set.d), .pv (.sl (List.map tCd.enc x0.l))]]) hO.labOk rfl ?_
                    refine XS.calm [] (.pv (.sl (List.map tCd.enc y39))) rfl (rfl) (lab_none rfl) rfl ?_
                    refine XS.calm [] (.pv (.int .i64 i56)) rfl (rfl) (lab_none rfl) rfl ?_
                    replace hB := bS hB; obtain ⟨y64, hy64, hB⟩ := hB
                    refine XS.calm [] (.pv (.ip (tCd.cells y64) 0)) rfl (at_op tCd hy64 rfl SlP.pv rfl rfl) (lab_none rfl) rfl ?_
                    refine XS.calm [] (.pv (.agg (Cd.cells y64))) rfl (rfl) (lab_none rfl) rfl ?_
                    replace hB := bS hB; obtain ⟨y65, hy65, hB⟩ := hB
                    refine XS.callP [.agg (Cd.cells y64)] _ (hF8 _ _ hy65) rF8 rfl rfl ?_
                    refine XS.calm [] (.pv (.sl (List.map tRc.enc y40))) rfl (rfl) (lab_none rfl) rfl ?_
                    refine XS.calm [] (.pv (.int .i64 i56)) rfl (rfl) (lab_none rfl) rfl ?_
                    replace hB := bS hB; obtain ⟨y66, hy66, hB⟩ := hB
                    refine XS.calm [] (.pv (.ip (tRc.cells y66) 0)) rfl (at_op tRc hy66 rfl SlP.pv rfl rfl) (lab_none rfl) rfl ?_
                    refine XS.calm [] (.pv (.agg (Rc.cells y66))) rfl ((loadIp_op rfl (big_ip rfl rfl (big_whole rfl (mkAgg_big rfl rfl))))) (lab_none rfl) rfl ?_
                    replace hB := bS hB; obtain ⟨y67, hy67, hB⟩ := hB
                    refine XS.callP [.agg (Rc.cells y65), .agg (Rc.cells y66)] _ (hF13 _ _ _ hy67) rF13 rfl rfl ?_
                    refine XS.calm [] (.pv (.bool (!y67))) rfl (rfl) (lab_none rfl) rfl ?_
                    refine XS.nil ?_
                    revert hB
                    revert hO
                    generalize y67 = c68
                    cases c68 with
                    | true =>
                      intro hO hB
                      replace hB := bT hB
                      refine X.condF rfl rfl ?_
                      refine X.skipS ?_
                      refine X.skipB ?_
                      refine X.pure (.pv (.int .i64 i56)) rfl rfl ?_
                      refine X.pure (.pv (.int .i64 (IntKind.i64.wrap (i56 + (1 : Int))))) rfl rfl ?_
                      refine X.pure (.pv (.int .i64 (IntKind.i64.wrap (i56 + (1 : Int))))) rfl rfl ?_
                      refine X.stepZ ?_
                      obtain rfl := Option.some.inj hB
                      exact X.nextL ⟨_, _, hO, st_keep _ ⟨rfl, rfl, rfl, rfl, trivial⟩⟩
                    | false =>
                      intro hO hB
                      replace hB := bF hB
                      refine X.condT rfl rfl ?_
                      refine X.pure (.pv (.bool false)) rfl rfl ?_
                      refine X.stepZ ?_
                      obtain rfl := Option.some.inj hB
                      refine X.retS ?_
                      intro e; subst e
                      exact Fin.leaf (us := [.pv (.bool false)]) rfl rfl (pureRes_one Wk.pv (by intro vs h; cases h))
                  | false =>
                    intro hO hB
                    replace hB := bF hB
                    refine X.condF rfl rfl ?_
                    refine X.exitS ?_
                    obtain rfl := Option.some.inj hB
                    exact LP.brk' ⟨_, _, hO, st_keep _ ⟨rfl, trivial⟩⟩
                · rintro _ st ⟨g, h, hO, rfl⟩ hB
                  replace hB : B3_K2 F8 F13 F14 F15 x0 = some _ := hB
                  unfold B3_K2 at hB
                  replace hO : Own h ([.blk id1 [.pv (.int .i64 x0.kind), .pv (.str x0.bits), .pv (.int .u64 x0.set.a), .pv (.int .u64 x0.set.b), .pv (.int .u64 x0.set.c), .pv (.int .u64 x0.set.d), .pv (.sl (List.map tCd.enc x0.l))]]) := hO
                  refine X.drawS [([0], []), ([], []), ([], []), ([0], []), ([], []), ([], []), ([], []), ([], [])] (m := List.map Res.ids [.blk id1 [.pv (.int .i64 x0.kind), .pv (.str x0.bits), .pv (.int .u64 x0.set.a), .pv (.int .u64 x0.set.b), .pv (.int .u64 x0.set.c), .pv (.int .u64 x0.set.d), .pv (.sl (List.map tCd.enc x0.l))]]) hO.labOk rfl ?_
                  refine XS.read [0] (.pv (.agg (Cd.cells x0))) rfl rfl (load_op 0 hO rfl rfl rfl) List.mem_cons_self ?_
                  replace hB := bS hB; obtain ⟨y69, hy69, hB⟩ := hB
                  refine XS.callP [.agg (Cd.cells x0)] _ (hF14 _ _ hy69) rF14 rfl rfl ?_
                  replace hB := bS hB; obtain ⟨y70, hy70, hB⟩ := hB
                  refine XS.callP [.agg (Cd.cells y69)] _ (hF8 _ _ hy70) rF8 rfl rfl ?_
                  refine XS.read [0] (.pv (.agg (Cd.cells x0))) rfl rfl (load_op 0 hO rfl rfl rfl) List.mem_cons_self ?_
                  replace hB := bS hB; obtain ⟨y71, hy71, hB⟩ := hB
                  refine XS.callP [.agg (Cd.cells x0)] _ (hF8 _ _ hy71) rF8 rfl rfl ?_
                  replace hB := bS hB; obtain ⟨y72, hy72, hB⟩ := hB
                  refine XS.callP [.agg (Rc.cells y71)] _ (hF15 _ _ hy72) rF15 rfl rfl ?_
                  replace hB := bS hB; obtain ⟨y73, hy73, hB⟩ := hB
                  refine XS.callP [.agg (Rc.cells y70), .agg (Rc.cells y72)] _ (hF13 _ _ _ hy73) rF13 rfl rfl ?_
                  refine XS.calm [] (.pv (.bool y73)) rfl (rfl) (lab_none rfl) rfl ?_
                  refine XS.nil ?_
                  obtain rfl := Option.some.inj hB
                  exact X.retS (Fin.leaf (us := [.pv (.bool y73)]) rfl rfl (pureRes_one Wk.pv (by intro vs h; cases h)))
  | false =>
    intro hO hB
    replace hB := bF hB
    refine X.condT rfl rfl ?_
    refine X.pure (.pv (.bool false)) rfl rfl ?_
    refine X.stepZ ?_
    obtain rfl := Option.some.inj hB
    exact X.retS (Fin.leaf (us := [.pv (.bool false)]) rfl rfl (pureRes_one Wk.pv (by intro vs h; cases h)))
end Pl
