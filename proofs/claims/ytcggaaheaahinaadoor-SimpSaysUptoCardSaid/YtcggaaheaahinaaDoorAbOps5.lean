/- append, copy, len, min and max, the marking conversion: as operations. -/
import Derived.Test.YtcggaaheaahinaaDoorAbAppend2
namespace Ab
open Go


variable {P : Program} {m : Imm} {ρ : Rho}

section
variable {a : Act} {ts : List V} {h : Heap} {w : World} {o : Oper}

theorem isSl_ok {x : V} {cx : Value} (h : isSlV x = true) (hr : R m ρ x cx) : ∃ base l c, cx = .slice base l c ∧ l ≤ c := by
  cases hr with
  | pv p v hp =>
    cases p <;> simp [isSlV] at h
    obtain ⟨ad, cap, rfl, hc, _⟩ := hp.sl_inv
    exact ⟨_, _, _, rfl, hc⟩
  | sln id off len sz ag loc cap h1 h2 h3 => exact ⟨_, _, _, rfl, h2⟩
  | slt es tok b o cap sz loc h1 h2 h3 => exact ⟨_, _, _, rfl, h3⟩
  | slx es b o h1 => exact ⟨_, _, _, rfl, Nat.le_refl _⟩
  | nils => exact ⟨_, _, _, rfl, Nat.le_refl _⟩
  | _ => simp [isSlV] at h

theorem op_append [Base] (A : At m ρ a ts h w) {c : Call} {x y : Operand} {ax ay : AOperand} {t u e : TypeId} {i : TypeInfo} {zv : Value} {sz by_ : Nat} {ag mu : Bool} {vx vy v : V} {n : Nat} {new : List V} {h' : Heap}
    (AP : App P t u e i zv sz by_) (hor : ag = true ∨ sz = 1) (hfr : ∀ id, h.length ≤ id → id < h'.length → ρ id = none) (ho : o.op = .call c) (hc : c.callee = .builtin .append) (ha : c.args.toList = [x, y]) (ht : c.argTypes.toList = [t, u])
    (h1 : trX x = some ax) (h2 : trX y = some ay) (e1 : St.eval ts ax = some vx) (e2 : St.eval ts ay = some vy) (e3 : lenA vy = some n) (e4 : srcCells h sz vy = some new) (e5 : appendA h ag mu sz by_ e vx n new = some (v, h')) :
    Done P a o w (ent h) (ent h') h.length h'.length m ρ v := by
  have rx := A.x (a := a) h1 e1
  have ry := A.x (a := a) h2 e2
  obtain ⟨f1, hnew, hf1, hl, hfc⟩ := src_ok (P := P) A.sim e3 e4 ry
  obtain ⟨du, hu, hdu⟩ := AP.src
  have hfc' : ∀ w1 : World, w1.heap = w.heap → (Builtin.firstCells i.size n (a.eval y)).run P w1 = .ok ((List.range (n * sz)).map f1).toArray w1 := fun w1 hw => by rw [AP.size]; exact hfc w1 n hw (Nat.le_refl _)
  unfold appendA at e5
  by_cases hn : n = 0
  · rw [if_pos hn] at e5
    subst hn
    split at e5
    · rename_i hsl
      cases e5
      obtain ⟨base, l, cap, hx, hle⟩ := isSl_ok hsl rx
      refine .same A.sim (exec_append ho hc ha ht ?_) rx
      rw [hx]
      exact run_append_none AP.slice AP.info hu hdu w base l cap _ hle (hl w) (by have := hfc' w rfl; simpa using this)
    · cases e5
  rw [if_neg hn] at e5
  -- the pure ways
  have pureNew : ∀ (es : List PV) (base : Option Addr) (sCap : Nat) (h1 : Heap), a.eval x = .slice base es.length sCap → h1.length = h.length → Sim m ρ (ent h1) w → Step (ent h) (ent h1) h.length h.length m ρ w m ρ w → RP m (.sl es) (.slice base es.length sCap) → sCap < es.length + n →
      (if strideOk sz es && (ag || sz == 1) && decide ((es.length + n) * by_ ≤ growMax) && decide (new.length = n * sz) then
        match weak.weakL new with
        | some ps => some (V.slt (es ++ (chunks sz n ps).map (mkPV ag)) h1.length, h1 ++ [.tok])
        | none => none
      else none) = some (v, h') → Done P a o w (ent h) (ent h') h.length h'.length m ρ v := by
    intro es base sCap h1 hx hlen hs hst hp hcap he
    split at he
    · rename_i hcond
      simp only [Bool.and_eq_true, decide_eq_true_eq] at hcond
      obtain ⟨⟨⟨q1, q2⟩, q3⟩, q4⟩ := hcond
      split at he
      · rename_i ps hps
        cases he
        obtain ⟨cv, w', m', ρ', r1, r2, r3, r4⟩ := append_pure_new (ty := o.type) (ag := ag) AP hs (by rw [hlen]; exact hfr _ (Nat.le_refl _) (by simp; omega)) hor hp q1 hcap q3 hnew hn hps hf1 (hl w) hfc'
        refine .of_run (exec_append ho hc ha ht (by rw [hx]; exact r1)) r2 r3 ?_
        rw [hlen] at r4
        exact hst.trans r4 (Nat.le_refl _) (by simp; omega)
      · simp at he
    · simp at he
  obtain ⟨cx, hcx⟩ : ∃ cx, a.eval x = cx := ⟨_, rfl⟩
  rw [hcx] at rx
  cases vx with
  | nils =>
    cases rx
    simp only at e5
    split at e5
    · rename_i hmu
      split at e5
      · rename_i hcond
        simp only [Bool.and_eq_true, decide_eq_true_eq, List.all_eq_true] at hcond
        obtain ⟨⟨q1, q2⟩, q3⟩ := hcond
        cases e5
        have hrun := run_append_new (ty := o.type) AP.slice AP.info AP.zero hu hdu w none 0 0 n (a.eval y) #[] _ (by omega) (by rw [AP.bytes]; exact AP.bpos) (by rw [AP.bytes, Nat.zero_add]; exact q1) (hl w) (fun w1 _ => by simp [Builtin.firstCells]) hfc'
        simp only [Nat.zero_add, Array.empty_append] at hrun
        generalize hN : capOf w n 0 e = N at hrun
        have hNle : n ≤ N := by rw [← hN]; exact capOf_le _ _ _ _
        generalize hC : ((List.range (n * sz)).map f1).toArray ++ Builtin.zeroCells zv.cells (N - n) = C at hrun
        have hCs : C.size = N * sz := by
          rw [← hC]
          simp only [Array.size_append, List.size_toArray, List.length_map, List.length_range, zeroCells_size, AP.zsize]
          rw [← Nat.add_mul]
          congr 1
          omega
        have hk : n * sz ≤ C.size := by rw [hCs]; exact Nat.mul_le_mul_right _ hNle
        have hs2 : Sim m ρ (ent h) { w with drawn := w.drawn + 1 } := A.sim.congr rfl fun _ => rfl
        obtain ⟨s1, s2⟩ := hs2.alloc (hfr _ (Nat.le_refl _) (by simp)) new C e (some e) (fun x hx => by cases hx; rfl) (by omega) (fun j v hj => by
          have hlt : j < new.length := (List.getElem?_eq_some_iff.1 hj).1
          have : C.getD j undef = f1 j := by
            rw [← hC]
            simp [Array.getD_eq_getD_getElem?, Array.getElem?_append_left, show j < n * sz by omega]
          rw [this]
          exact hf1 j v hj)
        have hsz2 : 0 + N * sz ≤ (⟨w.heap.size, C.size, 0⟩ : Loc).size := by show 0 + N * sz ≤ C.size; omega
        exact .of_run (exec_append ho hc ha ht (by rw [hcx]; exact hrun)) (.sln h.length 0 n sz ag ⟨w.heap.size, C.size, 0⟩ N (upd_self _ _ _) hNle hsz2) s1 (s2.congr rfl rfl rfl rfl rfl)
      · simp at e5
    · exact pureNew [] none 0 h (by rw [hcx]; rfl) rfl A.sim (.refl' _ _ _ _) (.sl0 _ _) (by simp; omega) e5
  | slx es =>
    cases rx with
    | slx _ b off hp =>
      simp only at e5
      split at e5
      · cases e5
      · exact pureNew es _ _ h hcx rfl A.sim (.refl' _ _ _ _) hp (by omega) e5
  | slt es tok =>
    simp only at e5
    split at e5
    · rename_i htok
      split at e5
      · cases e5
      · rename_i hne
        have hne' : es ≠ [] := by intro e0; subst e0; simp at hne
        cases rx with
        | slt _ _ b off cap sz' loc g1 g2 g3 g4 g5 g6 g7 g8 =>
          by_cases hroom : es.length + n ≤ cap
          · split at e5
            · rename_i hcond
              simp only [Bool.and_eq_true, decide_eq_true_eq] at hcond
              obtain ⟨⟨⟨q1, q2⟩, q3⟩, q4⟩ := hcond
              split at e5
              · rename_i ps hps
                cases e5
                obtain ⟨cv, w', m', ρ', r1, r2, r3, r4⟩ := append_tok_room (ty := o.type) (ag := ag) AP A.sim (hfr _ (Nat.le_refl _) (by simp)) hor hne' g2 q1 htok g4 g5 g6 g7 g8 hroom hnew hps hf1 (hl w) (hfc' w rfl)
                refine .of_run (exec_append ho hc ha ht (by rw [hcx]; exact r1)) ?_ r3 r4
                simpa using r2
              · simp at e5
            · simp at e5
          · refine pureNew es _ cap (h.set tok .dead) hcx (by simp) (A.sim.kill tok) (Step.kill tok) g2 (by omega) ?_
            exact e5
    · cases e5
  | sln id off len sz' ag' =>
    simp only at e5
    split at e5
    · rename_i cs _ hid
      split at e5
      · rename_i hcond
        obtain ⟨q1, q2, q3, q4, q5, q6, q7⟩ := hcond
        cases e5
        subst q1; subst q2; subst q3
        obtain ⟨cv, w', ρ', r1, r2, r3, r4⟩ := append_sln (ty := o.type) AP A.sim (hfr _ (Nat.le_refl _) (by simp)) hid rx q4 q5 hnew hf1 (hl w) hfc'
        exact .of_run (exec_append ho hc ha ht (by rw [hcx]; exact r1)) r2 r3 r4
      · simp at e5
    · simp at e5
  | _ => simp at e5

theorem op_copy [Base] (A : At m ρ a ts h w) {c : Call} {x y : Operand} {ax ay : AOperand} {t u e : TypeId} {sz : Nat} {vx vy : V} {d s : Nat} {new : List V} {h' : Heap} (hd : P.underlying t = some (.slice e)) (hsz : sizeT P e = some sz) (hpos : 0 < sz)
    (ho : o.op = .call c) (hc : c.callee = .builtin .copy) (ha : c.args.toList = [x, y]) (ht : c.argTypes.toList = [t, u]) (h1 : trX x = some ax) (h2 : trX y = some ay) (e1 : St.eval ts ax = some vx) (e2 : St.eval ts ay = some vy)
    (e3 : lenA vx = some d) (e4 : lenA vy = some s) (e5 : srcCells h sz vy = some new) (hslx : isSlV vx = true) (e6 : copyA h sz vx (Nat.min s d) (new.take (Nat.min s d * sz)) = some h') :
    Done P a o w (ent h) (ent h') h.length h'.length m ρ (.pv (.int .i64 (Nat.min s d))) := by
  have rx := A.x (a := a) h1 e1
  have ry := A.x (a := a) h2 e2
  obtain ⟨f1, hnew, hf1, hl, hfc⟩ := src_ok (P := P) A.sim e4 e5 ry
  simp only [sizeT, Option.map_eq_some_iff] at hsz
  obtain ⟨i, hi, rfl⟩ := hsz
  have ha' : c.args = #[x, y] := by rw [← Array.toArray_toList (xs := c.args), ha]
  have ht' : c.argTypes = #[t, u] := by rw [← Array.toArray_toList (xs := c.argTypes), ht]
  have hf2 := hfc w (Nat.min s d) rfl (Nat.min_le_left s d)
  obtain ⟨cx, hcx⟩ : ∃ cx, a.eval x = cx := ⟨_, rfl⟩
  have hlenx := lenOf_ok e3 rx
  obtain ⟨base, l, cap, hx, hle⟩ := isSl_ok hslx rx
  have hll : l = d := by
    rcases hlenx with ⟨s0, q, _⟩ | ⟨ad, cap', q, _⟩
    · rw [q] at hx; cases hx
    · rw [q] at hx; cases hx; rfl
  subst hll
  have run : ∀ w', (match base with | some ad => (storeCells ad (((List.range (Nat.min s l * i.size)).map f1).toArray).toList).run P w = .ok () w' | none => w' = w) → (execOp a.eval o).run P w = .ok (.value (.int .i64 (Nat.min s l))) w' := by
    intro w' hw
    simp only [execOp, ho, resolve, hc, ha', ht', Sem.run_bind, Sem.run_pure, Result.andThen_ok, invoke, builtin]
    simp only [List.map_toArray, List.map_cons, List.map_nil, Builtin.copy_, List.getElem?_toArray, List.getElem?_cons_zero, List.getElem?_cons_succ, Sem.run_bind, run_underlying hd, Result.andThen_ok, hx, hl, run_size hi]
    rw [hf2]
    simp only [Result.andThen_ok]
    cases base with
    | none => simp only at hw; subst hw; simp [goInt]
    | some ad => simp only at hw; simp only [Sem.run_bind, hw, Result.andThen_ok, Sem.run_pure]; rfl
  unfold copyA at e6
  by_cases hn : Nat.min s l = 0
  · rw [if_pos hn] at e6
    cases e6
    refine .same A.sim (run w ?_) (.pv _ _ (.int _ _))
    rw [hn]
    cases base <;> simp [storeCells]
  · rw [if_neg hn] at e6
    split at e6
    · rename_i id off len sz' ag
      split at e6
      · rename_i cs _ hid
        split at e6
        · rename_i hcond
          obtain ⟨q1, q2, q3, q4, q5⟩ := hcond
          cases e6
          subst q1
          rw [hx] at rx
          cases rx with
          | sln _ _ _ _ _ loc _ hloc hcap hsize =>
            obtain ⟨l0, c0, e0, fz, g1, glo, g2, g3, g4, g5, g6, g7⟩ := A.sim.blk id cs hid
            have hll : loc = l0 := Option.some.inj (hloc.symm.trans g1)
            subst hll
            have hbl := lt_of_heap g2
            have hk := Nat.mul_le_mul_right i.size q2
            have hall : ∀ (j : Nat) (v : V), (new.take (Nat.min s l * i.size))[j]? = some v → v.isCell = true ∧ R m ρ v (f1 j) := by
              intro j v hj
              have hlt : j < Nat.min s l * i.size := by
                have := (List.getElem?_eq_some_iff.1 hj).1
                simp at this
                omega
              rw [List.getElem?_take_of_lt hlt] at hj
              exact hf1 j v hj
            have hone : ∀ y ∈ ((List.range (Nat.min s l * i.size)).map f1).toArray.toList, y.oneCell' = true := by
              intro y hy
              simp only [List.mem_map, List.mem_range] at hy
              obtain ⟨j, hj, rfl⟩ := hy
              have hc : (new.take (Nat.min s l * i.size))[j]? = some (new.take (Nat.min s l * i.size))[j] := List.getElem?_eq_getElem (by omega)
              exact one_of (hall j _ hc).2 (hall j _ hc).1
            obtain ⟨c', r1, r2, r3⟩ := run_storeCells (P := P) loc.blk off e0 fz ((List.range (Nat.min s l * i.size)).map f1).toArray.toList 0 c0 w g2 g4 (by simp; omega) hone
            simp only [List.length_map, List.length_range, Nat.add_zero] at r3
            obtain ⟨s1, s2⟩ := A.sim.write hid (splice cs off (new.take (Nat.min s l * i.size))) { w with heap := w.heap.setIfInBounds loc.blk (.cells c' e0 fz) } c' loc e0 fz glo.2 hloc (heap_set hbl) (by omega) (by rw [r2]; exact g4)
              (by rw [splice_length (by omega)]; omega)
              (fun j v hj => by
                rw [splice_get (by omega), q4] at hj
                rw [r3 j]
                split at hj
                · rename_i hr
                  rw [if_pos hr]
                  have := hall _ v hj
                  simpa [List.getD, show j - off < Nat.min s l * i.size by omega] using this
                · rename_i hr
                  rw [if_neg hr]
                  exact g6 j v hj) (fun k hk => by simp [Ne.symm hk]) (by simp) rfl rfl rfl
            exact .of_run (run _ (by simp only; exact r1)) (.pv _ _ (.int _ _)) s1 s2
        · simp at e6
      · simp at e6
    · simp at e6

theorem op_len [Base] (A : At m ρ a ts h w) {c : Call} {x : Operand} {ax : AOperand} {t : TypeId} {vx : V} {n : Nat} (hd : P.underlying t = some .string ∨ ∃ e, P.underlying t = some (.slice e)) (hsl : P.underlying t = some .string → isSlV vx = false) (hsl2 : P.underlying t ≠ some .string → isSlV vx = true)
    (ho : o.op = .call c) (hc : c.callee = .builtin .len) (ha : c.args.toList = [x]) (ht : c.argTypes.toList = [t]) (h1 : trX x = some ax) (e1 : St.eval ts ax = some vx) (e3 : lenA vx = some n) :
    Done P a o w (ent h) (ent h) h.length h.length m ρ (.pv (.int .i64 n)) := by
  have rx := A.x (a := a) h1 e1
  have ha' : c.args = #[x] := by rw [← Array.toArray_toList (xs := c.args), ha]
  have ht' : c.argTypes = #[t] := by rw [← Array.toArray_toList (xs := c.argTypes), ht]
  refine .same A.sim ?_ (.pv _ _ (.int _ _))
  rcases hd with hd | ⟨e, hd⟩
  · rcases lenOf_ok e3 rx with ⟨s0, q, hs⟩ | ⟨ad, cap', q, _⟩
    · simp [execOp, ho, resolve, hc, ha', ht', invoke, builtin, Builtin.len_, run_underlying hd, q, hs, goInt]
    · have := hsl hd
      cases vx <;> simp [isSlV] at this <;> simp [lenA] at e3
      rename_i p
      cases p <;> simp at this <;> simp at e3
      rw [rx.str] at q; cases q
  · obtain ⟨base, l, cap, hx, hle⟩ := isSl_ok (hsl2 (by rw [hd]; simp)) rx
    rcases lenOf_ok e3 rx with ⟨s0, q, hs⟩ | ⟨ad, cap', q, _⟩
    · rw [q] at hx; cases hx
    · simp [execOp, ho, resolve, hc, ha', ht', invoke, builtin, Builtin.len_, run_underlying hd, q, goInt]

end
end Ab
