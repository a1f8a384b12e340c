/- Operations of package unsafe, and functions without a body that hand on or make memory. -/
import Derived.Test.YtcggaaheaahinaaDoorAbOpMain
import Derived.Lib.Builder
import Derived.Lib.UnsafeStr
import Derived.Lib.MakeNoZero
import Derived.Laws.Externs
namespace Ab
open Go


variable {P : Program} {m : Imm} {ρ : Rho}

section
variable {a : Act} {ts : List V} {h : Heap} {w : World} {o : Oper}

theorem evals1 {ax : AOperand} {vs : List V} (h : evals ts [ax] = some vs) : ∃ v, vs = [v] ∧ St.eval ts ax = some v := by
  simp only [evals] at h
  split at h
  · rename_i v _ e1 e2; cases e2; cases h; exact ⟨v, rfl, e1⟩
  · cases h

theorem evals2 {ax ay : AOperand} {vs : List V} (h : evals ts [ax, ay] = some vs) : ∃ v u, vs = [v, u] ∧ St.eval ts ax = some v ∧ St.eval ts ay = some u := by
  simp only [evals] at h
  split at h
  · rename_i v _ e1 e2
    split at e2
    · rename_i u _ e3 e4; cases e4; cases e2; cases h; exact ⟨v, u, rfl, e1, e3⟩
    · cases e2
  · cases h

theorem args1 {c : Call} {x : Operand} (h : c.args.toList = [x]) : c.args = #[x] := by rw [← Array.toArray_toList (xs := c.args), h]
theorem args2 {c : Call} {x y : Operand} (h : c.args.toList = [x, y]) : c.args = #[x, y] := by rw [← Array.toArray_toList (xs := c.args), h]

/-- A variable lies where it begins. -/
theorem lies_self {u : TypeId} (hc : 0 < P.cellsOf u) {count : Nat} (hn : 1 ≤ count) : liesAt P P.depth u count 0 u 1 = true := by
  have hd : P.depth = (2 * (P.types.size + Made.depth) + 1) + 1 := rfl
  rw [hd]
  simp only [liesAt, Bool.or_eq_true]
  left
  rw [hd]
  have : ¬ P.cellsOf u = 0 := by omega
  simp [rowAt, this, hn, sameLayout]

theorem shape_of {b : Nat} {c : Array Value} {e : TypeId} {fz : Nat × Nat} (h : w.heap[b]? = some (.cells c e fz)) : w.shape? b = some (e, c.size) := by simp [World.shape?, h]

theorem sp_toUnsafe [Base] (A : At m ρ a ts h w) {s d t : TypeId} {i : TypeInfo} {x : Operand} {ax : AOperand} {id off : Nat} {cs : List V} {tb : Option TypeId} (ho : o.op = .convert s d x) (hs : P.underlying s = some (.pointer t)) (hd : P.underlying d = some .unsafePointer)
    (hi : P.info? t = some i) (hz : i.size ≠ 0) (h1 : trX x = some ax) (e1 : St.eval ts ax = some (.ptr id off)) (hid : ent h id = .blk cs tb) (hlt : off < cs.length) : Done P a o w (ent h) (ent h) h.length h.length m ρ (.ptr id off) := by
  have rx := A.x (a := a) h1 e1
  obtain ⟨cx, hcx⟩ : ∃ cx, a.eval x = cx := ⟨_, rfl⟩
  rw [hcx] at rx
  have rx0 := rx
  cases rx with
  | ptr _ _ loc hloc =>
    obtain ⟨l0, c0, e0, fz, g1, _, g2, g3, _, g5, _⟩ := A.sim.blk id cs hid
    have hll : loc = l0 := Option.some.inj (hloc.symm.trans g1)
    subst hll
    have hsh : w.shape? (⟨loc.blk, off, none⟩ : Addr).block = some (e0, c0.size) := shape_of g2
    have := Lib.run_to_unsafe w ⟨loc.blk, off, none⟩ hs hd hi hz hsh (by show off < c0.size; omega)
    exact .same A.sim (by simp [execOp, ho, hcx, this]) rx0

theorem sp_ofUnsafe [Base] (A : At m ρ a ts h w) {s d u : TypeId} {x : Operand} {ax : AOperand} {id : Nat} {cs : List V} (ho : o.op = .convert s d x) (hs : P.underlying s = some .unsafePointer) (hd : P.underlying d = some (.pointer u))
    (hi : (P.info? u).isSome = true) (hz : 0 < P.cellsOf u) (h1 : trX x = some ax) (e1 : St.eval ts ax = some (.ptr id 0)) (hid : ent h id = .blk cs (some u)) (hle : P.cellsOf u ≤ cs.length) : Done P a o w (ent h) (ent h) h.length h.length m ρ (.ptr id 0) := by
  have rx := A.x (a := a) h1 e1
  obtain ⟨cx, hcx⟩ : ∃ cx, a.eval x = cx := ⟨_, rfl⟩
  rw [hcx] at rx
  have rx0 := rx
  cases rx with
  | ptr _ _ loc hloc =>
    obtain ⟨l0, c0, e0, fz, g1, glo, g2, g3, _, g5, _⟩ := A.sim.blk id cs hid
    have hll : loc = l0 := Option.some.inj (hloc.symm.trans g1)
    subst hll
    have he := glo.2 u rfl
    subst he
    have hsh : w.shape? (⟨loc.blk, 0, none⟩ : Addr).block = some (e0, c0.size) := shape_of g2
    obtain ⟨j, hj⟩ := Option.isSome_iff_exists.1 hi
    have := Lib.run_from_unsafe w ⟨loc.blk, 0, none⟩ hs hd hj hsh (lies_self hz (by rw [Nat.le_div_iff_mul_le hz]; omega))
    exact .same A.sim (by simp [execOp, ho, hcx, this]) rx0

theorem sp_sliceKeep [Base] (A : At m ρ a ts h w) {t e : TypeId} {sz : Nat} {x hi : Operand} {ax ay : AOperand} {id off len k : Nat} {ag : Bool} {u : V} (ho : o.op = .slice t x none (some hi) none) (hd : P.underlying t = some (.slice e)) (hsz : sizeT P e = some sz)
    (h1 : trX x = some ax) (h2 : trX hi = some ay) (e1 : St.eval ts ax = some (.sln id off len sz ag)) (e2 : St.eval ts ay = some u) (e3 : natOf? u = some k) (hk : k ≤ len) : Done P a o w (ent h) (ent h) h.length h.length m ρ (.sln id off k sz ag) := by
  have r1 := A.x (a := a) h1 e1
  have r2 := A.x (a := a) h2 e2
  simp only [sizeT, Option.map_eq_some_iff] at hsz
  obtain ⟨i, hi', rfl⟩ := hsz
  obtain ⟨cx, hcx⟩ : ∃ cx, a.eval x = cx := ⟨_, rfl⟩
  rw [hcx] at r1
  cases r1 with
  | sln _ _ _ _ _ loc cap hloc hcap hsize =>
    have hb : bounds len none (some u) = some (0, k) := by simp only [bounds, e3]; simp [hk]
    obtain ⟨k1, k2, k3⟩ := bounds_ok (P := P) w true hb hcap (show RO m ρ none (none : Option Value) from trivial) (show RO m ρ (some u) (some (a.eval hi)) from r2)
    have hrun : (execOp a.eval o).run P w = .ok (.value (.slice (some ⟨loc.blk, off, none⟩) k cap)) w := by
      have hb2 : (Instr.sliceBounds true len cap none (some (a.eval hi)) none).run P w = .ok (0, k, cap) w := k1
      simp [execOp, ho, hcx, Instr.sliceAt, run_underlying hd, Instr.slice, hb2, run_size hi', add_eq]
    exact .same A.sim hrun (.sln id off k i.size ag loc cap hloc (by omega) hsize)

theorem sp_cap [Base] (A : At m ρ a ts h w) {c : Call} {x : Operand} {ax : AOperand} {t e : TypeId} (hd : P.underlying t = some (.slice e)) (ho : o.op = .call c) (hc : c.callee = .builtin .cap) (ha : c.args.toList = [x]) (ht : c.argTypes.toList = [t]) (h1 : trX x = some ax) (e1 : St.eval ts ax = some .nils) :
    Done P a o w (ent h) (ent h) h.length h.length m ρ (.pv (.int .i64 0)) := by
  have rx := A.x (a := a) h1 e1
  obtain ⟨cx, hcx⟩ : ∃ cx, a.eval x = cx := ⟨_, rfl⟩
  rw [hcx] at rx
  cases rx
  have ht' : c.argTypes = #[t] := by rw [← Array.toArray_toList (xs := c.argTypes), ht]
  refine .same A.sim ?_ (.pv _ _ (.int .i64 0))
  simp [execOp, ho, resolve, hc, args1 ha, ht', invoke, builtin, Builtin.cap_, run_underlying hd, hcx, goInt]

theorem sp_sliceData_nil [Base] (A : At m ρ a ts h w) {c : Call} {x : Operand} {ax : AOperand} (ho : o.op = .call c) (hc : c.callee = .builtin .unsafeSliceData) (ha : c.args.toList = [x]) (h1 : trX x = some ax) (e1 : St.eval ts ax = some .nils) :
    Done P a o w (ent h) (ent h) h.length h.length m ρ (.pv .nilp) := by
  have rx := A.x (a := a) h1 e1
  obtain ⟨cx, hcx⟩ : ∃ cx, a.eval x = cx := ⟨_, rfl⟩
  rw [hcx] at rx
  cases rx
  refine .same A.sim ?_ (.pv _ _ .nilp)
  simp [execOp, ho, resolve, hc, args1 ha, invoke, builtin, Lib.run_unsafeSliceData_nil, hcx]

theorem sp_sliceData [Base] (A : At m ρ a ts h w) {c : Call} {x : Operand} {ax : AOperand} {id off len sz : Nat} {ag : Bool} (ho : o.op = .call c) (hc : c.callee = .builtin .unsafeSliceData) (ha : c.args.toList = [x]) (h1 : trX x = some ax) (e1 : St.eval ts ax = some (.sln id off len sz ag)) (hlen : 0 < len) :
    Done P a o w (ent h) (ent h) h.length h.length m ρ (.ptr id off) := by
  have rx := A.x (a := a) h1 e1
  obtain ⟨cx, hcx⟩ : ∃ cx, a.eval x = cx := ⟨_, rfl⟩
  rw [hcx] at rx
  cases rx with
  | sln _ _ _ _ _ loc cap hloc hcap hsize =>
    refine .same A.sim ?_ (.ptr id off loc hloc)
    simp [execOp, ho, resolve, hc, args1 ha, invoke, builtin, hcx, Lib.run_unsafeSliceData_row w _ _ _ _ _ (show cap ≠ 0 by omega)]

theorem sp_samePtr [Base] (A : At m ρ a ts h w) {op : BinOp} {t te yt : TypeId} {x y : Operand} {ax ay : AOperand} {id off : Nat} {v : V} (ho : o.op = .binOp op t x y yt) (hd : P.underlying t = some (.pointer te)) (hi : (P.info? te).isSome = true) (h1 : trX x = some ax) (h2 : trX y = some ay)
    (e1 : St.eval ts ax = some (.ptr id off)) (e2 : St.eval ts ay = some (.ptr id off)) (e3 : eqRes op true = some v) : Done P a o w (ent h) (ent h) h.length h.length m ρ v := by
  have rx := A.x (a := a) h1 e1
  have ry := A.x (a := a) h2 e2
  obtain ⟨cx, hcx⟩ : ∃ cx, a.eval x = cx := ⟨_, rfl⟩
  obtain ⟨cy, hcy⟩ : ∃ cy, a.eval y = cy := ⟨_, rfl⟩
  rw [hcx] at rx
  rw [hcy] at ry
  cases rx with
  | ptr _ _ loc hloc =>
    cases ry with
    | ptr _ _ loc' hloc' =>
      have hll : loc = loc' := Option.some.inj (hloc.symm.trans hloc')
      subst hll
      obtain ⟨j, hj⟩ := Option.isSome_iff_exists.1 hi
      have he : (Op.equal t (.pointer (some ⟨loc.blk, off, none⟩)) (.pointer (some ⟨loc.blk, off, none⟩))).run P w = .ok true w := by
        have h : ∀ d : Nat, (Op.equalIn (d + 1) t (.pointer (some ⟨loc.blk, off, none⟩)) (.pointer (some ⟨loc.blk, off, none⟩))).run P w = .ok true w := fun d => by
          simp [Op.equalIn, run_underlying hd, Go.sizeOf, typeInfo, hj, run_sameAddr_same]
        simp [Op.equal, Op.maxDepth, h 9999]
      obtain ⟨cv, r1, r2⟩ := eqRes_run (m := m) (ρ := ρ) w e3 ⟨by simp, by simp, by simp, by simp⟩ he
      refine .same A.sim ?_ r2
      rcases eqRes_ok e3 with ⟨rfl, _⟩ | ⟨rfl, _⟩ <;> simp [execOp, ho, hcx, hcy, r1, eqGuard]

theorem extern_run {c : Call} {f : FuncId} {fn : Func} {e : Array Value → Sem Value} {w' : World} {cv : Value} (ho : o.op = .call c) (hc : c.callee = .value (.func f)) (hf : P.funcs[f]? = some fn) (hname : (fn.name == "runtime.NumGoroutine") = false)
    (hb : fn.body.isNone = true) (hn : Extern.findNext fn = none) (he : Extern.find fn = some e) (hr : (e (c.args.map a.eval)).run P w = .ok cv w') : (execOp a.eval o).run P w = .ok (.value cv) w' := by
  have hrun : (execOp a.eval o).run P w = (callFunc f (c.args.map a.eval)).run P w := by
    simp [execOp, ho, resolve, hc, Act.eval, Deferred.ofValue, invoke]
  rw [hrun, run_callFunc_extern hf hname hb hn he, hr]
  rfl

theorem next_noEscape : Extern.allNextRows.lookup "internal/abi.NoEscape" = none := by rfl
theorem next_empty : Extern.allNextRows.lookup "" = none := by rfl
theorem next_makeNoZero : Extern.allNextRows.lookup "internal/bytealg.MakeNoZero" = none := by rfl
theorem gen_noEscape : Extern.allGenericRows.lookup "internal/abi.NoEscape" = none := by rfl
theorem typed_noEscape : Extern.allTypedRows.lookup "internal/abi.NoEscape" = none := by rfl
theorem row_noEscape : Extern.allRows.lookup "internal/abi.NoEscape" = some Extern.AbiNoEscape.same := by rfl
theorem gen_makeNoZero : Extern.allGenericRows.lookup "internal/bytealg.MakeNoZero" = none := by rfl
theorem typed_makeNoZero : Extern.allTypedRows.lookup "internal/bytealg.MakeNoZero" = some Extern.BytealgMakeNoZero.makeNoZero := by rfl

theorem sp_noEscape [Base] (A : At m ρ a ts h w) {c : Call} {f : FuncId} {fn : Func} {x : Operand} {ax : AOperand} {v : V} (ho : o.op = .call c) (hc : c.callee = .value (.func f)) (hf : P.funcs[f]? = some fn) (hb : fn.body.isNone = true) (horg : fn.origin = "") (hnm : fn.name = "internal/abi.NoEscape")
    (ha : c.args.toList = [x]) (h1 : trX x = some ax) (e1 : St.eval ts ax = some v) : Done P a o w (ent h) (ent h) h.length h.length m ρ v := by
  refine .same A.sim (extern_run ho hc hf (by rw [hnm]; decide) hb ?_ (e := Extern.AbiNoEscape.same) ?_ ?_) (A.x (a := a) h1 e1)
  · simp only [Extern.findNext, hnm, horg, next_noEscape, next_empty]; rfl
  · simp only [Extern.find, hnm, gen_noEscape, typed_noEscape, row_noEscape]; rfl
  · rw [args1 ha, show (#[x].map a.eval) = #[a.eval x] by simp]; rfl

theorem sp_mkRoom [Base] (A : At m ρ a ts h w) (hf0 : ρ h.length = none) {c : Call} {f : FuncId} {fn : Func} {x : Operand} {ax : AOperand} {t e : TypeId} {i : Int} (ho : o.op = .call c) (hc : c.callee = .value (.func f)) (hf : P.funcs[f]? = some fn) (hb : fn.body.isNone = true) (horg : fn.origin = "") (hnm : fn.name = "internal/bytealg.MakeNoZero")
    (ha : c.args.toList = [x]) (hr : fn.resultTypes.toList = [t]) (hd : P.underlying t = some (.slice e)) (h1 : trX x = some ax) (e1 : St.eval ts ax = some (.pv (.int .i64 i))) (h0 : 0 ≤ i) (hg : i.toNat ≤ growMax) :
    Done P a o w (ent h) (ent (h ++ [.blk [] (some e)])) h.length (h ++ [Ent.blk [] (some e)]).length m ρ (.sln h.length 0 i.toNat 1 false) := by
  have rx := (A.x (a := a) h1 e1).int
  obtain ⟨n, rfl⟩ := Int.eq_ofNat_of_zero_le h0
  have hr' : fn.resultTypes = #[t] := by rw [← Array.toArray_toList (xs := fn.resultTypes), hr]
  obtain ⟨cs, r1, r2, _⟩ := Lib.run_makeNoZero (P := P) w fn.params t e hd n (by unfold growMax at hg; simp at hg; omega)
  have hs2 : Sim m ρ (ent h) w.drew.drew := A.sim.congr rfl fun _ => rfl
  obtain ⟨s1, s2⟩ := hs2.alloc hf0 [] cs e (some e) (fun x hx => by cases hx; rfl) (by simp) (fun j v hj => by simp at hj)
  refine .of_run (extern_run ho hc hf (by rw [hnm]; decide) hb ?_ (e := Extern.BytealgMakeNoZero.makeNoZero fn.params fn.resultTypes) ?_ ?_) (.sln h.length 0 n 1 false ⟨w.heap.size, cs.size, 0⟩ cs.size (upd_self _ _ _) r2 (by simp)) s1 (s2.congr rfl rfl rfl rfl rfl)
  · simp only [Extern.findNext, hnm, horg, next_makeNoZero, next_empty]; rfl
  · simp only [Extern.find, hnm, gen_makeNoZero, typed_makeNoZero]; rfl
  · rw [args1 ha, hr']
    have : (#[x].map a.eval) = #[.int .i64 (n : Int)] := by simp [rx]
    rw [this]
    exact r1

theorem sp_usString_nil [Base] (A : At m ρ a ts h w) {c : Call} {x y : Operand} {ax ay : AOperand} {pt it : TypeId} (ho : o.op = .call c) (hc : c.callee = .builtin .unsafeString) (ha : c.args.toList = [x, y]) (ht : c.argTypes.toList = [pt, it])
    (h1 : trX x = some ax) (h2 : trX y = some ay) (e1 : St.eval ts ax = some (.pv .nilp)) (e2 : St.eval ts ay = some (.pv (.int .i64 0))) : Done P a o w (ent h) (ent h) h.length h.length m ρ (.pv (.str [])) := by
  have rx := A.x (a := a) h1 e1
  have ry := (A.x (a := a) h2 e2).int
  obtain ⟨cx, hcx⟩ : ∃ cx, a.eval x = cx := ⟨_, rfl⟩
  rw [hcx] at rx
  cases rx.pure
  have ht' : c.argTypes = #[pt, it] := by rw [← Array.toArray_toList (xs := c.argTypes), ht]
  refine .same A.sim (cv := .string .empty) ?_ (.pv _ _ (.str []))
  simp [execOp, ho, resolve, hc, args2 ha, ht', invoke, builtin, hcx, ry, Lib.run_unsafeString_none]

theorem sp_usString [Base] (A : At m ρ a ts h w) {c : Call} {x y : Operand} {ax ay : AOperand} {pt it e : TypeId} {id : Nat} {i : Int} {cs : List V} {ps : List PV} {l : List UInt8} (ho : o.op = .call c) (hc : c.callee = .builtin .unsafeString) (ha : c.args.toList = [x, y]) (ht : c.argTypes.toList = [pt, it])
    (hp : P.underlying pt = some (.pointer e)) (hce : P.cellsOf e = 1) (h1 : trX x = some ax) (h2 : trX y = some ay) (e1 : St.eval ts ax = some (.ptr id 0)) (e2 : St.eval ts ay = some (.pv (.int .i64 i))) (hid : ent h id = .blk cs (some e)) (hpos : 0 < i) (hle : i.toNat ≤ cs.length) (hg : i.toNat ≤ growMax)
    (hw : weak.weakL (cs.take i.toNat) = some ps) (hin : ps.all inByte = true) (hl : bytesOf? ps = some l) : Done P a o w (ent h) (ent (h.set id .dead)) h.length (h.set id Ent.dead).length m ρ (.pv (.str l)) := by
  have rx := A.x (a := a) h1 e1
  have ry := (A.x (a := a) h2 e2).int
  obtain ⟨cx, hcx⟩ : ∃ cx, a.eval x = cx := ⟨_, rfl⟩
  rw [hcx] at rx
  have ht' : c.argTypes = #[pt, it] := by rw [← Array.toArray_toList (xs := c.argTypes), ht]
  obtain ⟨n, rfl⟩ := Int.eq_ofNat_of_zero_le (Int.le_of_lt hpos)
  simp only [Int.toNat_natCast] at hle hg hw
  obtain ⟨k1, k2, k3⟩ := bytesOf_ok hl
  cases rx with
  | ptr _ _ loc hloc =>
    obtain ⟨l0, c0, e0, fz, g1, glo, g2, g3, g4, g5, g6, g7⟩ := A.sim.blk id cs hid
    have hll : loc = l0 := Option.some.inj (hloc.symm.trans g1)
    subst hll
    have he := glo.2 e rfl
    subst he
    have hbl := lt_of_heap g2
    obtain ⟨w1, w2⟩ := weakL_ok (m := m) (ρ := ρ) hw
    have hps : ps.length = n := by rw [w1]; simp; omega
    have hll : l.length = n := by omega
    have hcell : ∀ j x, l[j]? = some x → w.cell? ((⟨loc.blk, 0, none⟩ : Addr).add j) = some (.int .u8 x.toNat) := by
      intro j x hj
      have hjn : j < n := by have := (List.getElem?_eq_some_iff.1 hj).1; omega
      obtain ⟨k, q1, q2⟩ := k3 j _ (List.getElem?_eq_getElem (by omega : j < ps.length))
      have hct : (cs.take n)[j]? = some (cs[j]'(by omega)) := by rw [List.getElem?_take, if_pos hjn]; exact List.getElem?_eq_getElem (by omega)
      have hr := (w2 j _ _ hct (List.getElem?_eq_getElem (by omega : j < ps.length))).2 _ (g6 j _ (List.getElem?_eq_getElem (by omega))).2
      rw [q1] at hr
      have hv : c0.getD j undef = .int .u8 k := by cases h8 : c0.getD j undef <;> rw [h8] at hr <;> cases hr; rfl
      have hb : inByte (ps[j]'(by omega)) = true := List.all_eq_true.1 hin _ (List.getElem_mem _)
      rw [q1] at hb
      simp only [inByte, Bool.and_eq_true, decide_eq_true_eq] at hb
      rw [hj] at q2
      have hx := Option.some.inj q2
      have hxn : (x.toNat : Int) = k := by
        rw [hx]
        simp only [UInt8.toNat_ofNat']
        omega
      rw [add_eq, Nat.zero_add, hxn, ← hv]
      simp [World.cell?, g2, show j < c0.size by omega]
    have hne : l ≠ [] := by intro e; rw [e] at hll; simp at hll; omega
    have hrun := Lib.run_unsafeString_row (P := P) w pt it o.type e0 hp hce loc.blk c0.size (shape_of g2) l hne (by omega) (by unfold growMax at hg; omega) hcell
    obtain ⟨fz', hweq⟩ : ∃ fz', w.freeze ⟨loc.blk, 0, none⟩ l.length = { w with heap := w.heap.setIfInBounds loc.blk (.cells c0 e0 fz') } := by
      refine ⟨if fz.1 == fz.2 then (0, 0 + l.length) else (min fz.1 0, max fz.2 (0 + l.length)), ?_⟩
      simp only [World.freeze]
      rw [if_neg (by omega)]
      congr 1
      apply Array.ext_getElem?
      intro j
      simp only [Array.getElem?_modify, Array.getElem?_setIfInBounds]
      by_cases hj : loc.blk = j
      · subst hj
        rw [if_pos rfl, if_pos rfl, if_pos hbl, g2]
        obtain ⟨f1, f2⟩ := fz
        simp only [Option.map_some]
      · simp [hj]
    have hk := A.sim.kill id
    have hnl : ¬ live (ent (h.set id .dead) id) := by
      rcases Nat.lt_or_ge id h.length with q | q
      · rw [ent_set_self q]; simp [live]
      · rw [ent_ge (by simpa using q)]; simp [live]
    have hlive : live (ent h id) := by rw [hid]; simp [live]
    have other : ∀ j l', live (ent (h.set id .dead) j) → ρ j = some l' → l'.blk ≠ loc.blk := by
      intro j l' hj hr hb
      by_cases hji : id = j
      · subst hji; exact hnl hj
      · rw [ent_set_ne hji] at hj
        exact hji (A.sim.inj j id l' loc hj hlive hr hloc hb).symm
    have sK : Sim m ρ (ent (h.set id .dead)) { w with heap := w.heap.setIfInBounds loc.blk (.cells c0 e0 fz') } := by
      refine hk.grow (.refl m) (.refl ρ) (fun j l' hj hr => ⟨?_, fun _ => rfl⟩) (fun b o v hv => ?_)
      · have := other j l' hj hr
        simp [Ne.symm this]
      · by_cases hb : b = loc.blk
        · subst hb; rw [g7 o] at hv; simp at hv
        · have := hk.imm b o v hv
          simpa [World.cell?, Ne.symm hb] using this
    have st : Step (ent h) (ent (h.set id .dead)) h.length h.length m ρ w m ρ { w with heap := w.heap.setIfInBounds loc.blk (.cells c0 e0 fz') } := by
      have k := Step.kill (m := m) (ρ := ρ) (h := h) (w := w) id
      refine ⟨k.imm, k.rho, k.old, fun j l' hj hl hr => k.new j l' hj hl hr, fun b hb hno => ?_, k.fresh, by simp, rfl, rfl, rfl⟩
      have : b ≠ loc.blk := fun e => hno ⟨id, loc, hlive, hloc, e.symm⟩
      simp [Ne.symm this]
    have hlen : (h.set id Ent.dead).length = h.length := by simp
    rw [hlen]
    refine .of_run (cv := .string ⟨l.toArray⟩) (w' := { w with heap := w.heap.setIfInBounds loc.blk (.cells c0 e0 fz') }) ?_ (.pv _ _ (.str l)) sK st
    rw [← hweq]
    rw [hll] at hrun ⊢
    simp [execOp, ho, resolve, hc, args2 ha, ht', invoke, builtin, hcx, ry, hrun]

theorem sp_later [Base] (A : At m ρ a ts h w) {c : Call} {t : Tmp} {u : V} {f : FuncId} (ho : o.op = .defer c) (hc : c.callee = .value (.tmp t)) (ha : c.args.toList = []) (e1 : St.eval ts (.tmp t) = some u) {k : Nat} (hu : (∃ cs, u = .fn f cs ∧ cs.length = k) ∨ ∃ cs, u = .pv (.fn f cs) ∧ cs.length = k) (hi : (f, k) ∈ Base.idle) :
    Done P a o w (ent h) (ent h) h.length h.length m ρ (.tup []) := by
  intro next Q hn
  have rx := A.x (a := a) (x := .tmp t) rfl e1
  obtain ⟨ccs, hx, hsz⟩ : ∃ ccs : Array Value, a.eval (.tmp t) = .func (.func f) #[] ccs ∧ ccs.size = k := by
    obtain ⟨cx, hcx⟩ : ∃ cx, a.eval (.tmp t) = cx := ⟨_, rfl⟩
    rw [hcx] at rx ⊢
    rcases hu with ⟨cs, rfl, hk⟩ | ⟨cs, rfl, hk⟩
    · cases rx with
      | fn _ _ vs hl hr => exact ⟨vs, rfl, hl.trans hk⟩
    · cases rx.pure with
      | fn _ _ vs hl hr => exact ⟨vs, rfl, hl.trans hk⟩
  have ha' : c.args = #[] := by rw [← Array.toArray_toList (xs := c.args), ha]
  have hrun : (execOp a.eval o).run P w = .ok (.defer { target := .fn (.func f) ccs, args := #[] }) w := by
    simp [execOp, ho, resolve, hc, hx, ha', Deferred.ofValue]
  unfold Oper.wp
  rw [hrun, Oper.upon_defer]
  refine hn undef w m ρ _ (by cases o.dst <;> rfl) (fun d hd => ?_) (.tup [] #[] rfl (by simp)) A.sim (Step.refl' _ _ _ _)
  rw [put_defers'] at hd
  rcases List.mem_cons.1 hd with rfl | hd
  · exact .inr ⟨f, ccs, by rw [hsz]; exact hi, rfl⟩
  · exact .inl hd

theorem inv_later {u v : V} {h' : Heap} {l : List (FuncId × Nat)} (e : specA (.later l) [u] h = some (v, h')) : h' = h ∧ v = .tup [] ∧ ∃ f k, (f, k) ∈ l ∧ ((∃ cs, u = .fn f cs ∧ cs.length = k) ∨ ∃ cs, u = .pv (.fn f cs) ∧ cs.length = k) := by
  simp only [specA] at e
  split at e
  · split at e
    · rename_i hc; cases e; exact ⟨rfl, rfl, _, _, by simpa using hc, .inl ⟨_, rfl, rfl⟩⟩
    · cases e
  · split at e
    · rename_i hc; cases e; exact ⟨rfl, rfl, _, _, by simpa using hc, .inr ⟨_, rfl, rfl⟩⟩
    · cases e
  · cases e

theorem bareName_some {c : Call} {n : String} {fn : Func} (h : bareName P c = some (n, fn)) : ∃ f, c.callee = .value (.func f) ∧ P.funcs[f]? = some fn ∧ fn.body.isNone = true ∧ fn.origin = "" ∧ fn.name = n := by
  unfold bareName at h
  split at h
  · rename_i f hc
    split at h
    · rename_i fn' hf
      split at h
      · rename_i hcond
        cases h
        exact ⟨f, hc, hf, hcond.1, hcond.2, rfl⟩
      · cases h
    · cases h
  · cases h

theorem inv_toUnsafe {u v : V} {h' : Heap} (e : specA .toUnsafe [u] h = some (v, h')) : ∃ id off cs t, u = .ptr id off ∧ ent h id = .blk cs t ∧ off < cs.length ∧ v = .ptr id off ∧ h' = h := by
  cases u
  case ptr id off =>
    simp only [specA] at e
    split at e
    · rename_i cs t hid
      split at e
      · rename_i hlt; cases e; exact ⟨id, off, cs, t, rfl, hid, hlt, rfl, rfl⟩
      · cases e
    · cases e
  all_goals (simp [specA] at e)

theorem inv_ofUnsafe {u v : V} {h' : Heap} {t : TypeId} {sz : Nat} (e : specA (.ofUnsafe t sz) [u] h = some (v, h')) : ∃ id cs, u = .ptr id 0 ∧ ent h id = .blk cs (some t) ∧ sz ≤ cs.length ∧ v = .ptr id 0 ∧ h' = h := by
  cases u
  case ptr id off =>
    simp only [specA] at e
    split at e
    · rename_i cs t' hid
      split at e
      · rename_i hc; obtain ⟨rfl, rfl, hc⟩ := hc; cases e; exact ⟨id, cs, rfl, hid, hc, rfl, rfl⟩
      · cases e
    · cases e
  all_goals (simp [specA] at e)

theorem inv_cap {u v : V} {h' : Heap} (e : specA .capOf [u] h = some (v, h')) : u = .nils ∧ v = .pv (.int .i64 0) ∧ h' = h := by
  cases u
  case nils => simp only [specA] at e; cases e; exact ⟨rfl, rfl, rfl⟩
  all_goals (simp [specA] at e)

theorem inv_mkRoom {u v : V} {h' : Heap} {t : TypeId} (e : specA (.mkRoom t) [u] h = some (v, h')) : ∃ i, u = .pv (.int .i64 i) ∧ 0 ≤ i ∧ i.toNat ≤ growMax ∧ v = .sln h.length 0 i.toNat 1 false ∧ h' = h ++ [.blk [] (some t)] := by
  unfold specA at e
  split at e
  all_goals try (rename_i h1 _; cases h1; done)
  all_goals try (rename_i h1; cases h1; done)
  all_goals try (rename_i h1 h2; cases h1; done)
  case h_5 h1 h2 =>
    cases h1; cases h2
    split at e
    · rename_i hc; cases e; exact ⟨_, rfl, hc.1, hc.2, rfl, rfl⟩
    · cases e
  all_goals (cases e)

theorem inv_sliceKeep {u1 u2 v : V} {h' : Heap} {sz : Nat} (e : specA (.sliceKeep sz) [u1, u2] h = some (v, h')) : ∃ id off len ag k, u1 = .sln id off len sz ag ∧ natOf? u2 = some k ∧ k ≤ len ∧ v = .sln id off k sz ag ∧ h' = h := by
  cases u1
  case sln id off len sz' ag =>
    simp only [specA] at e
    split at e
    · rename_i k hk
      split at e
      · rename_i hc; obtain ⟨hc, rfl⟩ := hc; cases e; exact ⟨id, off, len, ag, k, rfl, hk, hc, rfl, rfl⟩
      · cases e
    · cases e
  all_goals (simp [specA] at e)

theorem inv_sliceData {u v : V} {h' : Heap} (e : specA .sliceData [u] h = some (v, h')) : (u = .nils ∧ v = .pv .nilp ∧ h' = h) ∨ ∃ id off len sz ag, u = .sln id off len sz ag ∧ 0 < len ∧ v = .ptr id off ∧ h' = h := by
  cases u
  case nils => simp only [specA] at e; cases e; exact .inl ⟨rfl, rfl, rfl⟩
  case sln id off len sz ag =>
    simp only [specA] at e
    split at e
    · rename_i hc; cases e; exact .inr ⟨id, off, len, sz, ag, rfl, hc, rfl, rfl⟩
    · cases e
  all_goals (simp [specA] at e)

theorem inv_noEscape {u v : V} {h' : Heap} (e : specA .noEscape [u] h = some (v, h')) : v = u ∧ h' = h := by
  simp only [specA] at e; cases e; exact ⟨rfl, rfl⟩

theorem inv_samePtr {u1 u2 v : V} {h' : Heap} {op : BinOp} (e : specA (.samePtr op) [u1, u2] h = some (v, h')) : h' = h ∧ ((∃ id off, u1 = .ptr id off ∧ u2 = .ptr id off ∧ eqRes op true = some v) ∨ binA op (.nil .ptr) u1 u2 = some v) := by
  simp only [specA] at e
  split at e
  · split at e
    · rename_i hc; obtain ⟨rfl, rfl⟩ := hc
      simp only [Option.map_eq_some_iff, Prod.mk.injEq] at e
      obtain ⟨v', h1, rfl, rfl⟩ := e
      exact ⟨rfl, .inl ⟨_, _, rfl, rfl, h1⟩⟩
    · cases e
  · simp only [Option.map_eq_some_iff, Prod.mk.injEq] at e
    obtain ⟨v', h1, rfl, rfl⟩ := e
    exact ⟨rfl, .inr h1⟩

theorem nan_bits {k : FloatKind} (x y t : Nat) : nanB k ((Question.nanBits k x y).cut t) = true := by
  cases k
  · have e : Question.cut (.nanBits .f32 x y) t = (t % 2) * 2147483648 + (2139095041 + (t / 2) % 8388607) := by simp only [Question.cut]; omega
    rw [e]
    unfold nanB FloatKind.decode Ieee.Format.read
    have e1 : FloatKind.f32.format.signWeight = 2147483648 := by decide
    have e2 : FloatKind.f32.format.binade = 8388608 := by decide
    have e3 : FloatKind.f32.format.infRung = 2139095040 := by decide
    simp only [e1, e2, e3]
    have em : ((t % 2) * 2147483648 + (2139095041 + (t / 2) % 8388607)) % 2147483648 = 2139095041 + (t / 2) % 8388607 := by omega
    rw [em, if_neg (by omega), if_neg (by omega), if_neg (by omega)]
    rfl
  · have e : Question.cut (.nanBits .f64 x y) t = (t % 2) * 9223372036854775808 + (9218868437227405313 + (t / 2) % 4503599627370495) := by simp only [Question.cut]; omega
    rw [e]
    unfold nanB FloatKind.decode Ieee.Format.read
    have e1 : FloatKind.f64.format.signWeight = 9223372036854775808 := by decide
    have e2 : FloatKind.f64.format.binade = 4503599627370496 := by decide
    have e3 : FloatKind.f64.format.infRung = 9218868437227405312 := by decide
    simp only [e1, e2, e3]
    have em : ((t % 2) * 9223372036854775808 + (9218868437227405313 + (t / 2) % 4503599627370495)) % 9223372036854775808 = 9218868437227405313 + (t / 2) % 4503599627370495 := by omega
    rw [em, if_neg (by omega), if_neg (by omega), if_neg (by omega)]
    rfl

theorem inv_fdiv {u1 u2 v : V} {h' : Heap} {k : FloatKind} (e : specA (.fdiv k) [u1, u2] h = some (v, h')) : h' = h ∧ ∃ a b, u1 = .pv (.flt k a) ∧ u2 = .pv (.flt k b) ∧ nanB k a = false ∧ nanB k b = false ∧
    ((∃ r, k.format.div a b = some r ∧ v = .pv (.flt k r)) ∨ (k.format.div a b = none ∧ v = .pv (.flt k (nanOf k)))) := by
  simp only [specA, Option.map_eq_some_iff, Prod.mk.injEq] at e
  obtain ⟨v', e, rfl, rfl⟩ := e
  refine ⟨rfl, ?_⟩
  unfold fdivA at e
  split at e
  · split at e
    · rename_i a b hk
      obtain ⟨rfl, rfl⟩ := hk
      split at e
      · cases e
      · rename_i hn
        simp only [Bool.or_eq_true, not_or, Bool.not_eq_true] at hn
        refine ⟨_, _, rfl, rfl, hn.1, hn.2, ?_⟩
        split at e
        · rename_i r hr; cases e; exact .inl ⟨r, hr, rfl⟩
        · rename_i hr; cases e; exact .inr ⟨hr, rfl⟩
    · cases e
  · cases e

theorem sp_fdiv [Base] (A : At m ρ a ts h w) {t yt : TypeId} {x y : Operand} {ax ay : AOperand} {k : FloatKind} {a1 b1 : Nat} {v : V} (ho : o.op = .binOp .quo t x y yt) (h1 : trX x = some ax) (h2 : trX y = some ay)
    (e1 : St.eval ts ax = some (.pv (.flt k a1))) (e2 : St.eval ts ay = some (.pv (.flt k b1))) (n1 : nanB k a1 = false) (n2 : nanB k b1 = false)
    (hv : (∃ r, k.format.div a1 b1 = some r ∧ v = .pv (.flt k r)) ∨ (k.format.div a1 b1 = none ∧ v = .pv (.flt k (nanOf k)))) : Done P a o w (ent h) (ent h) h.length h.length m ρ v := by
  have rx := A.x (a := a) h1 e1
  have ry := A.x (a := a) h2 e2
  obtain ⟨a', hx, ha⟩ := rx.flt
  obtain ⟨b', hy, hb⟩ := ry.flt
  obtain rfl : a1 = a' := ha.resolve_right (by simp [n1])
  obtain rfl : b1 = b' := hb.resolve_right (by simp [n2])
  rcases hv with ⟨r, hr, rfl⟩ | ⟨hr, rfl⟩
  · refine .same A.sim (cv := .float k r) ?_ (.pv _ _ (.flt _ _ _ (.inl rfl)))
    simp [execOp, ho, hx, hy, guard_flt, binOp, Op.floatArith, hr]
  · refine .of_run (w' := { w with drawn := w.drawn + 1 }) (cv := .float k ((Question.nanBits k a1 b1).cut (w.tape w.drawn (.nanBits k a1 b1)))) ?_ (.pv _ _ (.flt _ _ _ (.inr ⟨rfl, nan_bits _ _ _⟩))) (A.sim.congr rfl fun _ => rfl) ?_
    · simp [execOp, ho, hx, hy, guard_flt, binOp, Op.floatArith, hr, Question.forced]
    · have s := Step.refl' h m ρ w
      exact ⟨s.imm, s.rho, s.old, s.new, s.blocks, s.fresh, s.size, rfl, rfl, rfl⟩

theorem inv_usString {u1 u2 v : V} {h' : Heap} {t : TypeId} (e : specA (.usString t) [u1, u2] h = some (v, h')) : (u1 = .pv .nilp ∧ u2 = .pv (.int .i64 0) ∧ v = .pv (.str []) ∧ h' = h) ∨
    ∃ id i cs ps l, u1 = .ptr id 0 ∧ u2 = .pv (.int .i64 i) ∧ ent h id = .blk cs (some t) ∧ 0 < i ∧ i.toNat ≤ cs.length ∧ i.toNat ≤ growMax ∧ weak.weakL (cs.take i.toNat) = some ps ∧ ps.all inByte = true ∧ bytesOf? ps = some l ∧ v = .pv (.str l) ∧ h' = h.set id .dead := by
  unfold specA at e
  split at e
  all_goals try (rename_i h1 h2; cases h1; done)
  all_goals try (rename_i h1 h2 _; cases h1; done)
  case h_9 h1 h2 =>
    cases h1; cases h2
    split at e
    · cases e; exact .inl ⟨rfl, rfl, rfl, rfl⟩
    · cases e
  case h_10 h1 h2 =>
    cases h1; cases h2
    split at e
    · split at e
      · rename_i cs t' hid
        split at e
        · rename_i hc
          obtain ⟨rfl, rfl, c1, c2, c3⟩ := hc
          split at e
          · rename_i ps hw
            split at e
            · rename_i hin
              split at e
              · rename_i l hl
                cases e
                exact .inr ⟨_, _, cs, ps, l, rfl, rfl, hid, c1, c2, c3, hw, hin, hl, rfl, rfl⟩
              · cases e
            · cases e
          · cases e
        · cases e
      · cases e
    · cases e
  all_goals (cases e)

theorem sp1 {E : Env} {pure : FuncId → List PV → Option (List PV)} {raw : FuncId → List V → Heap → Option (V × Heap)} {k : SpK} {ax : AOperand} {v : V} {h' : Heap} (hop : opA E pure raw ts h (.special k [ax]) = some (v, h')) : ∃ u, St.eval ts ax = some u ∧ specA k [u] h = some (v, h') := by
  simp only [opA] at hop
  split at hop
  · rename_i vs e1
    obtain ⟨u, rfl, e2⟩ := evals1 e1
    exact ⟨u, e2, hop⟩
  · cases hop

theorem sp2 {E : Env} {pure : FuncId → List PV → Option (List PV)} {raw : FuncId → List V → Heap → Option (V × Heap)} {k : SpK} {ax ay : AOperand} {v : V} {h' : Heap} (hop : opA E pure raw ts h (.special k [ax, ay]) = some (v, h')) :
    ∃ u1 u2, St.eval ts ax = some u1 ∧ St.eval ts ay = some u2 ∧ specA k [u1, u2] h = some (v, h') := by
  simp only [opA] at hop
  split at hop
  · rename_i vs e1
    obtain ⟨u, u', rfl, e2, e3⟩ := evals2 e1
    exact ⟨u, u', e2, e3, hop⟩
  · cases hop

theorem spec_ok [Base] {E : Env} {pure : FuncId → List PV → Option (List PV)} {raw : FuncId → List V → Heap → Option (V × Heap)} {keep : Bool} (A : At m ρ a ts h w) {op : AOp} {v : V} {h' : Heap} (htr : trSpec P keep o.op = some op) (hop : opA E pure raw ts h op = some (v, h'))
    (hfr : ∀ id, h.length ≤ id → id < h'.length → ρ id = none) : Done P a o w (ent h) (ent h') h.length h'.length m ρ v := by
  unfold trSpec at htr
  split at htr
  · -- convert
    rename_i s d x ho
    split at htr
    · rename_i t hs hd
      simp only [Option.bind_eq_bind, Option.bind_eq_some_iff] at htr
      obtain ⟨i, hi, htr⟩ := htr
      split at htr
      · rename_i hz
        simp only [Option.bind_eq_some_iff, Option.some.injEq] at htr
        obtain ⟨ax, h1, rfl⟩ := htr
        obtain ⟨u, e1, e2⟩ := sp1 hop
        obtain ⟨id, off, cs, tb, rfl, hid, hlt, rfl, rfl⟩ := inv_toUnsafe e2
        exact sp_toUnsafe A ho hs hd hi hz h1 e1 hid hlt
      · cases htr
    · rename_i u hs hd
      split at htr
      · rename_i hc
        simp only [Option.bind_eq_bind, Option.bind_eq_some_iff, Option.some.injEq] at htr
        obtain ⟨ax, h1, rfl⟩ := htr
        obtain ⟨u, e1, e2⟩ := sp1 hop
        obtain ⟨id, cs, rfl, hid, hle, rfl, rfl⟩ := inv_ofUnsafe e2
        exact sp_ofUnsafe A ho hs hd hc.1 hc.2 h1 e1 hid hle
      · cases htr
    · cases htr
  · -- slice
    rename_i t x hi ho
    split at htr
    · split at htr
      · rename_i e hd
        simp only [Option.bind_eq_bind, Option.bind_eq_some_iff, Option.some.injEq] at htr
        obtain ⟨sz, hsz, ax, h1, ay, h2, rfl⟩ := htr
        obtain ⟨u1, u2, e1, e2, e3⟩ := sp2 hop
        obtain ⟨id, off, len, ag, k, rfl, hk, hle, rfl, rfl⟩ := inv_sliceKeep e3
        exact sp_sliceKeep A ho hd hsz h1 h2 e1 e2 hk hle
      · cases htr
    · cases htr
  · -- binOp
    rename_i bop t x y yt ho
    split at htr
    · rename_i k hd
      simp only [Option.bind_eq_bind, Option.bind_eq_some_iff, Option.some.injEq] at htr
      obtain ⟨ax, h1, ay, h2, rfl⟩ := htr
      obtain ⟨u1, u2, e1, e2, e3⟩ := sp2 hop
      obtain ⟨rfl, a1, b1, rfl, rfl, n1, n2, hv⟩ := inv_fdiv e3
      exact sp_fdiv A ho h1 h2 e1 e2 n1 n2 hv
    split at htr
    · cases htr
    · split at htr
      · rename_i te htb hd
        split at htr
        · rename_i hi
          simp only [Option.bind_eq_bind, Option.bind_eq_some_iff, Option.some.injEq] at htr
          obtain ⟨ax, h1, ay, h2, rfl⟩ := htr
          obtain ⟨u1, u2, e1, e2, e3⟩ := sp2 hop
          obtain ⟨rfl, hor⟩ := inv_samePtr e3
          rcases hor with ⟨id, off, rfl, rfl, hv⟩ | hv
          · exact sp_samePtr A ho hd hi h1 h2 e1 e2 hv
          · exact op_bin A ho htb h1 h2 e1 e2 hv
        · cases htr
      · cases htr
  · -- defer
    rename_i c ho
    split at htr
    · rename_i t hc ha
      cases htr
      obtain ⟨u, e1, e2⟩ := sp1 hop
      obtain ⟨rfl, rfl, f, k, hf, hu⟩ := inv_later e2
      exact sp_later A ho hc ha e1 hu hf
    · cases htr
  · -- call
    rename_i c ho
    split at htr
    · rename_i hc
      split at htr
      · rename_i x t ha ht
        split at htr
        · rename_i e hd
          simp only [Option.bind_eq_bind, Option.bind_eq_some_iff, Option.some.injEq] at htr
          obtain ⟨ax, h1, rfl⟩ := htr
          obtain ⟨u, e1, e2⟩ := sp1 hop
          obtain ⟨rfl, rfl, rfl⟩ := inv_cap e2
          exact sp_cap A hd ho hc ha ht h1 e1
        · cases htr
      · cases htr
    · rename_i hc
      split at htr
      · rename_i x ha
        simp only [Option.bind_eq_bind, Option.bind_eq_some_iff, Option.some.injEq] at htr
        obtain ⟨ax, h1, rfl⟩ := htr
        obtain ⟨u, e1, e2⟩ := sp1 hop
        rcases inv_sliceData e2 with ⟨rfl, rfl, rfl⟩ | ⟨id, off, len, sz, ag, rfl, hl, rfl, rfl⟩
        · exact sp_sliceData_nil A ho hc ha h1 e1
        · exact sp_sliceData A ho hc ha h1 e1 hl
      · cases htr
    · rename_i hc
      split at htr
      · rename_i x y pt it ha ht
        split at htr
        · rename_i e hd
          split at htr
          · rename_i hce
            simp only [Option.bind_eq_bind, Option.bind_eq_some_iff, Option.some.injEq] at htr
            obtain ⟨ax, h1, ay, h2, rfl⟩ := htr
            obtain ⟨u1, u2, e1, e2, e3⟩ := sp2 hop
            rcases inv_usString e3 with ⟨rfl, rfl, rfl, rfl⟩ | ⟨id, i, cs, ps, l, rfl, rfl, hid, c1, c2, c3, c4, c5, c6, rfl, rfl⟩
            · exact sp_usString_nil A ho hc ha ht h1 h2 e1 e2
            · exact sp_usString A ho hc ha ht hd hce h1 h2 e1 e2 hid c1 c2 c3 c4 c5 c6
          · cases htr
        · cases htr
      · cases htr
    · split at htr
      · rename_i n fn hn
        obtain ⟨f, hc, hf, hb, horg, hnm⟩ := bareName_some hn
        split at htr
        · rename_i hnn
          split at htr
          · rename_i x ha
            simp only [Option.bind_eq_bind, Option.bind_eq_some_iff, Option.some.injEq] at htr
            obtain ⟨ax, h1, rfl⟩ := htr
            obtain ⟨u, e1, e2⟩ := sp1 hop
            obtain ⟨rfl, rfl⟩ := inv_noEscape e2
            exact sp_noEscape A ho hc hf hb horg (hnm.trans hnn) ha h1 e1
          · cases htr
        · split at htr
          · rename_i hnn
            split at htr
            · rename_i x t ha hr
              split at htr
              · rename_i e hd
                simp only [Option.bind_eq_bind, Option.bind_eq_some_iff, Option.some.injEq] at htr
                obtain ⟨ax, h1, rfl⟩ := htr
                obtain ⟨u, e1, e2⟩ := sp1 hop
                obtain ⟨i, rfl, c1, c2, rfl, rfl⟩ := inv_mkRoom e2
                exact sp_mkRoom A (hfr _ (Nat.le_refl _) (by simp)) ho hc hf hb horg (hnm.trans hnn) ha hr hd h1 e1 c1 c2
              · cases htr
            · cases htr
          · cases htr
      · cases htr
    · cases htr
  · cases htr

theorem opS_ok [Base] {E : Env} {pure : FuncId → List PV → Option (List PV)} {raw : FuncId → List V → Heap → Option (V × Heap)} {mu : TypeId → Bool} {own keep : Bool} (A : At m ρ a ts h w) (hcall : CallOk P E pure raw) {op : AOp} {v : V} {h' : Heap} (htr : trOpS P mu own keep o.op = some op)
    (hop : opA E pure raw ts h op = some (v, h')) (hfr : ∀ id, h.length ≤ id → id < h'.length → ρ id = none) : Done P a o w (ent h) (ent h') h.length h'.length m ρ v := by
  unfold trOpS at htr
  split at htr
  · cases htr; exact spec_ok A ‹_› hop hfr
  · exact op_ok A hcall htr hop hfr

end
end Ab
