/- Structs and arrays by value; conversions; lengths; the smaller operations. -/
import Derived.Test.YtcggaaheaahinaaDoorAbOps3
namespace Ab
open Go


variable {P : Program} {m : Imm} {ρ : Rho}

section
variable {a : Act} {ts : List V} {h : Heap} {w : World} {o : Oper}

theorem trParts_ok [Base] {fs : Array Field} (A : At m ρ a ts h w) : ∀ {parts : List (Nat × Operand)} {aps : List (Nat × Nat × AOperand)}, trParts P fs parts = some aps → ∀ {vs : List V}, evals ts (aps.map (·.2.2)) = some vs →
    aps.length = parts.length ∧ vs.length = parts.length ∧ ∀ (i : Nat) (p : Nat × Operand) (q : Nat × Nat × AOperand) (v : V), parts[i]? = some p → aps[i]? = some q → vs[i]? = some v →
      (∃ f inf, fs[p.1]? = some f ∧ P.info? f.type = some inf ∧ q.1 = f.offset ∧ q.2.1 = inf.size) ∧ R m ρ v (a.eval p.2)
  | [], aps, h1, vs, h2 => by simp [trParts] at h1; subst h1; simp [evals] at h2; subst h2; simp
  | (i, x) :: parts, aps, h1, vs, h2 => by
    simp only [trParts, Option.bind_eq_bind, Option.bind_eq_some_iff, Option.some.injEq] at h1
    obtain ⟨f, hf, s, hs, ax, h3, rest, h4, rfl⟩ := h1
    simp only [sizeT, Option.map_eq_some_iff] at hs
    obtain ⟨inf, hi, rfl⟩ := hs
    simp only [List.map_cons, evals] at h2
    split at h2
    · rename_i v vs' e1 e2
      cases h2
      obtain ⟨k1, k2, k3⟩ := trParts_ok A h4 e2
      refine ⟨by simp [k1], by simp [k2], fun j p q u hp hq hu => ?_⟩
      cases j with
      | zero => simp at hp hq hu; subst hp hq hu; exact ⟨⟨f, inf, hf, hi, rfl, rfl⟩, A.x h3 e1⟩
      | succ j => simp at hp hq hu; exact k3 j p q u hp hq hu
    · simp at h2

theorem trItems_ok [Base] {sz : Nat} (A : At m ρ a ts h w) : ∀ {parts : List (Nat × Operand)} {aps : List (Nat × Nat × AOperand)}, trItems sz parts = some aps → ∀ {vs : List V}, evals ts (aps.map (·.2.2)) = some vs →
    aps.length = parts.length ∧ vs.length = parts.length ∧ ∀ (i : Nat) (p : Nat × Operand) (q : Nat × Nat × AOperand) (v : V), parts[i]? = some p → aps[i]? = some q → vs[i]? = some v →
      q.1 = p.1 * sz ∧ q.2.1 = sz ∧ R m ρ v (a.eval p.2)
  | [], aps, h1, vs, h2 => by simp [trItems] at h1; subst h1; simp [evals] at h2; subst h2; simp
  | (i, x) :: parts, aps, h1, vs, h2 => by
    simp only [trItems, Option.bind_eq_bind, Option.bind_eq_some_iff, Option.some.injEq] at h1
    obtain ⟨ax, h3, rest, h4, rfl⟩ := h1
    simp only [List.map_cons, evals] at h2
    split at h2
    · rename_i v vs' e1 e2
      cases h2
      obtain ⟨k1, k2, k3⟩ := trItems_ok A h4 e2
      refine ⟨by simp [k1], by simp [k2], fun j p q u hp hq hu => ?_⟩
      cases j with
      | zero => simp at hp hq hu; subst hp hq hu; exact ⟨rfl, rfl, A.x h3 e1⟩
      | succ j => simp at hp hq hu; exact k3 j p q u hp hq hu
    · simp at h2

theorem sizes_run (w : World) (fs : List Field) (h : fs.all (fun f => (P.info? f.type).isSome) = true) : (fs.mapM fun f => do pure (f.offset, ← Go.sizeOf f.type) : Sem (List (Nat × Nat))).run P w = .ok (fs.map fun f => (f.offset, P.cellsOf f.type)) w := by
  induction fs with
  | nil => simp
  | cons f fs ih =>
    simp only [List.all_cons, Bool.and_eq_true] at h
    obtain ⟨i, hi⟩ := Option.isSome_iff_exists.1 h.1
    rw [List.mapM_cons]
    simp only [Sem.run_bind, run_size hi, Result.andThen_ok, Sem.run_pure, ih h.2, List.map_cons]
    rw [show P.cellsOf f.type = i.size by simp [Program.cellsOf, hi]]

theorem op_build [Base] (A : At m ρ a ts h w) {t : TypeId} {z : List V} {d : TypeDesc} {parts : Array (Nat × Operand)} {aps : List (Nat × Nat × AOperand)} {vs cs : List V} (ho : o.op = .build t parts) (hz : zeroT P t = some z) (hd : P.underlying t = some d)
    (hp : (∃ fs, d = .struct fs ∧ fs.toList.all (fun f => (P.info? f.type).isSome) = true ∧ trParts P fs parts.toList = some aps) ∨ (∃ n e sz, d = .array n e ∧ sizeT P e = some sz ∧ trItems sz parts.toList = some aps))
    (e1 : evals ts (aps.map (·.2.2)) = some vs) (e2 : fillA z ((aps.zip vs).map fun (p, v) => (p.1, p.2.1, v)) = some cs) : Done P a o w (ent h) (ent h) h.length h.length m ρ (mkAgg cs) := by
  obtain ⟨i, zv, hi, hzv, hl, hr⟩ := zeroT_some (m := m) (ρ := ρ) hz
  have hparts : (parts.map fun (j, x) => (j, a.eval x)).toList = parts.toList.map fun (j, x) => (j, a.eval x) := by simp
  rcases hp with ⟨fs, rfl, hall, htr⟩ | ⟨n, e, sz, rfl, hsz, htr⟩
  · obtain ⟨k1, k2, k3⟩ := trParts_ok A htr e1
    obtain ⟨arr, r1, r2, r3, r4⟩ := fill_ok (m := m) (ρ := ρ) (fun j => (fs.toList.map fun f => (f.offset, P.cellsOf f.type)).toArray[j]?) (parts.toList.map fun (j, x) => (j, a.eval x)) ((aps.zip vs).map fun (p, v) => (p.1, p.2.1, v)) z cs zv.cells (by simp [k1, k2])
      (fun j p q hp hq => by
        simp only [List.getElem?_map, Option.map_eq_some_iff] at hp hq
        obtain ⟨p', hp', rfl⟩ := hp
        obtain ⟨q', hq', rfl⟩ := hq
        obtain ⟨z1, z2⟩ := zip_get hq'
        obtain ⟨⟨f, inf, g1, g2, g3, g4⟩, g5⟩ := k3 j p' q'.1 q'.2 hp' z1 z2
        refine ⟨?_, g5⟩
        have : fs.toList[p'.1]? = some f := by simpa using g1
        simp [this, g3, g4, Program.cellsOf, g2]) e2 hl.symm hr
    refine .same A.sim ?_ (mkAgg_ok (vs := arr) (by omega) (mem_of_getElem?_all fun j c hj => (r4 j c hj).1) fun j c hj => (r4 j c hj).2)
    have hm : (fs.mapM fun f => do pure (f.offset, ← Go.sizeOf f.type) : Sem (Array (Nat × Nat))).run P w = .ok (fs.toList.map fun f => (f.offset, P.cellsOf f.type)).toArray w := by
      have := sizes_run w fs.toList hall
      rw [Array.mapM_eq_mapM_toList]
      simp only [Sem.run_map, this, Result.andThen_ok]
    simp only [execOp, ho, Instr.build, Sem.run_bind, run_zero hi hzv, run_underlying hd, Result.andThen_ok, Sem.run_pure] at hm ⊢
    rw [hm]
    simp only [Result.andThen_ok, hparts]
    rw [r1]
    simp
  · simp only [sizeT, Option.map_eq_some_iff] at hsz
    obtain ⟨inf, hinf, rfl⟩ := hsz
    obtain ⟨k1, k2, k3⟩ := trItems_ok A htr e1
    obtain ⟨arr, r1, r2, r3, r4⟩ := fill_ok (m := m) (ρ := ρ) (fun j => some (j * inf.size, inf.size)) (parts.toList.map fun (j, x) => (j, a.eval x)) ((aps.zip vs).map fun (p, v) => (p.1, p.2.1, v)) z cs zv.cells (by simp [k1, k2])
      (fun j p q hp hq => by
        simp only [List.getElem?_map, Option.map_eq_some_iff] at hp hq
        obtain ⟨p', hp', rfl⟩ := hp
        obtain ⟨q', hq', rfl⟩ := hq
        obtain ⟨z1, z2⟩ := zip_get hq'
        obtain ⟨g1, g2, g5⟩ := k3 j p' q'.1 q'.2 hp' z1 z2
        exact ⟨by simp [g1, g2], g5⟩) e2 hl.symm hr
    refine .same A.sim ?_ (mkAgg_ok (vs := arr) (by omega) (mem_of_getElem?_all fun j c hj => (r4 j c hj).1) fun j c hj => (r4 j c hj).2)
    simp only [execOp, ho, Instr.build, Sem.run_bind, run_zero hi hzv, run_underlying hd, run_size hinf, Result.andThen_ok, hparts]
    rw [r1]
    simp

theorem op_mkIface [Base] (A : At m ρ a ts h w) {t : TypeId} {x : Operand} {ax : AOperand} {v : V} {p : PV} {d : TypeDesc} (ho : o.op = .makeInterface t x) (hd : P.underlying t = some d) (hni : ∀ ms, d ≠ .interface ms) (h1 : trX x = some ax) (e1 : St.eval ts ax = some v) (e2 : weak v = some p) :
    Done P a o w (ent h) (ent h) h.length h.length m ρ (.pv (.iface t p)) := by
  refine .same A.sim ?_ (.pv _ _ (.iface t p _ (weak_ok (A.x (a := a) h1 e1) e2)))
  cases d <;> first | exact absurd rfl (hni _) | simp [execOp, ho, Instr.makeInterface, run_underlying hd]

/-- What is read of a slice's elements. -/
theorem pureElems_ok [Base] {u : V} {es : List PV} {cx : Value} (hs : Sim m ρ (ent h) w) (h1 : pureElems h u = some es) (hr : R m ρ u cx) :
    ∃ ad cap, cx = .slice ad es.length cap ∧ (es = [] ∨ ∃ b o sz, ∃ f : Nat → Value, ad = some ⟨b, o, none⟩ ∧ (∀ e ∈ es, e.cells.length = sz) ∧ ∀ (j : Nat) (c : PV), (es.flatMap PV.cells)[j]? = some c → w.cell? ⟨b, o + j, none⟩ = some (f j) ∧ RP m c (f j)) := by
  have pureCase : ∀ {es : List PV} {cx : Value}, RP m (.sl es) cx → ∃ ad cap, cx = .slice ad es.length cap ∧ (es = [] ∨ ∃ b o sz, ∃ f : Nat → Value, ad = some ⟨b, o, none⟩ ∧ (∀ e ∈ es, e.cells.length = sz) ∧ ∀ (j : Nat) (c : PV), (es.flatMap PV.cells)[j]? = some c → w.cell? ⟨b, o + j, none⟩ = some (f j) ∧ RP m c (f j)) := by
    intro es cx hp
    obtain ⟨ad, cap, hx, _, hor⟩ := hp.sl_inv
    refine ⟨ad, cap, hx, hor.imp id ?_⟩
    rintro ⟨b, o, sz, f, h1, h2, h3, h4⟩
    exact ⟨b, o, sz, f, h1, h2, fun j c hj => ⟨hs.imm _ _ _ (h4 j c hj).1, (h4 j c hj).2⟩⟩
  cases hr with
  | pv p v hp =>
    cases p <;> simp [pureElems] at h1
    subst h1
    exact pureCase hp
  | slt es tok b o cap sz loc g1 g2 => simp [pureElems] at h1; subst h1; exact pureCase g2
  | slx es b o g => simp [pureElems] at h1; subst h1; exact pureCase g
  | nils => simp [pureElems] at h1; subst h1; exact ⟨none, 0, rfl, .inl rfl⟩
  | sln id off len sz ag loc cap hloc hcap hsize =>
    have fin : ∀ (ps cs : List PV) (f : Nat → Value), cut ps off (len * sz) = some cs → (ag || sz == 1) = true → es = (chunks sz len cs).map (mkPV ag) → (∀ (i : Nat) (p : PV), ps[i]? = some p → p.isCell = true ∧ w.cell? ⟨loc.blk, i, none⟩ = some (f i) ∧ RP m p (f i)) →
        ∃ ad cap', Value.slice (some ⟨loc.blk, off, none⟩) len cap = .slice ad es.length cap' ∧ (es = [] ∨ ∃ b o sz, ∃ f : Nat → Value, ad = some ⟨b, o, none⟩ ∧ (∀ e ∈ es, e.cells.length = sz) ∧ ∀ (j : Nat) (c : PV), (es.flatMap PV.cells)[j]? = some c → w.cell? ⟨b, o + j, none⟩ = some (f j) ∧ RP m c (f j)) := by
      intro ps cs f hcut hag he hp
      obtain ⟨c1, c2, c3⟩ := cut_some hcut
      have hc : ∀ c ∈ cs, c.isCell = true := fun c hc => by obtain ⟨i, hi⟩ := List.getElem?_of_mem (cut_mem hcut hc); exact (hp i c hi).1
      obtain ⟨g1, g2, g3⟩ := elems_flat (by simpa using hag) c2 hc
      subst he
      refine ⟨_, cap, by simp [chunks_length], .inr ⟨loc.blk, off, sz, fun j => f (off + j), rfl, g2, fun j c hj => ?_⟩⟩
      rw [g1] at hj
      have hlt : j < len * sz := by have := (List.getElem?_eq_some_iff.1 hj).1; omega
      rw [c3 j hlt] at hj
      exact (hp _ c hj).2
    simp only [pureElems] at h1
    split at h1
    · rename_i ps hid
      split at h1
      · rename_i cs hcut
        split at h1
        · rename_i hag
          cases h1
          obtain ⟨l, f, q1, q2⟩ := hs.frz id ps hid
          rw [hloc] at q1; cases q1
          exact fin ps cs f hcut hag rfl fun i p hp => ⟨(q2 i p hp).1, hs.imm _ _ _ (q2 i p hp).2.1, (q2 i p hp).2.2⟩
        · simp at h1
      · simp at h1
    · rename_i cs0 _ hid
      split at h1
      · rename_i cs hcut
        split at h1
        · rename_i ps hps
          split at h1
          · rename_i hag
            cases h1
            obtain ⟨l, c, e, fz, q1, _, q2, q3, q4, q5, q6, _⟩ := hs.blk id cs0 hid
            rw [hloc] at q1; cases q1
            obtain ⟨k1, k2⟩ := weakL_ok (m := m) (ρ := ρ) hps
            obtain ⟨c1, c2, c3⟩ := cut_some hcut
            have hcell : ∀ (j : Nat) (p : PV), ps[j]? = some p → p.isCell = true ∧ RP m p (c.getD (off + j) undef) := by
              intro j p hj
              have hlt : j < len * sz := by have := (List.getElem?_eq_some_iff.1 hj).1; omega
              have hc0 : cs[j]? = some cs[j] := List.getElem?_eq_getElem (by omega)
              have hc1 := hc0
              rw [c3 j hlt] at hc1
              obtain ⟨g1, g2⟩ := q6 _ _ hc1
              obtain ⟨g3, g4⟩ := k2 j _ p hc0 hj
              exact ⟨g3 g1, g4 _ g2⟩
            have hpl : ps.length = len * sz := by omega
            obtain ⟨g1, g2, g3⟩ := elems_flat (ag := ag) (by simpa using hag) hpl fun p hp => by obtain ⟨j, hj⟩ := List.getElem?_of_mem hp; exact (hcell j p hj).1
            refine ⟨_, cap, by simp [chunks_length], .inr ⟨loc.blk, off, sz, fun j => c.getD (off + j) undef, rfl, g2, fun j p hj => ?_⟩⟩
            rw [g1] at hj
            have hlt : j < len * sz := by have := (List.getElem?_eq_some_iff.1 hj).1; omega
            refine ⟨?_, (hcell j p hj).2⟩
            simp [World.cell?, q2, show off + j < c.size by omega]
          · simp at h1
        · simp at h1
      · simp at h1
    · simp at h1
  | _ => simp [pureElems] at h1

theorem bytesOf_ok : ∀ {ps : List PV} {l : List UInt8}, bytesOf? ps = some l → l.length = ps.length ∧ (∀ e ∈ ps, e.cells = [e]) ∧ ∀ (j : Nat) (p : PV), ps[j]? = some p → ∃ n, p = .int .u8 n ∧ l[j]? = some (UInt8.ofNat n.toNat)
  | [], l, h => by simp [bytesOf?] at h; subst h; simp
  | p :: ps, l, h => by
    unfold bytesOf? at h
    split at h
    · cases ‹_ = []›
    · rename_i n ps' heq
      cases heq
      split at h
      · rename_i l' e
        cases h
        obtain ⟨k1, k2, k3⟩ := bytesOf_ok e
        refine ⟨by simp [k1], fun x hx => ?_, fun j q hq => ?_⟩
        · simp at hx; rcases hx with rfl | hx
          · rfl
          · exact k2 x hx
        · cases j with
          | zero => simp at hq; subst hq; exact ⟨n, rfl, rfl⟩
          | succ j => simp at hq; simpa using k3 j q hq
      · simp at h
    · simp at h

theorem op_bytesStr [Base] (A : At m ρ a ts h w) {s t e : TypeId} {x : Operand} {ax : AOperand} {u : V} {es : List PV} {l : List UInt8} (ho : o.op = .convert s t x) (hs : P.underlying s = some (.slice e)) (he : P.underlying e = some (.int .u8)) (ht : P.underlying t = some .string) (h1 : trX x = some ax)
    (e1 : St.eval ts ax = some u) (e2 : pureElems h u = some es) (e3 : bytesOf? es = some l) : Done P a o w (ent h) (ent h) h.length h.length m ρ (.pv (.str l)) := by
  obtain ⟨ad, cap, hx, hor⟩ := pureElems_ok A.sim e2 (A.x (a := a) h1 e1)
  obtain ⟨k1, k2, k3⟩ := bytesOf_ok e3
  refine .same A.sim ?_ (.pv _ _ (.str l))
  have push : ∀ (body : Value → ByteArray → Sem (ForInStep ByteArray)), (∀ n s, body (.int .u8 n) s = pure (.yield (s.push (UInt8.ofNat n.toNat)))) → ∀ (vs : List Value) (l : List UInt8) (s : ByteArray), vs.length = l.length → (∀ (j : Nat) (v : Value), vs[j]? = some v → ∃ n, v = .int .u8 n ∧ l[j]? = some (UInt8.ofNat n.toNat)) →
      (forIn vs s body : Sem ByteArray).run P w = .ok ⟨(s.data.toList ++ l).toArray⟩ w := by
    intro body hbody vs
    induction vs with
    | nil => intro l s hl _; have : l = [] := List.eq_nil_of_length_eq_zero hl.symm; subst this; simp
    | cons v vs ih =>
      intro l s hl hv
      obtain ⟨n, rfl, hn⟩ := hv 0 v rfl
      cases l with
      | nil => simp at hl
      | cons b l =>
        simp at hn
        subst hn
        rw [List.forIn_cons]
        have := ih l (s.push (UInt8.ofNat n.toNat)) (by simpa using hl) (fun j v hj => by simpa using hv (j + 1) v (by simpa using hj))
        simp only [hbody, Sem.run_bind, Sem.run_pure, Result.andThen_ok]
        rw [this]
        congr 2
        simp
  rcases hor with rfl | ⟨b, off, sz, f, rfl, hsz, hf⟩
  · simp at k1
    subst k1
    cases ad with
    | none => simp [execOp, ho, hx, convert, run_underlying hs, run_underlying he, run_underlying ht, Conv.bytesToString]; rfl
    | some ad => simp [execOp, ho, hx, convert, run_underlying hs, run_underlying he, run_underlying ht, Conv.bytesToString, loadCells, loadCellsFrom]; rfl
  · have hflat : es.flatMap PV.cells = es := by
      have : ∀ (l : List PV), (∀ e ∈ l, e.cells = [e]) → l.flatMap PV.cells = l := by
        intro l
        induction l with
        | nil => intro _; rfl
        | cons x l ih => intro hl; rw [List.flatMap_cons, hl x (by simp), ih fun e he => hl e (by simp [he])]; rfl
      exact this es k2
    rw [hflat] at hf
    have hload := run_loadCells (P := P) w ⟨b, off, none⟩ es.length f (fun j hj => by rw [add_eq]; exact (hf j _ (List.getElem?_eq_getElem hj)).1)
    simp only [execOp, ho, hx, convert, run_underlying hs, run_underlying he, run_underlying ht, Conv.bytesToString, Sem.run_bind, Result.andThen_ok, hload]
    rw [← Array.forIn_toList]
    rw [push _ (fun n s => rfl) ((List.range es.length).map f) l ByteArray.empty (by simp [k1]) (fun j v hj => by
      simp only [List.getElem?_map, Option.map_eq_some_iff] at hj
      obtain ⟨i, hi, rfl⟩ := hj
      have hlt : j < es.length := by have := (List.getElem?_eq_some_iff.1 hi).1; simpa using this
      have : i = j := by simp [hlt] at hi; exact hi.symm
      subst this
      obtain ⟨n, hn, hl⟩ := k3 i _ (List.getElem?_eq_getElem hlt)
      have hc := (hf i _ (List.getElem?_eq_getElem hlt)).2
      rw [hn] at hc
      cases hc' : f i <;> rw [hc'] at hc <;> cases hc
      exact ⟨n, rfl, hl⟩)]
    simp

end
end Ab
