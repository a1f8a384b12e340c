/- Texts as bytes, the marking conversion, min and max. -/
import Derived.Test.YtcggaaheaahinaaDoorAbOps5
namespace Ab
open Go


variable {P : Program} {m : Imm} {ρ : Rho}

section
variable {a : Act} {ts : List V} {h : Heap} {w : World} {o : Oper}

theorem op_strBytes [Base] (A : At m ρ a ts h w) {s t e : TypeId} {x : Operand} {ax : AOperand} {l : List UInt8} (ho : o.op = .convert s t x) (hs : P.underlying s = some .string) (ht : P.underlying t = some (.slice e)) (he : P.underlying e = some (.int .u8)) (h1 : trX x = some ax)
    (e1 : St.eval ts ax = some (.pv (.str l))) : Done P a o w (ent h) (ent h) h.length h.length m ρ (.pv (.sl (l.map fun b => .int .u8 b.toNat))) := by
  generalize hN : capOf w l.length 0 e = N
  have hNle : l.length ≤ N := by rw [← hN]; exact capOf_le _ _ _ _
  generalize hC : (l.map fun b => Value.int .u8 b.toNat).toArray ++ Array.replicate (N - l.length) (Value.int .u8 0) = C
  have hs2 : Sim m ρ (ent h) { w with drawn := w.drawn + 1 } := A.sim.congr rfl fun _ => rfl
  obtain ⟨s1, s2⟩ := hs2.allocImm (n := h.length) (fun id hid => not_live_ge hid) C e (C.size, C.size + 1)
  have hrun : (execOp a.eval o).run P w = .ok (.value (.slice (some ⟨w.heap.size, 0, none⟩) l.length N)) { w with drawn := w.drawn + 1, heap := w.heap.push (.cells C e (C.size, C.size + 1)) } := by
    have hm : (⟨l.toArray⟩ : ByteArray).data.map (fun b => Value.int .u8 b.toNat) = (l.map fun b => Value.int .u8 b.toNat).toArray := by simp
    simp only [execOp, ho, (A.x (a := a) h1 e1).str, convert, Sem.run_bind, run_underlying hs, run_underlying ht, run_underlying he, Result.andThen_ok, Conv.stringToBytes, size_mk, run_choose, Question.forced, Bool.false_eq_true, if_false, hm, newRow, run_newObj, Sem.run_pure, markStringish, run_shape]
    have hcap : (Question.appendCap l.length 0 e).cut (w.tape w.drawn (.appendCap l.length 0 e)) = N := hN
    rw [hcap, hC]
    have hsh : World.shape? { w with drawn := w.drawn + 1, heap := w.heap.push (.cells C e (0, 0)) } w.heap.size = some (e, C.size) := by simp [World.shape?]
    rw [hsh]
    simp only [run_freeze, Result.andThen_ok]
    congr 1
    simp only [World.freeze]
    rw [if_neg (by simp)]
    congr 1
    apply Array.ext_getElem?
    intro j
    rw [Array.getElem?_modify, Array.getElem?_push, Array.getElem?_push]
    by_cases hj : j = w.heap.size
    · subst hj; simp
    · simp [hj, Ne.symm hj]
  refine .of_run hrun (.pv _ _ ?_) s1 (s2.congr rfl rfl rfl rfl rfl)
  have hflat : ∀ (l : List UInt8), (l.map fun b => PV.int .u8 b.toNat).flatMap PV.cells = l.map fun b => PV.int .u8 b.toNat := by
    intro l
    induction l with
    | nil => rfl
    | cons b l ih => rw [List.map_cons, List.flatMap_cons, ih]; rfl
  have := RP.sl (m := m.fill w.heap.size 0 C.size (C.getD · undef)) (l.map fun b => PV.int .u8 b.toNat) w.heap.size 0 N 1 (C.getD · undef) (fun e he => by obtain ⟨b, _, rfl⟩ := List.mem_map.1 he; rfl) (fun e he c hc => by
      obtain ⟨b, _, rfl⟩ := List.mem_map.1 he
      simp [PV.cells] at hc; subst hc; rfl) (by simpa using hNle)
    (fun j c hj => by
      rw [hflat] at hj
      have hlt : j < l.length := by have := (List.getElem?_eq_some_iff.1 hj).1; simpa using this
      simp only [Imm.fill, Nat.zero_add]
      rw [if_pos ⟨trivial, Nat.zero_le _, by rw [← hC]; simp; omega⟩])
    (fun j c hj => by
      rw [hflat] at hj
      simp only [List.getElem?_map, Option.map_eq_some_iff] at hj
      obtain ⟨b, hb, rfl⟩ := hj
      have hlt : j < l.length := (List.getElem?_eq_some_iff.1 hb).1
      have : C.getD j undef = .int .u8 b.toNat := by
        rw [← hC]
        simp [Array.getD_eq_getD_getElem?, Array.getElem?_append_left, hlt]
        rw [List.getElem?_eq_getElem hlt] at hb
        simp at hb
        rw [hb]
      show RP _ _ (C.getD j undef)
      rw [this]
      exact .int _ _)
  simpa using this

theorem op_mark [Base] (A : At m ρ a ts h w) {s e : TypeId} {x : Operand} {ax : AOperand} {id off len sz : Nat} {ag : Bool} {cs : List V} {tb : Option TypeId} {p : PV} {h' : Heap} (ho : o.op = .convert s s x) (hs : P.underlying s = some (.slice e)) (he : P.underlying e = some (.int .u8)) (h1 : trX x = some ax)
    (e1 : St.eval ts ax = some (.sln id off len sz ag)) (hid : ent h id = .blk cs tb) (e2 : snap snapFuel (.sln id off len sz ag) h = some (p, h')) : Done P a o w (ent h) (ent h') h.length h'.length m ρ (.pv p) := by
  have rx := A.x (a := a) h1 e1
  obtain ⟨cx, hcx⟩ : ∃ cx, a.eval x = cx := ⟨_, rfl⟩
  rw [hcx] at rx
  have rx0 := rx
  obtain ⟨k1, k2, k3⟩ := snap_ok _ _ _ _ _ e2
  cases rx with
  | sln _ _ _ _ _ loc cap hloc hcap hsize =>
    obtain ⟨l0, c0, e0, fz, g1, glo, g2, g3, g4, g5, g6, g7⟩ := A.sim.blk id cs hid
    have hll : loc = l0 := Option.some.inj (hloc.symm.trans g1)
    subst hll
    have hbl := lt_of_heap g2
    generalize hfz : (if fz.1 == fz.2 then (c0.size, c0.size + 1) else (min fz.1 c0.size, max fz.2 (c0.size + 1))) = fz'
    have hfree : free fz' c0.size := by
      rw [← hfz]
      rcases g4 with g4 | g4
      · simp [g4, free]
      · split
        · right; exact Nat.le_refl _
        · right; simp; omega
    have hw : (w.freeze ⟨loc.blk, c0.size, none⟩ 1).heap = w.heap.setIfInBounds loc.blk (.cells c0 e0 fz') := by
      simp only [World.freeze]
      rw [if_neg (by simp)]
      apply Array.ext_getElem?
      intro j
      simp only [Array.getElem?_modify, Array.getElem?_setIfInBounds]
      by_cases hj : loc.blk = j
      · subst hj
        rw [if_pos rfl, if_pos rfl, if_pos hbl, g2]
        obtain ⟨f1, f2⟩ := fz
        simp only [Option.map_some]
        rw [← hfz]
      · simp [hj]
    have hweq : w.freeze ⟨loc.blk, c0.size, none⟩ 1 = { w with heap := w.heap.setIfInBounds loc.blk (.cells c0 e0 fz') } := by
      rw [← hw]
      simp only [World.freeze]
      rw [if_neg (by simp)]
    have hrun : (execOp a.eval o).run P w = .ok (.value (.slice (some ⟨loc.blk, off, none⟩) len cap)) { w with heap := w.heap.setIfInBounds loc.blk (.cells c0 e0 fz') } := by
      have hsh : w.shape? loc.blk = some (e0, c0.size) := by simp [World.shape?, g2]
      simp [execOp, ho, hcx, convert, run_underlying hs, run_underlying he, markStringish, hsh, hweq]
    obtain ⟨s1, s2⟩ := A.sim.write hid cs { w with heap := w.heap.setIfInBounds loc.blk (.cells c0 e0 fz') } c0 loc e0 fz' glo.2 hloc (heap_set hbl) g3 hfree g5 g6 (fun k hk => by simp [Ne.symm hk]) (by simp) rfl rfl rfl
    have hlt : id < h.length := ent_lt (by rw [hid]; simp)
    have heq : ∀ j, ent (h.set id (.blk cs tb)) j = ent h j := by
      intro j
      by_cases hj : id = j
      · subst hj; rw [ent_set_self hlt, hid]
      · exact ent_set_ne hj
    have s1' : Sim m ρ (ent h) { w with heap := w.heap.setIfInBounds loc.blk (.cells c0 e0 fz') } := s1.congr rfl fun j => (heq j).symm
    have hfun : ent (h.set id (.blk cs tb)) = ent h := funext heq
    rw [hfun] at s2
    obtain ⟨m', r1, r2, r3⟩ := k3 m ρ _ _ s1' rx0
    refine .of_run hrun (.pv _ _ r1) r2 ?_
    have hl2 : (h.set id (Ent.blk cs tb)).length = h.length := by simp
    rw [hl2] at s2
    rw [k1]
    exact s2.trans r3 (Nat.le_refl _) (Nat.le_refl _)

theorem foldl_minmax (mx : Bool) (k : IntKind) (w : World) : ∀ (vs : List V) (cvs : List Value) (acc : Int) (r : Int), cvs.length = vs.length → (∀ (j : Nat) (v : V), vs[j]? = some v → R m ρ v (cvs.getD j undef)) →
    vs.foldlM (fun (acc : Int) (v : V) => match v with
      | .pv (.int k' b) => if k = k' then some (if mx then (if b > acc then b else acc) else (if b < acc then b else acc)) else none
      | _ => none) acc = some r → (cvs.foldlM (if mx then Builtin.max2 else Builtin.min2) (.int k acc) : Sem Value).run P w = .ok (.int k r) w
  | [], cvs, acc, r, hl, _, hf => by
    have : cvs = [] := List.eq_nil_of_length_eq_zero hl
    subst this
    simp at hf
    subst hf
    simp
  | v :: vs, [], _, _, hl, _, _ => by simp at hl
  | v :: vs, c :: cvs, acc, r, hl, hr, hf => by
    rw [List.foldlM_cons] at hf
    simp only [Option.bind_eq_bind, Option.bind_eq_some_iff] at hf
    obtain ⟨acc', h1, h2⟩ := hf
    split at h1
    · rename_i k' b
      split at h1
      · rename_i hk
        subst hk
        cases h1
        have hc : c = .int k b := by have := hr 0 _ rfl; simpa using this.int
        have ih := foldl_minmax mx k w vs cvs _ r (by simpa using hl) (fun j v hj => by simpa using hr (j + 1) v (by simpa using hj)) h2
        rw [List.foldlM_cons, hc]
        cases mx
        · simp only [Bool.false_eq_true, if_false, Sem.run_bind, Builtin.min2, Sem.run_pure, Result.andThen_ok] at ih ⊢
          exact ih
        · simp only [if_true, Sem.run_bind, Builtin.max2, Sem.run_pure, Result.andThen_ok] at ih ⊢
          exact ih
      · simp at h1
    · simp at h1

theorem op_minmax [Base] (A : At m ρ a ts h w) {mx : Bool} {c : Call} {axs : List AOperand} {vs : List V} {v : V} (ho : o.op = .call c) (hc : c.callee = .builtin (if mx then .max else .min)) (h1 : trXs c.args.toList = some axs) (e1 : evals ts axs = some vs) (e2 : minmaxA mx vs = some v) :
    Done P a o w (ent h) (ent h) h.length h.length m ρ v := by
  obtain ⟨k1, k2⟩ := evalXs (a := a) h1 e1 A.tmps A.sim.base
  unfold minmaxA at e2
  split at e2
  · simp at e2
  · rename_i k n rest
    simp only [Option.map_eq_some_iff] at e2
    obtain ⟨r, hr, rfl⟩ := e2
    cases hargs : c.args.toList with
    | nil => rw [hargs] at k1; simp at k1
    | cons x xs =>
      rw [hargs] at k1 k2
      have hx : a.eval x = .int k n := by have := k2 0 _ rfl; simpa using this.int
      have hfold := foldl_minmax (P := P) (m := m) (ρ := ρ) mx k w rest (xs.map a.eval) n r (by simpa using k1.symm) (fun j v hj => by simpa using k2 (j + 1) v (by simpa using hj)) hr
      refine .same A.sim ?_ (.pv _ _ (.int k r))
      have hm : (c.args.map a.eval).toList = .int k n :: xs.map a.eval := by rw [Array.toList_map, hargs]; simp [hx]
      cases mx
      · simp only [Bool.false_eq_true, if_false] at hc hfold
        simp only [execOp, ho, resolve, hc, Sem.run_bind, Sem.run_pure, Result.andThen_ok, invoke, builtin, Builtin.min_, hm]
        rw [hfold]
        simp
      · simp only [if_true] at hc hfold
        simp only [execOp, ho, resolve, hc, Sem.run_bind, Sem.run_pure, Result.andThen_ok, invoke, builtin, Builtin.max_, hm]
        rw [hfold]
        simp
  · simp at e2

theorem op_lenArr [Base] (A : At m ρ a ts h w) {c : Call} {x : Operand} {t : TypeId} {n : Nat} {e : TypeId} (hd : P.underlying t = some (.array n e) ∨ ∃ arr, P.underlying t = some (.pointer arr) ∧ P.underlying arr = some (.array n e))
    (ho : o.op = .call c) (hc : c.callee = .builtin .len) (ha : c.args.toList = [x]) (ht : c.argTypes.toList = [t]) : Done P a o w (ent h) (ent h) h.length h.length m ρ (.pv (.int .i64 n)) := by
  have ha' : c.args = #[x] := by rw [← Array.toArray_toList (xs := c.args), ha]
  have ht' : c.argTypes = #[t] := by rw [← Array.toArray_toList (xs := c.argTypes), ht]
  refine .same A.sim ?_ (.pv _ _ (.int _ _))
  rcases hd with hd | ⟨arr, hd, hd2⟩
  · simp [execOp, ho, resolve, hc, ha', ht', invoke, builtin, Builtin.len_, run_underlying hd, goInt]
  · simp [execOp, ho, resolve, hc, ha', ht', invoke, builtin, Builtin.len_, run_underlying hd, run_underlying hd2, goInt]

end
end Ab
