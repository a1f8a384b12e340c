/- Operations that make memory or write it. -/
import Derived.Test.YtcggaaheaahinaaDoorAbOps2
namespace Ab
open Go


variable {P : Program} {m : Imm} {ρ : Rho}

section
variable {a : Act} {ts : List V} {h : Heap} {w : World} {o : Oper}

theorem zeroT_some {t : TypeId} {z : List V} (h : zeroT P t = some z) : ∃ i zv, P.info? t = some i ∧ i.zero = some zv ∧ z.length = zv.cells.size ∧ (∀ (i : Nat) (x : V), z[i]? = some x → x.isCell = true ∧ R m ρ x (zv.cells.getD i undef)) := by
  simp only [zeroT, Option.bind_eq_bind, Option.bind_eq_some_iff] at h
  obtain ⟨i, hi, zv, hz, hv⟩ := h
  obtain ⟨e1, e2⟩ := ofVals_ok (m := m) (ρ := ρ) hv
  exact ⟨i, zv, hi, hz, by simpa using e1, fun j x hj => ⟨(e2 j x hj).1, by have := (e2 j x hj).2; simpa [Array.getD_eq_getD_getElem?] using this⟩⟩

theorem run_zero {t : TypeId} {i : TypeInfo} {zv : Value} (hi : P.info? t = some i) (hz : i.zero = some zv) (w : World) : (zeroValue t).run P w = .ok zv w := by
  simp [zeroValue, run_info hi, hz]

theorem upd_self (ρ : Rho) (id : Nat) (l : Loc) : (ρ.upd id l) id = some l := by simp [Rho.upd]

theorem op_new [Base] (A : At m ρ a ts h w) (hf : ρ h.length = none) {t : TypeId} {z : List V} (ho : o.op = .alloc t) (h1 : zeroT P t = some z) : Done P a o w (ent h) (ent (h ++ [.blk z (some t)])) h.length (h ++ [Ent.blk z (some t)]).length m ρ (.ptr h.length 0) := by
  obtain ⟨i, zv, hi, hz, hl, hr⟩ := zeroT_some (m := m) (ρ := ρ) h1
  obtain ⟨s1, s2⟩ := A.sim.alloc hf z zv.cells t (some t) (fun x hx => by cases hx; rfl) (by omega) hr
  refine .of_run ?_ (.ptr h.length 0 _ (upd_self _ _ _)) s1 s2
  simp [execOp, ho, Instr.alloc, run_zero hi hz, newVar, newRow]

theorem op_box [Base] (A : At m ρ a ts h w) (hf : ρ h.length = none) {t : TypeId} {x : Operand} {ax : AOperand} {v : V} (ho : o.op = .box t x) (h1 : trX x = some ax) (e1 : St.eval ts ax = some v) (hc : v.cells.all V.isCell = true) :
    Done P a o w (ent h) (ent (h ++ [.blk v.cells none])) h.length (h ++ [Ent.blk v.cells none]).length m ρ (.ptr h.length 0) := by
  obtain ⟨k1, k2⟩ := cells_ok (A.x (a := a) h1 e1)
  have hall : ∀ c ∈ v.cells, c.isCell = true := by simpa using hc
  obtain ⟨s1, s2⟩ := A.sim.alloc hf v.cells (a.eval x).cells t none (fun x hx => by cases hx) (by omega) fun j c hj => ⟨hall c (List.mem_of_getElem? hj), k2 j c hj⟩
  refine .of_run ?_ (.ptr h.length 0 _ (upd_self _ _ _)) s1 s2
  simp [execOp, ho, Instr.box, newVar, newRow]

theorem op_store [Base] (A : At m ρ a ts h w) {t : TypeId} {x y : Operand} {ax ay : AOperand} {u v : V} {size : Nat} {h' : Heap} (ho : o.op = .store t x y) (hsz : sizeT P t = some size) (h1 : trX x = some ax) (h2 : trX y = some ay) (e1 : St.eval ts ax = some u) (e2 : St.eval ts ay = some v)
    (e3 : storeA h size u v = some h') : Done P a o w (ent h) (ent h') h.length h'.length m ρ (.tup []) := by
  simp only [sizeT, Option.map_eq_some_iff] at hsz
  obtain ⟨i, hi, hsz⟩ := hsz
  obtain ⟨b, off, w', c1, c2, c3, c4, c5⟩ := store_ok (P := P) hi hsz A.sim e3 (A.x (a := a) h1 e1) (A.x h2 e2)
  refine .of_skip ?_ c3 c4
  simp only [execOp, ho, c1, Instr.storeAt, Instr.sureAddr, Sem.run_bind, Sem.run_pure, Result.andThen_ok, c2]

theorem rep_get {α : Type} {z : List α} : ∀ {n j : Nat} {x : α}, (List.replicate n z).flatten[j]? = some x → z[j % z.length]? = some x ∧ j < n * z.length
  | 0, j, x, h => by simp at h
  | n + 1, j, x, h => by
    rw [List.replicate_succ, List.flatten_cons] at h
    by_cases hj : j < z.length
    · rw [List.getElem?_append_left hj] at h
      exact ⟨by rw [Nat.mod_eq_of_lt hj]; exact h, by rw [Nat.succ_mul]; omega⟩
    · rw [List.getElem?_append_right (by omega)] at h
      obtain ⟨k1, k2⟩ := rep_get h
      refine ⟨?_, by rw [Nat.succ_mul]; omega⟩
      rw [Nat.mod_eq_sub_mod (by omega)]
      exact k1

theorem rep_length {α : Type} (z : List α) (n : Nat) : (List.replicate n z).flatten.length = n * z.length := by
  induction n with
  | zero => simp
  | succ n ih => rw [List.replicate_succ, List.flatten_cons, List.length_append, ih, Nat.succ_mul]; omega

/-- The cells of a new row of zeros. -/
theorem zeros_get {z : List V} {zv : Value} {n : Nat} (hl : z.length = zv.cells.size) (hr : ∀ (i : Nat) (x : V), z[i]? = some x → x.isCell = true ∧ R m ρ x (zv.cells.getD i undef)) (j : Nat) (x : V) (hj : (List.replicate n z).flatten[j]? = some x) :
    x.isCell = true ∧ R m ρ x (((Array.range (n * zv.cells.size)).map (zv.cells[· % zv.cells.size]!)).getD j undef) := by
  obtain ⟨k1, k2⟩ := rep_get hj
  obtain ⟨q1, q2⟩ := hr _ x k1
  refine ⟨q1, ?_⟩
  rw [hl] at k2
  have hpos : 0 < zv.cells.size := by
    rcases Nat.eq_zero_or_pos zv.cells.size with h | h
    · rw [h] at k2; simp at k2
    · exact h
  have hm : j % zv.cells.size < zv.cells.size := Nat.mod_lt _ hpos
  rw [hl] at q2
  simpa [Array.getD_eq_getD_getElem?, k2, hm] using q2

theorem wrap64_nat {n : Nat} (h : n ≤ growMax) : IntKind.i64.wrap (n : Int) = n := by
  unfold growMax at h
  have e : (n : Int) % (2 ^ IntKind.i64.bits : Int) = n := by
    show (n : Int) % 2 ^ 64 = n
    omega
  have e2 : (2 ^ (IntKind.i64.bits - 1) : Int) = 9223372036854775808 := by decide
  simp only [IntKind.wrap, e, e2]
  rw [if_neg]
  simp
  omega

theorem range0 (f : Nat → Value) : (Array.range 0).map f = #[] := by apply Array.ext <;> simp

theorem op_mkSlice [Base] (A : At m ρ a ts h w) (hf : ρ h.length = none) {t e : TypeId} {ag : Bool} {z : List V} {by_ : Nat} {x y : Operand} {ax ay : AOperand} {u1 u2 : V} {l : Nat} (ho : o.op = .makeSlice t x y) (he : elemT P t = some e) (hz : zeroT P e = some z) (hsz : (P.info? e).map (·.size) = some z.length)
    (hby : bytesT P e = some by_) (h1 : trX x = some ax) (h2 : trX y = some ay) (e1 : St.eval ts ax = some u1) (e2 : St.eval ts ay = some u2) (n1 : natOf? u1 = some l) (n2 : natOf? u2 = some l) (hg : l * by_ ≤ growMax) (hg2 : l ≤ growMax) :
    Done P a o w (ent h) (ent (h ++ [.blk (List.replicate l z).flatten none])) h.length (h ++ [Ent.blk (List.replicate l z).flatten none]).length m ρ (.sln h.length 0 l z.length ag) := by
  have hd : P.underlying t = some (.slice e) := by unfold elemT at he; split at he <;> simp at he; subst he; assumption
  obtain ⟨i, zv, hi, hzv, hl, hr⟩ := zeroT_some (m := m) (ρ := ρ) hz
  obtain ⟨k1, hk1⟩ := natOf_ok n1 (A.x (a := a) h1 e1)
  obtain ⟨k2, hk2⟩ := natOf_ok n2 (A.x (a := a) h2 e2)
  have hsize : i.size = z.length := by simpa [hi] using hsz
  have hbytes : i.bytes = by_ := by simpa [bytesT, hi] using hby
  have hcl : ((Array.range (l * zv.cells.size)).map (zv.cells[· % zv.cells.size]!)).size = l * z.length := by simp [hl]
  obtain ⟨s1, s2⟩ := A.sim.alloc hf (List.replicate l z).flatten ((Array.range (l * zv.cells.size)).map (zv.cells[· % zv.cells.size]!)) e none (fun x hx => by cases hx) (by rw [rep_length, hcl]; exact Nat.le_refl _) (zeros_get hl hr)
  refine .of_run ?_ (.sln h.length 0 l z.length ag _ l (upd_self _ _ _) (Nat.le_refl _) (by simp [hl])) s1 s2
  have hw := wrap64_nat hg2
  have hng : ¬ ((by_ : Int) * (l : Int) > 2 ^ 48) := by
    unfold growMax at hg
    rw [← Int.natCast_mul, Nat.mul_comm]
    omega
  have htl : ((decide ((l : Int) < 0) || decide ((i.bytes : Int) * (l : Int) > 2 ^ 48)) = false) := by rw [hbytes]; simp; omega
  simp only [execOp, ho, hk1, hk2, Instr.makeSlice, Sem.run_bind, run_underlying hd, Result.andThen_ok, asInt, asIntOf, Sem.run_pure, run_info hi, hw, htl]
  have hneg : ¬ ((l : Int) < 0) := by omega
  have hlt : ¬ ((l : Int) > (l : Int)) := by omega
  simp only [hneg, decide_false, hlt, Bool.or_self, Bool.false_eq_true, if_false, Int.toNat_natCast]
  by_cases hz0 : l * zv.cells.size = 0
  · have hz1 : l * i.size = 0 := by rw [hsize, hl]; exact hz0
    simp only [run_size hi, hz0, hz1, newRow, range0, if_true, Sem.run_pure, Result.andThen_ok, Sem.run_bind, run_newObj, run_askRoom]
  · have hz1 : ¬ l * i.size = 0 := by rw [hsize, hl]; exact hz0
    have hz2 : i.size = zv.cells.size := by omega
    simp only [run_size hi, hz1, if_false, Result.andThen_ok, run_zero hi hzv, newRow, Sem.run_bind, run_newObj, Sem.run_pure, run_askRoom]
    rw [hz2]

theorem foldl_set (off : Nat) : ∀ (l : List Value) (k : Nat) (arr : Array Value), (off + k + l.length ≤ arr.size) → ((l.zipIdx k).foldl (fun cs (x : Value × Nat) => cs.setIfInBounds (off + x.2) x.1) arr).size = arr.size ∧
    ∀ j, ((l.zipIdx k).foldl (fun cs (x : Value × Nat) => cs.setIfInBounds (off + x.2) x.1) arr).getD j undef = if off + k ≤ j ∧ j < off + k + l.length then l.getD (j - (off + k)) undef else arr.getD j undef
  | [], k, arr, _ => by simp; intro j; omega
  | v :: l, k, arr, h => by
    simp only [List.length_cons] at h
    rw [List.zipIdx_cons, List.foldl_cons]
    obtain ⟨s1, s2⟩ := foldl_set off l (k + 1) (arr.setIfInBounds (off + k) v) (by simp; omega)
    refine ⟨by simpa using s1, fun j => ?_⟩
    rw [s2 j, List.length_cons]
    by_cases hj : j = off + k
    · subst hj
      rw [if_neg (by omega), if_pos (by omega)]
      simp [Array.getD_eq_getD_getElem?, show off + k < arr.size by omega]
    · by_cases h1 : off + (k + 1) ≤ j ∧ j < off + (k + 1) + l.length
      · rw [if_pos h1, if_pos (by omega), show j - (off + k) = (j - (off + (k + 1))) + 1 by omega]
        simp
      · rw [if_neg h1, if_neg (by omega)]
        simp [Array.getD_eq_getD_getElem?, Array.getElem?_setIfInBounds_ne (Ne.symm hj)]

/-- Parts are laid into a struct, an array, a new row. -/
theorem fill_ok (place : Nat → Option (Nat × Nat)) : ∀ (parts : List (Nat × Value)) (abs : List (Nat × Nat × V)) (cells res : List V) (arr : Array Value), abs.length = parts.length →
    (∀ (i : Nat) (p : Nat × Value) (q : Nat × Nat × V), parts[i]? = some p → abs[i]? = some q → place p.1 = some (q.1, q.2.1) ∧ R m ρ q.2.2 p.2) → fillA cells abs = some res → arr.size = cells.length →
    (∀ (j : Nat) (c : V), cells[j]? = some c → c.isCell = true ∧ R m ρ c (arr.getD j undef)) →
    ∃ arr', Instr.fill place arr parts = some arr' ∧ arr'.size = arr.size ∧ res.length = cells.length ∧ ∀ (j : Nat) (c : V), res[j]? = some c → c.isCell = true ∧ R m ρ c (arr'.getD j undef)
  | [], abs, cells, res, arr, hl, _, hf, hs, hc => by
    have : abs = [] := List.eq_nil_of_length_eq_zero hl
    subst this
    simp [fillA] at hf
    subst hf
    exact ⟨arr, rfl, rfl, rfl, hc⟩
  | (i, cv) :: parts, [], _, _, _, hl, _, _, _, _ => by simp at hl
  | (i, cv) :: parts, (off, size, v) :: abs, cells, res, arr, hl, hp, hf, hs, hc => by
    obtain ⟨k1, k2⟩ := hp 0 (i, cv) (off, size, v) rfl rfl
    simp only at k1 k2
    simp only [fillA] at hf
    split at hf
    · rename_i hcond
      obtain ⟨c1, c2, c3⟩ := hcond
      obtain ⟨q1, q2⟩ := cells_ok k2
      have hall : ∀ c ∈ v.cells, c.isCell = true := by simpa using c3
      have hsz : cv.cells.size = size := by omega
      obtain ⟨f1, f2⟩ := foldl_set off cv.cells.toList 0 arr (by simp; omega)
      have harr : cv.cells.zipIdx.foldl (fun cs (x : Value × Nat) => cs.setIfInBounds (off + x.2) x.1) arr = (cv.cells.toList.zipIdx 0).foldl (fun cs (x : Value × Nat) => cs.setIfInBounds (off + x.2) x.1) arr := by
        rw [← Array.foldl_toList]; simp
      obtain ⟨arr', r1, r2, r3, r4⟩ := fill_ok place parts abs (splice cells off v.cells) res (cv.cells.zipIdx.foldl (fun cs (x : Value × Nat) => cs.setIfInBounds (off + x.2) x.1) arr) (by simpa using hl)
        (fun j p q hj hq => hp (j + 1) p q (by simpa using hj) (by simpa using hq)) hf (by rw [harr, f1, splice_length (by omega)]; exact hs)
        (fun j c hj => by
          rw [splice_get (by omega)] at hj
          rw [harr, f2 j]
          simp only [Nat.add_zero, Array.length_toList]
          rw [c1] at hj
          rw [hsz]
          split at hj
          · rename_i hr
            rw [if_pos hr]
            refine ⟨hall c (List.mem_of_getElem? hj), ?_⟩
            have := q2 _ c hj
            simpa [Array.getD_eq_getD_getElem?] using this
          · rename_i hr
            rw [if_neg hr]
            exact hc j c hj)
      refine ⟨arr', ?_, by rw [r2, harr, f1], by rw [r3, splice_length (by omega)], r4⟩
      simp only [Instr.fill, k1]
      rw [if_neg (by simp; omega)]
      exact r1
    · simp at hf

theorem mem_of_getElem?_all {cs : List V} (h : ∀ (j : Nat) (c : V), cs[j]? = some c → c.isCell = true) : ∀ c ∈ cs, c.isCell = true := by
  intro c hc
  obtain ⟨j, hj⟩ := List.getElem?_of_mem hc
  exact h j c hj

/-- The operands of a literal. -/
theorem parts_ok [Base] {parts : List (Nat × Operand)} {aps : List (Nat × AOperand)} (A : At m ρ a ts h w) : trElems parts = some aps → ∀ {vs : List V}, evals ts (aps.map (·.2)) = some vs →
    aps.length = parts.length ∧ vs.length = parts.length ∧ ∀ (i : Nat) (p : Nat × Operand) (q : Nat × AOperand) (v : V), parts[i]? = some p → aps[i]? = some q → vs[i]? = some v → q.1 = p.1 ∧ R m ρ v (a.eval p.2) := by
  induction parts generalizing aps with
  | nil => intro h1 vs h2; simp [trElems] at h1; subst h1; simp [evals] at h2; subst h2; simp
  | cons p parts ih =>
    obtain ⟨i, x⟩ := p
    intro h1 vs h2
    simp only [trElems, Option.bind_eq_bind, Option.bind_eq_some_iff, Option.some.injEq] at h1
    obtain ⟨ax, h3, rest, h4, rfl⟩ := h1
    simp only [List.map_cons, evals] at h2
    split at h2
    · rename_i v vs' e1 e2
      cases h2
      obtain ⟨k1, k2, k3⟩ := ih h4 e2
      refine ⟨by simp [k1], by simp [k2], fun j p q u hp hq hu => ?_⟩
      cases j with
      | zero => simp at hp hq hu; subst hp hq hu; exact ⟨rfl, A.x h3 e1⟩
      | succ j => simp at hp hq hu; exact k3 j p q u hp hq hu
    · simp at h2

theorem zip_get {α β : Type} {l : List α} {k : List β} {i : Nat} {x : α × β} (h : (l.zip k)[i]? = some x) : l[i]? = some x.1 ∧ k[i]? = some x.2 := by
  rw [List.getElem?_zip_eq_some] at h
  exact h

theorem weak_cell {v : V} {p : PV} (h : weak v = some p) (hc : v.isCell = true) : p.isCell = true := by
  cases v with
  | pv q => simp [weak] at h; subst h; exact hc
  | slt es tok => simp [weak] at h; subst h; rfl
  | slx es => simp [weak] at h; subst h; rfl
  | nils => simp [weak] at h; subst h; rfl
  | agg cs => simp [V.isCell] at hc
  | fn f cs => simp only [weak, Option.map_eq_some_iff] at h; obtain ⟨q, _, rfl⟩ := h; rfl
  | ptr => simp [weak] at h
  | sln => simp [weak] at h
  | tup => simp [weak] at h

theorem weakL_len : ∀ {vs : List V} {ps : List PV}, weak.weakL vs = some ps → ps.length = vs.length ∧ ∀ (j : Nat) (v : V) (p : PV), vs[j]? = some v → ps[j]? = some p → weak v = some p
  | [], ps, h => by simp [weak.weakL] at h; subst h; simp
  | v :: vs, ps, h => by
    simp only [weak.weakL] at h
    split at h
    · rename_i p ps' e1 e2
      cases h
      obtain ⟨k1, k2⟩ := weakL_len e2
      refine ⟨by simp [k1], fun j u q hu hq => ?_⟩
      cases j with
      | zero => simp at hu hq; subst hu hq; exact e1
      | succ j => simp at hu hq; exact k2 j u q hu hq
    · cases h

theorem weak_ok {v : V} {cv : Value} (hr : R m ρ v cv) : ∀ {p : PV}, weak v = some p → RP m p cv := by
  induction hr with
  | pv q cv hq => intro p h; simp [weak] at h; subst h; exact hq
  | ptr => intro p h; simp [weak] at h
  | sln => intro p h; simp [weak] at h
  | slt es tok b o cap sz loc h1 h2 => intro p h; simp [weak] at h; subst h; exact h2
  | slx es b o h1 => intro p h; simp [weak] at h; subst h; exact h1
  | nils => intro p h; simp [weak] at h; subst h; exact .sl0 _ _
  | tup => intro p h; simp [weak] at h
  | agg cs vs hcell hl hr ih =>
    intro p h
    simp only [weak, Option.map_eq_some_iff] at h
    obtain ⟨ps, h, rfl⟩ := h
    obtain ⟨k1, k2⟩ := weakL_len h
    refine .agg ps vs (fun c hc => ?_) (by omega) fun j q hq => ?_
    · obtain ⟨j, hj⟩ := List.getElem?_of_mem hc
      have hlt : j < cs.length := by have := (List.getElem?_eq_some_iff.1 hj).1; omega
      exact weak_cell (k2 j _ c (List.getElem?_eq_getElem hlt) hj) (hcell _ (List.getElem_mem _))
    · have hlt : j < cs.length := by have := (List.getElem?_eq_some_iff.1 hq).1; omega
      exact ih j _ (List.getElem?_eq_getElem hlt) (k2 j _ q (List.getElem?_eq_getElem hlt) hq)
  | fn f cs vs hl hr ih =>
    intro p h
    simp only [weak, Option.map_eq_some_iff] at h
    obtain ⟨ps, h, rfl⟩ := h
    obtain ⟨k1, k2⟩ := weakL_len h
    refine .fn f ps vs (by omega) fun j q hq => ?_
    have hlt : j < cs.length := by have := (List.getElem?_eq_some_iff.1 hq).1; omega
    exact ih j _ (List.getElem?_eq_getElem hlt) (k2 j _ q (List.getElem?_eq_getElem hlt) hq)

theorem weakL_ok {vs : List V} {ps : List PV} (h : weak.weakL vs = some ps) : ps.length = vs.length ∧ ∀ (j : Nat) (v : V) (p : PV), vs[j]? = some v → ps[j]? = some p → (v.isCell = true → p.isCell = true) ∧ ∀ cv, R m ρ v cv → RP m p cv := by
  obtain ⟨k1, k2⟩ := weakL_len h
  exact ⟨k1, fun j v p hv hp => ⟨weak_cell (k2 j v p hv hp), fun cv hr => weak_ok hr (k2 j v p hv hp)⟩⟩

theorem op_buildSl [Base] (A : At m ρ a ts h w) {t e : TypeId} {ag mu : Bool} (hf : mu = true → ρ h.length = none) {z : List V} {len : Nat} {parts : Array (Nat × Operand)} {aps : List (Nat × AOperand)} {vs cs : List V} (ho : o.op = .buildSlice t len parts) (he : elemT P t = some e) (hz : zeroT P e = some z)
    (hsz : (P.info? e).map (·.size) = some z.length) (hpos : 0 < z.length) (hbig : len * z.length ≤ 2 ^ 24) (h1 : trElems parts.toList = some aps) (e1 : evals ts (aps.map (·.2)) = some vs) (hor : ag = true ∨ z.length = 1)
    (e2 : fillA (List.replicate len z).flatten ((aps.zip vs).map fun (p, v) => (p.1 * z.length, z.length, v)) = some cs) :
    (mu = true → Done P a o w (ent h) (ent (h ++ [.blk cs none])) h.length (h ++ [Ent.blk cs none]).length m ρ (.sln h.length 0 len z.length ag)) ∧
    (∀ ps, weak.weakL cs = some ps → Done P a o w (ent h) (ent h) h.length h.length m ρ (.slx ((chunks z.length len ps).map (mkPV ag)))) := by
  have hd : P.underlying t = some (.slice e) := by unfold elemT at he; split at he <;> simp at he; subst he; assumption
  obtain ⟨i, zv, hi, hzv, hl, hr⟩ := zeroT_some (m := m) (ρ := ρ) hz
  have hsize : i.size = z.length := by simpa [hi] using hsz
  obtain ⟨k1, k2, k3⟩ := parts_ok A h1 e1
  have hcl : ((Array.range (len * zv.cells.size)).map (zv.cells[· % zv.cells.size]!)).size = len * z.length := by simp [hl]
  obtain ⟨arr, r1, r2, r3, r4⟩ := fill_ok (m := m) (ρ := ρ) (fun j => some (j * z.length, z.length)) (parts.toList.map fun (j, x) => (j, a.eval x)) ((aps.zip vs).map fun (p, v) => (p.1 * z.length, z.length, v))
    (List.replicate len z).flatten cs ((Array.range (len * zv.cells.size)).map (zv.cells[· % zv.cells.size]!)) (by simp [k1, k2])
    (fun j p q hp hq => by
      simp only [List.getElem?_map, Option.map_eq_some_iff] at hp hq
      obtain ⟨p', hp', rfl⟩ := hp
      obtain ⟨q', hq', rfl⟩ := hq
      obtain ⟨z1, z2⟩ := zip_get hq'
      obtain ⟨g1, g2⟩ := k3 j p' q'.1 q'.2 hp' z1 z2
      exact ⟨by simp [g1], g2⟩) e2 (by rw [hcl, rep_length]) (zeros_get hl hr)
  have hrun : (execOp a.eval o).run P w = .ok (.value (.slice (some ⟨w.heap.size, 0, none⟩) len len)) { w with heap := w.heap.push (.cells arr e (0, 0)) } := by
    have hparts : (parts.map fun (j, x) => (j, a.eval x)).toList = parts.toList.map fun (j, x) => (j, a.eval x) := by simp
    have hnb : ¬ (len * i.size > 2 ^ 24) := by rw [hsize]; omega
    simp only [execOp, ho, Instr.buildSlice, Sem.run_bind, run_underlying hd, Result.andThen_ok, run_size hi]
    simp only [hnb, if_false, Sem.run_pure, hparts]
    by_cases hz0 : len * i.size = 0
    · have hlen0 : len = 0 := by
        rcases Nat.mul_eq_zero.1 hz0 with h0 | h0
        · exact h0
        · omega
      subst hlen0
      simp only [Nat.zero_mul, range0] at r1 ⊢
      simp only [if_true, pure_bind, hsize, r1]
      simp [newRow]
    · simp only [hz0, if_false, Sem.run_bind, run_zero hi hzv, Result.andThen_ok, Sem.run_pure]
      have hz2 : i.size = zv.cells.size := by omega
      rw [hz2]
      rw [hl] at r1
      rw [r1]
      simp [newRow]
  have hcs : cs.length = len * z.length := by rw [r3, rep_length]
  refine ⟨fun hmu => ?_, fun ps hps => ?_⟩
  · obtain ⟨s1, s2⟩ := A.sim.alloc (hf hmu) cs arr e none (fun x hx => by cases hx) (by omega) r4
    exact .of_run hrun (.sln h.length 0 len z.length ag _ len (upd_self _ _ _) (Nat.le_refl _) (by simp [r2, hl])) s1 s2
  · obtain ⟨s1, s2⟩ := A.sim.allocImm (n := h.length) (fun id hid => not_live_ge hid) arr e (0, 0)
    refine .of_run hrun ?_ s1 s2
    obtain ⟨w1, w2⟩ := weakL_ok (m := m) (ρ := ρ) hps
    have hpl : ps.length = len * z.length := by omega
    have hcut : cut ps 0 (len * z.length) = some ps := by
      unfold cut
      rw [if_pos (by omega), List.drop_zero, List.take_of_length_le (by omega)]
    have hall : ∀ (j : Nat) (p : PV), ps[j]? = some p → p.isCell = true ∧ (m.fill w.heap.size 0 arr.size (arr.getD · undef)) w.heap.size j = some (arr.getD j undef) ∧ RP (m.fill w.heap.size 0 arr.size (arr.getD · undef)) p (arr.getD j undef) := by
      intro j p hj
      have hlt : j < ps.length := (List.getElem?_eq_some_iff.1 hj).1
      have hc : cs[j]? = some cs[j] := List.getElem?_eq_getElem (by omega)
      obtain ⟨q1, q2⟩ := w2 j _ p hc hj
      obtain ⟨g1, g2⟩ := r4 j _ hc
      refine ⟨q1 g1, ?_, (q2 _ g2).mono s2.imm⟩
      simp only [Imm.fill]
      rw [if_pos ⟨trivial, Nat.zero_le _, by rw [r2, hcl]; omega⟩]
    have := RP.slice (m := m.fill w.heap.size 0 arr.size (arr.getD · undef)) (b := w.heap.size) (off := 0) (cap := len) hcut (by simpa using hor) (Nat.le_refl _) hall
    have hlen : ((chunks z.length len ps).map (mkPV ag)).length = len := by simp [chunks_length]
    have h3 := R.slx (m := m.fill w.heap.size 0 arr.size (arr.getD · undef)) (ρ := ρ) ((chunks z.length len ps).map (mkPV ag)) w.heap.size 0 (by rw [hlen]; exact this)
    rwa [hlen] at h3

end
end Ab
