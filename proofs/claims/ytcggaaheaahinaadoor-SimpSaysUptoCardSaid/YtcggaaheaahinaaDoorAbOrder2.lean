/- Regions whose order is drawn: the walk. -/
import Derived.Test.YtcggaaheaahinaaDoorAbOrder
namespace Ab
open Go


variable {P : Program} {E : Env} {pure : FuncId → List PV → Option (List PV)} {raw : FuncId → List V → Heap → Option (V × Heap)}

/-- A region's run in the text's order, and what is known of it. -/
structure Trace [Base] (P : Program) (E : Env) (pure : FuncId → List PV → Option (List PV)) (raw : FuncId → List V → Heap → Option (V × Heap)) (mu : TypeId → Bool) (ops : Array Oper) (as : List AOper) (sts : Nat → St) (ls : List Log) : Prop where
  len : as.length = ops.size
  lsl : ls.length = ops.size
  op : ∀ i, i < ops.size → ∃ o ao l, ops[i]? = some o ∧ as[i]? = some ao ∧ ls[i]? = some l ∧ trOper P mu ops true o = some ao ∧ stepM E pure raw ao (sts i) = some (sts (i + 1), l)
  ord : ordered as 0 = true
  pairs : pairsOk (ancs as []) ls = true

def Log.wrT (l : Log) (t : Nat) : Bool := l.wr == some t
def Log.wrH (l : Log) (id : Nat) : Bool := l.wids.contains id

def valT (sts : Nat → St) (i t : Nat) : Option V := (sts i).tmps[t]?
def valH (sts : Nat → St) (i id : Nat) : Ent := ent (sts i).heap id
def WT (ls : List Log) (i t : Nat) : Bool := (ls[i]?).any (·.wrT t)
def WH (ls : List Log) (i id : Nat) : Bool := (ls[i]?).any (·.wrH id)

variable {mu : TypeId → Bool} {ops : Array Oper} {as : List AOper} {sts : Nat → St} {ls : List Log}

/-- Two that stand not apart: the later comes behind the earlier. -/
theorem Trace.anc [Base] (T : Trace P E pure raw mu ops as sts ls) {i j : Nat} {a b : Log} (hij : i < j) (hj : j < ops.size) (ha : ls[i]? = some a) (hb : ls[j]? = some b) (hn : apart a b = false) : ((ancs as []).getD j 0).testBit i = true := by
  have := T.pairs
  unfold pairsOk at this
  rw [List.all_eq_true] at this
  have h1 := this j (by rw [List.mem_range, T.lsl]; exact hj)
  rw [List.all_eq_true] at h1
  have h2 := h1 i (by rw [List.mem_range]; exact hij)
  rw [ha, hb] at h2
  simp only [hn, Bool.or_false] at h2
  exact h2

theorem apart_wt {a b : Log} {t : Nat} (h1 : a.wrT t = true) (h2 : b.wrT t = true ∨ t ∈ b.rd) : apart a b = false := by
  simp only [Log.wrT, beq_iff_eq] at h1
  unfold apart apartT
  rw [h1]
  rcases h2 with h2 | h2
  · simp only [Log.wrT, beq_iff_eq] at h2
    rw [h2]
    simp
  · simp [h2]

theorem apart_rd {a b : Log} {t : Nat} (h1 : t ∈ a.rd) (h2 : b.wrT t = true) : apart a b = false := by
  simp only [Log.wrT, beq_iff_eq] at h2
  unfold apart apartT
  rw [h2]
  simp [h1]

theorem apart_id {a b : Log} {id : Nat} (h1 : id ∈ a.ids) (h2 : id ∈ b.ids) (h3 : id ∈ a.wids ∨ id ∈ b.wids) : apart a b = false := by
  unfold apart
  rcases h3 with h3 | h3
  · have : (a.wids.all fun i => !b.ids.contains i) = false := by
      rw [List.all_eq_false]
      exact ⟨id, h3, by simp [h2]⟩
    rw [this]
    simp
  · have : (b.wids.all fun i => !a.ids.contains i) = false := by
      rw [List.all_eq_false]
      exact ⟨id, h3, by simp [h1]⟩
    rw [this]
    simp

theorem turned_sub {op : AOp} {F : List Nat} {h h' : Heap} {id : Nat} (hid : id ∈ turned op F h h') : id ∈ F ++ List.range' h.length (h'.length - h.length) := by
  unfold turned at hid
  split at hid
  · cases hid
  · rw [List.mem_append] at hid ⊢
    rcases hid with hid | hid
    · left
      split at hid
      · exact (List.mem_filter.1 hid).1
      · exact hid
    · exact .inr hid

/-- What has not turned is as it was. -/
theorem turned_keep {E : Env} {pure : FuncId → List PV → Option (List PV)} {raw : FuncId → List V → Heap → Option (V × Heap)} {ts : List V} {op : AOp} {F : List Nat} {h h' : Heap} {v : V} (e : opA E pure raw ts (mask F h) op = some (v, h')) {id : Nat} (h1 : id ∈ F ++ List.range' h.length (h'.length - h.length))
    (h2 : id ∉ turned op F h h') : ent h' id = ent h id := by
  unfold turned at h2
  rw [List.mem_append] at h1
  split at h2
  · rename_i hq
    have := opA_quiet hq e
    subst this
    rw [mask_length, Nat.sub_self] at h1
    rcases h1 with h1 | h1
    · rw [ent_mask, if_pos (by simpa using h1)]
    · simp at h1
  · rw [List.mem_append, not_or] at h2
    rcases h1 with h1 | h1
    · have h3 := h2.1
      split at h3
      · rw [List.mem_filter, not_and] at h3
        have := h3 h1
        have hb : Ent.beq (ent h id) (ent h' id) = true := by
          cases hq : Ent.beq (ent h id) (ent h' id) with
          | true => rfl
          | false => rw [hq] at this; exact absurd rfl this
        exact (Ent.beq_eq hb).symm
      · exact absurd h1 h3
    · exact absurd h1 h2.2

theorem WT_some {i t : Nat} (h : WT ls i t = true) : ∃ l, ls[i]? = some l ∧ l.wrT t = true := by
  unfold WT at h
  cases hl : ls[i]? with
  | none => simp [hl] at h
  | some l => exact ⟨l, rfl, by simpa [hl] using h⟩

theorem Trace.WH_some [Base] (T : Trace P E pure raw mu ops as sts ls) {i t : Nat} (hi : i < ops.size) (h : WH ls i t = true) : ∃ l, ls[i]? = some l ∧ t ∈ l.wids ∧ t ∈ l.ids := by
  obtain ⟨o, ao, l, _, _, hl, _, hs⟩ := T.op i hi
  have hw : t ∈ l.wids := by simpa [WH, hl, Log.wrH] using h
  refine ⟨l, hl, hw, ?_⟩
  rcases stepM_some hs with ⟨_, v, h', _, _, _, el⟩ | ⟨_, _, el⟩
  · rw [el] at hw ⊢; exact turned_sub hw
  · rw [el] at hw; cases hw

theorem Trace.lens [Base] (T : Trace P E pure raw mu ops as sts ls) : ∀ i, i < ops.size → (sts i).heap.length ≤ (sts (i + 1)).heap.length ∧ (sts (i + 1)).tmps.length = (sts i).tmps.length := by
  intro i hi
  obtain ⟨o, ao, l, _, _, _, _, h⟩ := T.op i hi
  rcases stepM_some h with ⟨_, v, h', _, hle, e, _⟩ | ⟨_, e, _⟩
  · rw [e]; exact ⟨by simpa [merge_length] using hle, putA_length _ _ _⟩
  · rw [e]; exact ⟨Nat.le_refl _, putA_length _ _ _⟩

theorem Trace.mono [Base] (T : Trace P E pure raw mu ops as sts ls) {i : Nat} : ∀ k, i + k ≤ ops.size → (sts i).heap.length ≤ (sts (i + k)).heap.length
  | 0, _ => Nat.le_refl _
  | k + 1, h => Nat.le_trans (T.mono k (by omega)) (T.lens (i + k) (by omega)).1

theorem Trace.mono' [Base] (T : Trace P E pure raw mu ops as sts ls) {i j : Nat} (h : i ≤ j) (hj : j ≤ ops.size) : (sts i).heap.length ≤ (sts j).heap.length := by
  have := T.mono (i := i) (j - i) (by omega)
  rwa [show i + (j - i) = j by omega] at this

theorem Trace.tlen [Base] (T : Trace P E pure raw mu ops as sts ls) : ∀ i, i ≤ ops.size → (sts i).tmps.length = (sts 0).tmps.length
  | 0, _ => rfl
  | i + 1, h => by rw [(T.lens i (by omega)).2, T.tlen i (by omega)]

/-- What is not written stays. -/
theorem Trace.keepT [Base] (T : Trace P E pure raw mu ops as sts ls) {t : Nat} : ∀ i, i < ops.size → WT ls i t = false → valT sts (i + 1) t = valT sts i t := by
  intro i hi hw
  obtain ⟨o, ao, l, _, _, hl, _, h⟩ := T.op i hi
  have hne : l.wr ≠ some t := by
    intro e
    simp [WT, hl, Log.wrT, e] at hw
  have key : ∀ v, (putA (sts i).tmps ao.dst v)[t]? = (sts i).tmps[t]? := by
    intro v
    have hd : l.wr = ao.dst := by
      rcases stepM_some h with ⟨_, _, _, _, _, _, e⟩ | ⟨_, _, e⟩ <;> rw [e]
    rw [hd] at hne
    cases hdd : ao.dst with
    | none => rfl
    | some d =>
      rw [hdd] at hne
      simp only [putA]
      exact List.getElem?_set_ne (fun e => hne (by rw [e]))
  rcases stepM_some h with ⟨_, v, h', _, _, e, _⟩ | ⟨_, e, _⟩
  · unfold valT; rw [e]; exact key v
  · unfold valT; rw [e]; exact key _

theorem Trace.keepH [Base] (T : Trace P E pure raw mu ops as sts ls) {id : Nat} : ∀ i, i < ops.size → WH ls i id = false → valH sts (i + 1) id = valH sts i id := by
  intro i hi hw
  obtain ⟨o, ao, l, _, _, hl, _, h⟩ := T.op i hi
  unfold valH
  rcases stepM_some h with ⟨_, v, h', e1, hle, e, el⟩ | ⟨_, e, _⟩
  · rw [e]
    simp only
    rcases Nat.lt_or_ge id h'.length with hlt | hge
    · rw [ent_merge hlt]
      split
      · rename_i hc
        have hid : id ∈ l.ids := by
          rw [el]
          simp only [Bool.or_eq_true, List.contains_eq_mem, decide_eq_true_eq] at hc
          rw [List.mem_append]
          rcases hc with hc | hc
          · exact .inl hc
          · exact .inr (by rw [List.mem_range'_1]; omega)
        have hq : id ∉ l.wids := by
          intro hq
          simp [WH, hl, Log.wrH, hq] at hw
        rw [el] at hid hq
        exact turned_keep e1 hid hq
      · rfl
    · rw [ent_ge (by rw [merge_length]; exact hge), ent_ge (by omega)]
  · rw [e]

structure Inv [Base] (sts : Nat → St) (ls : List Log) (n : Nat) (m0 : Imm) (ρ0 : Rho) (w0 : World) (D : Nat → Bool) (a : Act) (w : World) (m : Imm) (ρ : Rho) : Prop where
  tm : ∀ (t : Nat) (v : V), lastOf (valT sts) (WT ls) D t n = some v → R m ρ v (a.tmps.getD t undef)
  sim : Sim m ρ (fun id => lastOf (valH sts) (WH ls) D id n) w
  step : Step (ent (sts 0).heap) (fun id => lastOf (valH sts) (WH ls) D id n) (sts 0).heap.length (sts n).heap.length m0 ρ0 w0 m ρ w
  fr : ∀ j, j < n → D j = false → ∀ id, (sts j).heap.length ≤ id → id < (sts (j + 1)).heap.length → ρ id = none
  defers : ∀ d ∈ a.defers, idleD d
  size : a.tmps.size = (sts 0).tmps.length

def Closed (as : List AOper) (D : Nat → Bool) : Prop := ∀ j, D j = true → ∀ i, ((ancs as []).getD j 0).testBit i = true → D i = true

def setD (D : Nat → Bool) (i : Nat) : Nat → Bool := fun j => if j = i then true else D j

/-- The tmps when those of D are done, as a list. -/
theorem tsD_ok [Base] (T : Trace P E pure raw mu ops as sts ls) (D : Nat → Bool) : ∃ ts : List V, ts.length = (sts 0).tmps.length ∧ ∀ t, ts[t]? = lastOf (valT sts) (WT ls) D t ops.size := by
  refine ⟨(List.range (sts 0).tmps.length).map fun t => (lastOf (valT sts) (WT ls) D t ops.size).getD default, by simp, fun t => ?_⟩
  obtain ⟨k, hk, e⟩ := lastOf_some (val := valT sts) (W := WT ls) (D := D) (r := t) ops.size
  rw [e]
  have hl := T.tlen k hk
  simp only [List.getElem?_map]
  rcases Nat.lt_or_ge t (sts 0).tmps.length with h | h
  · rw [List.getElem?_range h]
    simp only [Option.map_some, e, valT]
    rw [List.getElem?_eq_getElem (by omega)]
    rfl
  · rw [List.getElem?_eq_none (by simpa using h)]
    simp only [Option.map_none, valT]
    rw [List.getElem?_eq_none (by omega)]

theorem step_ok [Base] (T : Trace P E pure raw mu ops as sts ls) (hcall : CallOk P E pure raw) {m0 : Imm} {ρ0 : Rho} {w0 : World} {D : Nat → Bool} {a : Act} {w : World} {m : Imm} {ρ : Rho} (I : Inv sts ls ops.size m0 ρ0 w0 D a w m ρ)
    {i : Nat} (hi : i < ops.size) (hD : D i = false) (hc : Closed as D) (han : ∀ j, ((ancs as []).getD i 0).testBit j = true → D j = true) {K : Act → World → Prop} {Q : Exit → Act → World → Prop}
    (hK : ∀ a' w' m' ρ', Inv sts ls ops.size m0 ρ0 w0 (setD D i) a' w' m' ρ' → K a' w') : wpOp P ops Q i K a w := by
  obtain ⟨o, ao, l, ho, hao, hl, htr, hst⟩ := T.op i hi
  obtain ⟨ts, htl, hts⟩ := tsD_ok T D
  -- later ones that touch what this one touches are not done
  have later : ∀ k b, i < k → k < ops.size → ls[k]? = some b → apart l b = false → D k = false := by
    intro k b h1 h2 h3 h4
    cases hk : D k with
    | false => rfl
    | true => have := hc k hk i (T.anc h1 h2 hl h3 h4); rw [hD] at this; cases this
  have earlier : ∀ j b, j < i → ls[j]? = some b → apart b l = false → D j = true := fun j b h1 h2 h3 => han j (T.anc h1 hi h2 hl h3)
  have rdT : ∀ t ∈ l.rd, ts[t]? = (sts i).tmps[t]? := by
    intro t ht
    rw [hts t]
    refine lastOf_read (val := valT sts) T.keepT (by omega) (fun j hj hw => ?_) (fun j h1 h2 hw => ?_)
    · obtain ⟨b, hb, hwb⟩ := WT_some hw
      exact earlier j b hj hb (apart_wt hwb (.inr ht))
    · rcases Nat.eq_or_lt_of_le h1 with rfl | h1
      · exact hD
      · obtain ⟨b, hb, hwb⟩ := WT_some hw
        exact later j b h1 h2 hb (apart_rd ht hwb)
  have rdH : ∀ id ∈ l.ids, lastOf (valH sts) (WH ls) D id ops.size = ent (sts i).heap id := by
    intro id hid
    refine lastOf_read (val := valH sts) T.keepH (by omega) (fun j hj hw => ?_) (fun j h1 h2 hw => ?_)
    · obtain ⟨b, hb, hq, hwb⟩ := T.WH_some (by omega) hw
      exact earlier j b hj hb (apart_id hwb hid (.inl hq))
    · rcases Nat.eq_or_lt_of_le h1 with rfl | h1
      · exact hD
      · obtain ⟨b, hb, hq, hwb⟩ := T.WH_some h2 hw
        exact later j b h1 h2 hb (apart_id hid hwb (.inr hq))
  have sameT : ∀ t, WT ls i t = false → lastOf (valT sts) (WT ls) (setD D i) t ops.size = lastOf (valT sts) (WT ls) D t ops.size := by
    intro t hw
    refine lastOf_same _ fun j hj hwj => ?_
    unfold setD
    split
    · rename_i e; subst e; rw [hw] at hwj; cases hwj
    · rfl
  have sameH : ∀ id, WH ls i id = false → lastOf (valH sts) (WH ls) (setD D i) id ops.size = lastOf (valH sts) (WH ls) D id ops.size := by
    intro t hw
    refine lastOf_same _ fun j hj hwj => ?_
    unfold setD
    split
    · rename_i e; subst e; rw [hw] at hwj; cases hwj
    · rfl
  have wrT : ∀ t, WT ls i t = true → lastOf (valT sts) (WT ls) (setD D i) t ops.size = (sts (i + 1)).tmps[t]? := by
    intro t hw
    refine lastOf_write (val := valT sts) hi hw (by simp [setD]) fun j h1 h2 hwj => ?_
    obtain ⟨b, hb, hwb⟩ := WT_some hwj
    obtain ⟨l', hl', hwl⟩ := WT_some hw
    rw [hl] at hl'; cases hl'
    simp only [setD]
    rw [if_neg (by omega)]
    exact later j b h1 h2 hb (apart_wt hwl (.inl hwb))
  have wrH : ∀ id, WH ls i id = true → lastOf (valH sts) (WH ls) (setD D i) id ops.size = ent (sts (i + 1)).heap id := by
    intro id hw
    refine lastOf_write (val := valH sts) hi hw (by simp [setD]) fun j h1 h2 hwj => ?_
    obtain ⟨b, hb, hq, hwb⟩ := T.WH_some h2 hwj
    obtain ⟨l', hl', hq', hwl⟩ := T.WH_some hi hw
    rw [hl] at hl'; cases hl'
    simp only [setD]
    rw [if_neg (by omega)]
    exact later j b h1 h2 hb (apart_id hwl hwb (.inl hq'))
  have hdst : l.wr = ao.dst := by
    rcases stepM_some hst with ⟨_, _, _, _, _, _, e⟩ | ⟨_, _, e⟩ <;> rw [e]
  obtain ⟨h1, h2, _, _⟩ := trOper_some htr
  have tsSize : a.tmps.size = ts.length := by rw [I.size, htl]
  have atT : ∀ (t : Nat) (v : V), ts[t]? = some v → R m ρ v (a.tmps.getD t undef) := fun t v hv => I.tm t v (by rw [← hts t]; exact hv)
  -- the tmps behind it
  have tmAfter : ∀ v, (sts (i + 1)).tmps = putA (sts i).tmps ao.dst v → ∀ t, lastOf (valT sts) (WT ls) (setD D i) t ops.size = (putA ts ao.dst v)[t]? := by
    intro v hv t
    cases hw : WT ls i t with
    | false =>
      rw [sameT t hw, ← hts t]
      cases hdd : ao.dst with
      | none => rfl
      | some d =>
        simp only [putA]
        rw [List.getElem?_set_ne]
        intro e
        subst e
        simp [WT, hl, Log.wrT, hdst, hdd] at hw
    | true =>
      rw [wrT t hw, hv]
      obtain ⟨l', hl', hwl⟩ := WT_some hw
      rw [hl] at hl'; cases hl'
      simp only [Log.wrT, beq_iff_eq] at hwl
      rw [← hdst, hwl]
      simp only [putA]
      have e := T.tlen i (by omega)
      rcases Nat.lt_or_ge t ts.length with hlt | hge
      · rw [List.getElem?_set_self (by omega), List.getElem?_set_self hlt]
      · rw [List.getElem?_eq_none (by simp; omega), List.getElem?_eq_none (by simpa using hge)]
  have frAfter : ∀ ρ' : Rho, (∀ id, ¬ ((sts i).heap.length ≤ id ∧ id < (sts (i + 1)).heap.length) → ρ' id = ρ id) → ∀ j, j < ops.size → setD D i j = false → ∀ id, (sts j).heap.length ≤ id → id < (sts (j + 1)).heap.length → ρ' id = none := by
    intro ρ' hρ j hj hd id i1 i2
    have hne : j ≠ i := by
      intro e; subst e; simp [setD] at hd
    simp only [setD, if_neg hne] at hd
    rw [hρ id ?_]
    · exact I.fr j hj hd id i1 i2
    · rintro ⟨g1, g2⟩
      rcases Nat.lt_or_gt_of_ne hne with hlt | hgt
      · have := T.mono' (i := j + 1) (j := i) (by omega) (by omega); omega
      · have := T.mono' (i := i + 1) (j := j) (by omega) (by omega); omega
  unfold wpOp
  rw [ho]
  simp only
  rcases stepM_some hst with ⟨hw, v, h', e1, hle, e, el⟩ | ⟨hw, e, el⟩
  · -- it is wanted
    have hw' : wantA ts ao.guard = some true := by
      rw [← hw]
      unfold wantA
      cases hg : ao.guard with
      | none => rfl
      | some p =>
        obtain ⟨t, want⟩ := p
        simp only
        rw [rdT t (by rw [el]; simp [hg])]
    rw [wanted_ok htr atT tsSize hw']
    simp only [if_true]
    left
    have e2 := e1
    rw [← opA_congr (ts' := ts) (fun t ht => rdT t (by rw [el]; simp [ht]))] at e2
    have idF : ∀ id ∈ foot (sts i).tmps (sts i).heap ao.op, id ∈ l.ids := fun id hid => by rw [el]; simp [hid]
    have hF : ∀ id, ent (mask (foot (sts i).tmps (sts i).heap ao.op) (sts i).heap) id = lastOf (valH sts) (WH ls) D id ops.size ∨ ent (mask (foot (sts i).tmps (sts i).heap ao.op) (sts i).heap) id = .dead := by
      intro id
      rw [ent_mask]
      split
      · rename_i hcn
        left
        rw [rdH id (idF id (by simpa using hcn))]
      · exact .inr rfl
    have sF := I.sim.part hF
    have hlen1 : (sts (i + 1)).heap.length = h'.length := by rw [e, merge_length]
    have hfr : ∀ id, (sts i).heap.length ≤ id → id < h'.length → ρ id = none := fun id i1 i2 => I.fr i hi hD id i1 (by rw [hlen1]; exact i2)
    have hd := opS_ok (o := o) ⟨atT, sF⟩ hcall h1 e2 (fun id i1 i2 => hfr id (by rw [mask_length] at i1; exact i1) i2)
    refine hd K Q fun cv w' m' ρ' a1 ha1 hd1 hv hs st2 => ?_
    rw [mask_length] at st2
    have rle := st2.rhoLe hfr
    have hg' : ∀ id, (lastOf (valH sts) (WH ls) (setD D i) id ops.size = ent h' id ∧ (ent (mask (foot (sts i).tmps (sts i).heap ao.op) (sts i).heap) id = lastOf (valH sts) (WH ls) D id ops.size ∨ (sts i).heap.length ≤ id)) ∨
        (lastOf (valH sts) (WH ls) (setD D i) id ops.size = lastOf (valH sts) (WH ls) D id ops.size ∧ ent (mask (foot (sts i).tmps (sts i).heap ao.op) (sts i).heap) id = .dead) ∨ lastOf (valH sts) (WH ls) (setD D i) id ops.size = .dead := by
      intro id
      by_cases hid : id ∈ l.ids
      · left
        have hor : (foot (sts i).tmps (sts i).heap ao.op).contains id = true ∨ (sts i).heap.length ≤ id := by
          rw [el] at hid
          simp only [List.mem_append, List.mem_range'_1] at hid
          rcases hid with hid | hid
          · exact .inl (by simpa using hid)
          · exact .inr hid.1
        refine ⟨?_, ?_⟩
        · by_cases hwid : id ∈ l.wids
          · rw [wrH id (by simp [WH, hl, Log.wrH, hwid]), e]
            rcases Nat.lt_or_ge id h'.length with hlt | hge
            · simp only
              rw [ent_merge hlt, if_pos (by simpa using hor)]
            · rw [ent_ge (by simp only [merge_length]; exact hge), ent_ge hge]
          · rw [sameH id (by simp [WH, hl, Log.wrH, hwid]), rdH id hid]
            rw [el] at hid hwid
            exact (turned_keep e1 hid hwid).symm
        · rcases hor with h3 | h3
          · left
            rw [ent_mask, if_pos h3, rdH id hid]
          · exact .inr h3
      · right; left
        have hnw : id ∉ l.wids := by
          intro hq
          rw [el] at hq hid
          exact hid (turned_sub hq)
        refine ⟨sameH id (by simp [WH, hl, Log.wrH, hnw]), ?_⟩
        rw [ent_mask]
        split
        · rename_i hcn
          exact absurd (idF id (by simpa using hcn)) hid
        · rfl
    refine hK a1 w' m' ρ' ⟨?_, I.sim.frame hs st2 hfr hF hg', I.step.wide (st2.frame I.sim hfr (T.mono' (Nat.zero_le _) (by omega)) (by rw [← hlen1]; exact T.mono' (by omega) (Nat.le_refl _)) hF hg'), frAfter ρ' (by rw [hlen1]; exact st2.rho), fun d hd => (hd1 d hd).elim (I.defers d) id, by rw [ha1, put_size]; exact I.size⟩
    intro t u hu
    rw [tmAfter v (by rw [e]) t] at hu
    rw [h2] at hu
    rw [ha1]
    exact put_tmps atT st2.imm rle tsSize hv t u hu
  · -- it is not wanted
    have hw' : wantA ts ao.guard = some false := by
      rw [← hw]
      unfold wantA
      cases hg : ao.guard with
      | none => rfl
      | some p =>
        obtain ⟨t, want⟩ := p
        simp only
        rw [rdT t (by rw [el]; simp [hg])]
    rw [wanted_ok htr atT tsSize hw']
    simp only [Bool.false_eq_true, if_false]
    have hq : ∀ id, WH ls i id = false := fun id => by simp [WH, hl, Log.wrH, el]
    have hfun : (fun id => lastOf (valH sts) (WH ls) (setD D i) id ops.size) = fun id => lastOf (valH sts) (WH ls) D id ops.size := funext fun id => sameH id (hq id)
    refine hK _ w m ρ ⟨?_, by rw [hfun]; exact I.sim, by rw [hfun]; exact I.step, frAfter ρ (fun _ _ => rfl), by rw [put_defers]; exact I.defers, by rw [put_size]; exact I.size⟩
    intro t u hu
    rw [tmAfter (.tup []) (by rw [e]) t] at hu
    rw [h2] at hu
    exact put_tmps atT (Imm.le.refl _) (Rho.le.refl _) tsSize R.undef t u hu

theorem not_listed (listed : Array Bool) (i : Nat) (hi : i < listed.size) (h : listed.getD i false = false) : (listed.setIfInBounds i true).toList.countP (fun b => !b) + 1 = listed.toList.countP (fun b => !b) := by
  rw [Array.toList_setIfInBounds, List.countP_set (by simpa using hi)]
  have hv : listed.toList[i]'(by simpa using hi) = false := by
    simpa [hi] using h
  rw [hv]
  have : 0 < listed.toList.countP (fun b => !b) := by
    rw [List.countP_pos_iff]
    exact ⟨_, List.getElem_mem (by simpa using hi), by rw [hv]; rfl⟩
  simp only [Bool.not_false, Bool.not_true, if_true, Bool.false_eq_true, if_false]
  omega

theorem rep_false (n k : Nat) : (Array.replicate n false).getD k false = false := by
  simp only [Array.getD_eq_getD_getElem?, Array.getElem?_replicate]
  split <;> rfl

theorem mem_ready {md : Region.Mode} {listed : Array Bool} {i : Nat} : i ∈ Region.ready md ops listed ↔ i < ops.size ∧ listed.getD i true = false ∧ ∃ o, ops[i]? = some o ∧ ∀ e ∈ o.after.toList, Region.binds md e = true → listed.getD e.on false = true := by
  unfold Region.ready
  rw [List.mem_filter, List.mem_range]
  refine and_congr_right fun hi => ?_
  rw [Array.getElem?_eq_getElem hi]
  simp only [Option.map_some, Option.getD_some, Bool.and_eq_true, Bool.not_eq_true', Option.some.injEq, exists_eq_left', Array.all_eq_true_iff_forall_mem, Array.mem_toList_iff, Bool.or_eq_true, Bool.not_eq_true']
  refine and_congr_right fun _ => ⟨fun h e he hb => (h e he).resolve_left (by rw [hb]; simp), fun h e he => ?_⟩
  cases hb : Region.binds md e with
  | false => exact .inl rfl
  | true => exact .inr (h e he hb)

theorem any_ok [Base] (T : Trace P E pure raw mu ops as sts ls) (hcall : CallOk P E pure raw) {m0 : Imm} {ρ0 : Rho} {w0 : World} {Q : Exit → Act → World → Prop}
    (hQ : ∀ a' w' m' ρ', Inv sts ls ops.size m0 ρ0 w0 (fun i => decide (i < ops.size)) a' w' m' ρ' → Q .normal a' w') : ∀ (fuel : Nat) (listed : Array Bool) (a : Act) (w : World) (m : Imm) (ρ : Rho), listed.size = ops.size → listed.toList.countP (fun b => !b) ≤ fuel →
    Closed as (fun i => listed.getD i false) → Inv sts ls ops.size m0 ρ0 w0 (fun i => listed.getD i false) a w m ρ → wpAny P .any ops Q fuel listed a w := by
  intro fuel
  -- all done
  have fin : ∀ (listed : Array Bool) (a : Act) (w : World) (m : Imm) (ρ : Rho), listed.size = ops.size → (∀ i, i < ops.size → listed.getD i false = true) → Inv sts ls ops.size m0 ρ0 w0 (fun i => listed.getD i false) a w m ρ → Q .normal a w := by
    intro listed a w m ρ hs hall I
    have : (fun i => listed.getD i false) = fun i => decide (i < ops.size) := by
      funext i
      by_cases hi : i < ops.size
      · rw [hall i hi]; simp [hi]
      · simp [hi, hs]
    rw [this] at I
    exact hQ a w m ρ I
  -- who is next
  have next : ∀ (listed : Array Bool), listed.size = ops.size → Region.ready .any ops listed = [] → ∀ i, i < ops.size → listed.getD i false = true := by
    intro listed hs hr i
    induction i using Nat.strongRecOn with
    | ind i ih =>
      intro hi
      cases hl : listed.getD i false with
      | true => rfl
      | false =>
        obtain ⟨o, ao, l, ho, hao, _, htr, _⟩ := T.op i hi
        obtain ⟨_, _, _, haf⟩ := trOper_some htr
        have : i ∈ Region.ready .any ops listed := by
          rw [mem_ready]
          refine ⟨hi, ?_, o, ho, fun e he hb => ?_⟩
          · have hlt : i < listed.size := by omega
            simpa [hlt] using hl
          · have hm : e.on ∈ ao.after := by
              rw [haf]
              simp only [if_true, List.mem_map, List.mem_filter]
              exact ⟨e, ⟨he, hb⟩, rfl⟩
            have := ordered_mem as 0 i ao T.ord hao _ hm
            exact ih _ (by omega) (by omega)
        rw [hr] at this
        cases this
  induction fuel with
  | zero =>
    intro listed a w m ρ hs hcnt hc I
    have hall : ∀ i, i < ops.size → listed.getD i false = true := by
      intro i hi
      have h0 : listed.toList.countP (fun b => !b) = 0 := by omega
      rw [List.countP_eq_zero] at h0
      have hlt : i < listed.size := by omega
      have := h0 _ (List.getElem_mem (l := listed.toList) (n := i) (by simpa using hlt))
      simp [hlt]
      simpa using this
    refine ⟨?_, fin listed a w m ρ hs hall I⟩
    rw [List.eq_nil_iff_forall_not_mem]
    intro i hi
    rw [mem_ready] at hi
    have := hall i hi.1
    have hlt : i < listed.size := by omega
    have h2 := hi.2.1
    simp [hlt] at this h2
    rw [this] at h2
    cases h2
  | succ fuel ih =>
    intro listed a w m ρ hs hcnt hc I
    refine ⟨fun hr => fin listed a w m ρ hs (next listed hs hr) I, fun i hi => ?_⟩
    rw [mem_ready] at hi
    obtain ⟨hi, hl, o', ho', hafter⟩ := hi
    have hlt : i < listed.size := by omega
    have hl2 : listed.getD i false = false := by simpa [hlt] using hl
    obtain ⟨o, ao, l, ho, hao, _, htr, _⟩ := T.op i hi
    rw [ho] at ho'
    cases ho'
    obtain ⟨_, _, _, haf⟩ := trOper_some htr
    have hanc : ∀ j, ((ancs as []).getD i 0).testBit j = true → listed.getD j false = true := by
      intro j hj
      obtain ⟨x, hx, hor⟩ := ancs_mem as [] i ao j hao (by simpa using hj)
      have hxd : listed.getD x false = true := by
        rw [haf] at hx
        simp only [if_true, List.mem_map, List.mem_filter] at hx
        obtain ⟨e, ⟨he, hb⟩, rfl⟩ := hx
        exact hafter e he hb
      rcases hor with rfl | hor
      · exact hxd
      · exact hc x hxd j hor
    have hset : (fun j => (listed.setIfInBounds i true).getD j false) = setD (fun j => listed.getD j false) i := by
      funext j
      simp only [setD, Array.getD_eq_getD_getElem?, Array.getElem?_setIfInBounds]
      by_cases e : i = j
      · subst e; simp [hlt]
      · rw [if_neg e, if_neg (Ne.symm e)]
    refine step_ok T hcall I hi hl2 hc hanc fun a' w' m' ρ' I' => ih _ a' w' m' ρ' (by simpa using hs) ?_ ?_ ?_
    · have := not_listed listed i hlt hl2
      omega
    · rw [hset]
      intro j hj k hk
      simp only [setD] at hj ⊢
      by_cases e : k = i
      · simp [e]
      · rw [if_neg e]
        by_cases e2 : j = i
        · subst e2; exact hanc k hk
        · rw [if_neg e2] at hj
          exact hc j hj k hk
    · rw [hset]; exact I'

theorem draw_ok [Base] {id : Nat} {Q : Exit → Act → World → Prop} (hmix : P.follows .mixedOrders = true) (hcall : CallOk P E pure raw) (htr : trOpers P mu ops true ops.toList = some as) {m : Imm} {ρ : Rho}
    {st st' : St} {a : Act} {w : World} (h : stepsM E pure raw as st = some (st', ls)) (hord : ordered as 0 = true) (hpairs : pairsOk (ancs as []) ls = true) (hok : Ok m ρ a st w) (hfr : ∀ id, st.heap.length ≤ id → id < st'.heap.length → ρ id = none)
    (hQ : ∀ a' w' m' ρ', Ok m' ρ' a' st' w' → Step (ent st.heap) (ent st'.heap) st.heap.length st'.heap.length m ρ w m' ρ' w' → Q .normal a' w') : (Code.region id ops true).wp P Q a w := by
  obtain ⟨k1, k2⟩ := trOpers_some htr
  obtain ⟨sts, t1, t2, t3, t4⟩ := stepsM_trace h
  have k1' : as.length = ops.size := by rw [k1]; simp
  have T : Trace P E pure raw mu ops as sts ls := by
    refine ⟨k1', by rw [t3, k1'], fun i hi => ?_, hord, hpairs⟩
    have hao : as[i]? = some (as[i]'(by omega)) := List.getElem?_eq_getElem (by omega)
    obtain ⟨o, h1, h2⟩ := k2 i _ hao
    obtain ⟨l, h3, h4⟩ := t4 i _ hao
    exact ⟨o, _, l, by simpa using h1, hao, h3, h2, h4⟩
  subst t1
  rw [k1'] at t2
  subst t2
  refine wp_region_any hmix ?_
  have none_done : ∀ {X : Type} (val : Nat → Nat → X) (W : Nat → Nat → Bool) (r n : Nat), lastOf val W (fun i => (Array.replicate ops.size false).getD i false) r n = val 0 r := by
    intro X val W r n
    have := lastOf_rest (val := val) (W := W) (D := fun i => (Array.replicate ops.size false).getD i false) (r := r) (i := 0) n (fun j _ _ _ => rep_false _ _)
    rw [Nat.zero_add] at this
    exact this
  have start : Inv sts ls ops.size m ρ w (fun i => (Array.replicate ops.size false).getD i false) a { w with drawn := w.drawn + 1 } m ρ := by
    have hfun : (fun id => lastOf (valH sts) (WH ls) (fun i => (Array.replicate ops.size false).getD i false) id ops.size) = ent (sts 0).heap := funext fun id => none_done _ _ _ _
    refine ⟨fun t v hv => ?_, ?_, ?_, fun j hj _ id i1 i2 => ?_, hok.defers, hok.size⟩
    · rw [none_done] at hv
      exact hok.at_.tmps t v hv
    · rw [hfun]
      exact hok.at_.sim.congr rfl fun _ => rfl
    · rw [hfun]
      refine ⟨.refl m, fun _ _ => rfl, fun _ _ h => h, fun id _ h1 h2 _ => absurd h2 (not_live_ge h1), fun _ _ _ => rfl, fun _ _ h => absurd rfl h, Nat.le_refl _, rfl, rfl, rfl⟩
    · refine hfr id ?_ ?_
      · have := T.mono' (i := 0) (j := j) (by omega) (by omega); omega
      · have := T.mono' (i := j + 1) (j := ops.size) (by omega) (by omega); omega
  refine any_ok T hcall (fun a' w' m' ρ' I => ?_) ops.size _ a _ m ρ (by simp) ?_ ?_ start
  · have all_done : ∀ {X : Type} (val : Nat → Nat → X) (W : Nat → Nat → Bool) (r : Nat), (∀ i, i < ops.size → W i r = false → val (i + 1) r = val i r) → lastOf val W (fun i => decide (i < ops.size)) r ops.size = val ops.size r := by
      intro X val W r hF
      exact lastOf_up hF _ (Nat.le_refl _) (fun j hj _ => by simp [hj])
    have hfun : (fun id => lastOf (valH sts) (WH ls) (fun i => decide (i < ops.size)) id ops.size) = ent (sts ops.size).heap := funext fun id => all_done _ _ _ T.keepH
    refine hQ a' w' m' ρ' ⟨⟨fun t v hv => I.tm t v ?_, by have := I.sim; rwa [hfun] at this⟩, I.defers, by rw [I.size, T.tlen _ (Nat.le_refl _)]⟩ (by have := I.step; rwa [hfun] at this)
    rw [all_done _ _ _ T.keepT]
    exact hv
  · have := List.countP_le_length (p := fun b => !b) (l := (Array.replicate ops.size false).toList)
    simpa using this
  · intro j hj
    exact absurd ((rep_false _ _).symm.trans hj) (by simp)

end Ab
