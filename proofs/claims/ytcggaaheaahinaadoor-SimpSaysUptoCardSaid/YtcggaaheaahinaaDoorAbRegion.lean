/- Regions whose order is the text's. -/
import Derived.Test.YtcggaaheaahinaaDoorAbMono
import Derived.Test.YtcggaaheaahinaaDoorAbSpec
namespace Ab
open Go


variable {P : Program} {m : Imm} {ρ : Rho} {E : Env} {pure : FuncId → List PV → Option (List PV)} {raw : FuncId → List V → Heap → Option (V × Heap)}

structure Ok [Base] (m : Imm) (ρ : Rho) (a : Act) (st : St) (w : World) : Prop where
  at_ : At m ρ a st.tmps st.heap w
  defers : ∀ d ∈ a.defers, idleD d
  size : a.tmps.size = st.tmps.length

theorem putA_length (ts : List V) (d : Option Nat) (v : V) : (putA ts d v).length = ts.length := by
  cases d <;> simp [putA]

theorem put_size (a : Act) (d : Option Tmp) (v : Value) : (a.put d v).tmps.size = a.tmps.size := by
  cases d <;> simp [Act.put]

theorem put_defers (a : Act) (d : Option Tmp) (v : Value) : (a.put d v).defers = a.defers := by
  cases d <;> rfl

theorem put_tmps {ts : List V} {a : Act} {m' : Imm} {ρ' : Rho} (h : ∀ (t : Nat) (v : V), ts[t]? = some v → R m ρ v (a.tmps.getD t undef)) (hm : m.le m') (hr : ρ.le ρ') (hs : a.tmps.size = ts.length) {d : Option Nat} {v : V} {cv : Value} (hv : R m' ρ' v cv) :
    ∀ (t : Nat) (u : V), (putA ts d v)[t]? = some u → R m' ρ' u ((a.put d cv).tmps.getD t undef) := by
  intro t u hu
  cases d with
  | none => exact (h t u hu).mono hm hr
  | some d =>
    simp only [putA] at hu
    simp only [Act.put]
    by_cases e : d = t
    · subst e
      have hlt : d < ts.length := by
        rcases Nat.lt_or_ge d ts.length with h1 | h1
        · exact h1
        · rw [List.getElem?_eq_none (by simpa using h1)] at hu; simp at hu
      rw [List.getElem?_set_self hlt] at hu
      cases hu
      have : (a.tmps.setIfInBounds d cv).getD d undef = cv := by
        rw [Array.getD_eq_getD_getElem?, Array.getElem?_setIfInBounds_self]
        simp [hs, hlt]
      rw [this]
      exact hv
    · rw [List.getElem?_set_ne e] at hu
      have : (a.tmps.setIfInBounds d cv).getD t undef = a.tmps.getD t undef := by
        rw [Array.getD_eq_getD_getElem?, Array.getElem?_setIfInBounds_ne e, ← Array.getD_eq_getD_getElem?]
      rw [this]
      exact (h t u hu).mono hm hr

theorem R.undef : R m ρ (.tup []) undef := .tup [] #[] rfl (by simp)

theorem trOper_some [Base] {mu : TypeId → Bool} {ops : Array Oper} {draw : Bool} {o : Oper} {ao : AOper} (h : trOper P mu ops draw o = some ao) :
    trOpS P mu (selfConv ops.toList o.dst) (keepOf P ops.toList o.op) o.op = some ao.op ∧ ao.dst = o.dst ∧ (match o.guard with | none => ao.guard = none | some (j, want) => ∃ t, (ops[j]?).bind (·.dst) = some t ∧ ao.guard = some (t, want)) ∧
      ao.after = if draw then (o.after.toList.filter (Region.binds .any ·)).map (·.on) else [] := by
  unfold trOper at h
  simp only [Option.bind_eq_bind, Option.bind_eq_some_iff, Option.some.injEq] at h
  obtain ⟨op, h1, g, h2, rfl⟩ := h
  refine ⟨h1, rfl, ?_, rfl⟩
  split at h2
  · rename_i hg; rw [hg]; cases h2; rfl
  · rename_i j want hg
    rw [hg]
    split at h2
    · rename_i t ht; cases h2; exact ⟨t, ht, rfl⟩
    · cases h2

theorem trOpers_some [Base] {mu : TypeId → Bool} {ops : Array Oper} {draw : Bool} : ∀ {l : List Oper} {as : List AOper}, trOpers P mu ops draw l = some as → as.length = l.length ∧ ∀ (j : Nat) (ao : AOper), as[j]? = some ao → ∃ o, l[j]? = some o ∧ trOper P mu ops draw o = some ao
  | [], as, h => by simp [trOpers] at h; subst h; simp
  | o :: l, as, h => by
    simp only [trOpers, Option.bind_eq_bind, Option.bind_eq_some_iff, Option.some.injEq] at h
    obtain ⟨ao, h1, as', h2, rfl⟩ := h
    obtain ⟨k1, k2⟩ := trOpers_some h2
    refine ⟨by simp [k1], fun j x hx => ?_⟩
    cases j with
    | zero => simp at hx; subst hx; exact ⟨o, by simp, h1⟩
    | succ j => simp at hx; simpa using k2 j x hx

theorem wanted_ok [Base] {mu : TypeId → Bool} {ops : Array Oper} {draw : Bool} {o : Oper} {ao : AOper} {ts : List V} {a : Act} {b : Bool} (h : trOper P mu ops draw o = some ao) (hts : ∀ (t : Nat) (v : V), ts[t]? = some v → R m ρ v (a.tmps.getD t undef)) (hs : a.tmps.size = ts.length)
    (hw : wantA ts ao.guard = some b) : Region.wanted o (yielded ops a.tmps) = b := by
  obtain ⟨_, _, hg, _⟩ := trOper_some h
  unfold Region.wanted
  split at hg
  · rename_i hn
    rw [hg] at hw
    simp only [wantA, Option.some.injEq] at hw
    rw [hn]; exact hw
  · rename_i j want hn
    obtain ⟨t, h1, h2⟩ := hg
    rw [h2] at hw
    rw [hn]
    simp only [wantA] at hw
    have get : ∀ v, ts[t]? = some v → a.tmps[t]? = some (a.tmps.getD t undef) := by
      intro v hv
      have hlt := (List.getElem?_eq_some_iff.1 hv).1
      rw [Array.getElem?_eq_getElem (by omega)]
      simp [hs, hlt]
    split at hw
    · rename_i b' hv
      cases hw
      have r := (hts t _ hv).bool
      have g := get _ hv
      rw [r] at g
      simp [yielded, h1, g]
    · rename_i vs hv
      cases hw
      have r := hts t _ hv
      have g := get _ hv
      obtain ⟨cvs, hcv⟩ : ∃ cvs, a.tmps.getD t undef = .tuple cvs := by
        revert r
        generalize a.tmps.getD t undef = cv
        intro r
        cases r
        exact ⟨_, rfl⟩
      rw [hcv] at g
      simp [yielded, h1, g]
    · cases hw

theorem stepA_mono (hr : RawMono raw) {ao : AOper} {st st' : St} (h : stepA E pure raw ao st = some st') : st.heap.length ≤ st'.heap.length := by
  unfold stepA at h
  split at h
  · split at h
    · rename_i e; cases h; exact opA_mono hr e
    · cases h
  · cases h; exact Nat.le_refl _
  · cases h

theorem stepsA_mono (hr : RawMono raw) : ∀ {as : List AOper} {st st' : St}, stepsA E pure raw as st = some st' → st.heap.length ≤ st'.heap.length
  | [], st, st', h => by simp [stepsA] at h; rw [h]; exact Nat.le_refl _
  | ao :: as, st, st', h => by
    simp only [stepsA] at h
    split at h
    · rename_i st1 e1
      exact Nat.le_trans (stepA_mono hr e1) (stepsA_mono hr h)
    · cases h

theorem steps_ok [Base] {mu : TypeId → Bool} {ops : Array Oper} {draw : Bool} {Q : Exit → Act → World → Prop} (hcall : CallOk P E pure raw) (hraw : RawMono raw) : ∀ (as : List AOper) (k : Nat), (∀ (j : Nat) (ao : AOper), as[j]? = some ao → ∃ o, ops[k + j]? = some o ∧ trOper P mu ops draw o = some ao) →
    ∀ (st st' : St) (a : Act) (w : World) (m : Imm) (ρ : Rho), stepsA E pure raw as st = some st' → Ok m ρ a st w → (∀ id, st.heap.length ≤ id → id < st'.heap.length → ρ id = none) →
    (∀ a' w' m' ρ', Ok m' ρ' a' st' w' → Step (ent st.heap) (ent st'.heap) st.heap.length st'.heap.length m ρ w m' ρ' w' → Q .normal a' w') → wpOps P ops Q (List.range' k as.length) a w := by
  intro as
  induction as with
  | nil =>
    intro k _ st st' a w m ρ h hok _ hQ
    simp [stepsA] at h
    subst h
    exact hQ a w m ρ hok (Step.refl' _ _ _ _)
  | cons ao as ih =>
    intro k hops st st' a w m ρ h hok hfr hQ
    obtain ⟨o, ho, htr⟩ := hops 0 ao (by simp)
    simp only [Nat.add_zero] at ho
    simp only [List.length_cons, List.range'_succ, wpOps, ho]
    simp only [stepsA] at h
    split at h
    case h_2 => cases h
    rename_i st1 e1
    have m1 := stepA_mono hraw e1
    have m2 := stepsA_mono hraw h
    have rest := ih (k + 1) (fun j x hx => by
      obtain ⟨o', h1, h2⟩ := hops (j + 1) x (by simpa using hx)
      exact ⟨o', by rw [show k + 1 + j = k + (j + 1) by omega]; exact h1, h2⟩) st1 st'
    obtain ⟨h1, h2, _, _⟩ := trOper_some htr
    unfold stepA at e1
    split at e1
    · rename_i hw
      rw [wanted_ok htr hok.at_.tmps hok.size hw]
      simp only [if_true]
      left
      split at e1
      case h_2 => cases e1
      rename_i v h' e2
      cases e1
      have hd := opS_ok (o := o) hok.at_ hcall h1 e2 (fun id i1 i2 => hfr id i1 (by simp at m2; omega))
      refine hd _ Q fun cv w' m' ρ' a1 ha1 hd1 hv hs st2 => ?_
      have hle := st2.rhoLe (fun id i1 i2 => hfr id i1 (by simp at m2; omega))
      refine rest a1 w' m' ρ' h ⟨⟨?_, hs⟩, fun d hd => (hd1 d hd).elim (hok.defers d) id, by rw [ha1, put_size, putA_length]; exact hok.size⟩ (fun id i1 i2 => ?_) (fun a' w2 m2' ρ2 hok2 st3 => hQ a' w2 m2' ρ2 hok2 (st2.trans st3 m1 m2))
      · rw [h2, ha1]
        exact put_tmps hok.at_.tmps st2.imm hle hok.size hv
      · simp at i1 m1
        rw [st2.rho id (by omega)]
        exact hfr id (by omega) i2
    · rename_i hw
      rw [wanted_ok htr hok.at_.tmps hok.size hw]
      simp only [Bool.false_eq_true, if_false]
      cases e1
      refine rest (a.put o.dst undef) w m ρ h ⟨⟨?_, hok.at_.sim⟩, by rw [put_defers]; exact hok.defers, by rw [put_size, putA_length]; exact hok.size⟩ hfr hQ
      rw [h2]
      exact put_tmps hok.at_.tmps (Imm.le.refl _) (Rho.le.refl _) hok.size R.undef
    · cases e1

theorem region_ok [Base] {mu : TypeId → Bool} {ops : Array Oper} {id : Nat} {Q : Exit → Act → World → Prop} (hcall : CallOk P E pure raw) (hraw : RawMono raw) {as : List AOper} (htr : trOpers P mu ops false ops.toList = some as)
    {st st' : St} {a : Act} {w : World} (h : stepsA E pure raw as st = some st') (hok : Ok m ρ a st w) (hfr : ∀ id, st.heap.length ≤ id → id < st'.heap.length → ρ id = none)
    (hQ : ∀ a' w' m' ρ', Ok m' ρ' a' st' w' → Step (ent st.heap) (ent st'.heap) st.heap.length st'.heap.length m ρ w m' ρ' w' → Q .normal a' w') : (Code.region id ops false).wp P Q a w := by
  obtain ⟨k1, k2⟩ := trOpers_some htr
  refine wp_region ?_
  have := steps_ok (Q := Q) (mu := mu) (ops := ops) (draw := false) hcall hraw as 0 (fun j ao hj => by
    obtain ⟨o, h1, h2⟩ := k2 j ao hj
    exact ⟨o, by simpa using h1, h2⟩) st st' a w m ρ h hok hfr hQ
  rw [k1] at this
  rw [List.range_eq_range']
  simpa using this

end Ab
