/- The abstract machine is right: code, functions, calls. -/
import Derived.Test.YtcggaaheaahinaaDoorAbOrder2
import Derived.Defers
import Derived.Recover
namespace Ab
open Go


variable {P : Program} {E : Env} {pure : FuncId → List PV → Option (List PV)} {raw : FuncId → List V → Heap → Option (V × Heap)} {mu : TypeId → Bool}

def AExit.up : AExit → Exit
  | .normal => .normal
  | .exit id => .exit id
  | .ret => .ret

theorem regionA_mono (hr : RawMono raw) {ops : List AOper} {draw : Bool} {st st' : St} (h : regionA E pure raw ops draw st = some st') : st.heap.length ≤ st'.heap.length := by
  unfold regionA at h
  split at h
  · split at h
    case h_2 => cases h
    rename_i st2 ls e
    split at h
    case isFalse => cases h
    cases h
    obtain ⟨sts, t1, t2, t3, t4⟩ := stepsM_trace e
    subst t1
    subst t2
    have : ∀ k, k ≤ ops.length → (sts 0).heap.length ≤ (sts k).heap.length := by
      intro k
      induction k with
      | zero => intro _; exact Nat.le_refl _
      | succ k ih =>
        intro hk
        obtain ⟨l, _, h4⟩ := t4 k _ (List.getElem?_eq_getElem (by omega))
        refine Nat.le_trans (ih (by omega)) ?_
        rcases stepM_some h4 with ⟨_, v, h', _, hle, e, _⟩ | ⟨_, e, _⟩
        · rw [e]; simpa [merge_length] using hle
        · rw [e]; exact Nat.le_refl _
    exact this _ (Nat.le_refl _)
  · exact stepsA_mono hr h

theorem loopA_mono {body : St → Option (AExit × St)} (hb : ∀ st ex st', body st = some (ex, st') → st.heap.length ≤ st'.heap.length) : ∀ (n : Nat) (st : St) (ex : AExit) (st' : St), loopA body n st = some (ex, st') → st.heap.length ≤ st'.heap.length
  | 0, st, ex, st', h => by simp [loopA] at h
  | n + 1, st, ex, st', h => by
    simp only [loopA] at h
    split at h
    · rename_i st1 e1
      exact Nat.le_trans (hb _ _ _ e1) (loopA_mono hb n _ _ _ h)
    · exact hb _ _ _ h

theorem execA_mono (hr : RawMono raw) {n : Nat} : ∀ (c : ACode) (st : St) (ex : AExit) (st' : St), execA E pure raw n c st = some (ex, st') → st.heap.length ≤ st'.heap.length
  | .skip, st, ex, st', h => by simp [execA] at h; rw [h.2]; exact Nat.le_refl _
  | .exit _, st, ex, st', h => by simp [execA] at h; rw [h.2]; exact Nat.le_refl _
  | .ret, st, ex, st', h => by simp [execA] at h; rw [h.2]; exact Nat.le_refl _
  | .bad, st, ex, st', h => by simp [execA] at h
  | .region ops draw, st, ex, st', h => by
    simp only [execA] at h
    split at h
    · rename_i e; cases h; exact regionA_mono hr e
    · cases h
  | .seq a b, st, ex, st', h => by
    simp only [execA] at h
    split at h
    · rename_i st1 e1
      exact Nat.le_trans (execA_mono hr a _ _ _ e1) (execA_mono hr b _ _ _ h)
    · exact execA_mono hr a _ _ _ h
  | .cond c a b, st, ex, st', h => by
    simp only [execA] at h
    split at h
    · split at h
      · exact execA_mono hr a _ _ _ h
      · exact execA_mono hr b _ _ _ h
    · cases h
  | .block id b, st, ex, st', h => by
    simp only [execA] at h
    split at h
    · rename_i e1
      have := execA_mono hr b _ _ _ e1
      split at h <;> cases h <;> exact this
    · exact execA_mono hr b _ _ _ h
  | .loop b, st, ex, st', h => by
    simp only [execA] at h
    exact loopA_mono (fun st ex st' => execA_mono hr b st ex st') n _ _ _ h

/-- What a run of code leaves. -/
def Leaves [Base] (Q : Exit → Act → World → Prop) (m : Imm) (ρ : Rho) (w : World) (st : St) (ex : AExit) (st' : St) : Prop :=
  ∀ a' w' m' ρ', Ok m' ρ' a' st' w' → Step (ent st.heap) (ent st'.heap) st.heap.length st'.heap.length m ρ w m' ρ' w' → Q ex.up a' w'


theorem exec_ok [Base] (hmix : P.follows .mixedOrders = true) (hcall : CallOk P E pure raw) (hraw : RawMono raw) {n : Nat} : ∀ (c : Code) (ac : ACode), trCode P mu c = some ac → ∀ (st : St) (ex : AExit) (st' : St) (a : Act) (w : World) (m : Imm) (ρ : Rho) (Q : Exit → Act → World → Prop),
    execA E pure raw n ac st = some (ex, st') → Ok m ρ a st w → (∀ id, st.heap.length ≤ id → id < st'.heap.length → ρ id = none) → Leaves Q m ρ w st ex st' → c.wp P Q a w := by
  intro c
  induction c with
  | skip =>
    intro ac htr st ex st' a w m ρ Q h hok hfr hQ
    simp [trCode] at htr; subst htr
    simp [execA] at h; obtain ⟨rfl, rfl⟩ := h
    exact wp_skip (hQ a w m ρ hok (Step.refl' _ _ _ _))
  | label l =>
    intro ac htr st ex st' a w m ρ Q h hok hfr hQ
    simp [trCode] at htr; subst htr
    simp [execA] at h; obtain ⟨rfl, rfl⟩ := h
    exact wp_label (hQ a w m ρ hok (Step.refl' _ _ _ _))
  | exit id =>
    intro ac htr st ex st' a w m ρ Q h hok hfr hQ
    simp [trCode] at htr; subst htr
    simp [execA] at h; obtain ⟨rfl, rfl⟩ := h
    exact wp_exit (hQ a w m ρ hok (Step.refl' _ _ _ _))
  | ret =>
    intro ac htr st ex st' a w m ρ Q h hok hfr hQ
    simp [trCode] at htr; subst htr
    simp [execA] at h; obtain ⟨rfl, rfl⟩ := h
    exact wp_ret (hQ a w m ρ hok (Step.refl' _ _ _ _))
  | region id ops draw =>
    intro ac htr st ex st' a w m ρ Q h hok hfr hQ
    simp only [trCode] at htr
    split at htr
    case h_2 => cases htr; simp [execA] at h
    rename_i as h1
    cases htr
    simp only [execA] at h
    split at h
    case h_2 => cases h
    rename_i st2 e
    cases h
    unfold regionA at e
    cases draw with
    | false =>
      simp only [Bool.false_eq_true, if_false] at e
      exact region_ok hcall hraw h1 e hok hfr hQ
    | true =>
      simp only [if_true] at e
      split at e
      case h_2 => cases e
      rename_i st3 ls e3
      split at e
      case isFalse => cases e
      rename_i hc
      cases e
      simp only [Bool.and_eq_true] at hc
      exact draw_ok hmix hcall h1 e3 hc.1 hc.2 hok hfr hQ
  | seq x y ihx ihy =>
    intro ac htr st ex st' a w m ρ Q h hok hfr hQ
    simp only [trCode, Option.bind_eq_bind, Option.bind_eq_some_iff, Option.some.injEq] at htr
    obtain ⟨ax, h1, ay, h2, rfl⟩ := htr
    simp only [execA] at h
    refine wp_seq ?_
    split at h
    · rename_i st1 e1
      have m1 := execA_mono hraw _ _ _ _ e1
      have m2 := execA_mono hraw _ _ _ _ h
      refine ihx ax h1 st .normal st1 a w m ρ _ e1 hok (fun id i1 i2 => hfr id i1 (by omega)) fun a1 w1 m' ρ' hok1 st2 => ?_
      refine ihy ay h2 st1 ex st' a1 w1 m' ρ' Q h hok1 (fun id i1 i2 => ?_) fun a2 w2 m2' ρ2 hok2 st3 => hQ a2 w2 m2' ρ2 hok2 (st2.trans st3 m1 m2)
      rw [st2.rho id (by omega)]
      exact hfr id (by omega) i2
    · rename_i hne
      refine ihx ax h1 st ex st' a w m ρ _ h hok hfr fun a1 w1 m' ρ' hok1 st2 => ?_
      have hq := hQ a1 w1 m' ρ' hok1 st2
      cases ex with
      | normal => exact absurd h (hne st')
      | exit id => exact hq
      | ret => exact hq
  | cond c x y ihx ihy =>
    intro ac htr st ex st' a w m ρ Q h hok hfr hQ
    simp only [trCode, Option.bind_eq_bind, Option.bind_eq_some_iff, Option.some.injEq] at htr
    obtain ⟨cx, h0, ax, h1, ay, h2, rfl⟩ := htr
    simp only [execA] at h
    split at h
    case h_2 => cases h
    rename_i t e0
    have hc := (hok.at_.x (a := a) h0 e0).bool
    refine wp_cond hc ?_
    cases t with
    | true => simp only [if_true] at h ⊢; exact ihx ax h1 st ex st' a w m ρ Q h hok hfr hQ
    | false => simp only [Bool.false_eq_true, if_false] at h ⊢; exact ihy ay h2 st ex st' a w m ρ Q h hok hfr hQ
  | block id b ih =>
    intro ac htr st ex st' a w m ρ Q h hok hfr hQ
    simp only [trCode, Option.bind_eq_bind, Option.bind_eq_some_iff, Option.some.injEq] at htr
    obtain ⟨ab, h1, rfl⟩ := htr
    simp only [execA] at h
    refine wp_block ?_
    split at h
    · rename_i id' st1 e1
      split at h
      · rename_i hid
        cases h
        refine ih ab h1 st _ _ a w m ρ _ e1 hok hfr fun a1 w1 m' ρ' hok1 st2 => ?_
        simp only [AExit.up, Exit.inBlock]
        rw [if_pos hid]
        exact hQ a1 w1 m' ρ' hok1 st2
      · rename_i hid
        cases h
        refine ih ab h1 st _ _ a w m ρ _ e1 hok hfr fun a1 w1 m' ρ' hok1 st2 => ?_
        simp only [AExit.up, Exit.inBlock]
        rw [if_neg hid]
        exact hQ a1 w1 m' ρ' hok1 st2
    · rename_i hne
      refine ih ab h1 st ex st' a w m ρ _ h hok hfr fun a1 w1 m' ρ' hok1 st2 => ?_
      have hq := hQ a1 w1 m' ρ' hok1 st2
      cases ex with
      | normal => exact hq
      | exit id' => exact absurd h (hne id' st')
      | ret => exact hq
  | loop b ih =>
    intro ac htr st ex st' a w m ρ Q h hok hfr hQ
    simp only [trCode, Option.bind_eq_bind, Option.bind_eq_some_iff, Option.some.injEq] at htr
    obtain ⟨ab, h1, rfl⟩ := htr
    simp only [execA] at h
    refine wp_loop_rounds n ?_
    have key : ∀ (k : Nat) (st : St) (a : Act) (w : World) (m : Imm) (ρ : Rho), loopA (execA E pure raw n ab) k st = some (ex, st') → Ok m ρ a st w → (∀ id, st.heap.length ≤ id → id < st'.heap.length → ρ id = none) → Leaves Q m ρ w st ex st' → Code.rounds P b Q k a w := by
      intro k
      induction k with
      | zero => intro st a w m ρ h; simp [loopA] at h
      | succ k ihk =>
        intro st a w m ρ h hok hfr hQ
        rw [rounds_succ]
        simp only [loopA] at h
        split at h
        · rename_i st1 e1
          have m1 := execA_mono hraw _ _ _ _ e1
          have m2 := loopA_mono (fun st ex st' => execA_mono hraw ab st ex st') _ _ _ _ h
          refine ih ab h1 st .normal st1 a w m ρ _ e1 hok (fun id i1 i2 => hfr id i1 (by omega)) fun a1 w1 m' ρ' hok1 st2 => ?_
          refine ihk st1 a1 w1 m' ρ' h hok1 (fun id i1 i2 => ?_) fun a2 w2 m2' ρ2 hok2 st3 => hQ a2 w2 m2' ρ2 hok2 (st2.trans st3 m1 m2)
          rw [st2.rho id (by omega)]
          exact hfr id (by omega) i2
        · rename_i hne
          refine ih ab h1 st ex st' a w m ρ _ h hok hfr fun a1 w1 m' ρ' hok1 st2 => ?_
          have hq := hQ a1 w1 m' ρ' hok1 st2
          cases ex with
          | normal => exact absurd h (hne st')
          | exit id => exact hq
          | ret => exact hq
    exact key n st a w m ρ h hok hfr hQ
  | _ =>
    intro ac htr st ex st' a w m ρ Q h hok hfr hQ
    simp [trCode] at htr
    subst htr
    simp [execA] at h

/-- One result. -/
def resVal (a : Act) : ResultVar → Sem Value
  | .tmp t => Pure.pure (a.tmps.getD t undef)
  | .cell x t => do loadVar t (← asAddr (a.tmps.getD x undef))

theorem results_eq (fn : Func) (a : Act) : results fn a.tmps = (do let vs ← fn.results.mapM (resVal a); Pure.pure (if h : vs.size = 1 then vs[0] else .tuple vs)) := rfl

theorem res_ok [Base] {st : St} {a : Act} {w : World} {m : Imm} {ρ : Rho} (A : At m ρ a st.tmps st.heap w) : ∀ {rs : List ResultVar} {ars : List AResult} {vs : List V}, trRes P rs = some ars → resA st ars = some vs →
    ∃ cvs : List Value, (rs.mapM (resVal a)).run P w = .ok cvs w ∧ cvs.length = vs.length ∧ ∀ (j : Nat) (v : V), vs[j]? = some v → R m ρ v (cvs.getD j undef)
  | [], ars, vs, h1, h2 => by
    simp [trRes] at h1; subst h1
    simp [resA] at h2; subst h2
    exact ⟨[], by simp, rfl, by simp⟩
  | .tmp t :: rs, ars, vs, h1, h2 => by
    simp only [trRes, Option.bind_eq_bind, Option.bind_eq_some_iff, Option.some.injEq] at h1
    obtain ⟨as, h1, rfl⟩ := h1
    simp only [resA] at h2
    split at h2
    case h_2 => cases h2
    rename_i v vs' e1 e2
    cases h2
    obtain ⟨cvs, k1, k2, k3⟩ := res_ok A h1 e2
    refine ⟨a.tmps.getD t undef :: cvs, ?_, by simp [k2], fun j u hu => ?_⟩
    · simp only [List.mapM_cons, Sem.run_bind, Sem.run_pure, Result.andThen_ok, k1, resVal]
    · cases j with
      | zero => simp at hu; subst hu; exact A.tmps t v e1
      | succ j => simp at hu; simpa using k3 j u hu
  | .cell t ty :: rs, ars, vs, h1, h2 => by
    simp only [trRes, Option.bind_eq_bind, Option.bind_eq_some_iff, Option.some.injEq] at h1
    obtain ⟨ag, ha, s, hs, as, h1, rfl⟩ := h1
    simp only [resA] at h2
    split at h2
    case h_2 => cases h2
    rename_i av vs' e1 e2
    split at h2
    case h_2 => cases h2
    rename_i v e3
    cases h2
    obtain ⟨cvs, k1, k2, k3⟩ := res_ok A h1 e2
    simp only [aggT, Option.map_eq_some_iff] at ha
    obtain ⟨d, hd, rfl⟩ := ha
    simp only [sizeT, Option.map_eq_some_iff] at hs
    obtain ⟨i, hi, rfl⟩ := hs
    obtain ⟨b, off, f, c1, c2, c3⟩ := load_ok A.sim (by intro hh; rw [hh]; rfl) e3 (A.tmps t av e1)
    have hrun := run_loadVar hd hi w b off f (fun j hj => c2 j hj)
    have heq : (if aggD d = true then Value.agg ((List.range (if aggD d = true then i.size else 1)).map f).toArray else f 0) = if aggD d = true then .agg ((List.range i.size).map f).toArray else f 0 := by cases aggD d <;> rfl
    rw [heq] at c3
    refine ⟨(if aggD d = true then Value.agg ((List.range i.size).map f).toArray else f 0) :: cvs, ?_, by simp [k2], fun j u hu => ?_⟩
    · have h1 : (resVal a (.cell t ty)).run P w = .ok (if aggD d = true then Value.agg ((List.range i.size).map f).toArray else f 0) w := by
        simp only [resVal, c1, Sem.run_bind, asAddr, Sem.run_pure, Result.andThen_ok, hrun]
      simp only [List.mapM_cons, Sem.run_bind, Sem.run_pure, Result.andThen_ok, k1, h1]
    · cases j with
      | zero => simp at hu; subst hu; exact c3
      | succ j => simp at hu; simpa using k3 j u hu

theorem results_ok [Base] {fn : Func} {ars : List AResult} {st : St} {a : Act} {w : World} {m : Imm} {ρ : Rho} {vs : List V} (A : At m ρ a st.tmps st.heap w) (h1 : trRes P fn.results.toList = some ars) (h2 : resA st ars = some vs) :
    ∃ cv, (results fn a.tmps).run P w = .ok cv w ∧ R m ρ (oneOf vs) cv := by
  obtain ⟨cvs, k1, k2, k3⟩ := res_ok A h1 h2
  refine ⟨if h : cvs.toArray.size = 1 then cvs.toArray[0] else .tuple cvs.toArray, ?_, ?_⟩
  · rw [results_eq, Array.mapM_eq_mapM_toList]
    simp only [Sem.run_bind, Sem.run_map, k1, Result.andThen_ok, Sem.run_pure]
  · rcases vs with _ | ⟨v, _ | ⟨v2, vs⟩⟩
    · rw [dif_neg (by simp; intro e; rw [e] at k2; simp at k2)]
      exact .tup _ _ (by simpa using k2) (by simp)
    · rw [dif_pos (by simpa using k2)]
      have := k3 0 v (by simp)
      have hl : 0 < cvs.length := by simp at k2; omega
      simpa [hl, oneOf] using this
    · rw [dif_neg (by simp; simp at k2; omega)]
      exact .tup _ _ (by simpa using k2) (fun j u hu => by simpa using k3 j u hu)

/-- A function's body, from the call on. -/
def RunOk [Base] (P : Program) (run : FuncId → List V → Heap → Option (V × Heap)) : Prop :=
  ∀ (f : FuncId) (vs : List V) (h : Heap) (v : V) (h' : Heap), run f vs h = some (v, h') → ∀ (m : Imm) (ρ : Rho) (w : World) (cvs : Array Value), Sim m ρ (ent h) w → (∀ id, h.length ≤ id → id < h'.length → ρ id = none) →
    cvs.size = vs.length → (∀ (j : Nat) (u : V), vs[j]? = some u → R m ρ u (cvs.getD j undef)) →
    Calls P f cvs w fun e w' => ∃ cv m' ρ', e = .returned cv ∧ R m' ρ' v cv ∧ Sim m' ρ' (ent h') w' ∧ Step (ent h) (ent h') h.length h'.length m ρ w m' ρ' w'

/-- Functions are entered. -/
def Enters (P : Program) (f : FuncId) : Prop := ∀ (cvs : Array Value) (w : World), (callFunc f cvs).run P w = .ok (.enter f cvs) w

theorem enters_of {f : FuncId} {fn : Func} {c : Code} (hf : P.funcs[f]? = some fn) (hb : fn.body = some c) (hn : (fn.name == "runtime.NumGoroutine") = false) : Enters P f := by
  intro cvs w
  unfold callFunc
  have hp : (program : Sem Program).run P w = .ok P w := rfl
  simp only [Sem.run_bind, hp, Result.andThen_ok, hf, hn, hb]
  simp

/-- A pure function's answer at one input, in a heap of its own. -/
def AnsOk [Base] (P : Program) (f : FuncId) (ps rs : List PV) : Prop :=
  ∀ (m : Imm) (w : World) (cvs : Array Value), Sim m (fun _ => none) (fun _ => .dead) w → cvs.size = ps.length → (∀ (j : Nat) (p : PV), ps[j]? = some p → RP m p (cvs.getD j undef)) →
    ∀ (a : Act) (o : Oper) (next : Act → World → Prop) (Q : Exit → Act → World → Prop),
      (∀ cv w' m', R m' (fun _ => none) (mkRes rs) cv → Sim m' (fun _ => none) (fun _ => .dead) w' → Step (fun _ => .dead) (fun _ => .dead) 0 0 m (fun _ => none) w m' (fun _ => none) w' → next (a.put o.dst cv) w') →
      o.upon P a next Q ((callFunc f cvs).run P w)

def PureOk [Base] (P : Program) (pure : FuncId → List PV → Option (List PV)) : Prop :=
  ∀ (f : FuncId) (ps rs : List PV), pure f ps = some rs → AnsOk P f ps rs

theorem not_owned (ρ : Rho) (k : Nat) : ¬ Owned (fun _ => .dead) ρ k := fun ⟨_, _, h, _⟩ => by simp [live] at h

theorem Sim.bare [Base] {m : Imm} {ρ : Rho} {g : Nat → Ent} {w : World} (h : Sim m ρ g w) (ρ' : Rho) : Sim m ρ' (fun _ => .dead) w :=
  ⟨h.imm, fun _ _ h => by simp at h, fun _ h => by simp at h, fun _ _ h => by simp at h, h.base, fun _ _ _ _ h => by simp [live] at h⟩

theorem Step.bare {g g' : Nat → Ent} {lo hi : Nat} {m m' : Imm} {ρ ρ' : Rho} {w w' : World} (h : Step g g' lo hi m ρ w m' ρ' w') (hg : ∀ k, ¬ Owned g ρ k) (σ : Rho) (lo' hi' : Nat) : Step (fun _ => .dead) (fun _ => .dead) lo' hi' m σ w m' σ w' :=
  ⟨h.imm, fun _ _ => rfl, fun _ _ h => h, fun _ _ _ h => by simp [live] at h, fun k hk _ => h.blocks k hk (hg k), fun b o hne => (h.fresh b o hne).imp_right fun x => absurd x (hg b), h.size, h.os, h.tape, h.output⟩

theorem R.rho {m : Imm} {ρ : Rho} {rs : List PV} {cv : Value} (h : R m ρ (mkRes rs) cv) (ρ' : Rho) : R m ρ' (mkRes rs) cv := by
  unfold mkRes at h ⊢
  split at h
  · exact .pv _ _ h.pure
  · cases h with
    | tup _ vs hl hr =>
      refine .tup _ _ hl fun j c hj => ?_
      have := hr j c hj
      simp only [List.getElem?_map, Option.map_eq_some_iff] at hj
      obtain ⟨p, _, rfl⟩ := hj
      exact .pv _ _ this.pure

theorem snapL_pures {n : Nat} : ∀ {vs : List V} {ps : List PV} {h : Heap}, pures vs = some ps → snapL (n + 1) vs h = some (ps, h)
  | [], ps, h, e => by simp [pures] at e; subst e; rfl
  | v :: vs, ps, h, e => by
    cases v with
    | pv p =>
      simp only [pures] at e
      split at e
      · rename_i qs e1
        cases e
        have := snapL_pures (n := n) (h := h) e1
        unfold snapL at this ⊢
        have h1 : snap (n + 1) (.pv p) h = some (p, h) := rfl
        simp only [snapLF, h1, this]
      · cases e
    | _ => simp [pures] at e

theorem callOk_of [Base] (hx : PureOk P E.ext) (hp : PureOk P pure) (hr : RunOk P raw) (he : ∀ f vs h v h', raw f vs h = some (v, h') → Enters P f) : CallOk P E pure raw := by
  intro f vs h v h' hc m ρ w cvs hs hfr hsz hR a o next Q hn
  have known : ∀ (ps rs : List PV) (h1 : Heap), AnsOk P f ps rs → snapL snapFuel vs h = some (ps, h1) → v = mkRes rs → h' = h1 → o.upon P a next Q ((callFunc f cvs).run P w) := by
    intro ps rs h1 hans e1 hv hh
    subst hv hh
    obtain ⟨s1, s2, _, s4⟩ := snapL_ok (snap_ok snapFuel) vs h ps h' e1
    obtain ⟨m1, r1, r2, r3⟩ := s4 m ρ w (fun j => cvs.getD j undef) hs hR
    refine hans m1 w cvs (r2.bare _) (by omega) r1 a o next Q fun cv w' m' hcv hs' hst => ?_
    refine hn cv w' m' ρ (hcv.rho ρ) ?_ ?_
    · exact r2.frame (hs'.bare ρ) (hst.bare (not_owned _) ρ h.length h.length) (fun id i1 i2 => by omega) (fun id => .inr rfl) (fun id => .inr (.inl ⟨rfl, rfl⟩))
    · have k := (hst.bare (not_owned _) ρ h'.length h'.length).frame (g' := ent h') (lo0 := h'.length) (hi0 := h'.length) r2 (fun id i1 i2 => by omega) (Nat.le_refl _) (Nat.le_refl _) (fun id => .inr rfl) (fun id => .inr (.inl ⟨rfl, rfl⟩))
      rw [s1] at k ⊢
      exact r3.trans k (Nat.le_refl _) (Nat.le_refl _)
  have byRaw : raw f vs h = some (v, h') → o.upon P a next Q ((callFunc f cvs).run P w) := by
    intro hc
    rw [he f vs h v h' hc cvs w]
    show Calls P f cvs w _
    refine (hr f vs h v h' hc m ρ w cvs hs hfr hsz hR).mono fun e w' hh => ?_
    obtain ⟨cv, m', ρ', rfl, h1, h2, h3⟩ := hh
    exact hn cv w' m' ρ' h1 h2 h3
  unfold callA at hc
  split at hc
  · split at hc
    · rename_i ps e1
      split at hc
      · rename_i rs e2
        cases hc
        exact known ps rs _ (hx f ps rs e2) (snapL_pures e1) rfl rfl
      · exact byRaw hc
    · exact byRaw hc
  · split at hc
    case h_2 => cases hc
    rename_i ps h1 e1
    split at hc
    case h_2 => cases hc
    rename_i rs e2
    cases hc
    exact known ps rs _ (hp f ps rs e2) e1 rfl rfl

/-- A world with more in it, and all else as it was. -/
structure Ext (w w' : World) : Prop where
  size : w.heap.size ≤ w'.heap.size
  blocks : ∀ k, k < w.heap.size → w'.heap[k]? = w.heap[k]?
  os : w'.os = w.os
  tape : w'.tape = w.tape
  output : w'.output = w.output

theorem Ext.refl (w : World) : Ext w w := ⟨Nat.le_refl _, fun _ _ => rfl, rfl, rfl, rfl⟩
theorem Ext.trans {a b c : World} (h : Ext a b) (k : Ext b c) : Ext a c :=
  ⟨Nat.le_trans h.size k.size, fun i hi => (k.blocks i (Nat.lt_of_lt_of_le hi h.size)).trans (h.blocks i hi), k.os.trans h.os, k.tape.trans h.tape, k.output.trans h.output⟩

theorem Sim.ext [Base] {m : Imm} {ρ : Rho} {g : Nat → Ent} {w w' : World} (h : Sim m ρ g w) (hx : Ext w w') : Sim m ρ g w' := by
  refine h.grow (.refl m) (.refl ρ) (fun id loc hl hr => ⟨hx.blocks _ (live_size h hl hr), fun _ => rfl⟩) fun b o v hv => ?_
  have hc := h.imm b o v hv
  have hb : b < w.heap.size := by
    rcases Nat.lt_or_ge b w.heap.size with h1 | h1
    · exact h1
    · simp [World.cell?, Array.getElem?_eq_none h1] at hc
  rw [cell_of_block (hx.blocks b hb)]
  exact hc

theorem Step.ext {g g' : Nat → Ent} {lo hi : Nat} {m m' : Imm} {ρ ρ' : Rho} {w w1 w2 : World} (h : Step g g' lo hi m ρ w m' ρ' w1) (hx : Ext w1 w2) : Step g g' lo hi m ρ w m' ρ' w2 :=
  ⟨h.imm, h.rho, h.old, h.new, fun k hk ho => (hx.blocks k (Nat.lt_of_lt_of_le hk h.size)).trans (h.blocks k hk ho), h.fresh, Nat.le_trans h.size hx.size, hx.os.trans h.os, hx.tape.trans h.tape, hx.output.trans h.output⟩

/-- The table holds the program's functions. -/
structure Table [Base] (P : Program) (mu : TypeId → Bool) (E : Env) : Prop where
  func : ∀ f af, E.func f = some af → ∃ fn c, P.funcs[f]? = some fn ∧ fn.body = some c ∧ (fn.name == "runtime.NumGoroutine") = false ∧ trFunc P mu fn = some af
  ext : PureOk P E.ext
  mix : P.follows .mixedOrders = true
  idle : ∀ (f : FuncId) (caps : Array Value), (f, caps.size) ∈ Base.idle → ∀ (w : World), (callFunc f caps).run P w = .ok (.enter f caps) w ∧ CallsD P f caps .returning w fun e u' w' => (∃ v, e = .returned v) ∧ u' = .returning ∧ Ext w w'

theorem Table.enters [Base] (T : Table P mu E) {f : FuncId} {af : AFunc} (h : E.func f = some af) : Enters P f := by
  obtain ⟨fn, c, h1, h2, h3, _⟩ := T.func f af h
  exact enters_of h1 h2 h3

theorem runF_func {n : Nat} {f : FuncId} {vs : List V} {h : Heap} {r : V × Heap} (e : runF E n f vs h = some r) : ∃ af, E.func f = some af := by
  cases n with
  | zero => simp [runF] at e
  | succ n =>
    simp only [runF] at e
    split at e
    · rename_i af h1; exact ⟨af, h1⟩
    · cases e

theorem runF_mono : ∀ (n : Nat), RawMono (runF E n)
  | 0 => fun f vs h v h' e => by simp [runF] at e
  | n + 1 => fun f vs h v h' e => by
    simp only [runF] at e
    split at e
    case h_2 => cases e
    split at e
    case isFalse => cases e
    split at e
    · rename_i st e1
      have := execA_mono (runF_mono n) _ _ _ _ e1
      simp only [Option.map_eq_some_iff, Prod.mk.injEq] at e
      obtain ⟨_, _, _, rfl⟩ := e
      exact this
    · rename_i st e1
      have := execA_mono (runF_mono n) _ _ _ _ e1
      simp only [Option.map_eq_some_iff, Prod.mk.injEq] at e
      obtain ⟨_, _, _, rfl⟩ := e
      exact this
    · cases e

/-- Deferred calls that do nothing: the result is read behind them. -/
theorem leaves_idle [Base] (T : Table P mu E) {fn : Func} {tmps : Array Value} {R : Ending → World → Prop} : ∀ (ds : List Deferred) (w : World), (∀ d ∈ ds, idleD d) → (∀ w', Ext w w' → ∃ v, (results fn tmps).run P w' = .ok v w' ∧ R (.returned v) w') → Go.Leaves P fn tmps R ds .returning w
  | [], w, _, h => h w (.refl w)
  | d :: ds, w, hd, h => by
    obtain ⟨f, caps, hf, rfl⟩ := hd d (by simp)
    refine leaves_cons (by simp) (f := f) (args := caps) (by simp [invoke, (T.idle f caps hf w).1]) ((T.idle f caps hf w).2.mono fun e u' w1 he => ?_)
    obtain ⟨⟨v, rfl⟩, rfl, hx⟩ := he
    exact leaves_idle T ds w1 (fun d hd' => hd d (by simp [hd'])) fun w2 hx2 => h w2 (hx.trans hx2)

theorem run_step [Base] (T : Table P mu E) {n : Nat} (hcall : CallOk P E (runP E n) (runF E n)) : RunOk P (runF E (n + 1)) := by
  intro f vs h v h' e m ρ w cvs hs hfr hsz hR
  simp only [runF] at e
  split at e
  case h_2 => cases e
  rename_i af haf
  obtain ⟨fn, c, f1, f2, f3, f4⟩ := T.func f af haf
  unfold trFunc at f4
  simp only [f2, Option.bind_eq_bind, Option.bind_eq_some_iff, Option.some.injEq, exists_eq_left'] at f4
  obtain ⟨ars, hars, ac, hac, rfl⟩ := f4
  split at e
  case isFalse => cases e
  rename_i hle
  simp only at hle e
  have hex : ∃ ex st, execA E (runP E n) (runF E n) n ac ⟨vs ++ List.replicate (fn.ntmps - vs.length) (.tup []), h⟩ = some (ex, st) ∧ (ex = .normal ∨ ex = .ret) ∧ ∃ us, resA st ars = some us ∧ v = oneOf us ∧ h' = st.heap := by
    split at e
    · rename_i st e1
      simp only [Option.map_eq_some_iff, Prod.mk.injEq] at e
      obtain ⟨us, e2, rfl, rfl⟩ := e
      exact ⟨_, _, e1, .inl rfl, us, e2, rfl, rfl⟩
    · rename_i st e1
      simp only [Option.map_eq_some_iff, Prod.mk.injEq] at e
      obtain ⟨us, e2, rfl, rfl⟩ := e
      exact ⟨_, _, e1, .inr rfl, us, e2, rfl, rfl⟩
    · cases e
  obtain ⟨ex, st, e1, hor, us, e2, rfl, rfl⟩ := hex
  refine calls_of_wp_defers f1 f2 ?_
  refine exec_ok T.mix hcall (runF_mono n) c ac hac _ ex st _ w m ρ _ e1 ⟨⟨fun t u hu => ?_, hs⟩, fun d hd => by simp at hd, by simp; omega⟩ hfr fun a' w' m' ρ' hok hst => ?_
  · simp only [Array.getD_eq_getD_getElem?]
    rcases Nat.lt_or_ge t vs.length with hlt | hge
    · rw [List.getElem?_append_left hlt] at hu
      rw [Array.getElem?_append_left (by omega), ← Array.getD_eq_getD_getElem?]
      exact hR t u hu
    · rw [List.getElem?_append_right hge, List.getElem?_replicate] at hu
      split at hu
      · rename_i hlt2
        cases hu
        rw [Array.getElem?_append_right (by omega), Array.getElem?_replicate, if_pos (by omega)]
        exact R.undef
      · cases hu
  · have fin := leaves_idle T (fn := fn) (tmps := a'.tmps) (R := fun e w' => ∃ cv m'' ρ'', e = .returned cv ∧ R m'' ρ'' (oneOf us) cv ∧ Sim m'' ρ'' (ent st.heap) w' ∧ Step (ent h) (ent st.heap) h.length st.heap.length m ρ w m'' ρ'' w') a'.defers w' hok.defers
      fun w2 hx => by
        have at2 : At m' ρ' a' st.tmps st.heap w2 := ⟨hok.at_.tmps, hok.at_.sim.ext hx⟩
        obtain ⟨cv, k1, k2⟩ := results_ok at2 hars e2
        exact ⟨cv, k1, cv, m', ρ', rfl, k2, at2.sim, hst.ext hx⟩
    rcases hor with rfl | rfl
    · exact fin
    · exact fin

/-- What a run in a heap of its own leaves. -/
theorem pure_calls [Base] {n : Nat} (hr : RunOk P (runF E n)) {f : FuncId} {ps rs : List PV} {v : V} {h' : Heap} (e1 : runF E n f (ps.map .pv) [] = some (v, h')) (e2 : pureRes v h' = some rs) {m : Imm} {w : World} {cvs : Array Value}
    (hs : Sim m (fun _ => none) (fun _ => .dead) w) (hsz : cvs.size = ps.length) (hR : ∀ (j : Nat) (p : PV), ps[j]? = some p → RP m p (cvs.getD j undef)) :
    Calls P f cvs w fun e w' => ∃ cv m', e = .returned cv ∧ R m' (fun _ => none) (mkRes rs) cv ∧ Sim m' (fun _ => none) (fun _ => .dead) w' ∧ Step (fun _ => .dead) (fun _ => .dead) 0 0 m (fun _ => none) w m' (fun _ => none) w' := by
  have hdead : ent ([] : Heap) = fun _ => .dead := by funext i; rfl
  refine (hr f _ [] v h' e1 m (fun _ => none) w cvs (by rw [hdead]; exact hs) (fun _ _ _ => rfl) (by simpa using hsz) (fun j u hu => ?_)).mono fun e w' hh => ?_
  · simp only [List.getElem?_map, Option.map_eq_some_iff] at hu
    obtain ⟨p, hp, rfl⟩ := hu
    exact .pv _ _ (hR j p hp)
  obtain ⟨cv, m', ρ', rfl, h1, h2, h3⟩ := hh
  rw [hdead] at h3
  -- the answer, without its rights
  have snapped : ∃ m2 h2, R m2 (fun _ => none) (mkRes rs) cv ∧ Sim m2 ρ' (ent h2) w' ∧ Step (ent h') (ent h2) h'.length h'.length m' ρ' w' m2 ρ' w' := by
    unfold pureRes at e2
    split at e2
    · cases e2
    · rename_i us hne
      simp only [Option.map_eq_some_iff] at e2
      obtain ⟨⟨qs, h2'⟩, e3, rfl⟩ := e2
      obtain ⟨s1, s2, _, s4⟩ := snapL_ok (snap_ok snapFuel) us h' qs h2' e3
      cases h1 with
      | tup _ vs hl hr2 =>
        obtain ⟨m2, r1, r2, r3⟩ := s4 m' ρ' w' (fun j => vs.getD j undef) h2 hr2
        refine ⟨m2, h2', ?_, r2, r3⟩
        have : mkRes qs = .tup (qs.map .pv) := by
          rcases qs with _ | ⟨q, _ | ⟨q2, qs⟩⟩
          · rfl
          · rcases us with _ | ⟨u, _ | ⟨u2, us⟩⟩
            · simp at s2
            · exact absurd rfl (hne u)
            · simp at s2
          · rfl
        simp only
        rw [this]
        refine .tup _ _ (by simp [s2, hl]) fun j c hj => ?_
        simp only [List.getElem?_map, Option.map_eq_some_iff] at hj
        obtain ⟨p, hp, rfl⟩ := hj
        exact .pv _ _ (r1 j p hp)
    · simp only [Option.map_eq_some_iff] at e2
      obtain ⟨⟨q, h2'⟩, e3, rfl⟩ := e2
      obtain ⟨s1, _, s4⟩ := snap_ok snapFuel v h' q h2' e3
      obtain ⟨m2, r1, r2, r3⟩ := s4 m' ρ' w' cv h2 h1
      exact ⟨m2, h2', .pv _ _ r1, r2, r3⟩
  obtain ⟨m2, h2', k1, k2, k3⟩ := snapped
  have k4 := h3.trans k3 (Nat.zero_le _) (Nat.le_refl _)
  exact ⟨cv, m2, rfl, k1, k2.bare _, k4.bare (not_owned _) _ 0 0⟩

theorem pure_step [Base] (T : Table P mu E) {n : Nat} (hr : RunOk P (runF E n)) : PureOk P (runP E (n + 1)) := by
  intro f ps rs e m w cvs hs hsz hR a o next Q hn
  simp only [runP] at e
  split at e
  · rename_i rs' hg
    cases e
    exact T.ext f ps _ hg m w cvs hs hsz hR a o next Q hn
  · split at e
    case h_2 => cases e
    rename_i v h' e1
    obtain ⟨af, haf⟩ := runF_func e1
    rw [T.enters haf cvs w]
    show Calls P f cvs w _
    refine (pure_calls hr e1 e hs hsz hR).mono fun e w' hh => ?_
    obtain ⟨cv, m', rfl, h1, h2, h3⟩ := hh
    exact hn cv w' m' h1 h2 h3

theorem all_ok [Base] (T : Table P mu E) : ∀ n, RunOk P (runF E n) ∧ PureOk P (runP E n)
  | 0 => ⟨fun f vs h v h' e => by simp [runF] at e, fun f ps rs e => by simp [runP] at e⟩
  | n + 1 => by
    obtain ⟨h1, h2⟩ := all_ok T n
    have hc : CallOk P E (runP E n) (runF E n) := callOk_of T.ext h2 h1 fun f vs h v h' e => by
      obtain ⟨af, haf⟩ := runF_func e
      exact T.enters haf
    exact ⟨run_step T hc, pure_step T h1⟩

/-- THE MACHINE IS RIGHT: what it answers, the program answers. -/
theorem runP_calls [Base] (T : Table P mu E) {n : Nat} {f : FuncId} {ps rs : List PV} (he : E.ext f ps = none) (e : runP E n f ps = some rs) {m : Imm} {w : World} {cvs : Array Value}
    (hs : Sim m (fun _ => none) (fun _ => .dead) w) (hsz : cvs.size = ps.length) (hR : ∀ (j : Nat) (p : PV), ps[j]? = some p → RP m p (cvs.getD j undef)) :
    Calls P f cvs w fun e w' => ∃ cv m', e = .returned cv ∧ R m' (fun _ => none) (mkRes rs) cv ∧ Sim m' (fun _ => none) (fun _ => .dead) w' ∧ Step (fun _ => .dead) (fun _ => .dead) 0 0 m (fun _ => none) w m' (fun _ => none) w' := by
  cases n with
  | zero => simp [runP] at e
  | succ n =>
    simp only [runP, he] at e
    split at e
    case h_2 => cases e
    rename_i v h' e1
    exact pure_calls (all_ok T n).1 e1 e hs hsz hR

/-- Answers that are known. -/
def memo : List (FuncId × List PV × List PV) → FuncId → List PV → Option (List PV)
  | [], _, _ => none
  | (f', qs, rs) :: k, f, ps => match Nat.beq f' f with
    | true => match PV.beqL qs ps with
      | true => some rs
      | false => memo k f ps
    | false => memo k f ps

theorem memo_ok [Base] {k : List (FuncId × List PV × List PV)} (h : ∀ (f : FuncId) (ps rs : List PV), (f, ps, rs) ∈ k → AnsOk P f ps rs) : PureOk P (memo k) := by
  intro f ps rs e
  have : ∀ k : List (FuncId × List PV × List PV), memo k f ps = some rs → (f, ps, rs) ∈ k := by
    intro k
    induction k with
    | nil => intro e; simp [memo] at e
    | cons x k ih =>
      obtain ⟨f', qs, rs'⟩ := x
      intro e
      simp only [memo] at e
      split at e
      · rename_i hf
        split at e
        · rename_i hq
          cases e
          rw [PV.beqL_eq _ _ hq, Nat.eq_of_beq_eq_true hf]
          simp
        · exact List.mem_cons_of_mem _ (ih e)
      · exact List.mem_cons_of_mem _ (ih e)
  exact h f ps rs (this k e)

/-- An answer that was worked out is known. -/
theorem known [Base] (T : Table P mu E) {n : Nat} {f : FuncId} {ps rs : List PV} (e : runP E n f ps = some rs) : AnsOk P f ps rs := (all_ok T n).2 _ _ _ e

def Knows [Base] (P : Program) (k : List (FuncId × List PV × List PV)) : Prop := ∀ (f : FuncId) (ps rs : List PV), (f, ps, rs) ∈ k → AnsOk P f ps rs

theorem Knows.nil [Base] : Knows P [] := fun _ _ _ h => by simp at h

theorem Knows.cons [Base] {k : List (FuncId × List PV × List PV)} {g : FuncId} {qs ss : List PV} (h : AnsOk P g qs ss) (hk : Knows P k) : Knows P ((g, qs, ss) :: k) := by
  intro f ps rs hm
  rcases List.mem_cons.1 hm with e | hm
  · cases e; exact h
  · exact hk f ps rs hm

/-- With other answers known. -/
theorem Table.memo [Base] (T : Table P mu E) {k : List (FuncId × List PV × List PV)} (hk : Knows P k) : Table P mu { E with ext := memo k } := ⟨T.func, memo_ok hk, T.mix, T.idle⟩

end Ab
