/- Walks: the abstract machine with each function's answer at hand, no fuel in sight. -/
import Derived.Test.YtcggaaheaahinaaDoorAbSym
namespace Ab
open Go

theorem Ans.uniq {E : Env} {f : FuncId} {ps rs rs' : List PV} (h : Ans E f ps rs) (h' : Ans E f ps rs') : rs = rs' := by
  obtain ⟨n, e⟩ := h.up
  obtain ⟨n', e'⟩ := h'.up
  have a := e (max n n') (by omega)
  have b := e' (max n n') (by omega)
  rw [a] at b
  exact Option.some.inj b

theorem AnsR.uniq {E : Env} {f : FuncId} {vs : List V} {h : Heap} {v v' : V} {h1 h2 : Heap} (a : AnsR E f vs h v h1) (b : AnsR E f vs h v' h2) : (v, h1) = (v', h2) := by
  obtain ⟨n, e⟩ := a.up
  obtain ⟨n', e'⟩ := b.up
  have a := e (max n n') (by omega)
  have b := e' (max n n') (by omega)
  rw [a] at b
  exact Option.some.inj b

open Classical in
/-- Each function's answer. -/
noncomputable def limP (E : Env) : FuncId → List PV → Option (List PV) := fun f ps => if h : ∃ rs, Ans E f ps rs then some h.choose else none

open Classical in
noncomputable def limR (E : Env) : FuncId → List V → Heap → Option (V × Heap) := fun f vs h => if e : ∃ x : V × Heap, AnsR E f vs h x.1 x.2 then some e.choose else none

theorem Ans.lim {E : Env} {f : FuncId} {ps rs : List PV} (h : Ans E f ps rs) : limP E f ps = some rs := by
  have hx : ∃ rs, Ans E f ps rs := ⟨rs, h⟩
  rw [limP, dif_pos hx]
  exact congrArg some (hx.choose_spec.uniq h)

theorem Ans.of_lim {E : Env} {f : FuncId} {ps rs : List PV} (h : limP E f ps = some rs) : Ans E f ps rs := by
  unfold limP at h
  split at h
  · rename_i hx; cases h; exact hx.choose_spec
  · cases h

theorem AnsR.lim {E : Env} {f : FuncId} {vs : List V} {h : Heap} {v : V} {h' : Heap} (e : AnsR E f vs h v h') : limR E f vs h = some (v, h') := by
  have hx : ∃ x : V × Heap, AnsR E f vs h x.1 x.2 := ⟨(v, h'), e⟩
  rw [limR, dif_pos hx]
  exact congrArg some (hx.choose_spec.uniq e)

theorem AnsR.of_lim {E : Env} {f : FuncId} {vs : List V} {h : Heap} {x : V × Heap} (e : limR E f vs h = some x) : AnsR E f vs h x.1 x.2 := by
  unfold limR at e
  split at e
  · rename_i hx; cases e; exact hx.choose_spec
  · cases e

theorem pLe_lim (E : Env) (n : Nat) : PLe (runP E n) (limP E) := fun _ _ _ e => Ans.lim ⟨n, e⟩
theorem rLe_lim (E : Env) (n : Nat) : RLe (runF E n) (limR E) := fun _ _ _ ⟨_, _⟩ e => AnsR.lim ⟨n, e⟩

/-- From some number on. -/
def Ev (p : Nat → Prop) : Prop := ∃ n0, ∀ n, n0 ≤ n → p n

theorem Ev.all {p : Nat → Prop} (h : ∀ n, p n) : Ev p := ⟨0, fun n _ => h n⟩
theorem Ev.and {p q : Nat → Prop} (h : Ev p) (k : Ev q) : Ev fun n => p n ∧ q n := by
  obtain ⟨a, h⟩ := h
  obtain ⟨b, k⟩ := k
  exact ⟨max a b, fun n hn => ⟨h n (by omega), k n (by omega)⟩⟩
theorem Ev.imp {p q : Nat → Prop} (h : Ev p) (k : ∀ n, p n → q n) : Ev q := by
  obtain ⟨a, h⟩ := h
  exact ⟨a, fun n hn => k n (h n hn)⟩

section
variable {E : Env} {ts : List V} {h : Heap}

theorem callA_ev {f : FuncId} {vs : List V} {x : V × Heap} (e : callA E (limP E) (limR E) f vs h = some x) : Ev fun n => callA E (runP E n) (runF E n) f vs h = some x := by
  have raw : ∀ {x}, limR E f vs h = some x → Ev fun n => runF E n f vs h = some x := fun {x} e => by
    obtain ⟨n0, k⟩ := (AnsR.of_lim e).up
    exact ⟨n0, k⟩
  unfold callA at e
  split at e
  · rename_i hc
    split at e
    · rename_i ps e1
      split at e
      · rename_i rs e2
        exact .all fun n => by unfold callA; rw [if_pos hc]; simp only [e1, e2]; exact e
      · rename_i e2
        exact (raw e).imp fun n k => by unfold callA; rw [if_pos hc]; simp only [e1, e2]; exact k
    · rename_i e1
      exact (raw e).imp fun n k => by unfold callA; rw [if_pos hc]; simp only [e1]; exact k
  · rename_i hc
    split at e
    · rename_i ps h1 e1
      split at e
      · rename_i rs e2
        obtain ⟨n0, k⟩ := (Ans.of_lim e2).up
        exact ⟨n0, fun n hn => by show callA E (runP E n) (runF E n) f vs h = some x; unfold callA; rw [if_neg hc]; simp only [e1, k n hn]; exact e⟩
      · cases e
    · cases e

theorem opA_ev {op : AOp} {x : V × Heap} (e : opA E (limP E) (limR E) ts h op = some x) : Ev fun n => opA E (runP E n) (runF E n) ts h op = some x := by
  cases op
  case call f args =>
    simp only [opA] at e
    split at e
    · rename_i vs e1
      exact (callA_ev e).imp fun n k => by simp only [opA, e1]; exact k
    · cases e
  case callv f args =>
    simp only [opA] at e
    split at e
    · rename_i f cs vs e0 e1
      exact (callA_ev e).imp fun n k => by simp only [opA, e0, e1]; exact k
    · rename_i f cs vs e0 e1
      exact (callA_ev e).imp fun n k => by simp only [opA, e0, e1]; exact k
    · cases e
  all_goals exact .all fun n => e

theorem stepA_ev {o : AOper} {st st' : St} (e : stepA E (limP E) (limR E) o st = some st') : Ev fun n => stepA E (runP E n) (runF E n) o st = some st' := by
  unfold stepA at e
  split at e
  · rename_i hw
    split at e
    · rename_i v h e1
      exact (opA_ev e1).imp fun n k => by simp only [stepA, hw, k]; exact e
    · cases e
  · rename_i hw
    exact .all fun n => by simp only [stepA, hw]; exact e
  · cases e

theorem stepsA_ev : ∀ {os : List AOper} {st st' : St}, stepsA E (limP E) (limR E) os st = some st' → Ev fun n => stepsA E (runP E n) (runF E n) os st = some st'
  | [], _, _, e => .all fun _ => e
  | o :: os, st, st', e => by
    simp only [stepsA] at e
    split at e
    · rename_i st1 e1
      exact ((stepA_ev e1).and (stepsA_ev e)).imp fun n k => by simp only [stepsA, k.1]; exact k.2
    · cases e

theorem stepM_ev {o : AOper} {st : St} {x : St × Log} (e : stepM E (limP E) (limR E) o st = some x) : Ev fun n => stepM E (runP E n) (runF E n) o st = some x := by
  unfold stepM at e
  dsimp only at e
  split at e
  · rename_i hw
    split at e
    · rename_i v h e1
      exact (opA_ev e1).imp fun n k => by unfold stepM; dsimp only; simp only [hw, k]; exact e
    · cases e
  · rename_i hw
    exact .all fun n => by unfold stepM; dsimp only; simp only [hw]; exact e
  · cases e

theorem stepsM_ev : ∀ {os : List AOper} {st : St} {x : St × List Log}, stepsM E (limP E) (limR E) os st = some x → Ev fun n => stepsM E (runP E n) (runF E n) os st = some x
  | [], _, _, e => .all fun _ => e
  | o :: os, st, x, e => by
    simp only [stepsM] at e
    split at e
    · rename_i st1 l e1
      split at e
      · rename_i st2 ls e2
        exact ((stepM_ev e1).and (stepsM_ev e2)).imp fun n k => by simp only [stepsM, k.1, k.2]; exact e
      · cases e
    · cases e

theorem regionA_ev {os : List AOper} {draw : Bool} {st st' : St} (e : regionA E (limP E) (limR E) os draw st = some st') : Ev fun n => regionA E (runP E n) (runF E n) os draw st = some st' := by
  unfold regionA at e
  split at e
  · rename_i hd
    split at e
    · rename_i st1 ls e1
      exact (stepsM_ev e1).imp fun n k => by simp only [regionA, hd, if_true, k]; exact e
    · cases e
  · rename_i hd
    exact (stepsA_ev e).imp fun n k => by simp only [regionA, hd]; exact k

end

/-- Some state, and it is so. -/
def OptQ (o : Option St) (q : St → Prop) : Prop := match o with
  | some st => q st
  | none => False

section
variable {E : Env} {st : St} {Q : AExit → St → Prop}

theorem w_region {ops : List AOper} {draw : Bool} : W E (.region ops draw) st Q ↔ OptQ (regionA E (limP E) (limR E) ops draw st) (Q .normal) := by
  constructor
  · rintro ⟨n, ex, st', e, q⟩
    simp only [execA] at e
    split at e
    · rename_i st1 e1
      cases e
      rw [regionA_le (pLe_lim E n) (rLe_lim E n) e1]
      exact q
    · cases e
  · intro h
    cases e : regionA E (limP E) (limR E) ops draw st with
    | none => rw [e] at h; exact h.elim
    | some st' =>
      rw [e] at h
      obtain ⟨n, k⟩ := regionA_ev e
      exact W.region (k n (Nat.le_refl _)) h

theorem w_skip : W E .skip st Q ↔ Q .normal st := by
  constructor
  · rintro ⟨n, ex, st', e, q⟩; simp only [execA] at e; cases e; exact q
  · exact W.skip
/-- Steps in the text's order. -/
theorem regionA_text {E : Env} {p : FuncId → List PV → Option (List PV)} {r : FuncId → List V → Heap → Option (V × Heap)} {ops : List AOper} {st : St} : regionA E p r ops false st = stepsA E p r ops st := by simp [regionA]

end

section
variable {E : Env} {st st' : St} {Q : AExit → St → Prop} {rest : ACode}

theorem w_seq {a b : ACode} : W E (.seq a b) st Q ↔ W E a st (thenQ (fun st => W E b st Q) Q) := by
  refine ⟨?_, W.seq⟩
  rintro ⟨n, ex, st', e, q⟩
  simp only [execA] at e
  cases e1 : execA E (runP E n) (runF E n) n a st with
  | none => rw [e1] at e; cases e
  | some x =>
    obtain ⟨ex1, st1⟩ := x
    rw [e1] at e
    cases ex1 with
    | normal => exact ⟨n, .normal, st1, e1, n, ex, st', e, q⟩
    | exit id => cases e; exact ⟨n, _, _, e1, q⟩
    | ret => cases e; exact ⟨n, _, _, e1, q⟩

/-- One behind the other, laid flat. -/
def app : ACode → ACode → ACode
  | .seq a b, c => app a (app b c)
  | x, c => .seq x c

theorem w_app {E : Env} {Q : AExit → St → Prop} : ∀ (a : ACode) {c : ACode} {st : St}, W E (app a c) st Q ↔ W E (.seq a c) st Q := by
  intro a
  induction a with
  | seq a b iha ihb =>
    intro c st
    have hb : (fun st => W E (app b c) st Q) = fun st => W E (.seq b c) st Q := funext fun st => propext ihb
    have hb2 : (fun st => W E (.seq b c) st Q) = fun st => W E b st (thenQ (fun st => W E c st Q) Q) := funext fun st => propext w_seq
    have hq : thenQ (fun st => W E b st (thenQ (fun st => W E c st Q) Q)) Q = thenQ (fun st => W E b st (thenQ (fun st => W E c st Q) Q)) (thenQ (fun st => W E c st Q) Q) := by
      funext ex st
      cases ex <;> rfl
    show W E (app a (app b c)) st Q ↔ _
    rw [iha, w_seq, hb, hb2, hq, w_seq (a := .seq a b), w_seq (a := a)]
  | _ => intro c st; exact Iff.rfl

/-- A function's code, laid flat. -/
theorem W.start {c : ACode} (h : W E (app c .skip) st Q) : W E c st Q := by
  rw [w_app, w_seq] at h
  obtain ⟨n, ex, st', e, q⟩ := h
  refine ⟨n, ex, st', e, ?_⟩
  cases ex with
  | normal => exact w_skip.1 q
  | exit id => exact q
  | ret => exact q

/-- A region in the text's order, and on. -/
theorem W.go {ops : List AOper} (h : stepsA E (limP E) (limR E) ops st = some st') (k : W E rest st' Q) : W E (.seq (.region ops false) rest) st Q :=
  W.seq (w_region.2 (by rw [regionA_text, h]; exact k))

/-- A region in any order, and on. -/
theorem W.draw {ops : List AOper} {ls : List Log} (h : stepsM E (limP E) (limR E) ops st = some (st', ls)) (hp : (ordered ops 0 && pairsOk (ancs ops []) ls) = true) (k : W E rest st' Q) : W E (.seq (.region ops true) rest) st Q :=
  W.seq (w_region.2 (by simp only [regionA, if_true, h, hp]; exact k))

theorem W.skipS (k : W E rest st Q) : W E (.seq .skip rest) st Q := W.seq (W.skip k)
theorem W.retS (k : Q .ret st) : W E (.seq .ret rest) st Q := W.seq (W.ret k)
theorem W.exitS {id : Nat} (k : Q (.exit id) st) : W E (.seq (.exit id) rest) st Q := W.seq (W.exit k)

/-- A choice, and on. -/
theorem W.condS {c : AOperand} {a b : ACode} {t : Bool} (hc : St.eval st.tmps c = some (.pv (.bool t))) (h1 : t = true → W E (app a rest) st Q) (h2 : t = false → W E (app b rest) st Q) : W E (.seq (.cond c a b) rest) st Q := by
  cases t with
  | true =>
    obtain ⟨n, ex, st', e, q⟩ := (w_app a).1 (h1 rfl)
    exact ⟨n, ex, st', by simp only [execA, hc, if_true] at e ⊢; exact e, q⟩
  | false =>
    obtain ⟨n, ex, st', e, q⟩ := (w_app b).1 (h2 rfl)
    exact ⟨n, ex, st', by simp only [execA, hc, Bool.false_eq_true, if_false] at e ⊢; exact e, q⟩

theorem W.blockS {id : Nat} {b : ACode} (h : W E (app b .skip) st (inB id (thenQ (fun st => W E rest st Q) Q))) : W E (.seq (.block id b) rest) st Q := W.seq (W.block (W.start h))

/-- A loop, by a number that falls. -/
theorem W.loopS {b : ACode} (I : Nat → St → Prop) (k : Nat) (h0 : I k st) (hb : ∀ k st, I k st → W E (app b .skip) st (thenQ (fun st' => ∃ k', k' < k ∧ I k' st') (thenQ (fun st => W E rest st Q) Q))) : W E (.seq (.loop b) rest) st Q :=
  W.seq (W.loop I (fun k st hk => W.start (hb k st hk)) k st h0)

/-- Out of a block. -/
theorem inB.here {id : Nat} (h : Q .normal st) : inB id Q (.exit id) st := .inl ⟨rfl, h⟩
theorem inB.out {id id' : Nat} (hne : id' ≠ id) (h : Q (.exit id') st) : inB id Q (.exit id') st := .inr ⟨hne, h⟩

end

theorem length_mask {F : List Nat} {h : Heap} : (mask F h).length = h.length := by simp [mask]

theorem merge_mask {F : List Nat} {h : Heap} : merge F h (mask F h) = h := by
  refine List.ext_getElem (by simp [merge, mask]) fun i h1 h2 => ?_
  simp only [merge, mask, List.getElem_mapIdx]
  by_cases hi : F.contains i = true
  · simp only [hi, Bool.true_or, if_true]
  · simp [(by simpa using hi : i ∉ F), ent, h2, show ¬ h.length ≤ i by omega]

theorem merge_mask_set {F : List Nat} {h : Heap} {i : Nat} {e : Ent} (hi : F.contains i = true) : merge F h ((mask F h).set i e) = h.set i e := by
  refine List.ext_getElem (by simp [merge, mask]) fun j h1 h2 => ?_
  simp only [List.length_set] at h2
  simp only [merge, mask, List.getElem_mapIdx, List.getElem_set]
  by_cases hij : i = j
  · subst hij; simp only [hi, Bool.true_or, if_true]
  · by_cases hj : F.contains j = true
    · simp only [hj, Bool.true_or, if_true, if_neg hij]
    · simp [(by simpa using hj : j ∉ F), ent, h2, hij, show ¬ h.length ≤ j by omega]

theorem merge_app {F : List Nat} {h h' : Heap} {l : List Ent} (hl : h'.length = h.length) : merge F h (h' ++ l) = merge F h h' ++ l := by
  refine List.ext_getElem (by simp [merge]) fun j h1 h2 => ?_
  simp only [merge, List.getElem_mapIdx, List.getElem_append, List.length_mapIdx]
  by_cases hj : j < h'.length
  · simp only [dif_pos hj]
  · simp only [dif_neg hj, show h.length ≤ j by omega, decide_true, Bool.or_true, if_true]

theorem merge_mask_app {F : List Nat} {h : Heap} {l : List Ent} : merge F h (mask F h ++ l) = h ++ l := by
  rw [merge_app length_mask, merge_mask]

theorem merge_mask_set_app {F : List Nat} {h : Heap} {i : Nat} {e : Ent} {l : List Ent} (hi : F.contains i = true) : merge F h ((mask F h).set i e ++ l) = h.set i e ++ l := by
  rw [merge_app (by simp [length_mask]), merge_mask_set hi]

theorem reach_nil {h : Heap} {n : Nat} : reach h n [] = [] := by cases n <;> simp [reach, addNew]

/-- What lies in a heap stays there. -/
theorem ent_app {h l : Heap} {t : Nat} {e : Ent} (he : ent h t = e) (hd : e ≠ .dead) : ent (h ++ l) t = e := by
  have : t < h.length := by
    rcases Nat.lt_or_ge t h.length with h1 | h1
    · exact h1
    · simp [ent, List.getElem?_eq_none h1] at he
      exact absurd he.symm hd
  simpa [ent, List.getElem?_append_left this] using he
theorem ent_tok {h l : Heap} {t : Nat} (he : ent h t = .tok) : ent (h ++ l) t = .tok := ent_app he (by simp)
theorem ent_at {h l : Heap} {n : Nat} : ent (h ++ l) (h.length + n) = ent l n := by simp [ent, List.getElem?_append_right]
theorem ent_at0 {h l : Heap} : ent (h ++ l) h.length = ent l 0 := by simp [ent, List.getElem?_append_right]
/-- A slice that is being made by appends. -/
def Row (h : Heap) (v : V) (es : List PV) : Prop := (es = [] ∧ v = .nils) ∨ (es ≠ [] ∧ ∃ tok, v = .slt es tok ∧ ent h tok = .tok)

/-- Its right is taken away. -/
def kill (h : Heap) : V → Heap
  | .slt _ tok => h.set tok .dead
  | _ => h

theorem Row.nil {h : Heap} : Row h .nils [] := .inl ⟨rfl, rfl⟩
theorem Row.mono {h l : Heap} {v : V} {es : List PV} (r : Row h v es) : Row (h ++ l) v es := by
  rcases r with r | ⟨h1, tok, h2, h3⟩
  · exact .inl r
  · exact .inr ⟨h1, tok, h2, ent_tok h3⟩
/-- Another entry is turned. -/
theorem Row.set {h : Heap} {v : V} {es : List PV} {i : Nat} {e : Ent} (r : Row h v es) (hi : ent h i ≠ .tok) : Row (h.set i e) v es := by
  rcases r with r | ⟨h1, tok, h2, h3⟩
  · exact .inl r
  · refine .inr ⟨h1, tok, h2, ?_⟩
    rw [ent_set_ne (fun hh => hi (by rw [hh]; exact h3))]; exact h3
theorem Row.snap {h : Heap} {v : V} {es : List PV} (r : Row h v es) (n : Nat) (h' : Heap) : snap (n + 1) v h' = some (.sl es, h') := by
  rcases r with ⟨rfl, rfl⟩ | ⟨_, tok, rfl, _⟩ <;> simp [Ab.snap]
theorem Row.len {h : Heap} {v : V} {es : List PV} (r : Row h v es) : lenA v = some es.length := by
  rcases r with ⟨rfl, rfl⟩ | ⟨_, tok, rfl, _⟩ <;> simp [lenA]
theorem length_kill {h : Heap} {v : V} : (kill h v).length = h.length := by cases v <;> simp [kill]
theorem Row.app {h : Heap} {v : V} {es : List PV} (r : Row h v es) {ag : Bool} {sz bytes : Nat} {te : TypeId} {n : Nat} {new : List V} {ps : List PV} (hn : n ≠ 0) (hs : strideOk sz es = true) (ha : (ag || sz == 1) = true)
    (hb : (es.length + n) * bytes ≤ 35184372088832) (hl : new.length = n * sz) (hw : weak.weakL new = some ps) :
    appendA h ag false sz bytes te v n new = some (.slt (es ++ (chunks sz n ps).map (mkPV ag)) h.length, kill h v ++ [.tok]) := by
  rcases r with ⟨rfl, rfl⟩ | ⟨h1, tok, rfl, h3⟩
  · simp only [appendA, if_neg hn, Bool.false_eq_true, if_false, hs, ha, Bool.and_self, hl, growMax, hb, decide_true, if_true, hw, kill]
  · have : es.isEmpty = false := by cases es with
      | nil => exact absurd rfl h1
      | cons => rfl
    simp only [appendA, if_neg hn, h3, this, Bool.false_eq_true, if_false, hs, ha, Bool.and_self, hl, growMax, hb, decide_true, if_true, hw, kill, List.length_set]
theorem Row.after {h l : Heap} {es : List PV} (he : es ≠ []) {n : Nat} (hn : n = h.length) : Row (h ++ .tok :: l) (.slt es n) es := by
  subst hn
  exact .inr ⟨he, h.length, rfl, by simp [ent]⟩

/-- Other entries stay as they are. -/
theorem Row.keep {h l : Heap} {v : V} {es : List PV} (r : Row h v es) {n : Nat} {e : Ent} (he : ent h n = e) (h1 : e ≠ .tok) (h2 : e ≠ .dead) : ent (kill h v ++ l) n = e := by
  refine ent_app ?_ h2
  rcases r with ⟨_, rfl⟩ | ⟨_, tok, rfl, h3⟩
  · exact he
  · simp only [kill]
    rw [ent_set_ne]
    · exact he
    · rintro rfl; exact h1 (he.symm.trans h3)
theorem Row.done {h l : Heap} {v : V} {es : List PV} {n : Nat} (he : es ≠ []) (hn : n = h.length) : Row (kill h v ++ .tok :: l) (.slt es n) es :=
  Row.after he (by rw [length_kill, hn])


theorem snapL_eq {vs : List V} {h : Heap} : snapL snapFuel vs h = snapLF (snap 1000) vs h := rfl
section
variable {n : Nat} {h : Heap}
theorem snap_pv {p : PV} : snap (n + 1) (.pv p) h = some (p, h) := by simp [snap]
theorem snap_slt {es : List PV} {t : Nat} : snap (n + 1) (.slt es t) h = some (.sl es, h) := by simp [snap]
theorem snap_slx {es : List PV} : snap (n + 1) (.slx es) h = some (.sl es, h) := by simp [snap]
theorem snap_nils : snap (n + 1) .nils h = some (.sl [], h) := by simp [snap]
theorem snap_agg {cs : List V} : snap (n + 1) (.agg cs) h = match snapLF (snap n) cs h with | some (ps, h) => some (.agg ps, h) | none => none := by simp only [snap]; rfl
theorem snap_fn {f : FuncId} {cs : List V} : snap (n + 1) (.fn f cs) h = match snapLF (snap n) cs h with | some (ps, h) => some (.fn f ps, h) | none => none := by simp only [snap]; rfl
theorem snap_ptr {id off : Nat} : snap (n + 1) (.ptr id off) h = match ent h id with
      | .frz ps => some (.ip ps off, h)
      | .blk cs _ => match snapLF (snap n) cs (h.set id .dead) with
        | some (ps, h) => some (.ip ps off, h.set id (.frz ps))
        | none => none
      | _ => none := by simp only [snap]; rfl
theorem snap_sln {id off len sz : Nat} {ag : Bool} : snap (n + 1) (.sln id off len sz ag) h = match ent h id with
      | .frz ps => match cut ps off (len * sz) with
        | some cs => if ag || sz == 1 then some (.sl ((chunks sz len cs).map (mkPV ag)), h) else none
        | none => none
      | .blk cs _ => match snapLF (snap n) cs (h.set id .dead) with
        | some (ps, h) => match cut ps off (len * sz) with
          | some cs => if ag || sz == 1 then some (.sl ((chunks sz len cs).map (mkPV ag)), h.set id (.frz ps)) else none
          | none => none
        | none => none
      | _ => none := by simp only [snap]; rfl
end


theorem snapLF_pvs {n : Nat} {h : Heap} : ∀ (ps : List PV), snapLF (snap (n + 1)) (ps.map .pv) h = some (ps, h)
  | [] => rfl
  | p :: ps => by simp [snapLF, snap_pv, snapLF_pvs ps]

end Ab
namespace Ab
open Go
/-- A block, with what holds behind it. -/
theorem W.blockMid {E : Env} {st : St} {Q : AExit → St → Prop} {rest : ACode} {id : Nat} {b : ACode} (M : St → Prop) (h : W E (app b .skip) st (inB id (thenQ M Q))) (k : ∀ st, M st → W E rest st Q) : W E (.seq (.block id b) rest) st Q := by
  refine W.blockS (h.mono fun ex st hq => ?_)
  cases ex with
  | normal => exact k st hq
  | ret => exact hq
  | exit i =>
    rcases hq with ⟨h1, h2⟩ | ⟨h1, h2⟩
    · exact .inl ⟨h1, k st h2⟩
    · exact .inr ⟨h1, h2⟩

theorem storeA_whole {h : Heap} {id sz : Nat} {cs : List V} {t : Option TypeId} {v : V} (he : ent h id = .blk cs t) (hl : cs.length = sz) (hv : v.cells.length = sz) (hc : v.cells.all V.isCell = true) : storeA h sz (.ptr id 0) v = some (h.set id (.blk v.cells t)) := by
  subst hl
  have hs : splice cs 0 v.cells = v.cells := by simp [splice, hv]
  simp only [storeA, he]
  rw [if_pos ⟨hv, by omega, hc⟩, hs]
end Ab
namespace Ab
open Go
/-- A region, with what holds behind it. -/
theorem W.goMid {E : Env} {st : St} {Q : AExit → St → Prop} {rest : ACode} {ops : List AOper} (M : St → Prop) (h : ∃ st', stepsA E (limP E) (limR E) ops st = some st' ∧ M st') (k : ∀ st', M st' → W E rest st' Q) : W E (.seq (.region ops false) rest) st Q := by
  obtain ⟨st', h, hm⟩ := h
  exact W.go h (k st' hm)
end Ab
