/- Every operation that is translated does what the abstract machine says. -/
import Derived.Test.YtcggaaheaahinaaDoorAbOps6
namespace Ab
open Go


variable {P : Program} {m : Imm} {ρ : Rho}

/-- Calls do what they are said to do. -/
def CallOk [Base] (P : Program) (E : Env) (pure : FuncId → List PV → Option (List PV)) (raw : FuncId → List V → Heap → Option (V × Heap)) : Prop :=
  ∀ (f : FuncId) (vs : List V) (h : Heap) (v : V) (h' : Heap), callA E pure raw f vs h = some (v, h') → ∀ (m : Imm) (ρ : Rho) (w : World) (cvs : Array Value), Sim m ρ (ent h) w → (∀ id, h.length ≤ id → id < h'.length → ρ id = none) →
    cvs.size = vs.length → (∀ (j : Nat) (u : V), vs[j]? = some u → R m ρ u (cvs.getD j undef)) → ∀ (a : Act) (o : Oper) (next : Act → World → Prop) (Q : Exit → Act → World → Prop),
    (∀ cv w' m' ρ', R m' ρ' v cv → Sim m' ρ' (ent h') w' → Step (ent h) (ent h') h.length h'.length m ρ w m' ρ' w' → next (a.put o.dst cv) w') → o.upon P a next Q ((callFunc f cvs).run P w)

theorem elemT_some {t e : TypeId} (h : elemT P t = some e) : P.underlying t = some (.slice e) := by
  unfold elemT at h; split at h <;> simp at h; subst h; assumption

section
variable {a : Act} {ts : List V} {h : Heap} {w : World} {o : Oper} {E : Env} {pure : FuncId → List PV → Option (List PV)} {raw : FuncId → List V → Heap → Option (V × Heap)}

/-- Calls: of a function by its name, of a value. -/
theorem op_call [Base] (A : At m ρ a ts h w) (hcall : CallOk P E pure raw) {c : Call} {f : FuncId} {axs : List AOperand} {vs : List V} {v : V} {h' : Heap} (hfr : ∀ id, h.length ≤ id → id < h'.length → ρ id = none) (ho : o.op = .call c) (hc : c.callee = .value (.func f))
    (h1 : trXs c.args.toList = some axs) (e1 : evals ts axs = some vs) (e2 : callA E pure raw f vs h = some (v, h')) : Done P a o w (ent h) (ent h') h.length h'.length m ρ v := by
  intro next Q hn
  obtain ⟨k1, k2⟩ := evalXs (a := a) h1 e1 A.tmps A.sim.base
  have hrun : (execOp a.eval o).run P w = (callFunc f (c.args.map a.eval)).run P w := by
    simp [execOp, ho, resolve, hc, Act.eval, Deferred.ofValue, invoke]
  unfold Oper.wp
  rw [hrun]
  refine hcall f vs h v h' e2 m ρ w (c.args.map a.eval) A.sim hfr (by simpa using k1.symm) (fun j u hj => ?_) a o next Q fun cv w' m' ρ' => hn cv w' m' ρ' _ rfl (fun d hd => .inl (by rwa [put_defers'] at hd))
  have := k2 j u hj
  rw [array_map_eval]
  simpa [Array.getD_eq_getD_getElem?] using this

theorem op_callv [Base] (A : At m ρ a ts h w) (hcall : CallOk P E pure raw) {c : Call} {x : Operand} {ax : AOperand} {f : FuncId} {axs : List AOperand} {vs cs : List V} {v u : V} {h' : Heap} (hfr : ∀ id, h.length ≤ id → id < h'.length → ρ id = none) (ho : o.op = .call c) (hc : c.callee = .value x)
    (h0 : trX x = some ax) (e0 : St.eval ts ax = some u) (hu : (∃ ps, u = .pv (.fn f ps) ∧ cs = ps.map .pv) ∨ u = .fn f cs) (h1 : trXs c.args.toList = some axs) (e1 : evals ts axs = some vs) (e2 : callA E pure raw f (vs ++ cs) h = some (v, h')) :
    Done P a o w (ent h) (ent h') h.length h'.length m ρ v := by
  intro next Q hn
  obtain ⟨k1, k2⟩ := evalXs (a := a) h1 e1 A.tmps A.sim.base
  have rx := A.x (a := a) h0 e0
  obtain ⟨ccs, hx, hl, hr⟩ : ∃ ccs : Array Value, a.eval x = .func (.func f) #[] ccs ∧ ccs.size = cs.length ∧ ∀ (j : Nat) (u : V), cs[j]? = some u → R m ρ u (ccs.getD j undef) := by
    obtain ⟨cx, hcx⟩ : ∃ cx, a.eval x = cx := ⟨_, rfl⟩
    rw [hcx] at rx ⊢
    rcases hu with ⟨ps, rfl, rfl⟩ | rfl
    · cases rx.pure with
      | fn _ _ vs hl hr =>
        refine ⟨vs, rfl, by simpa using hl, fun j u hj => ?_⟩
        simp only [List.getElem?_map, Option.map_eq_some_iff] at hj
        obtain ⟨q, hq, rfl⟩ := hj
        exact .pv _ _ (hr j q hq)
    · cases rx with
      | fn _ _ vs hl hr => exact ⟨vs, rfl, hl, hr⟩
  have hrun : (execOp a.eval o).run P w = (callFunc f (c.args.map a.eval ++ ccs)).run P w := by
    simp [execOp, ho, resolve, hc, hx, Deferred.ofValue, invoke]
  unfold Oper.wp
  rw [hrun]
  refine hcall f (vs ++ cs) h v h' e2 m ρ w (c.args.map a.eval ++ ccs) A.sim hfr (by simp [hl]; have := k1; simp at this; omega) (fun j u hj => ?_) a o next Q fun cv w' m' ρ' => hn cv w' m' ρ' _ rfl (fun d hd => .inl (by rwa [put_defers'] at hd))
  have hsz : (c.args.map a.eval).size = vs.length := by simpa using k1.symm
  by_cases hlt : j < vs.length
  · rw [List.getElem?_append_left hlt] at hj
    have := k2 j u hj
    rw [Array.getD_eq_getD_getElem?, Array.getElem?_append_left (by omega), array_map_eval]
    simpa using this
  · rw [List.getElem?_append_right (by omega)] at hj
    have := hr _ u hj
    rw [Array.getD_eq_getD_getElem?, Array.getElem?_append_right (by omega), hsz, ← Array.getD_eq_getD_getElem?]
    exact this

theorem trCall_ok [Base] {mu : TypeId → Bool} (A : At m ρ a ts h w) (hcall : CallOk P E pure raw) {c : Call} {op : AOp} {v : V} {h' : Heap} (ho : o.op = .call c) (htr : trCall P mu c = some op) (hop : opA E pure raw ts h op = some (v, h')) (hfr : ∀ id, h.length ≤ id → id < h'.length → ρ id = none) :
    Done P a o w (ent h) (ent h') h.length h'.length m ρ v := by
  unfold trCall at htr
  split at htr
  · rename_i f hc
    simp only [Option.bind_eq_bind, Option.bind_eq_some_iff, Option.some.injEq] at htr
    obtain ⟨axs, h1, rfl⟩ := htr
    simp only [opA] at hop
    split at hop
    · rename_i vs e1
      exact op_call A hcall hfr ho hc h1 e1 hop
    · simp at hop
  · rename_i x hnf hc
    simp only [Option.bind_eq_bind, Option.bind_eq_some_iff, Option.some.injEq] at htr
    obtain ⟨ax, h0, axs, h1, rfl⟩ := htr
    simp only [opA] at hop
    split at hop
    · rename_i f cs vs e0 e1
      exact op_callv A hcall hfr ho hc h0 e0 (.inl ⟨_, rfl, rfl⟩) h1 e1 hop
    · rename_i f cs vs e0 e1
      exact op_callv A hcall hfr ho hc h0 e0 (.inr rfl) h1 e1 hop
    · simp at hop
  · simp at htr
  · rename_i b hc
    split at htr
    · -- len
      rename_i x t ha ht
      simp only [Option.bind_eq_bind] at htr
      split at htr
      · rename_i hd
        simp only [Option.bind_eq_some_iff, Option.some.injEq] at htr
        obtain ⟨ax, h1, rfl⟩ := htr
        simp only [opA] at hop
        split at hop
        · rename_i u e1
          split at hop
          · rename_i hsl
            split at hop
            case h_2 => simp at hop
            rename_i n hn
            cases hop
            exact op_len A (.inl hd) (fun _ => by simpa using hsl) (fun hne => absurd hd hne) ho hc ha ht h1 e1 hn
          · simp at hop
        · simp at hop
      · rename_i e hd
        simp only [Option.bind_eq_some_iff, Option.some.injEq] at htr
        obtain ⟨ax, h1, rfl⟩ := htr
        simp only [opA] at hop
        split at hop
        · rename_i u e1
          split at hop
          · rename_i hsl
            split at hop
            case h_2 => simp at hop
            rename_i n hn
            cases hop
            exact op_len A (.inr ⟨e, hd⟩) (fun hst => by rw [hd] at hst; cases hst) (fun _ => by simpa using hsl) ho hc ha ht h1 e1 hn
          · simp at hop
        · simp at hop
      · rename_i n e hd
        cases htr
        simp only [opA, Option.some.injEq, Prod.mk.injEq] at hop
        obtain ⟨rfl, rfl⟩ := hop
        exact op_lenArr A (.inl hd) ho hc ha ht
      · rename_i arr hd
        split at htr
        · rename_i n e hd2
          cases htr
          simp only [opA, Option.some.injEq, Prod.mk.injEq] at hop
          obtain ⟨rfl, rfl⟩ := hop
          exact op_lenArr A (.inr ⟨arr, hd, hd2⟩) ho hc ha ht
        · simp at htr
      · simp at htr
    · -- append
      rename_i x y t u ha ht
      simp only [Option.bind_eq_bind, Option.bind_eq_some_iff] at htr
      obtain ⟨e, he, ag, hag, sz, hsz, by_, hby, ok, hok, htr⟩ := htr
      split at htr
      · rename_i hcond
        obtain ⟨c1, c2, c3, c4, c5⟩ := hcond
        simp only [Option.bind_eq_some_iff, Option.some.injEq] at htr
        obtain ⟨ax, h1, ay, h2, rfl⟩ := htr
        simp only [opA] at hop
        split at hop
        · rename_i vx vy e1 e2
          split at hop
          · rename_i n new e3 e4
            simp only [Option.map_eq_some_iff] at c5
            obtain ⟨z, hz, hzl⟩ := c5
            obtain ⟨i, zv, hi, hzv, hl, _⟩ := zeroT_some (m := m) (ρ := ρ) hz
            have AP : App P t u e i zv sz by_ := by
              refine ⟨elemT_some he, hi, hzv, ?_, by omega, c2, ?_, c3, ?_⟩
              · simpa [sizeT, hi] using hsz
              · simpa [bytesT, hi] using hby
              · split at hok
                · exact ⟨_, by assumption, by simp⟩
                · exact ⟨_, by assumption, by simp⟩
                · cases hok
            exact op_append A AP c4 hfr ho hc ha ht h1 h2 e1 e2 e3 e4 hop
          · simp at hop
        · simp at hop
      · simp at htr
    · -- copy
      rename_i x y t u ha ht
      simp only [Option.bind_eq_bind, Option.bind_eq_some_iff] at htr
      obtain ⟨e, he, sz, hsz, htr⟩ := htr
      split at htr
      · rename_i hpos
        simp only [Option.bind_eq_some_iff, Option.some.injEq] at htr
        obtain ⟨ax, h1, ay, h2, rfl⟩ := htr
        simp only [opA] at hop
        split at hop
        · rename_i vx vy e1 e2
          split at hop
          · rename_i d s new e3 e4 e5
            split at hop
            · rename_i hslx
              simp only [Option.map_eq_some_iff] at hop
              obtain ⟨h2', hcp, heq⟩ := hop
              cases heq
              exact op_copy A (elemT_some he) hsz hpos ho hc ha ht h1 h2 e1 e2 e3 e4 e5 hslx hcp
            · simp at hop
          · simp at hop
        · simp at hop
      · simp at htr
    · -- min
      simp only [Option.bind_eq_bind, Option.bind_eq_some_iff, Option.some.injEq] at htr
      obtain ⟨axs, h1, rfl⟩ := htr
      simp only [opA] at hop
      split at hop
      · rename_i vs e1
        simp only [Option.map_eq_some_iff] at hop
        obtain ⟨r, hr, heq⟩ := hop
        cases heq
        exact op_minmax (mx := false) A ho hc h1 e1 hr
      · simp at hop
    · -- max
      simp only [Option.bind_eq_bind, Option.bind_eq_some_iff, Option.some.injEq] at htr
      obtain ⟨axs, h1, rfl⟩ := htr
      simp only [opA] at hop
      split at hop
      · rename_i vs e1
        simp only [Option.map_eq_some_iff] at hop
        obtain ⟨r, hr, heq⟩ := hop
        cases heq
        exact op_minmax (mx := true) A ho hc h1 e1 hr
      · simp at hop
    · simp at htr

end
end Ab
