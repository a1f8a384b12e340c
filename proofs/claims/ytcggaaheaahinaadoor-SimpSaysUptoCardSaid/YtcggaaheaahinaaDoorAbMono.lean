/- The heap never shrinks; what an operation answers hangs on what it reads. -/
import Derived.Test.YtcggaaheaahinaaDoorAbOpMain
namespace Ab
open Go

theorem snapLF_len {f : V → Heap → Option (PV × Heap)} (hf : ∀ v h p h', f v h = some (p, h') → h'.length = h.length) : ∀ (vs : List V) (h : Heap) (ps : List PV) (h' : Heap), snapLF f vs h = some (ps, h') → h'.length = h.length
  | [], h, ps, h', e => by simp [snapLF] at e; rw [← e.2]
  | v :: vs, h, ps, h', e => by
    simp only [snapLF] at e
    split at e
    · rename_i p h1 e1
      split at e
      · rename_i ps2 h2 e2
        cases e
        rw [snapLF_len hf vs _ _ _ e2, hf _ _ _ _ e1]
      · cases e
    · cases e

theorem snap_len : ∀ (n : Nat) (v : V) (h : Heap) (p : PV) (h' : Heap), snap n v h = some (p, h') → h'.length = h.length
  | 0, v, h, p, h', e => by simp [snap] at e
  | n + 1, v, h, p, h', e => by
    have ih := snapLF_len (snap_len n)
    unfold snap at e
    split at e
    · cases e; rfl
    · cases e; rfl
    · cases e; rfl
    · cases e; rfl
    · split at e
      · rename_i e1; cases e; exact ih _ _ _ _ e1
      · cases e
    · split at e
      · rename_i e1; cases e; exact ih _ _ _ _ e1
      · cases e
    · split at e
      · cases e; rfl
      · split at e
        · rename_i e1; cases e; have := ih _ _ _ _ e1; simpa using this
        · cases e
      · cases e
    · split at e
      · split at e
        · split at e
          · cases e; rfl
          · cases e
        · cases e
      · split at e
        · rename_i e1
          split at e
          · split at e
            · cases e; have := ih _ _ _ _ e1; simpa using this
            · cases e
          · cases e
        · cases e
      · cases e
    · cases e

def RawMono (raw : FuncId → List V → Heap → Option (V × Heap)) : Prop := ∀ f vs h v h', raw f vs h = some (v, h') → h.length ≤ h'.length

variable {E : Env} {pure : FuncId → List PV → Option (List PV)} {raw : FuncId → List V → Heap → Option (V × Heap)} {ts : List V} {h : Heap}

theorem callA_mono (hr : RawMono raw) {f : FuncId} {vs : List V} {v : V} {h' : Heap} (e : callA E pure raw f vs h = some (v, h')) : h.length ≤ h'.length := by
  unfold callA at e
  split at e
  · split at e
    · split at e
      · cases e; exact Nat.le_refl _
      · exact hr _ _ _ _ _ e
    · exact hr _ _ _ _ _ e
  · split at e
    · rename_i e1
      split at e
      · cases e; exact Nat.le_of_eq (snapLF_len (snap_len _) _ _ _ _ e1).symm
      · cases e
    · cases e

theorem appendA_mono {ag mu : Bool} {te : TypeId} {sz by_ n : Nat} {x v : V} {new : List V} {h' : Heap} (e : appendA h ag mu sz by_ te x n new = some (v, h')) : h.length ≤ h'.length := by
  unfold appendA at e
  split at e
  · split at e
    · cases e; exact Nat.le_refl _
    · cases e
  · dsimp only at e
    repeat' split at e
    all_goals first
      | (cases e; simp; done)
      | (cases e)

theorem specA_mono {k : SpK} {vs : List V} {v : V} {h' : Heap} (e : specA k vs h = some (v, h')) : h.length ≤ h'.length := by
  unfold specA at e
  repeat' split at e
  all_goals first
    | (cases e; simp; done)
    | (simp only [Option.map_eq_some_iff, Prod.mk.injEq] at e; obtain ⟨_, _, _, rfl⟩ := e; exact Nat.le_refl _)
    | cases e

theorem opA_mono (hr : RawMono raw) {op : AOp} {v : V} {h' : Heap} (e : opA E pure raw ts h op = some (v, h')) : h.length ≤ h'.length := by
  cases op <;> simp only [opA] at e
  case append =>
    repeat' split at e
    all_goals first
      | exact appendA_mono e
      | cases e
  case call =>
    repeat' split at e
    all_goals first
      | exact callA_mono hr e
      | cases e
  case callv =>
    repeat' split at e
    all_goals first
      | exact callA_mono hr e
      | cases e
  case mark =>
    repeat' split at e
    all_goals first
      | (simp only [Option.map_eq_some_iff, Prod.mk.injEq] at e; obtain ⟨r, e1, rfl, rfl⟩ := e; exact Nat.le_of_eq (snap_len _ _ _ _ _ e1).symm)
      | cases e
  case special =>
    repeat' split at e
    all_goals first
      | exact specA_mono e
      | cases e
  case copy =>
    repeat' split at e
    all_goals first
      | (simp only [Option.map_eq_some_iff, Prod.mk.injEq] at e
         obtain ⟨r, e1, rfl, rfl⟩ := e
         unfold copyA at e1
         repeat' split at e1
         all_goals first
           | (cases e1; simp; done)
           | cases e1)
      | cases e
  case store =>
    repeat' split at e
    all_goals first
      | (simp only [Option.map_eq_some_iff, Prod.mk.injEq] at e
         obtain ⟨r, e1, rfl, rfl⟩ := e
         unfold storeA at e1
         repeat' split at e1
         all_goals first
           | (cases e1; simp; done)
           | cases e1)
      | cases e
  all_goals
    repeat' split at e
    all_goals first
      | (cases e; simp; done)
      | (simp only [Option.map_eq_some_iff, Prod.mk.injEq] at e; obtain ⟨_, _, _, rfl⟩ := e; exact Nat.le_refl _)
      | cases e

/-- What an operation that only looks answers: the heap is as it was. -/
theorem opA_quiet {op : AOp} (hq : op.quiet = true) {v : V} {h' : Heap} (e : opA E pure raw ts h op = some (v, h')) : h' = h := by
  cases op <;> simp only [AOp.quiet, Bool.false_eq_true] at hq <;> simp only [opA] at e
  all_goals
    repeat' split at e
    all_goals first
      | (simp only [Option.map_eq_some_iff, Prod.mk.injEq] at e; obtain ⟨_, _, _, rfl⟩ := e; rfl)
      | cases e

theorem eval_congr {ts ts' : List V} {x : AOperand} (h : ∀ t ∈ x.reads, ts'[t]? = ts[t]?) : St.eval ts' x = St.eval ts x := by
  cases x with
  | tmp t => exact h t (by simp [AOperand.reads])
  | val v => rfl

theorem evals_congr {ts ts' : List V} : ∀ {xs : List AOperand}, (∀ t ∈ readsL xs, ts'[t]? = ts[t]?) → evals ts' xs = evals ts xs
  | [], _ => rfl
  | x :: xs, h => by
    simp only [evals]
    rw [eval_congr (x := x) fun t ht => h t (by simp [readsL]; exact .inl ht), evals_congr (xs := xs) fun t ht => h t (by simp only [readsL, List.flatMap_cons, List.mem_append]; exact .inr ht)]

theorem opA_congr {ts' : List V} {op : AOp} (hrd : ∀ t ∈ op.reads, ts'[t]? = ts[t]?) : opA E pure raw ts' h op = opA E pure raw ts h op := by
  cases op <;> simp only [AOp.reads, List.mem_append, or_imp, forall_and] at hrd <;> simp only [opA]
  case move | load | box | nilCheck | un | conv | faddr | field | extract | mkIface | mark => rw [eval_congr hrd]
  case lenOf => rw [eval_congr hrd]
  case pick => rw [eval_congr hrd.1.1, eval_congr hrd.1.2, eval_congr hrd.2]
  case store | bin | iaddrArr | iaddrSl | idxStr | idxArr | append | copy | mkSlice => rw [eval_congr hrd.1, eval_congr hrd.2]
  case mkFn | minmax | call | special => rw [evals_congr hrd]
  case callv => rw [eval_congr hrd.1, evals_congr hrd.2]
  case build | buildSl => rw [evals_congr hrd]
  case sliceStr x lo hi =>
    rcases lo with _ | lo <;> rcases hi with _ | hi
    · simp only [eval_congr hrd.1.1]
    · simp only [eval_congr hrd.1.1, eval_congr (x := hi) hrd.2]
    · simp only [eval_congr hrd.1.1, eval_congr (x := lo) hrd.1.2]
    · simp only [eval_congr hrd.1.1, eval_congr (x := lo) hrd.1.2, eval_congr (x := hi) hrd.2]
  case sliceSl sz x lo hi =>
    rcases lo with _ | lo <;> rcases hi with _ | hi
    · simp only [eval_congr hrd.1.1]
    · simp only [eval_congr hrd.1.1, eval_congr (x := hi) hrd.2]
    · simp only [eval_congr hrd.1.1, eval_congr (x := lo) hrd.1.2]
    · simp only [eval_congr hrd.1.1, eval_congr (x := lo) hrd.1.2, eval_congr (x := hi) hrd.2]
  case sliceArr sz n ag x lo hi =>
    rcases lo with _ | lo <;> rcases hi with _ | hi
    · simp only [eval_congr hrd.1.1]
    · simp only [eval_congr hrd.1.1, eval_congr (x := hi) hrd.2]
    · simp only [eval_congr hrd.1.1, eval_congr (x := lo) hrd.1.2]
    · simp only [eval_congr hrd.1.1, eval_congr (x := lo) hrd.1.2, eval_congr (x := hi) hrd.2]

end Ab
