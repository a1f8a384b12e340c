/- Regions whose order is drawn: what has been done, in whatever order, answers as in the text's. -/
import Derived.Test.YtcggaaheaahinaaDoorAbRegion
namespace Ab
open Go


section
variable {X : Type}

/-- What a thing is when those of D are done: as behind the last of them that wrote it. -/
def lastOf (val : Nat → Nat → X) (W : Nat → Nat → Bool) (D : Nat → Bool) (r : Nat) : Nat → X
  | 0 => val 0 r
  | k + 1 => if D k && W k r then val (k + 1) r else lastOf val W D r k

variable {val : Nat → Nat → X} {W : Nat → Nat → Bool} {D D' : Nat → Bool} {r n : Nat}

theorem lastOf_up (hF : ∀ i, i < n → W i r = false → val (i + 1) r = val i r) : ∀ i, i ≤ n → (∀ j, j < i → W j r = true → D j = true) → lastOf val W D r i = val i r
  | 0, _, _ => rfl
  | i + 1, hi, h => by
    simp only [lastOf]
    cases hw : W i r with
    | true => simp [h i (by omega) hw]
    | false =>
      simp only [Bool.and_false, Bool.false_eq_true, if_false]
      rw [lastOf_up hF i (by omega) (fun j hj => h j (by omega)), hF i (by omega) hw]

theorem lastOf_rest {i : Nat} : ∀ k, (∀ j, i ≤ j → j < i + k → W j r = true → D j = false) → lastOf val W D r (i + k) = lastOf val W D r i
  | 0, _ => rfl
  | k + 1, h => by
    rw [show i + (k + 1) = (i + k) + 1 by omega]
    simp only [lastOf]
    have : (D (i + k) && W (i + k) r) = false := by
      cases hw : W (i + k) r with
      | false => simp
      | true => simp [h (i + k) (by omega) (by omega) hw]
    rw [this]
    simp only [Bool.false_eq_true, if_false]
    exact lastOf_rest k fun j h1 h2 => h j h1 (by omega)

theorem lastOf_read (hF : ∀ i, i < n → W i r = false → val (i + 1) r = val i r) {i : Nat} (hi : i ≤ n) (h1 : ∀ j, j < i → W j r = true → D j = true) (h2 : ∀ j, i ≤ j → j < n → W j r = true → D j = false) : lastOf val W D r n = val i r := by
  have := lastOf_rest (val := val) (W := W) (D := D) (r := r) (i := i) (n - i) (fun j a b => h2 j a (by omega))
  rw [show i + (n - i) = n by omega] at this
  rw [this, lastOf_up hF i hi h1]

theorem lastOf_write {i : Nat} (hi : i < n) (hW : W i r = true) (hD : D i = true) (h2 : ∀ j, i < j → j < n → W j r = true → D j = false) : lastOf val W D r n = val (i + 1) r := by
  have := lastOf_rest (val := val) (W := W) (D := D) (r := r) (i := i + 1) (n - (i + 1)) (fun j a b => h2 j (by omega) (by omega))
  rw [show i + 1 + (n - (i + 1)) = n by omega] at this
  rw [this]
  simp [lastOf, hW, hD]

theorem lastOf_same : ∀ n, (∀ j, j < n → W j r = true → D' j = D j) → lastOf val W D' r n = lastOf val W D r n
  | 0, _ => rfl
  | k + 1, h => by
    simp only [lastOf]
    rw [lastOf_same k fun j hj => h j (by omega)]
    cases hw : W k r with
    | false => simp
    | true => rw [h k (by omega) hw]

theorem lastOf_some : ∀ n, ∃ k, k ≤ n ∧ lastOf val W D r n = val k r
  | 0 => ⟨0, Nat.le_refl _, rfl⟩
  | k + 1 => by
    simp only [lastOf]
    split
    · exact ⟨k + 1, Nat.le_refl _, rfl⟩
    · obtain ⟨j, h1, h2⟩ := lastOf_some k
      exact ⟨j, by omega, h2⟩
end

/-- The heap of a part of an operation's entries. -/
theorem ent_mask {F : List Nat} {h : Heap} {id : Nat} : ent (mask F h) id = if F.contains id then ent h id else .dead := by
  unfold ent mask
  rw [List.getElem?_mapIdx]
  cases he : h[id]? with
  | none => simp
  | some e => simp

theorem mask_length {F : List Nat} {h : Heap} : (mask F h).length = h.length := by simp [mask]
theorem merge_length {F : List Nat} {h h' : Heap} : (merge F h h').length = h'.length := by simp [merge]

theorem ent_merge {F : List Nat} {h h' : Heap} {id : Nat} (hid : id < h'.length) : ent (merge F h h') id = if F.contains id || decide (h.length ≤ id) then ent h' id else ent h id := by
  unfold ent merge
  rw [List.getElem?_mapIdx, List.getElem?_eq_getElem hid]
  simp only [Option.map_some, Option.getD_some]
  rfl

theorem Sim.part [Base] {m : Imm} {ρ : Rho} {g gF : Nat → Ent} {w : World} (hs : Sim m ρ g w) (h : ∀ id, gF id = g id ∨ gF id = .dead) : Sim m ρ gF w := by
  have key : ∀ id e, gF id = e → e ≠ .dead → g id = e := by
    intro id e h1 h2
    rcases h id with h3 | h3
    · rw [← h3, h1]
    · exact absurd (h1 ▸ h3) h2
  refine ⟨hs.imm, fun id cs hid => hs.blk id cs (key _ _ hid (by simp)), fun id hid => hs.tok id (key _ _ hid (by simp)), fun id ps hid => hs.frz id ps (key _ _ hid (by simp)), hs.base, fun i j li lj h1 h2 => ?_⟩
  have l : ∀ i, live (gF i) → live (g i) := by
    intro i hi
    rcases h i with h3 | h3
    · rwa [← h3]
    · rw [h3] at hi; simp [live] at hi
  exact hs.inj i j li lj (l i h1) (l j h2)

/-- A part's step as a step of the whole. -/
theorem Step.frame [Base] {g gF gF' g' : Nat → Ent} {lo hi lo0 hi0 : Nat} {m m' : Imm} {ρ ρ' : Rho} {w w' : World} (hs : Sim m ρ g w) (h : Step gF gF' lo hi m ρ w m' ρ' w') (hfr : ∀ id, lo ≤ id → id < hi → ρ id = none)
    (h0 : lo0 ≤ lo) (h1 : hi ≤ hi0) (hF : ∀ id, gF id = g id ∨ gF id = .dead)
    (hg' : ∀ id, (g' id = gF' id ∧ (gF id = g id ∨ lo ≤ id)) ∨ (g' id = g id ∧ gF id = .dead) ∨ g' id = .dead) : Step g g' lo0 hi0 m ρ w m' ρ' w' := by
  have rle := h.rhoLe hfr
  have lv : ∀ id, live (gF id) → live (g id) := by
    intro i hi
    rcases hF i with h3 | h3
    · rwa [← h3]
    · rw [h3] at hi; simp [live] at hi
  have ow : ∀ k, Owned gF ρ k → Owned g ρ k := fun k ⟨id, loc, a, b, c⟩ => ⟨id, loc, lv id a, b, c⟩
  refine ⟨h.imm, fun id hid => h.rho id (by omega), fun id hid hl => ?_, fun id loc hid hl hr => ?_, fun k hk ho => h.blocks k hk fun x => ho (ow k x), fun b o hne => (h.fresh b o hne).imp_right (ow b), h.size, h.os, h.tape, h.output⟩
  · rcases hg' id with ⟨e, hc⟩ | ⟨e, hd⟩ | e
    · rw [e] at hl
      exact lv id (h.old id (by omega) hl)
    · rwa [e] at hl
    · rw [e] at hl; simp [live] at hl
  · rcases hg' id with ⟨e, hc⟩ | ⟨e, hd⟩ | e
    · rw [e] at hl
      rcases Nat.lt_or_ge id lo with h2 | h2
      · right
        exact ⟨id, loc, lv id (h.old id h2 hl), by rw [← h.rho id (by omega)]; exact hr, rfl⟩
      · exact (h.new id loc h2 hl hr).imp_right (ow _)
    · rw [e] at hl
      obtain ⟨l, hl2⟩ := live_rho hs hl
      have := rle _ _ hl2
      rw [hr] at this
      cases this
      exact .inr ⟨id, loc, hl, hl2, rfl⟩
    · rw [e] at hl; simp [live] at hl

theorem Step.wide {g g' g'' : Nat → Ent} {lo hi : Nat} {m m' m'' : Imm} {ρ ρ' ρ'' : Rho} {w w' w'' : World} (h : Step g g' lo hi m ρ w m' ρ' w') (k : Step g' g'' lo hi m' ρ' w' m'' ρ'' w'') : Step g g'' lo hi m ρ w m'' ρ'' w'' := by
  have own : ∀ b, (w'.heap.size ≤ b ∨ Owned g' ρ' b) → w.heap.size ≤ b ∨ Owned g ρ b := by
    intro b hb
    rcases hb with hb | hb
    · exact .inl (Nat.le_trans h.size hb)
    · exact Owned.step h hb
  refine ⟨h.imm.trans k.imm, fun id hid => by rw [k.rho id hid, h.rho id hid], fun id hid hl => h.old id hid (k.old id hid hl), fun id loc hid hl hr => own _ (k.new id loc hid hl hr), fun b hb ho => ?_, fun b o hne => ?_, Nat.le_trans h.size k.size, k.os.trans h.os, k.tape.trans h.tape, k.output.trans h.output⟩
  · rw [k.blocks b (Nat.lt_of_lt_of_le hb h.size) ?_, h.blocks b hb ho]
    intro h5
    rcases Owned.step h h5 with h6 | h6
    · omega
    · exact ho h6
  · by_cases e : m' b o = m b o
    · exact own b (k.fresh b o (by rw [e]; exact hne))
    · exact h.fresh b o e

theorem ancOf_mem {acc : List Nat} {i : Nat} : ∀ {xs : List Nat} {m : Nat}, (ancOf acc m xs).testBit i = true → m.testBit i = true ∨ ∃ x ∈ xs, i = x ∨ (acc.getD x 0).testBit i = true
  | [], m, h => .inl h
  | x :: xs, m, h => by
    simp only [ancOf] at h
    rcases ancOf_mem h with h | ⟨y, hy, h⟩
    · rw [Nat.testBit_or, Nat.testBit_or, Bool.or_eq_true, Bool.or_eq_true] at h
      rcases h with (h | h) | h
      · exact .inl h
      · right
        refine ⟨x, by simp, .inl ?_⟩
        rw [Nat.one_shiftLeft, Nat.testBit_two_pow] at h
        simpa using (of_decide_eq_true h).symm
      · exact .inr ⟨x, by simp, .inr h⟩
    · exact .inr ⟨y, by simp [hy], h⟩

theorem ancs_prefix : ∀ (os : List AOper) (acc : List Nat) (k : Nat), k < acc.length → (ancs os acc).getD k 0 = acc.getD k 0
  | [], acc, k, _ => rfl
  | o :: os, acc, k, h => by
    simp only [ancs]
    rw [ancs_prefix os _ k (by simp; omega)]
    simp only [List.getD_eq_getElem?_getD]
    rw [List.getElem?_append_left h]

theorem ancs_mem : ∀ (os : List AOper) (acc : List Nat) (k : Nat) (ao : AOper) (i : Nat), os[k]? = some ao → ((ancs os acc).getD (acc.length + k) 0).testBit i = true → ∃ x ∈ ao.after, i = x ∨ ((ancs os acc).getD x 0).testBit i = true
  | [], acc, k, ao, i, h, _ => by simp at h
  | o :: os, acc, 0, ao, i, h, hi => by
    simp at h
    subst h
    simp only [ancs] at hi ⊢
    rw [ancs_prefix os _ _ (by simp)] at hi
    simp only [List.getD_eq_getElem?_getD, Nat.add_zero] at hi
    rw [List.getElem?_append_right (Nat.le_refl _)] at hi
    simp only [Nat.sub_self, List.getElem?_cons_zero, Option.getD_some] at hi
    rcases ancOf_mem hi with h0 | ⟨x, hx, hor⟩
    · simp at h0
    refine ⟨x, hx, hor.imp_right fun hm => ?_⟩
    have hlt : x < acc.length := by
      rcases Nat.lt_or_ge x acc.length with h1 | h1
      · exact h1
      · rw [List.getD_eq_getElem?_getD, List.getElem?_eq_none h1] at hm; simp at hm
    rw [ancs_prefix os _ x (by simp; omega)]
    simp only [List.getD_eq_getElem?_getD] at hm ⊢
    rw [List.getElem?_append_left hlt]
    exact hm
  | o :: os, acc, k + 1, ao, i, h, hi => by
    simp only [ancs] at hi ⊢
    exact ancs_mem os _ k ao i (by simpa using h) (by simpa [Nat.add_assoc, Nat.add_comm 1 k] using hi)

theorem ordered_mem : ∀ (os : List AOper) (b k : Nat) (ao : AOper), ordered os b = true → os[k]? = some ao → ∀ x ∈ ao.after, x < b + k
  | [], b, k, ao, _, h => by simp at h
  | o :: os, b, 0, ao, ho, h => by
    simp at h
    subst h
    simp only [ordered, Bool.and_eq_true, List.all_eq_true, decide_eq_true_eq] at ho
    exact ho.1
  | o :: os, b, k + 1, ao, ho, h => by
    simp only [ordered, Bool.and_eq_true] at ho
    have := ordered_mem os (b + 1) k ao ho.2 (by simpa using h)
    intro x hx
    have := this x hx
    omega

variable {P : Program} {E : Env} {pure : FuncId → List PV → Option (List PV)} {raw : FuncId → List V → Heap → Option (V × Heap)}

theorem stepsM_trace : ∀ {as : List AOper} {st st' : St} {ls : List Log}, stepsM E pure raw as st = some (st', ls) → ∃ sts : Nat → St, sts 0 = st ∧ sts as.length = st' ∧ ls.length = as.length ∧
    ∀ (i : Nat) (ao : AOper), as[i]? = some ao → ∃ l, ls[i]? = some l ∧ stepM E pure raw ao (sts i) = some (sts (i + 1), l)
  | [], st, st', ls, h => by
    simp [stepsM] at h
    exact ⟨fun _ => st, rfl, h.1, by simp [← h.2], by simp⟩
  | ao :: as, st, st', ls, h => by
    simp only [stepsM] at h
    split at h
    case h_2 => cases h
    rename_i st1 l e1
    split at h
    case h_2 => cases h
    rename_i st2 ls2 e2
    cases h
    obtain ⟨sts, h1, h2, h3, h4⟩ := stepsM_trace e2
    refine ⟨fun | 0 => st | i + 1 => sts i, rfl, h2, by simp [h3], fun i x hx => ?_⟩
    cases i with
    | zero => simp at hx; subst hx; exact ⟨l, by simp, by simp only [h1]; exact e1⟩
    | succ i => simp at hx; simpa using h4 i x hx

/-- What one step of the run on parts did. -/
theorem stepM_some {ao : AOper} {st st' : St} {l : Log} (h : stepM E pure raw ao st = some (st', l)) :
    (wantA st.tmps ao.guard = some true ∧ ∃ v h', opA E pure raw st.tmps (mask (foot st.tmps st.heap ao.op) st.heap) ao.op = some (v, h') ∧ st.heap.length ≤ h'.length ∧ st' = ⟨putA st.tmps ao.dst v, merge (foot st.tmps st.heap ao.op) st.heap h'⟩ ∧
      l = ⟨(match ao.guard with | some (t, _) => [t] | none => []) ++ ao.op.reads, ao.dst, foot st.tmps st.heap ao.op ++ List.range' st.heap.length (h'.length - st.heap.length), turned ao.op (foot st.tmps st.heap ao.op) st.heap h'⟩) ∨
    (wantA st.tmps ao.guard = some false ∧ st' = ⟨putA st.tmps ao.dst (.tup []), st.heap⟩ ∧ l = ⟨(match ao.guard with | some (t, _) => [t] | none => []), ao.dst, [], []⟩) := by
  unfold stepM at h
  dsimp only at h
  split at h
  · rename_i hw
    split at h
    · rename_i v h' e1
      split at h
      · rename_i hle
        cases h
        exact .inl ⟨hw, v, h', e1, hle, rfl, rfl⟩
      · cases h
    · cases h
  · rename_i hw
    cases h
    exact .inr ⟨hw, rfl, rfl⟩
  · cases h

end Ab
