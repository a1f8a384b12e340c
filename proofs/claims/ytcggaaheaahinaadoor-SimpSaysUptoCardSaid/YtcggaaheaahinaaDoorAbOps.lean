/- The operations that touch no memory, or read it alone. -/
import Derived.Test.YtcggaaheaahinaaDoorAbMem
namespace Ab
open Go


variable {P : Program} {m : Imm} {ρ : Rho}

/-- An operation does what the abstract machine says. -/
def Done [Base] (P : Program) (a : Act) (o : Oper) (w : World) (g g' : Nat → Ent) (lo hi : Nat) (m : Imm) (ρ : Rho) (v : V) : Prop :=
  ∀ (next : Act → World → Prop) (Q : Exit → Act → World → Prop),
    (∀ cv w' m' ρ' a', a'.tmps = (a.put o.dst cv).tmps → (∀ d ∈ a'.defers, d ∈ a.defers ∨ idleD d) → R m' ρ' v cv → Sim m' ρ' g' w' → Step g g' lo hi m ρ w m' ρ' w' → next a' w') → o.wp P a w next Q

theorem put_defers' (a : Act) (d : Option Tmp) (v : Value) : (a.put d v).defers = a.defers := by
  cases d <;> rfl

theorem Done.of_run [Base] {a : Act} {o : Oper} {w w' : World} {g g' : Nat → Ent} {lo hi : Nat} {m' : Imm} {ρ' : Rho} {v : V} {cv : Value} (hrun : (execOp a.eval o).run P w = .ok (.value cv) w') (hr : R m' ρ' v cv) (hs : Sim m' ρ' g' w')
    (st : Step g g' lo hi m ρ w m' ρ' w') : Done P a o w g g' lo hi m ρ v := by
  intro next Q hn
  unfold Oper.wp
  rw [hrun, Oper.upon_value]
  exact hn cv w' m' ρ' _ rfl (fun d hd => .inl (by rwa [put_defers'] at hd)) hr hs st

theorem Done.of_skip [Base] {a : Act} {o : Oper} {w w' : World} {g g' : Nat → Ent} {lo hi : Nat} {m' : Imm} {ρ' : Rho} (hrun : (execOp a.eval o).run P w = .ok .skip w') (hs : Sim m' ρ' g' w')
    (st : Step g g' lo hi m ρ w m' ρ' w') : Done P a o w g g' lo hi m ρ (.tup []) := by
  intro next Q hn
  unfold Oper.wp
  rw [hrun, Oper.upon_skip]
  exact hn undef w' m' ρ' _ rfl (fun d hd => .inl (by rwa [put_defers'] at hd)) (.tup [] #[] rfl (by simp)) hs st

theorem Done.same [Base] {a : Act} {o : Oper} {w : World} {h : Heap} {v : V} {cv : Value} (hs : Sim m ρ (ent h) w) (hrun : (execOp a.eval o).run P w = .ok (.value cv) w) (hr : R m ρ v cv) : Done P a o w (ent h) (ent h) h.length h.length m ρ v :=
  .of_run hrun hr hs (Step.refl' h m ρ w)

theorem natOf_ok {v : V} {n : Nat} {cv : Value} (h : natOf? v = some n) (hr : R m ρ v cv) : ∃ k, cv = .int k n := by
  unfold natOf? at h
  split at h
  · rename_i k i
    split at h
    · rename_i hi
      cases h
      refine ⟨k, ?_⟩
      rw [hr.int]
      congr 1
      omega
    · simp at h
  · simp at h

/-- Optional operands. -/
def RO (m : Imm) (ρ : Rho) : Option V → Option Value → Prop
  | none, none => True
  | some v, some c => R m ρ v c
  | _, _ => False

theorem bounds_ok (w : World) {len cap l h : Nat} {lo hi : Option V} {clo chi : Option Value} (isS : Bool) (hb : bounds len lo hi = some (l, h)) (hc : len ≤ cap) (h1 : RO m ρ lo clo) (h2 : RO m ρ hi chi) :
    (Instr.sliceBounds isS len cap clo chi none).run P w = .ok (l, h, cap) w ∧ l ≤ h ∧ h ≤ len := by
  unfold bounds at hb
  split at hb
  · rename_i h' l' e1 e2
    split at hb
    · rename_i hle
      cases hb
      refine ⟨?_, hle⟩
      have s1 : ∀ (y : Nat) (x : Value) (k : IntKind) (n : Nat) (code : BoundsCode), x = .int k n → n ≤ y → (Instr.sliceBound x y code).run P w = .ok n w := by
        intro y x k n code e hn
        subst e
        simp [Instr.sliceBound, asIntOf, hn]
      cases hi with
      | none =>
        cases chi with
        | some c => simp [RO] at h2
        | none =>
          simp at e1
          cases lo with
          | none =>
            cases clo with
            | some c => simp [RO] at h1
            | none => simp at e2; simp [Instr.sliceBounds, e1, e2]
          | some v =>
            cases clo with
            | none => simp [RO] at h1
            | some c =>
              obtain ⟨k, hk⟩ := natOf_ok e2 h1
              have := s1 h c k l .sliceB hk hle.1
              simp [Instr.sliceBounds, e1, this]
      | some v =>
        cases chi with
        | none => simp [RO] at h2
        | some c =>
          obtain ⟨k, hk⟩ := natOf_ok e1 h2
          have q := s1 cap c k h (if isS then .sliceAcap else .sliceAlen) hk (by omega)
          cases lo with
          | none =>
            cases clo with
            | some c => simp [RO] at h1
            | none => simp at e2; simp [Instr.sliceBounds, q, e2]
          | some v' =>
            cases clo with
            | none => simp [RO] at h1
            | some c' =>
              obtain ⟨k', hk'⟩ := natOf_ok e2 h1
              have := s1 h c' k' l .sliceB hk' hle.1
              simp [Instr.sliceBounds, q, this]
    · simp at hb
  · simp at hb

theorem extract_mk (s : List UInt8) (l h : Nat) : (⟨s.toArray⟩ : ByteArray).extract l h = ⟨((s.drop l).take (h - l)).toArray⟩ := by
  apply ByteArray.ext
  simp only [ByteArray.data_extract]
  simp [List.extract]

theorem flatMap_length {es : List PV} {sz : Nat} (h : ∀ e ∈ es, e.cells.length = sz) : (es.flatMap PV.cells).length = es.length * sz := by
  induction es with
  | nil => simp
  | cons e es ih =>
    rw [List.flatMap_cons, List.length_append, h e (by simp), ih fun x hx => h x (by simp [hx]), List.length_cons, Nat.succ_mul]
    omega

theorem flatMap_get {es : List PV} {sz : Nat} (h : ∀ e ∈ es, e.cells.length = sz) {i : Nat} {e : PV} (hi : es[i]? = some e) {j : Nat} (hj : j < sz) : (es.flatMap PV.cells)[i * sz + j]? = e.cells[j]? := by
  induction es generalizing i with
  | nil => simp at hi
  | cons x es ih =>
    have hx := h x (by simp)
    rw [List.flatMap_cons]
    cases i with
    | zero =>
      simp at hi; subst hi
      rw [List.getElem?_append_left (by omega)]
      simp
    | succ i =>
      simp at hi
      rw [List.getElem?_append_right (by rw [hx, Nat.succ_mul]; omega), hx, show (i + 1) * sz + j - sz = i * sz + j by rw [Nat.succ_mul]; omega]
      exact ih (fun y hy => h y (by simp [hy])) hi

/-- The cells of a part of a slice. -/
theorem flatMap_part {es : List PV} {sz : Nat} (h : ∀ e ∈ es, e.cells.length = sz) (l n : Nat) (j : Nat) (c : PV) (hj : (((es.drop l).take n).flatMap PV.cells)[j]? = some c) : (es.flatMap PV.cells)[l * sz + j]? = some c := by
  have hpart : ∀ e ∈ (es.drop l).take n, e.cells.length = sz := fun e he => h e (List.mem_of_mem_drop (List.mem_of_mem_take he))
  have hlt := (List.getElem?_eq_some_iff.1 hj).1
  rw [flatMap_length hpart] at hlt
  have hsz : 0 < sz := by
    rcases Nat.eq_zero_or_pos sz with h0 | h0
    · subst h0; simp at hlt
    · exact h0
  have hq : j / sz < ((es.drop l).take n).length := (Nat.div_lt_iff_lt_mul hsz).2 hlt
  have hm : j % sz < sz := Nat.mod_lt _ hsz
  have hd : j / sz * sz + j % sz = j := by rw [Nat.mul_comm]; exact Nat.div_add_mod j sz
  have e1 := flatMap_get hpart (List.getElem?_eq_getElem hq) hm
  rw [hd, hj] at e1
  have e2 : es[l + j / sz]? = some ((es.drop l).take n)[j / sz] := by
    have : ((es.drop l).take n)[j / sz]? = es[l + j / sz]? := by
      rw [List.getElem?_take_of_lt (by simp at hq; omega), List.getElem?_drop]
    rw [← this]
    exact List.getElem?_eq_getElem hq
  have e3 := flatMap_get h e2 hm
  rw [show (l + j / sz) * sz + j % sz = l * sz + j by rw [Nat.add_mul]; omega] at e3
  rw [e3, ← e1]

/-- A pure slice's inner facts, in one form. -/
theorem RP.sl_inv {es : List PV} {cv : Value} (h : RP m (.sl es) cv) : ∃ a cap, cv = .slice a es.length cap ∧ es.length ≤ cap ∧ (es = [] ∨ ∃ b o sz, ∃ f : Nat → Value, a = some ⟨b, o, none⟩ ∧ (∀ e ∈ es, e.cells.length = sz) ∧
    (∀ e ∈ es, ∀ c ∈ e.cells, c.isCell = true) ∧ (∀ (j : Nat) (c : PV), (es.flatMap PV.cells)[j]? = some c → m b (o + j) = some (f j) ∧ RP m c (f j))) := by
  cases h with
  | sl0 a cap => exact ⟨a, cap, rfl, Nat.zero_le _, .inl rfl⟩
  | sl es b o cap sz f hsz hcell hcap hm hr => exact ⟨_, cap, rfl, hcap, .inr ⟨b, o, sz, f, rfl, hsz, hcell, fun j c hj => ⟨hm j c hj, hr j c hj⟩⟩⟩

theorem stride_ok {es : List PV} {sz sz' : Nat} (h : strideOk sz es = true) (hs : ∀ e ∈ es, e.cells.length = sz') (hne : es ≠ []) : sz' = sz := by
  cases es with
  | nil => exact absurd rfl hne
  | cons e es => simp [strideOk] at h; rw [← h]; exact (hs e (by simp)).symm

/-- A part of a pure slice. -/
theorem slice_pure {es : List PV} {a : Option Addr} {cap sz l h : Nat} (hr : RP m (.sl es) (.slice a es.length cap)) (hst : strideOk sz es = true) (hl : l ≤ h) (hh : h ≤ es.length) :
    RP m (.sl ((es.drop l).take (h - l))) (.slice (if cap = l then a else a.map (·.add (l * sz))) (h - l) (cap - l)) := by
  obtain ⟨a', cap', e, hcap, hor⟩ := hr.sl_inv
  cases e
  have hlen : ((es.drop l).take (h - l)).length = h - l := by simp; omega
  by_cases hz : h - l = 0
  · have : (es.drop l).take (h - l) = [] := by simp [hz]
    rw [this, hz]
    exact .sl0 _ _
  · rcases hor with rfl | ⟨b, o, sz', f, rfl, hsz, hcell, hf⟩
    · simp at hh; omega
    · have hne : es ≠ [] := by intro e; rw [e] at hh; simp at hh; omega
      have := stride_ok hst hsz hne
      subst this
      rw [if_neg (by omega)]
      simp only [Option.map_some, add_eq]
      have := RP.sl (m := m) ((es.drop l).take (h - l)) b (o + l * sz') (cap - l) sz' (fun j => f (l * sz' + j)) (fun e he => hsz e (List.mem_of_mem_drop (List.mem_of_mem_take he)))
        (fun e he => hcell e (List.mem_of_mem_drop (List.mem_of_mem_take he))) (by omega)
        (fun j c hj => by rw [Nat.add_assoc]; exact (hf _ c (flatMap_part hsz l _ j c hj)).1) (fun j c hj => (hf _ c (flatMap_part hsz l _ j c hj)).2)
      rwa [hlen] at this

end Ab
