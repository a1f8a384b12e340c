/- AbDec: steps, walks, laws: see the remarks within. -/
import Derived.Test.YtcggaaheaahinaaDoorAbStep
set_option linter.unusedSimpArgs false
set_option linter.unusedVariables false
-- Functions as plain ones: loops with an end, what a heap owns, one step of each kind.
namespace Ab
open Go

/-- How a round of a loop ends. -/
inductive Lp (σ τ ρ : Type) where
  | next (s : σ)
  | brk (t : τ)
  | ret (r : ρ)

section
variable {σ τ ρ : Type}
def iterO (body : σ → Option (Lp σ τ ρ)) : Nat → σ → Option (τ ⊕ ρ)
  | 0, _ => none
  | n + 1, s => match body s with
    | some (.next s') => iterO body n s'
    | some (.brk t) => some (.inl t)
    | some (.ret r) => some (.inr r)
    | none => none

theorem iterO_up {body : σ → Option (Lp σ τ ρ)} : ∀ {n m : Nat} {s : σ} {y}, iterO body n s = some y → n ≤ m → iterO body m s = some y
  | 0, _, _, _, h, _ => by cases h
  | n + 1, 0, _, _, _, h => by omega
  | n + 1, m + 1, s, y, h, hm => by
    simp only [iterO] at h ⊢
    split at h
    · exact iterO_up h (by omega)
    · exact h
    · exact h
    · cases h

open Classical in
/-- A loop: what it comes to, if it ends. -/
noncomputable def loopO (body : σ → Option (Lp σ τ ρ)) (s : σ) : Option (τ ⊕ ρ) := if h : ∃ y n, iterO body n s = some y then some h.choose else none

theorem loopO_of {body : σ → Option (Lp σ τ ρ)} {s : σ} {y} {n : Nat} (h : iterO body n s = some y) : loopO body s = some y := by
  have hx : ∃ y n, iterO body n s = some y := ⟨y, n, h⟩
  rw [loopO, dif_pos hx]
  obtain ⟨m, hm⟩ := hx.choose_spec
  have a := iterO_up hm (Nat.le_max_left m n)
  have b := iterO_up h (Nat.le_max_right m n)
  rw [a] at b
  exact b
theorem loopO_to {body : σ → Option (Lp σ τ ρ)} {s : σ} {y} (h : loopO body s = some y) : ∃ n, iterO body n s = some y := by
  unfold loopO at h
  split at h
  · rename_i hx; cases h; exact hx.choose_spec
  · cases h

/-- A loop, and what comes behind it. -/
noncomputable def loopK (body : σ → Option (Lp σ τ ρ)) (s : σ) (k : τ → Option ρ) : Option ρ := (loopO body s).bind fun
  | .inl t => k t
  | .inr r => some r

theorem loopO_next {body : σ → Option (Lp σ τ ρ)} {s s' : σ} (h : body s = some (.next s')) : loopO body s = loopO body s' := by
  apply Option.ext
  intro y
  constructor
  · intro e
    obtain ⟨n, e⟩ := loopO_to e
    cases n with
    | zero => cases e
    | succ n => simp only [iterO, h] at e; exact loopO_of e
  · intro e
    obtain ⟨n, e⟩ := loopO_to e
    exact loopO_of (n := n + 1) (by simp only [iterO, h]; exact e)
theorem loopK_next {body : σ → Option (Lp σ τ ρ)} {s s' : σ} {k : τ → Option ρ} (h : body s = some (.next s')) : loopK body s k = loopK body s' k := by
  unfold loopK; rw [loopO_next h]
theorem loopK_brk {body : σ → Option (Lp σ τ ρ)} {s : σ} {t : τ} {k : τ → Option ρ} (h : body s = some (.brk t)) : loopK body s k = k t := by
  unfold loopK; rw [loopO_of (n := 1) (y := .inl t) (by simp only [iterO, h])]; rfl
theorem loopK_ret {body : σ → Option (Lp σ τ ρ)} {s : σ} {r : ρ} {k : τ → Option ρ} (h : body s = some (.ret r)) : loopK body s k = some r := by
  unfold loopK; rw [loopO_of (n := 1) (y := .inr r) (by simp only [iterO, h])]; rfl

/-- A loop, by a number that falls: what holds of each round's state; what comes out. -/
theorem loopK_ind {body : σ → Option (Lp σ τ ρ)} {k : τ → Option ρ} {x : Option ρ} (I : Nat → σ → Prop)
    (hb : ∀ m s, I m s → (∃ s' m', body s = some (.next s') ∧ m' < m ∧ I m' s') ∨ (∃ t, body s = some (.brk t) ∧ k t = x) ∨ (∃ r, body s = some (.ret r) ∧ some r = x)) : ∀ m s, I m s → loopK body s k = x := by
  intro m
  induction m using Nat.strongRecOn with
  | ind m ih =>
    intro s hI
    rcases hb m s hI with ⟨s', m', e, hm, hI'⟩ | ⟨t, e, hk⟩ | ⟨r, e, hr⟩
    · rw [loopK_next e]; exact ih m' hm s' hI'
    · rw [loopK_brk e]; exact hk
    · rw [loopK_ret e]; exact hr

/-- Rounds over a list, from a place on. -/
theorem loopK_list {α β : Type} {body : σ → Option (Lp σ τ ρ)} {k : τ → Option ρ} {x : Option ρ} (l : List α) (st : Nat → β → σ) (J : Nat → β → Prop) (b0 : β) (h0 : J 0 b0)
    (hb : ∀ j b a, l[j]? = some a → J j b → (∃ b', body (st j b) = some (.next (st (j + 1) b')) ∧ J (j + 1) b') ∨ (∃ t, body (st j b) = some (.brk t) ∧ k t = x) ∨ (∃ r, body (st j b) = some (.ret r) ∧ some r = x))
    (he : ∀ b, J l.length b → (∃ t, body (st l.length b) = some (.brk t) ∧ k t = x) ∨ (∃ r, body (st l.length b) = some (.ret r) ∧ some r = x)) : loopK body (st 0 b0) k = x := by
  refine loopK_ind (fun m s => ∃ j b, j ≤ l.length ∧ m = l.length - j ∧ s = st j b ∧ J j b) ?_ l.length _ ⟨0, b0, by omega, by omega, rfl, h0⟩
  rintro m s ⟨j, b, hj, rfl, rfl, hJ⟩
  rcases Nat.lt_or_ge j l.length with hlt | hge
  · rcases hb j b l[j] (List.getElem?_eq_getElem hlt) hJ with ⟨b', e, hJ'⟩ | h | h
    · exact .inl ⟨_, l.length - (j + 1), e, by omega, j + 1, b', by omega, rfl, rfl, hJ'⟩
    · exact .inr (.inl h)
    · exact .inr (.inr h)
  · have : j = l.length := by omega
    subst this
    exact .inr (he b hJ)
end

/-- Behind a round. -/
def LP {σ τ ρ : Type} (id : Nat) (R : σ → St → Prop) (RB : τ → St → Prop) (P : ρ → AExit → St → Prop) : Lp σ τ ρ → AExit → St → Prop
  | .next s, .normal, st => R s st
  | .brk t, .exit i, st => i = id ∧ RB t st
  | .ret r, .ret, st => P r .ret st
  | .ret r, .exit i, st => i ≠ id ∧ P r (.exit i) st
  | _, _, _ => False

theorem X.loopK {E : Env} {σ τ ρ : Type} {id : Nat} {b rest : ACode} {st : St} {body : σ → Option (Lp σ τ ρ)} {s0 : σ} {k : τ → Option ρ} {y : ρ} (R : σ → St → Prop) (RB : τ → St → Prop) {P : ρ → AExit → St → Prop}
    (hl : Ab.loopK body s0 k = some y) (h0 : R s0 st) (hb : ∀ s st o, R s st → body s = some o → X E (app b .skip) st (LP id R RB P o)) (hk : ∀ t st, RB t st → k t = some y → X E rest st (P y)) :
    X E (.seq (.block id (.loop b)) rest) st (P y) := by
  obtain ⟨z, hz, hy⟩ := Option.bind_eq_some_iff.1 hl
  obtain ⟨n, hn⟩ := loopO_to hz
  refine X.blockS ?_
  show X E (.seq (.loop b) .skip) st _
  refine X.loopS (fun m st => ∃ s, R s st ∧ iterO body m s = some z) n ⟨s0, h0, hn⟩ ?_
  rintro m st ⟨s, hR, hit⟩
  cases m with
  | zero => cases hit
  | succ m =>
    simp only [iterO] at hit
    split at hit
    · rename_i s' e
      refine (hb s st _ hR e).mono fun ex st' hq => ?_
      cases ex <;> simp only [LP] at hq
      exact ⟨m, Nat.lt_succ_self _, s', hq, hit⟩
    · rename_i t e
      cases hit
      refine (hb s st _ hR e).mono fun ex st' hq => ?_
      cases ex <;> simp only [LP] at hq
      obtain ⟨rfl, hq⟩ := hq
      exact X.here (hk t st' hq hy)
    · rename_i r e
      cases hit
      cases hy
      refine (hb s st _ hR e).mono fun ex st' hq => ?_
      cases ex <;> simp only [LP] at hq
      · exact X.out hq.1 hq.2
      · exact hq
    · cases hit

/-- What a function's heap owns. -/
inductive Res where
  | blk (id : Nat) (cs : List V)
  | row (v : V) (es : List PV)
  | frz (id : Nat) (ps : List PV)
  | arr (id n sz : Nat) (cs : List V)
def Res.ids : Res → List Nat
  | .blk id _ => [id]
  | .row v _ => match v with
    | .slt _ tok => [tok]
    | _ => []
  | .frz id _ => [id]
  | .arr id _ _ _ => [id]
def Res.ok (h : Heap) : Res → Prop
  | .blk id cs => ∃ t, ent h id = .blk cs t
  | .row v es => (es = [] ∧ v = .nils) ∨ v = .slx es ∨ (es ≠ [] ∧ ∃ tok, v = .slt es tok ∧ ent h tok = .tok)
  | .frz id ps => ent h id = .frz ps
  | .arr id n sz cs => (∃ t, ent h id = .blk cs t) ∧ cs.length = n * sz
def idsR (rs : List Res) : List Nat := rs.flatMap Res.ids
structure Own (h : Heap) (rs : List Res) : Prop where
  nodup : (idsR rs).Nodup
  lt : ∀ i ∈ idsR rs, i < h.length
  ok : ∀ r ∈ rs, r.ok h

section
variable {h h' : Heap} {rs rs' : List Res} {r : Res} {k id : Nat} {cs : List V} {v : V} {es : List PV}
theorem Own.nil : Own h [] := ⟨List.nodup_nil, fun _ h => (by cases h), fun _ h => (by cases h)⟩
theorem ent_le {h : Heap} {i : Nat} {e : Ent} (he : ent h i = e) (hd : e ≠ .dead) : i < h.length := by
  rcases Nat.lt_or_ge i h.length with h1 | h1
  · exact h1
  · exfalso; apply hd; rw [← he]; simp [ent, List.getElem?_eq_none h1]
theorem ent_app_lt {i : Nat} {l : Heap} (hi : i < h.length) : ent (h ++ l) i = ent h i := by simp [ent, List.getElem?_append_left hi]
theorem ent_set_ne' {i j : Nat} {e : Ent} (hij : i ≠ j) : ent (h.set i e) j = ent h j := by simp [ent, List.getElem?_set_ne hij]
theorem ent_set_eq {i : Nat} {e : Ent} (hi : i < h.length) : ent (h.set i e) i = e := by simp [ent, List.getElem?_set_self hi]

theorem Res.ok_of (hh : ∀ i ∈ r.ids, ent h' i = ent h i) (ho : r.ok h) : r.ok h' := by
  cases r with
  | blk id cs => obtain ⟨t, ht⟩ := ho; exact ⟨t, by rw [hh id (by simp [Res.ids])]; exact ht⟩
  | frz id ps => exact (hh id (by simp [Res.ids])).trans ho
  | arr id n sz cs => obtain ⟨⟨t, ht⟩, hl⟩ := ho; exact ⟨⟨t, by rw [hh id (by simp [Res.ids])]; exact ht⟩, hl⟩
  | row v es =>
    rcases ho with ⟨h1, h2⟩ | h1 | ⟨h1, tok, h2, h3⟩
    · exact .inl ⟨h1, h2⟩
    · exact .inr (.inl h1)
    · subst h2; exact .inr (.inr ⟨h1, tok, rfl, by rw [hh tok (by simp [Res.ids])]; exact h3⟩)
theorem Own.frame (ho : Own h rs) (hl : h.length ≤ h'.length) (hh : ∀ i ∈ idsR rs, ent h' i = ent h i) : Own h' rs :=
  ⟨ho.nodup, fun i hi => Nat.lt_of_lt_of_le (ho.lt i hi) hl, fun r hr => Res.ok_of (fun i hi => hh i (List.mem_flatMap.2 ⟨r, hr, hi⟩)) (ho.ok r hr)⟩
theorem Own.app {l : Heap} (ho : Own h rs) : Own (h ++ l) rs := ho.frame (by simp) fun i hi => ent_app_lt (ho.lt i hi)

theorem idsR_sub : ∀ {rs' rs : List Res}, rs'.Sublist rs → (idsR rs').Sublist (idsR rs) := by
  intro rs' rs hs
  induction hs with
  | slnil => exact List.Sublist.refl _
  | cons a _ ih => exact ih.trans (by simp only [idsR, List.flatMap_cons]; exact List.sublist_append_right _ _)
  | cons_cons a _ ih => simp only [idsR, List.flatMap_cons]; exact List.Sublist.append (List.Sublist.refl _) ih
theorem Own.sub (ho : Own h rs) (hs : rs'.Sublist rs) : Own h rs' :=
  ⟨(idsR_sub hs).nodup ho.nodup, fun i hi => ho.lt i ((idsR_sub hs).subset hi), fun r hr => ho.ok r (hs.subset hr)⟩

theorem Own.tail (ho : Own h (r :: rs)) : Own h rs := ho.sub (List.sublist_cons_self _ _)
theorem Own.cons (ho : Own h rs) (hn : r.ids.Nodup) (hl : ∀ i ∈ r.ids, i < h.length) (hd : ∀ i ∈ r.ids, i ∉ idsR rs) (hr : r.ok h) : Own h (r :: rs) := by
  refine ⟨?_, ?_, ?_⟩
  · simp only [idsR, List.flatMap_cons]
    exact List.nodup_append.2 ⟨hn, ho.nodup, fun a ha b hb hab => hd a ha (hab ▸ hb)⟩
  · intro i hi
    simp only [idsR, List.flatMap_cons, List.mem_append] at hi
    exact hi.elim (hl i) (ho.lt i)
  · intro r' hr'
    rcases List.mem_cons.1 hr' with rfl | h1
    · exact hr
    · exact ho.ok r' h1
theorem Own.addNil (ho : Own h rs) : Own h (.row .nils [] :: rs) := ho.cons (by simp [Res.ids]) (by simp [Res.ids]) (by simp [Res.ids]) (.inl ⟨rfl, rfl⟩)
theorem Own.push {t : Option TypeId} (ho : Own h rs) : Own (h ++ [.blk cs t]) (.blk h.length cs :: rs) :=
  ho.app.cons (by simp [Res.ids]) (by simp [Res.ids]) (fun i hi hj => by simp only [Res.ids, List.mem_singleton] at hi; have := ho.lt i hj; omega) ⟨t, by rw [ent_new]⟩

/-- The others. -/
theorem Own.at (ho : Own h rs) (hk : rs[k]? = some r) : r.ok h := ho.ok r (List.mem_of_getElem? hk)
theorem Own.apart : ∀ {rs : List Res} {k : Nat} {r : Res}, (idsR rs).Nodup → rs[k]? = some r → ∀ j r', rs[j]? = some r' → j ≠ k → ∀ i ∈ r.ids, i ∉ r'.ids
  | [], _, _, _, h => by simp at h
  | a :: rs, k, r, hn, hk => by
    intro j r' hj hjk i hi hi'
    simp only [idsR, List.flatMap_cons] at hn
    obtain ⟨n1, n2, n3⟩ := List.nodup_append.1 hn
    cases k with
    | zero =>
      cases j with
      | zero => exact hjk rfl
      | succ j => simp at hk hj; subst hk; exact n3 i hi i (List.mem_flatMap.2 ⟨r', List.mem_of_getElem? hj, hi'⟩) rfl
    | succ k =>
      cases j with
      | zero => simp at hk hj; subst hj; exact n3 i hi' i (List.mem_flatMap.2 ⟨r, List.mem_of_getElem? hk, hi⟩) rfl
      | succ j => exact Own.apart n2 (by simpa using hk) j r' (by simpa using hj) (by omega) i hi hi'

theorem idsR_set : ∀ {rs : List Res} {k : Nat} {r r' : Res}, rs[k]? = some r → r'.ids = r.ids → idsR (rs.set k r') = idsR rs
  | [], _, _, _, h, _ => by simp at h
  | a :: rs, 0, r, r', h, e => by simp at h; subst h; simp [idsR, e]
  | a :: rs, k + 1, r, r', h, e => by
    have := idsR_set (rs := rs) (k := k) (r := r) (r' := r') (by simpa using h) e
    simp only [List.set_cons_succ, idsR, List.flatMap_cons] at this ⊢
    rw [this]

/-- One of them turns, its place stays. -/
theorem Own.turn {r' : Res} (ho : Own h rs) (hk : rs[k]? = some r) (he : r'.ids = r.ids) (hl : h.length ≤ h'.length) (hh : ∀ i, i ∉ r.ids → ent h' i = ent h i) (hr : r'.ok h') : Own h' (rs.set k r') := by
  refine ⟨by rw [idsR_set hk he]; exact ho.nodup, fun i hi => Nat.lt_of_lt_of_le (ho.lt i (by rw [idsR_set hk he] at hi; exact hi)) hl, fun q hq => ?_⟩
  obtain ⟨j, hj⟩ := List.getElem?_of_mem hq
  rw [List.getElem?_set] at hj
  split at hj
  · split at hj
    · cases hj; exact hr
    · cases hj
  · rename_i hne
    exact Res.ok_of (fun i hi => hh i fun hi2 => Own.apart ho.nodup hk j q hj (by omega) i hi2 hi) (ho.at hj)
theorem Own.set {t : Option TypeId} {cs' : List V} (ho : Own h rs) (hk : rs[k]? = some (.blk id cs)) : Own (h.set id (.blk cs' t)) (rs.set k (.blk id cs')) := by
  obtain ⟨t', ht⟩ := ho.at hk
  have hlt := ent_le ht (by simp)
  exact ho.turn hk rfl (by simp) (fun i hi => ent_set_ne' fun e => hi (by simp [Res.ids, e])) ⟨t, ent_set_eq hlt⟩

/-- What may be new: the k-th is another, of a new place. -/
theorem Own.swap {r' : Res} (ho : Own h rs) (hk : rs[k]? = some r) (hn : r'.ids.Nodup) (hnew : ∀ i ∈ r'.ids, h.length ≤ i ∧ i < h'.length) (hl : h.length ≤ h'.length) (hh : ∀ i, i < h.length → i ∉ r.ids → ent h' i = ent h i) (hr : r'.ok h') : Own h' (rs.set k r') := by
  have key : ∀ {rs : List Res} {k : Nat}, Own h rs → rs[k]? = some r → (idsR (rs.set k r')).Nodup ∧ ∀ i ∈ idsR (rs.set k r'), i ∈ r'.ids ∨ i ∈ idsR rs := by
    intro rs
    induction rs with
    | nil => intro k _ hk; simp at hk
    | cons a rs ih =>
      intro k ho hk
      cases k with
      | zero =>
        simp only [List.set_cons_zero, idsR, List.flatMap_cons, List.mem_append]
        refine ⟨List.nodup_append.2 ⟨hn, ho.tail.nodup, fun i hi j hj hij => ?_⟩, fun i hi => hi.elim .inl fun h => .inr (.inr h)⟩
        have h1 := (hnew i hi).1
        have h2 := ho.tail.lt j hj
        omega
      | succ k =>
        obtain ⟨i1, i2⟩ := ih ho.tail (by simpa using hk)
        have hna := (List.nodup_append.1 (show (a.ids ++ idsR rs).Nodup by simpa [idsR, List.flatMap_cons] using ho.nodup))
        simp only [List.set_cons_succ, idsR, List.flatMap_cons, List.mem_append]
        refine ⟨List.nodup_append.2 ⟨hna.1, i1, fun i hi j hj hij => ?_⟩, fun i hi => ?_⟩
        · subst hij
          rcases i2 i hj with h1 | h1
          · have h3 := (hnew i h1).1
            have h2 := ho.lt i (by simp only [idsR, List.flatMap_cons, List.mem_append]; exact .inl hi)
            omega
          · exact hna.2.2 i hi i h1 rfl
        · rcases hi with h1 | h1
          · exact .inr (.inl h1)
          · rcases i2 i h1 with h2 | h2
            · exact .inl h2
            · exact .inr (.inr h2)
  obtain ⟨k1, k2⟩ := key ho hk
  refine ⟨k1, fun i hi => (k2 i hi).elim (fun h => (hnew i h).2) fun h => Nat.lt_of_lt_of_le (ho.lt i h) hl, fun q hq => ?_⟩
  obtain ⟨j, hj⟩ := List.getElem?_of_mem hq
  rw [List.getElem?_set] at hj
  split at hj
  · split at hj
    · cases hj; exact hr
    · cases hj
  · rename_i hne
    have hm := List.mem_of_getElem? hj
    exact Res.ok_of (fun i hi => hh i (ho.lt i (List.mem_flatMap.2 ⟨q, hm, hi⟩)) fun hi2 => Own.apart ho.nodup hk j q hj (by omega) i hi2 hi) (ho.at hj)
end
end Ab

-- One step of each kind, for functions as plain ones.
namespace Ab
open Go

/-- Temporaries that count, by their places. -/
def upds (f : Nat → V) : List (Nat × V) → Nat → V
  | [] => f
  | (i, v) :: l => upd (upds f l) (some i) v
def Keeps (f : Nat → V) : List (Nat × V) → Prop
  | [] => True
  | (i, v) :: l => f i = v ∧ Keeps f l
theorem upds_keep {f : Nat → V} : ∀ {l : List (Nat × V)}, Keeps f l → upds f l = f
  | [], _ => rfl
  | (i, v) :: l, h => by
    simp only [upds, upds_keep h.2]
    funext j
    simp only [upd]
    split
    · rename_i e; rw [e]; exact h.1.symm
    · rfl
theorem st_keep {f : Nat → V} {n : Nat} {h : Heap} (l : List (Nat × V)) (k : Keeps f l) : (⟨TL n f, h⟩ : St) = ⟨TL n (upds f l), h⟩ := by rw [upds_keep k]

/-- Kinds of elements. -/
structure TyE (α : Type) where
  enc : α → PV
  cells : α → List PV
  sz : Nat
  ag : Bool
  len : ∀ a, (cells a).length = sz
  he : ∀ a, enc a = mkPV ag (cells a)
  hc : ∀ a, (enc a).cells = cells a
  one : ag = true ∨ sz = 1

def idx {α : Type} (l : List α) (i : Int) : Option α := if 0 ≤ i then l[i.toNat]? else none
def idxS (l : List UInt8) (i : Int) : Option Int := if 0 ≤ i then (l[i.toNat]?).map fun b => ((b.toNat : Nat) : Int) else none
/-- A part of a row. -/
def part {α : Type} (l : List α) (lo hi : Int) : Option (List α) := if 0 ≤ lo ∧ lo ≤ hi ∧ hi ≤ (l.length : Int) then some ((l.drop lo.toNat).take (hi.toNat - lo.toNat)) else none
/-- Two rows, one behind the other, where there is room. -/
def join (bytes : Nat) {α : Type} (xs ys : List α) : Option (List α) := if (xs.length + ys.length) * bytes ≤ growMax then some (xs ++ ys) else none
def joinS (a b : List UInt8) : Option (List UInt8) := if a.length + b.length ≤ 4611686018427387904 then some (a ++ b) else none

/-- A row, however it stands. -/
def SlP (u : V) (ps : List PV) : Prop := u = .pv (.sl ps) ∨ u = .slx ps ∨ (∃ t, u = .slt ps t) ∨ (u = .nils ∧ ps = [])
theorem SlP.pv {ps : List PV} : SlP (.pv (.sl ps)) ps := .inl rfl
theorem SlP.slx {ps : List PV} : SlP (.slx ps) ps := .inr (.inl rfl)
theorem SlP.nils : SlP .nils [] := .inr (.inr (.inr ⟨rfl, rfl⟩))
theorem Own.slp {h : Heap} {rs : List Res} {k : Nat} {v : V} {es : List PV} (ho : Own h rs) (hk : rs[k]? = some (.row v es)) : SlP v es := by
  rcases ho.at hk with ⟨rfl, rfl⟩ | rfl | ⟨_, t, rfl, _⟩
  · exact .nils
  · exact .slx
  · exact .inr (.inr (.inl ⟨t, rfl⟩))

/-- What a value is, all blocks unseen. -/
def Wk (v : V) (p : PV) : Prop := ∀ n h, 3 ≤ n → snap n v h = some (p, h)
theorem Wk.pv {p : PV} : Wk (.pv p) p := fun n h hn => by obtain ⟨m, rfl⟩ : ∃ m, n = m + 1 := ⟨n - 1, by omega⟩; exact snap_pv
theorem SlP.wk {u : V} {ps : List PV} (s : SlP u ps) : Wk u (.sl ps) := fun n h hn => by
  obtain ⟨m, rfl⟩ : ∃ m, n = m + 1 := ⟨n - 1, by omega⟩
  rcases s with rfl | rfl | ⟨t, rfl⟩ | ⟨rfl, rfl⟩
  · exact snap_pv
  · exact snap_slx
  · exact snap_slt
  · exact snap_nils
/-- Several. -/
def WkL : List V → List PV → Prop
  | [], [] => True
  | v :: vs, p :: ps => Wk v p ∧ WkL vs ps
  | _, _ => False
/-- Cells, none of which is one of several. -/
def Wk1 (v : V) (p : PV) : Prop := ∀ n h, 2 ≤ n → snap n v h = some (p, h)
theorem Wk1.pv {p : PV} : Wk1 (.pv p) p := fun n h hn => by obtain ⟨m, rfl⟩ : ∃ m, n = m + 1 := ⟨n - 1, by omega⟩; exact snap_pv
theorem SlP.wk1 {u : V} {ps : List PV} (s : SlP u ps) : Wk1 u (.sl ps) := fun n h hn => by
  obtain ⟨m, rfl⟩ : ∃ m, n = m + 1 := ⟨n - 1, by omega⟩
  rcases s with rfl | rfl | ⟨t, rfl⟩ | ⟨rfl, rfl⟩
  · exact snap_pv
  · exact snap_slx
  · exact snap_slt
  · exact snap_nils
def Wk1L : List V → List PV → Prop
  | [], [] => True
  | v :: vs, p :: ps => Wk1 v p ∧ Wk1L vs ps
  | _, _ => False
theorem Wk1L.pvs : ∀ (ps : List PV), Wk1L (ps.map .pv) ps
  | [] => trivial
  | _ :: ps => ⟨Wk1.pv, Wk1L.pvs ps⟩
theorem Wk1L.app : ∀ {vs us : List V} {ps qs : List PV}, Wk1L vs ps → Wk1L us qs → Wk1L (vs ++ us) (ps ++ qs)
  | [], _, [], _, _, h => h
  | _ :: _, _, _ :: _, _, a, b => ⟨a.1, Wk1L.app a.2 b⟩
  | [], _, _ :: _, _, a, _ => a.elim
  | _ :: _, _, [], _, a, _ => a.elim
theorem Wk1L.snap {n : Nat} {h : Heap} (hn : 2 ≤ n) : ∀ {vs : List V} {ps : List PV}, Wk1L vs ps → snapLF (Ab.snap n) vs h = some (ps, h)
  | [], [], _ => rfl
  | v :: vs, p :: ps, a => by simp only [snapLF, a.1 n h hn, Wk1L.snap hn a.2]
  | [], _ :: _, a => a.elim
  | _ :: _, [], a => a.elim
theorem Wk.agg {vs : List V} {ps : List PV} (a : Wk1L vs ps) : Wk (.agg vs) (.agg ps) := fun n h hn => by
  obtain ⟨m, rfl⟩ : ∃ m, n = m + 1 := ⟨n - 1, by omega⟩
  rw [snap_agg, a.snap (by omega)]
theorem Wk.fn {vs : List V} {ps : List PV} {f : FuncId} (a : Wk1L vs ps) : Wk (.fn f vs) (.fn f ps) := fun n h hn => by
  obtain ⟨m, rfl⟩ : ∃ m, n = m + 1 := ⟨n - 1, by omega⟩
  rw [snap_fn, a.snap (by omega)]
theorem WkL.pvs : ∀ (ps : List PV), WkL (ps.map .pv) ps
  | [] => trivial
  | _ :: ps => ⟨Wk.pv, WkL.pvs ps⟩
theorem WkL.snap {n : Nat} {h : Heap} (hn : 3 ≤ n) : ∀ {vs : List V} {ps : List PV}, WkL vs ps → snapLF (Ab.snap n) vs h = some (ps, h)
  | [], [], _ => rfl
  | v :: vs, p :: ps, a => by simp only [snapLF, a.1 n h hn, WkL.snap hn a.2]
  | [], _ :: _, a => a.elim
  | _ :: _, [], a => a.elim

theorem bT {α : Type} {a b : Option α} {o : α} (h : (bif true then a else b) = some o) : a = some o := h
theorem bF {α : Type} {a b : Option α} {o : α} (h : (bif false then a else b) = some o) : b = some o := h
theorem bS {α β : Type} {x : Option α} {g : α → Option β} {o : β} (h : x.bind g = some o) : ∃ y, x = some y ∧ g y = some o := Option.bind_eq_some_iff.1 h

/-- At the end. -/
theorem Fin.leaf {f : Nat → V} {n : Nat} {h : Heap} {res : List AResult} {rs : List PV} {us : List V} (hb : belowR n res = true) (e : resS (Fk.mk (f := f)) h res = some us) (h2 : pureRes (oneOf us) h = some rs) : Fin res rs .ret ⟨TL n f, h⟩ := Fin.mkQ hb e h2 rfl
theorem pureRes_one {v : V} {p : PV} {h : Heap} (w : Wk v p) (hv : ∀ vs, v ≠ .tup vs) : pureRes v h = some [p] := by
  have := w snapFuel h (by decide)
  cases v <;> simp only [pureRes, this, Option.map_some] <;> exact absurd rfl (hv _)
section
variable {E : Env} {n : Nat} {f : Nat → V} {h h' : Heap} {Q : AExit → St → Prop} {rest : ACode} {d : Option Nat} {op : AOp} {af : List Nat} {os : List AOper} {cs : List Bool} {rs rs' : List Res} {rs'' : V → List Res} {id off size : Nat} {v w u : V} {ag : Bool} {a x y : AOperand} {c : List V}

theorem X.pure (v : V) (hb : below n op.reads = true) (e : opA E (limP E) (limR E) [] h (sub (Fk.mk (f := f)) op) = some (v, h)) (k : X E (.seq (.region os false) rest) ⟨TL n (upd f d v), h⟩ Q) : X E (.seq (.region (⟨d, op, none, af⟩ :: os) false) rest) ⟨TL n f, h⟩ Q := X.stepQ hb rfl e k
theorem XD.pure (v : V) (hb : below n op.reads = true) (e : opA E (limP E) (limR E) [] h (sub (Fk.mk (f := f)) op) = some (v, h)) (k : XD E os cs rest ⟨TL n (upd f d v), h⟩ Q) (hk : calmK op = true := by rfl) : XD E (⟨d, op, none, af⟩ :: os) (true :: cs) rest ⟨TL n f, h⟩ Q := XD.calmQ hk hb rfl e k
/-- One that makes nothing of the heap, and looks not into it. -/
theorem XD.fresh (v : V) (hb : below n op.reads = true) (hf : ∀ h, foot [] h (sub (Fk.mk (f := f)) op) = []) (e : ∀ h, opA E (limP E) (limR E) [] h (sub (Fk.mk (f := f)) op) = some (v, h)) (k : XD E os cs rest ⟨TL n (upd f d v), h⟩ Q) :
    XD E (⟨d, op, none, af⟩ :: os) (false :: cs) rest ⟨TL n f, h⟩ Q := XD.loudQ hb rfl (hf h) (e _) (by simp [length_mask]) merge_mask k

theorem X.yes {t : Nat} {b : Bool} (ht : Nat.blt t n = true) (e : fk (Fk.mk (f := f)) t = .pv (.bool b)) (k : X E (.seq (.region (⟨d, op, none, af⟩ :: os) false) rest) ⟨TL n f, h⟩ Q) : X E (.seq (.region (⟨d, op, some (t, b), af⟩ :: os) false) rest) ⟨TL n f, h⟩ Q := by
  cases b with
  | true => exact X.stepGtQ ht e (fun _ => k) (fun h => by cases h)
  | false => exact X.stepGfQ ht e (fun _ => k) (fun h => by cases h)
theorem X.no {t : Nat} {b : Bool} (ht : Nat.blt t n = true) (e : fk (Fk.mk (f := f)) t = .pv (.bool !b)) (k : X E (.seq (.region os false) rest) ⟨TL n (upd f d (.tup [])), h⟩ Q) : X E (.seq (.region (⟨d, op, some (t, b), af⟩ :: os) false) rest) ⟨TL n f, h⟩ Q := by
  cases b with
  | true => exact X.stepGtQ ht e (fun h => by cases h) (fun _ => k)
  | false => exact X.stepGfQ ht e (fun h => by cases h) (fun _ => k)
theorem X.void {t : Nat} {b : Bool} (ht : Nat.blt t n = true) (e : fk (Fk.mk (f := f)) t = .tup []) (k : X E (.seq (.region os false) rest) ⟨TL n (upd f d (.tup [])), h⟩ Q) : X E (.seq (.region (⟨d, op, some (t, b), af⟩ :: os) false) rest) ⟨TL n f, h⟩ Q := X.stepNQ ht e k
theorem XD.yes {t : Nat} {b c : Bool} (ht : Nat.blt t n = true) (e : fk (Fk.mk (f := f)) t = .pv (.bool b)) (k : XD E (⟨d, op, none, af⟩ :: os) (c :: cs) rest ⟨TL n f, h⟩ Q) : XD E (⟨d, op, some (t, b), af⟩ :: os) (c :: cs) rest ⟨TL n f, h⟩ Q := by
  cases b with
  | true => exact XD.stepGtQ ht e (fun _ => k) (fun h => by cases h)
  | false => exact XD.stepGfQ ht e (fun _ => k) (fun h => by cases h)
theorem XD.no {t : Nat} {b c : Bool} (ht : Nat.blt t n = true) (e : fk (Fk.mk (f := f)) t = .pv (.bool !b)) (k : XD E os cs rest ⟨TL n (upd f d (.tup [])), h⟩ Q) : XD E (⟨d, op, some (t, b), af⟩ :: os) (c :: cs) rest ⟨TL n f, h⟩ Q := by
  cases b with
  | true => exact XD.stepGtQ ht e (fun h => by cases h) (fun _ => k)
  | false => exact XD.stepGfQ ht e (fun h => by cases h) (fun _ => k)
theorem XD.void {t : Nat} {b c : Bool} (ht : Nat.blt t n = true) (e : fk (Fk.mk (f := f)) t = .tup []) (k : XD E os cs rest ⟨TL n (upd f d (.tup [])), h⟩ Q) : XD E (⟨d, op, some (t, b), af⟩ :: os) (c :: cs) rest ⟨TL n f, h⟩ Q := XD.stepNQ ht e k

theorem X.condT {c : AOperand} {a b : ACode} (hb : below n c.reads = true) (s : subO (Fk.mk (f := f)) c = .val (.pv (.bool true))) (k : X E (app a rest) ⟨TL n f, h⟩ Q) : X E (.seq (.cond c a b) rest) ⟨TL n f, h⟩ Q := X.condQ hb s (fun _ => k) (fun h => by cases h)
theorem X.condF {c : AOperand} {a b : ACode} (hb : below n c.reads = true) (s : subO (Fk.mk (f := f)) c = .val (.pv (.bool false))) (k : X E (app b rest) ⟨TL n f, h⟩ Q) : X E (.seq (.cond c a b) rest) ⟨TL n f, h⟩ Q := X.condQ hb s (fun h => by cases h) (fun _ => k)

/-- A block of one's own. -/
theorem X.box (c : List V) (ho : Own h rs) (hb : below n x.reads = true) (e : St.eval [] (subO (Fk.mk (f := f)) x) = some w) (hc : w.cells = c) (ha : c.all V.isCell = true)
    (k : ∀ id h', Own h' (.blk id c :: rs) → X E (.seq (.region os false) rest) ⟨TL n (upd f d (.ptr id 0)), h'⟩ Q) : X E (.seq (.region (⟨d, .box x, none, af⟩ :: os) false) rest) ⟨TL n f, h⟩ Q := by
  subst hc
  exact X.stepQ (vop := sub (Fk.mk (f := f)) (.box x)) (h' := h ++ [.blk w.cells none]) (v := .ptr h.length 0) hb rfl (by simp only [sub, opA, e, ha, if_true]) (k _ _ ho.push)
theorem XD.box (c : List V) (ho : Own h rs) (hb : below n x.reads = true) (e : St.eval [] (subO (Fk.mk (f := f)) x) = some w) (hc : w.cells = c) (ha : c.all V.isCell = true)
    (k : ∀ id h', Own h' (.blk id c :: rs) → XD E os cs rest ⟨TL n (upd f d (.ptr id 0)), h'⟩ Q) : XD E (⟨d, .box x, none, af⟩ :: os) (false :: cs) rest ⟨TL n f, h⟩ Q := by
  subst hc
  exact XD.loudQ (vop := sub (Fk.mk (f := f)) (.box x)) (F := []) (h1 := mask [] h ++ [.blk w.cells none]) (v := .ptr (mask [] h).length 0) hb rfl rfl (by simp only [sub, opA, e, ha, if_true]) (by simp [length_mask]) merge_mask_app (by rw [length_mask]; exact k _ _ ho.push)
theorem X.new {t : TypeId} (ho : Own h rs) (k : ∀ id h', Own h' (.blk id c :: rs) → X E (.seq (.region os false) rest) ⟨TL n (upd f d (.ptr id 0)), h'⟩ Q) : X E (.seq (.region (⟨d, .new t c, none, af⟩ :: os) false) rest) ⟨TL n f, h⟩ Q :=
  X.stepQ (vop := .new t c) (h' := h ++ [.blk c (some t)]) (v := .ptr h.length 0) rfl rfl rfl (k _ _ ho.push)
theorem XD.new {t : TypeId} (ho : Own h rs) (k : ∀ id h', Own h' (.blk id c :: rs) → XD E os cs rest ⟨TL n (upd f d (.ptr id 0)), h'⟩ Q) : XD E (⟨d, .new t c, none, af⟩ :: os) (false :: cs) rest ⟨TL n f, h⟩ Q :=
  XD.loudQ (vop := .new t c) (F := []) (h1 := mask [] h ++ [.blk c (some t)]) (v := .ptr (mask [] h).length 0) rfl rfl rfl rfl (by simp [length_mask]) merge_mask_app (by rw [length_mask]; exact k _ _ ho.push)

def cutV (ag : Bool) (c : List V) (off size : Nat) : Option V := match cut c off size with
  | some c => mkVal ag c
  | none => none
theorem load_own (i : Nat) (ho : Own h rs) (hk : rs[i]? = some (.blk id c)) (hv : cutV ag c off size = some v) : loadA h ag size (.ptr id off) = some v := by
  obtain ⟨t, ht⟩ := ho.at hk
  simp only [loadA, ht]
  unfold cutV at hv
  split at hv
  · rename_i c' e; rw [e]; exact hv
  · cases hv
theorem load_frz {ps : List PV} (i : Nat) (ho : Own h rs) (hk : rs[i]? = some (.frz id ps)) (hv : cutV ag (ps.map .pv) off size = some v) : loadA h ag size (.ptr id off) = some v := by
  have ht : ent h id = .frz ps := ho.at hk
  simp only [loadA, ht]
  unfold cutV at hv
  have e : cut (ps.map V.pv) off size = (cut ps off size).map (·.map .pv) := by
    unfold cut
    rw [List.length_map]
    split
    · simp [List.map_take, List.map_drop]
    · rfl
  rw [e] at hv
  cases hc : cut ps off size with
  | none => rw [hc] at hv; cases hv
  | some c' => rw [hc] at hv; exact hv
theorem X.load (i : Nat) (v : V) (ho : Own h rs) (hk : rs[i]? = some (.blk id c)) (hb : below n a.reads = true) (e : St.eval [] (subO (Fk.mk (f := f)) a) = some (.ptr id off)) (hv : cutV ag c off size = some v)
    (k : X E (.seq (.region os false) rest) ⟨TL n (upd f d v), h⟩ Q) : X E (.seq (.region (⟨d, .load ag size a, none, af⟩ :: os) false) rest) ⟨TL n f, h⟩ Q :=
  X.stepQ (vop := sub (Fk.mk (f := f)) (.load ag size a)) hb rfl (by simp only [sub, opA, e, load_own i ho hk hv]; rfl) k
theorem XD.load (i : Nat) (v : V) (ho : Own h rs) (hk : rs[i]? = some (.blk id c)) (hb : below n a.reads = true) (e : St.eval [] (subO (Fk.mk (f := f)) a) = some (.ptr id off)) (hv : cutV ag c off size = some v)
    (k : XD E os cs rest ⟨TL n (upd f d v), h⟩ Q) : XD E (⟨d, .load ag size a, none, af⟩ :: os) (true :: cs) rest ⟨TL n f, h⟩ Q :=
  XD.calmQ (vop := sub (Fk.mk (f := f)) (.load ag size a)) (h1 := h) rfl hb rfl (by simp only [sub, opA, e, load_own i ho hk hv]; rfl) k
theorem X.loadF {ps : List PV} (i : Nat) (v : V) (ho : Own h rs) (hk : rs[i]? = some (.frz id ps)) (hb : below n a.reads = true) (e : St.eval [] (subO (Fk.mk (f := f)) a) = some (.ptr id off)) (hv : cutV ag (ps.map .pv) off size = some v)
    (k : X E (.seq (.region os false) rest) ⟨TL n (upd f d v), h⟩ Q) : X E (.seq (.region (⟨d, .load ag size a, none, af⟩ :: os) false) rest) ⟨TL n f, h⟩ Q :=
  X.stepQ (vop := sub (Fk.mk (f := f)) (.load ag size a)) hb rfl (by simp only [sub, opA, e, load_frz i ho hk hv]; rfl) k
theorem XD.loadF {ps : List PV} (i : Nat) (v : V) (ho : Own h rs) (hk : rs[i]? = some (.frz id ps)) (hb : below n a.reads = true) (e : St.eval [] (subO (Fk.mk (f := f)) a) = some (.ptr id off)) (hv : cutV ag (ps.map .pv) off size = some v)
    (k : XD E os cs rest ⟨TL n (upd f d v), h⟩ Q) : XD E (⟨d, .load ag size a, none, af⟩ :: os) (true :: cs) rest ⟨TL n f, h⟩ Q :=
  XD.calmQ (vop := sub (Fk.mk (f := f)) (.load ag size a)) (h1 := h) rfl hb rfl (by simp only [sub, opA, e, load_frz i ho hk hv]; rfl) k

def storeV (c : List V) (off size : Nat) (w : V) : Option (List V) := if w.cells.length = size ∧ off + size ≤ c.length ∧ w.cells.all V.isCell = true then some (splice c off w.cells) else none
theorem X.store (i : Nat) (c' : List V) (ho : Own h rs) (hk : rs[i]? = some (.blk id c)) (hb : below n (a.reads ++ x.reads) = true) (e : St.eval [] (subO (Fk.mk (f := f)) a) = some (.ptr id off)) (e2 : St.eval [] (subO (Fk.mk (f := f)) x) = some w)
    (hs : storeV c off size w = some c') (hr : rs.set i (.blk id c') = rs') (k : ∀ h', Own h' rs' → X E (.seq (.region os false) rest) ⟨TL n (upd f d (.tup [])), h'⟩ Q) : X E (.seq (.region (⟨d, .store size a x, none, af⟩ :: os) false) rest) ⟨TL n f, h⟩ Q := by
  obtain ⟨t, ht⟩ := ho.at hk
  subst hr
  unfold storeV at hs
  split at hs
  · rename_i hc
    cases hs
    exact X.stepQ (vop := sub (Fk.mk (f := f)) (.store size a x)) (h' := h.set id (.blk (splice c off w.cells) t)) (v := .tup []) hb rfl (by simp only [sub, opA, e, e2, storeA, ht, if_pos hc]; rfl) (k _ (ho.set hk))
  · cases hs
theorem XD.store (i : Nat) (c' : List V) (ho : Own h rs) (hk : rs[i]? = some (.blk id c)) (hb : below n (a.reads ++ x.reads) = true) (e : St.eval [] (subO (Fk.mk (f := f)) a) = some (.ptr id off)) (e2 : St.eval [] (subO (Fk.mk (f := f)) x) = some w)
    (hs : storeV c off size w = some c') (hr : rs.set i (.blk id c') = rs') (k : ∀ h', Own h' rs' → XD E os cs rest ⟨TL n (upd f d (.tup [])), h'⟩ Q) : XD E (⟨d, .store size a x, none, af⟩ :: os) (false :: cs) rest ⟨TL n f, h⟩ Q := by
  obtain ⟨t, ht⟩ := ho.at hk
  subst hr
  unfold storeV at hs
  split at hs
  · rename_i hc
    cases hs
    have hm : ent (mask [id] h) id = .blk c t := by rw [ent_mask, if_pos (by simp)]; exact ht
    exact XD.loudQ (vop := sub (Fk.mk (f := f)) (.store size a x)) (F := [id]) (h1 := (mask [id] h).set id (.blk (splice c off w.cells) t)) (v := .tup []) hb rfl (by show oIds [] (subO (Fk.mk (f := f)) a) = [id]; simp only [oIds, e, V.ids]) (by simp only [sub, opA, e, e2, storeA, hm, if_pos hc]; rfl) (by simp [length_mask]) (merge_mask_set (by simp)) (k _ (ho.set hk))
  · cases hs

/-- An element of a row. -/
theorem X.at {α : Type} (T : TyE α) {l : List α} {i : Int} {z : α} {kk : IntKind} (hy : idx l i = some z) (hb : below n (x.reads ++ y.reads) = true) (e : St.eval [] (subO (Fk.mk (f := f)) x) = some u) (hu : SlP u (l.map T.enc)) (e2 : St.eval [] (subO (Fk.mk (f := f)) y) = some (.pv (.int kk i))) (hz : T.sz = size)
    (k : X E (.seq (.region os false) rest) ⟨TL n (upd f d (.pv (.ip (T.cells z) 0))), h⟩ Q) : X E (.seq (.region (⟨d, .iaddrSl size x y, none, af⟩ :: os) false) rest) ⟨TL n f, h⟩ Q := by
  unfold idx at hy
  split at hy
  · rename_i h0
    have h1 : (l.map T.enc)[i.toNat]? = some (T.enc z) := by rw [List.getElem?_map, hy]; rfl
    have hel : elemAt size (l.map T.enc) i.toNat = some (.pv (.ip (T.cells z) 0)) := by simp only [elemAt, h1, T.hc, T.len, hz, if_true]
    have hop : iaddrSlA size u (.pv (.int kk i)) = some (.pv (.ip (T.cells z) 0)) := by
      rcases hu with rfl | rfl | ⟨t, rfl⟩ | ⟨rfl, hn⟩
      · simp only [iaddrSlA, natOf?, if_pos h0, hel]
      · simp only [iaddrSlA, natOf?, if_pos h0, hel]
      · simp only [iaddrSlA, natOf?, if_pos h0, hel]
      · rw [hn] at h1; cases h1
    exact X.stepQ (vop := sub (Fk.mk (f := f)) (.iaddrSl size x y)) hb rfl (by simp only [sub, opA, e, e2, hop]; rfl) k
  · cases hy
theorem XD.at {α : Type} (T : TyE α) {l : List α} {i : Int} {z : α} {kk : IntKind} (hy : idx l i = some z) (hb : below n (x.reads ++ y.reads) = true) (e : St.eval [] (subO (Fk.mk (f := f)) x) = some u) (hu : SlP u (l.map T.enc)) (e2 : St.eval [] (subO (Fk.mk (f := f)) y) = some (.pv (.int kk i))) (hz : T.sz = size)
    (k : XD E os cs rest ⟨TL n (upd f d (.pv (.ip (T.cells z) 0))), h⟩ Q) : XD E (⟨d, .iaddrSl size x y, none, af⟩ :: os) (true :: cs) rest ⟨TL n f, h⟩ Q := by
  unfold idx at hy
  split at hy
  · rename_i h0
    have h1 : (l.map T.enc)[i.toNat]? = some (T.enc z) := by rw [List.getElem?_map, hy]; rfl
    have hel : elemAt size (l.map T.enc) i.toNat = some (.pv (.ip (T.cells z) 0)) := by simp only [elemAt, h1, T.hc, T.len, hz, if_true]
    have hop : iaddrSlA size u (.pv (.int kk i)) = some (.pv (.ip (T.cells z) 0)) := by
      rcases hu with rfl | rfl | ⟨t, rfl⟩ | ⟨rfl, hn⟩
      · simp only [iaddrSlA, natOf?, if_pos h0, hel]
      · simp only [iaddrSlA, natOf?, if_pos h0, hel]
      · simp only [iaddrSlA, natOf?, if_pos h0, hel]
      · rw [hn] at h1; cases h1
    exact XD.calmQ (vop := sub (Fk.mk (f := f)) (.iaddrSl size x y)) (h1 := h) rfl hb rfl (by simp only [sub, opA, e, e2, hop]; rfl) k
  · cases hy
theorem SlP.len {ps : List PV} (s : SlP u ps) : isSlV u = true ∧ lenA u = some ps.length := by
  rcases s with rfl | rfl | ⟨t, rfl⟩ | ⟨rfl, rfl⟩ <;> exact ⟨rfl, rfl⟩
theorem X.len {α : Type} {l : List α} {g : α → PV} (hb : below n x.reads = true) (e : St.eval [] (subO (Fk.mk (f := f)) x) = some u) (hu : SlP u (l.map g)) (k : X E (.seq (.region os false) rest) ⟨TL n (upd f d (.pv (.int .i64 (l.length : Int)))), h⟩ Q) :
    X E (.seq (.region (⟨d, .lenOf false x, none, af⟩ :: os) false) rest) ⟨TL n f, h⟩ Q :=
  X.stepQ (vop := sub (Fk.mk (f := f)) (.lenOf false x)) hb rfl (by simp only [sub, opA, e, hu.len.1, hu.len.2, List.length_map]; rfl) k
theorem XD.len {α : Type} {l : List α} {g : α → PV} (hb : below n x.reads = true) (e : St.eval [] (subO (Fk.mk (f := f)) x) = some u) (hu : SlP u (l.map g)) (k : XD E os cs rest ⟨TL n (upd f d (.pv (.int .i64 (l.length : Int)))), h⟩ Q) :
    XD E (⟨d, .lenOf false x, none, af⟩ :: os) (true :: cs) rest ⟨TL n f, h⟩ Q :=
  XD.calmQ (vop := sub (Fk.mk (f := f)) (.lenOf false x)) (h1 := h) rfl hb rfl (by simp only [sub, opA, e, hu.len.1, hu.len.2, List.length_map]; rfl) k

/-- A pure call, whatever rows it is handed. -/
theorem X.callW {g : FuncId} {args : List AOperand} (vs : List V) (ps qs : List PV) (hl : limP E g ps = some qs) (hr : E.raw g = false) (hb : below n (readsL args) = true) (e : evals [] (subL (Fk.mk (f := f)) args) = some vs) (hw : WkL vs ps)
    (k : X E (.seq (.region os false) rest) ⟨TL n (upd f d (mkRes qs)), h⟩ Q) : X E (.seq (.region (⟨d, .call g args, none, af⟩ :: os) false) rest) ⟨TL n f, h⟩ Q :=
  X.stepQ (vop := sub (Fk.mk (f := f)) (.call g args)) hb rfl (by simp only [sub, opA, e, callA, hr, Bool.false_eq_true, if_false, snapL, hw.snap (n := snapFuel) (by decide), hl]) k
theorem XD.callP {g : FuncId} {args : List AOperand} (ps qs : List PV) (hl : limP E g ps = some qs) (hr : E.raw g = false) (hb : below n (readsL args) = true) (e : evals [] (subL (Fk.mk (f := f)) args) = some (ps.map .pv))
    (k : XD E os cs rest ⟨TL n (upd f d (mkRes qs)), h⟩ Q) : XD E (⟨d, .call g args, none, af⟩ :: os) (true :: cs) rest ⟨TL n f, h⟩ Q :=
  XD.callQ hb e (by clear e hl; induction ps with | nil => rfl | cons p ps ih => simp [pures, ih]) hr hl k
/-- A call of a function that one was handed. -/
theorem X.callV {g : FuncId} {caps : List PV} {args : List AOperand} (vs : List V) (ps qs : List PV) (hl : limP E g (ps ++ caps) = some qs) (hr : E.raw g = false) (hb : below n (x.reads ++ readsL args) = true) (e0 : St.eval [] (subO (Fk.mk (f := f)) x) = some (.pv (.fn g caps))) (e : evals [] (subL (Fk.mk (f := f)) args) = some vs) (hw : WkL vs ps)
    (k : X E (.seq (.region os false) rest) ⟨TL n (upd f d (mkRes qs)), h⟩ Q) : X E (.seq (.region (⟨d, .callv x args, none, af⟩ :: os) false) rest) ⟨TL n f, h⟩ Q := by
  have hww : WkL (vs ++ caps.map .pv) (ps ++ caps) := by
    clear e hl
    induction vs generalizing ps with
    | nil => cases ps with
      | nil => exact WkL.pvs caps
      | cons _ _ => exact hw.elim
    | cons v vs ih => cases ps with
      | nil => exact hw.elim
      | cons p ps => exact ⟨hw.1, ih ps hw.2⟩
  exact X.stepQ (vop := sub (Fk.mk (f := f)) (.callv x args)) hb rfl (by simp only [sub, opA, e0, e, callA, hr, Bool.false_eq_true, if_false, snapL, hww.snap (n := snapFuel) (by decide), hl]) k
/-- A call that is handed a function with a block of its own: that is frozen. -/
theorem X.callF {g gf : FuncId} {args : List AOperand} {qs : List PV} {u1 : V} {p1 : PV} {ps : List PV} (i : Nat) (ho : Own h rs) (hk : rs[i]? = some (.blk id (ps.map .pv))) (hl : limP E g [p1, .fn gf [.ip ps 0]] = some qs) (hr : E.raw g = false) (hb : below n (readsL args) = true)
    (e : evals [] (subL (Fk.mk (f := f)) args) = some [u1, .fn gf [.ptr id 0]]) (hw : Wk u1 p1) (hrs : rs.set i (.frz id ps) = rs')
    (k : ∀ h', Own h' rs' → X E (.seq (.region os false) rest) ⟨TL n (upd f d (mkRes qs)), h'⟩ Q) : X E (.seq (.region (⟨d, .call g args, none, af⟩ :: os) false) rest) ⟨TL n f, h⟩ Q := by
  obtain ⟨t, ht⟩ := ho.at hk
  subst hrs
  have hlt := ent_le ht (by simp)
  have hs : snapL snapFuel [u1, .fn gf [.ptr id 0]] h = some ([p1, .fn gf [.ip ps 0]], h.set id (.frz ps)) := by
    have e1 : snap 998 (.ptr id 0) h = some (.ip ps 0, h.set id (.frz ps)) := by
      rw [snap_ptr, ht]
      simp only [snapLF_pvs (n := 996)]
      simp
    have e2 : snap 999 (.fn gf [.ptr id 0]) h = some (.fn gf [.ip ps 0], h.set id (.frz ps)) := by
      rw [snap_fn]; simp only [snapLF, e1]
    have e3 : snap 1000 (.fn gf [.ptr id 0]) h = some (.fn gf [.ip ps 0], h.set id (.frz ps)) := by
      rw [snap_fn]
      have e1 : snap 999 (.ptr id 0) h = some (.ip ps 0, h.set id (.frz ps)) := by
        rw [snap_ptr, ht]
        simp only [snapLF_pvs (n := 997)]
        simp
      simp only [snapLF, e1]
    simp only [snapL, snapFuel, snapLF, hw 1000 h (by decide), e3]
  exact X.stepQ (vop := sub (Fk.mk (f := f)) (.call g args)) (h' := h.set id (.frz ps)) hb rfl (by simp only [sub, opA, e, callA, hr, Bool.false_eq_true, if_false, hs, hl]) (k _ (ho.turn hk rfl (by simp) (fun j hj => ent_set_ne' fun e => hj (by simp [Res.ids, e])) (ent_set_eq hlt)))

def TyE.new {α : Type} (T : TyE α) (ys : List α) : List V := ((ys.map T.enc).flatMap PV.cells).map .pv
theorem TyE.stride {α : Type} (T : TyE α) (ys : List α) : strideOk T.sz (ys.map T.enc) = true := by
  cases ys with
  | nil => rfl
  | cons y ys => show ((T.enc y).cells.length == T.sz) = true; rw [T.hc, T.len]; exact beq_self_eq_true _
theorem TyE.flat {α : Type} (T : TyE α) : ∀ ys : List α, ((ys.map T.enc).flatMap PV.cells).length = ys.length * T.sz ∧ (chunks T.sz ys.length ((ys.map T.enc).flatMap PV.cells)).map (mkPV T.ag) = ys.map T.enc
  | [] => by simp [chunks]
  | y :: ys => by
    obtain ⟨h1, h2⟩ := TyE.flat T ys
    have hl : (T.enc y).cells.length = T.sz := by rw [T.hc, T.len]
    simp only [List.map_cons, List.flatMap_cons, List.length_append, List.length_cons, chunks]
    refine ⟨by rw [h1, hl, Nat.succ_mul]; omega, ?_⟩
    rw [← hl, List.take_left, List.drop_left, hl, h2]
    congr 1
    rw [T.hc, ← T.he]
theorem weakL_pvs : ∀ ps : List PV, weak.weakL (ps.map .pv) = some ps
  | [] => rfl
  | p :: ps => by simp [weak.weakL, weak, weakL_pvs ps]
theorem src_row {α : Type} (T : TyE α) {ys : List α} {u : V} (hu : SlP u (ys.map T.enc)) (h : Heap) : srcCells h T.sz u = some (T.new ys) := by
  have hs := T.stride ys
  rcases hu with rfl | rfl | ⟨t, rfl⟩ | ⟨rfl, e⟩
  · simp only [srcCells, hs, if_true]; rfl
  · simp only [srcCells, hs, if_true]; rfl
  · simp only [srcCells, hs, if_true]; rfl
  · simp only [srcCells, TyE.new, e]; rfl

/-- What is appended, where there is room: what stands there then. -/
theorem row_app {α : Type} (T : TyE α) {k : Nat} {xs ys zs : List α} {te : TypeId} {bytes : Nat} (ho : Own h rs) (hk : rs[k]? = some (.row w (xs.map T.enc))) (hj : join bytes xs ys = some zs) :
    ∃ v h', appendA h T.ag false T.sz bytes te w ys.length (T.new ys) = some (v, h') ∧ Own h' (rs.set k (.row v (zs.map T.enc))) ∧
      ∀ F : List Nat, (∀ i ∈ w.ids, F.contains i = true) → ∃ h1, appendA (mask F h) T.ag false T.sz bytes te w ys.length (T.new ys) = some (v, h1) ∧ h.length ≤ h1.length ∧ merge F h h1 = h' := by
  have hr := ho.at hk
  have hslp := ho.slp hk
  unfold join at hj
  split at hj
  case isFalse => cases hj
  rename_i hroom
  cases hj
  by_cases hn : ys.length = 0
  · have : ys = [] := List.eq_nil_of_length_eq_zero hn
    subst this
    have hset : rs.set k (.row w ((xs ++ []).map T.enc)) = rs := by
      rw [List.append_nil]
      refine List.ext_getElem? fun i => ?_
      rw [List.getElem?_set]
      split
      · rename_i e; subst e; rw [hk]; split
        · rfl
        · rename_i h2; rw [List.getElem?_eq_none (by omega)] at hk; cases hk
      · rfl
    refine ⟨w, h, ?_, by rw [hset]; exact ho, fun F _ => ⟨mask F h, ?_, by simp [length_mask], merge_mask⟩⟩ <;> (unfold appendA; rw [if_pos List.length_nil, if_pos hslp.len.1])
  · have hnew : (T.new ys).length = ys.length * T.sz := by unfold TyE.new; rw [List.length_map]; exact (T.flat ys).1
    have hcond : (strideOk T.sz (xs.map T.enc) && (T.ag || T.sz == 1) && decide (((xs.map T.enc).length + ys.length) * bytes ≤ growMax) && decide ((T.new ys).length = ys.length * T.sz)) = true := by
      have h1 : (T.ag || T.sz == 1) = true := by rcases T.one with h | h <;> simp [h]
      rw [T.stride, h1, List.length_map]
      simp only [Bool.and_true, Bool.true_and, Bool.and_eq_true, decide_eq_true_eq]
      exact ⟨hroom, hnew⟩
    have hw : weak.weakL (T.new ys) = some ((ys.map T.enc).flatMap PV.cells) := weakL_pvs _
    have hz : xs.map T.enc ++ (chunks T.sz ys.length ((ys.map T.enc).flatMap PV.cells)).map (mkPV T.ag) = (xs ++ ys).map T.enc := by rw [(T.flat ys).2, List.map_append]
    have hne : (xs ++ ys).map T.enc ≠ [] := by
      intro e
      have := congrArg List.length e
      rw [List.length_map, List.length_append, List.length_nil] at this
      omega
    have hres : ∀ h : Heap, Res.ok (h ++ [.tok]) (.row (.slt ((xs ++ ys).map T.enc) h.length) ((xs ++ ys).map T.enc)) := fun h => .inr (.inr ⟨hne, _, rfl, ent_new⟩)
    have done : ∀ h2 : Heap, h2.length = h.length → (∀ i, i < h.length → i ∉ w.ids → ent h2 i = ent h i) → (w.ids = Res.ids (.row w (xs.map T.enc))) → Own (h2 ++ [.tok]) (rs.set k (.row (.slt ((xs ++ ys).map T.enc) h.length) ((xs ++ ys).map T.enc))) := by
      intro h2 hl hh hid
      have hl2 : h.length ≤ (h2 ++ [Ent.tok]).length := by rw [List.length_append, hl]; exact Nat.le_add_right _ _
      have hl3 : h.length < (h2 ++ [Ent.tok]).length := by rw [List.length_append, hl]; exact Nat.lt_succ_self _
      refine ho.swap hk (by simp [Res.ids]) (fun i hi => ?_) hl2 (fun i hi hni => ?_) (by rw [← hl]; exact hres h2)
      · simp only [Res.ids, List.mem_singleton] at hi; subst hi; exact ⟨Nat.le_refl _, hl3⟩
      · rw [ent_app_lt (by rw [hl]; exact hi)]; exact hh i hi (by rw [hid]; exact hni)
    rcases hr with ⟨e1, rfl⟩ | rfl | ⟨e1, tok, rfl, e2⟩
    · rw [e1] at hcond hz
      refine ⟨.slt ((xs ++ ys).map T.enc) h.length, h ++ [.tok], ?_, done h rfl (fun _ _ _ => rfl) rfl, fun F _ => ⟨mask F h ++ [.tok], ?_, by simp [length_mask], merge_mask_app⟩⟩
      · simp only [appendA, if_neg hn, Bool.false_eq_true, if_false, hcond, if_true, hw, hz]
      · simp only [appendA, if_neg hn, Bool.false_eq_true, if_false, hcond, if_true, hw, hz, length_mask]
    · refine ⟨.slt ((xs ++ ys).map T.enc) h.length, h ++ [.tok], ?_, done h rfl (fun _ _ _ => rfl) rfl, fun F _ => ⟨mask F h ++ [.tok], ?_, by simp [length_mask], merge_mask_app⟩⟩
      · simp only [appendA, if_neg hn, Bool.false_eq_true, if_false, hcond, if_true, hw, hz]
      · simp only [appendA, if_neg hn, Bool.false_eq_true, if_false, hcond, if_true, hw, hz, length_mask]
    · have hemp : ((xs.map T.enc).isEmpty) = false := by
        cases hx : xs.map T.enc with
        | nil => exact absurd hx e1
        | cons _ _ => rfl
      have hlt := ent_le e2 (by simp)
      refine ⟨.slt ((xs ++ ys).map T.enc) h.length, h.set tok .dead ++ [.tok], ?_, done (h.set tok .dead) (by simp) (fun i _ hi => ent_set_ne' fun e => hi (by simp [V.ids, e])) rfl, fun F hF => ?_⟩
      · simp only [appendA, if_neg hn, Bool.false_eq_true, if_false, e2, hemp, hcond, if_true, hw, hz, List.length_set]
      · have hc := hF tok (by simp [V.ids])
        have hm : ent (mask F h) tok = .tok := by rw [ent_mask, if_pos hc]; exact e2
        refine ⟨(mask F h).set tok .dead ++ [.tok], ?_, by simp [length_mask], merge_mask_set_app hc⟩
        simp only [appendA, if_neg hn, Bool.false_eq_true, if_false, hm, hemp, hcond, if_true, hw, hz, List.length_set, length_mask]

theorem X.append {α : Type} (T : TyE α) (i : Nat) {xs ys zs : List α} {te : TypeId} {bytes : Nat} (hj : join bytes xs ys = some zs) (ho : Own h rs) (hk : rs[i]? = some (.row w (xs.map T.enc))) (hb : below n (x.reads ++ y.reads) = true) (e : St.eval [] (subO (Fk.mk (f := f)) x) = some w)
    (e2 : St.eval [] (subO (Fk.mk (f := f)) y) = some u) (hu : SlP u (ys.map T.enc)) (hag : T.ag = ag) (hz : T.sz = size) (hr : ∀ v, rs.set i (.row v (zs.map T.enc)) = rs'' v)
    (k : ∀ v h', Own h' (rs'' v) → X E (.seq (.region os false) rest) ⟨TL n (upd f d v), h'⟩ Q) : X E (.seq (.region (⟨d, .append ag false size bytes te x y, none, af⟩ :: os) false) rest) ⟨TL n f, h⟩ Q := by
  subst hag hz
  obtain ⟨v, h', a1, a2, a3⟩ := row_app T (te := te) ho hk hj
  refine X.stepQ (vop := sub (Fk.mk (f := f)) (.append T.ag false T.sz bytes te x y)) (h' := h') (v := v) hb rfl ?_ (k v h' (by rw [← hr]; exact a2))
  simp only [sub, opA, e, e2, src_row T hu]
  rw [hu.len.2, List.length_map]
  exact a1
theorem XD.append {α : Type} (T : TyE α) (i : Nat) {xs ys zs : List α} {te : TypeId} {bytes : Nat} (hj : join bytes xs ys = some zs) (ho : Own h rs) (hk : rs[i]? = some (.row w (xs.map T.enc))) (hb : below n (x.reads ++ y.reads) = true) (e : St.eval [] (subO (Fk.mk (f := f)) x) = some w)
    (e2 : St.eval [] (subO (Fk.mk (f := f)) y) = some u) (hu : SlP u (ys.map T.enc)) (hag : T.ag = ag) (hz : T.sz = size) (hr : ∀ v, rs.set i (.row v (zs.map T.enc)) = rs'' v)
    (k : ∀ v h', Own h' (rs'' v) → XD E os cs rest ⟨TL n (upd f d v), h'⟩ Q) : XD E (⟨d, .append ag false size bytes te x y, none, af⟩ :: os) (false :: cs) rest ⟨TL n f, h⟩ Q := by
  subst hag hz
  obtain ⟨v, h', a1, a2, a3⟩ := row_app T (te := te) ho hk hj
  have hF : foot [] h (sub (Fk.mk (f := f)) (.append T.ag false T.sz bytes te x y)) = w.ids ++ u.ids := by
    show oIds [] (subO (Fk.mk (f := f)) x) ++ oIds [] (subO (Fk.mk (f := f)) y) = _
    simp only [oIds, e, e2]
  obtain ⟨h1, b1, b2, b3⟩ := a3 (w.ids ++ u.ids) fun i hi => by simp [hi]
  refine XD.loudQ (vop := sub (Fk.mk (f := f)) (.append T.ag false T.sz bytes te x y)) (h1 := h1) (h2 := h') (v := v) hb rfl hF ?_ b2 b3 (k v h' (by rw [← hr]; exact a2))
  simp only [sub, opA, e, e2, src_row T hu]
  rw [hu.len.2, List.length_map]
  exact b1
end
end Ab

-- More steps: texts, parts of rows; what is handed to raw functions.
namespace Ab
open Go
section
variable {E : Env} {n : Nat} {f : Nat → V} {h h' : Heap} {Q : AExit → St → Prop} {rest : ACode} {d : Option Nat} {op : AOp} {af : List Nat} {os : List AOper} {cs : List Bool} {rs rs' : List Res} {id off size : Nat} {v w u : V} {ag : Bool} {a x y : AOperand} {c : List V}

theorem X.idxStr {s : List UInt8} {i z : Int} {kk : IntKind} (hy : idxS s i = some z) (hb : below n (x.reads ++ y.reads) = true) (e : St.eval [] (subO (Fk.mk (f := f)) x) = some (.pv (.str s))) (e2 : St.eval [] (subO (Fk.mk (f := f)) y) = some (.pv (.int kk i)))
    (k : X E (.seq (.region os false) rest) ⟨TL n (upd f d (.pv (.int .u8 z))), h⟩ Q) : X E (.seq (.region (⟨d, .idxStr x y, none, af⟩ :: os) false) rest) ⟨TL n f, h⟩ Q := by
  unfold idxS at hy
  split at hy
  · rename_i h0
    obtain ⟨b, hb1, rfl⟩ := Option.map_eq_some_iff.1 hy
    exact X.stepQ (vop := sub (Fk.mk (f := f)) (.idxStr x y)) hb rfl (by simp only [sub, opA, e, e2, idxStrA, natOf?, if_pos h0, hb1]; rfl) k
  · cases hy
theorem XD.idxStr {s : List UInt8} {i z : Int} {kk : IntKind} (hy : idxS s i = some z) (hb : below n (x.reads ++ y.reads) = true) (e : St.eval [] (subO (Fk.mk (f := f)) x) = some (.pv (.str s))) (e2 : St.eval [] (subO (Fk.mk (f := f)) y) = some (.pv (.int kk i)))
    (k : XD E os cs rest ⟨TL n (upd f d (.pv (.int .u8 z))), h⟩ Q) : XD E (⟨d, .idxStr x y, none, af⟩ :: os) (true :: cs) rest ⟨TL n f, h⟩ Q := by
  unfold idxS at hy
  split at hy
  · rename_i h0
    obtain ⟨b, hb1, rfl⟩ := Option.map_eq_some_iff.1 hy
    exact XD.calmQ (vop := sub (Fk.mk (f := f)) (.idxStr x y)) (h1 := h) rfl hb rfl (by simp only [sub, opA, e, e2, idxStrA, natOf?, if_pos h0, hb1]; rfl) k
  · cases hy

def evO (x : Option AOperand) : Option (Option V) := match x with
  | some x => (St.eval [] x).map some
  | none => some none
theorem opA_sliceStr {p : FuncId → List PV → Option (List PV)} {r : FuncId → List V → Heap → Option (V × Heap)} {lo hi : Option AOperand} {xv : V} {vl vh : Option V} (e : St.eval [] x = some xv) (e1 : evO lo = some vl) (e2 : evO hi = some vh) : opA E p r [] h (.sliceStr x lo hi) = (sliceStrA xv vl vh).map fun v => (v, h) := by
  have : opA E p r [] h (.sliceStr x lo hi) = (match St.eval [] x, evO lo, evO hi with | some x, some lo, some hi => (sliceStrA x lo hi).map fun v => (v, h) | _, _, _ => none) := by cases lo <;> cases hi <;> rfl
  rw [this, e, e1, e2]
theorem opA_sliceSl {p : FuncId → List PV → Option (List PV)} {r : FuncId → List V → Heap → Option (V × Heap)} {lo hi : Option AOperand} {xv : V} {vl vh : Option V} {sz : Nat} (e : St.eval [] x = some xv) (e1 : evO lo = some vl) (e2 : evO hi = some vh) : opA E p r [] h (.sliceSl sz x lo hi) = (sliceSlA sz xv vl vh).map fun v => (v, h) := by
  have : opA E p r [] h (.sliceSl sz x lo hi) = (match St.eval [] x, evO lo, evO hi with | some x, some lo, some hi => (sliceSlA sz x lo hi).map fun v => (v, h) | _, _, _ => none) := by cases lo <;> cases hi <;> rfl
  rw [this, e, e1, e2]
/-- Ends of a part, as operands. -/
def endO (f : Nat → V) (len : Int) (dflt : Int) : Option AOperand → Int → Prop
  | none, i => i = dflt
  | some x, i => ∃ kk, St.eval [] (subO (Fk.mk (f := f)) x) = some (.pv (.int kk i))
theorem bounds_part {α : Type} {l z : List α} {lo hi : Int} {xl xh : Option AOperand} (hp : part l lo hi = some z) (hlo : endO f l.length 0 xl lo) (hhi : endO f l.length l.length xh hi) :
    ∃ vl vh : Option V, evO (subM (Fk.mk (f := f)) xl) = some vl ∧ evO (subM (Fk.mk (f := f)) xh) = some vh ∧
      bounds l.length vl vh = some (lo.toNat, hi.toNat) ∧ z = (l.drop lo.toNat).take (hi.toNat - lo.toNat) := by
  unfold part at hp
  split at hp
  case isFalse => cases hp
  rename_i hc
  cases hp
  obtain ⟨h0, h1, h2⟩ := hc
  have hb : lo.toNat ≤ hi.toNat ∧ hi.toNat ≤ l.length := by omega
  cases xl with
  | none =>
    cases hlo
    cases xh with
    | none => cases hhi; exact ⟨none, none, rfl, rfl, by simp [bounds], rfl⟩
    | some x =>
      obtain ⟨kk, e⟩ := hhi
      refine ⟨none, some (.pv (.int kk hi)), rfl, by simp only [subM, evO, e]; rfl, ?_, rfl⟩
      simp only [bounds, natOf?, if_pos (show 0 ≤ hi by omega)]
      rw [if_pos ⟨by omega, hb.2⟩]; rfl
  | some y =>
    obtain ⟨k1, e1⟩ := hlo
    cases xh with
    | none =>
      cases hhi
      refine ⟨some (.pv (.int k1 lo)), none, by simp only [subM, evO, e1]; rfl, rfl, ?_, rfl⟩
      simp only [bounds, natOf?, if_pos h0]
      rw [if_pos ⟨by omega, Nat.le_refl _⟩]; simp
    | some x =>
      obtain ⟨kk, e⟩ := hhi
      refine ⟨some (.pv (.int k1 lo)), some (.pv (.int kk hi)), by simp only [subM, evO, e1]; rfl, by simp only [subM, evO, e]; rfl, ?_, rfl⟩
      simp only [bounds, natOf?, if_pos h0, if_pos (show 0 ≤ hi by omega)]
      rw [if_pos hb]
theorem sliceStr_op {s z : List UInt8} {lo hi : Int} {xl xh : Option AOperand} (hp : part s lo hi = some z) (e : St.eval [] (subO (Fk.mk (f := f)) x) = some (.pv (.str s))) (hlo : endO f s.length 0 xl lo) (hhi : endO f s.length s.length xh hi) :
    opA E (limP E) (limR E) [] h (sub (Fk.mk (f := f)) (.sliceStr x xl xh)) = some (.pv (.str z), h) := by
  obtain ⟨vl, vh, e1, e2, e3, rfl⟩ := bounds_part hp hlo hhi
  rw [sub, opA_sliceStr e e1 e2]
  simp only [sliceStrA, e3]
  rfl
theorem X.sliceStr {s z : List UInt8} {lo hi : Int} {xl xh : Option AOperand} (hp : part s lo hi = some z) (hb : below n (x.reads ++ readsO xl ++ readsO xh) = true) (e : St.eval [] (subO (Fk.mk (f := f)) x) = some (.pv (.str s))) (hlo : endO f s.length 0 xl lo) (hhi : endO f s.length s.length xh hi)
    (k : X E (.seq (.region os false) rest) ⟨TL n (upd f d (.pv (.str z))), h⟩ Q) : X E (.seq (.region (⟨d, .sliceStr x xl xh, none, af⟩ :: os) false) rest) ⟨TL n f, h⟩ Q :=
  X.stepQ hb rfl (sliceStr_op hp e hlo hhi) k
theorem XD.sliceStr {s z : List UInt8} {lo hi : Int} {xl xh : Option AOperand} (hp : part s lo hi = some z) (hb : below n (x.reads ++ readsO xl ++ readsO xh) = true) (e : St.eval [] (subO (Fk.mk (f := f)) x) = some (.pv (.str s))) (hlo : endO f s.length 0 xl lo) (hhi : endO f s.length s.length xh hi)
    (k : XD E os cs rest ⟨TL n (upd f d (.pv (.str z))), h⟩ Q) : XD E (⟨d, .sliceStr x xl xh, none, af⟩ :: os) (true :: cs) rest ⟨TL n f, h⟩ Q :=
  XD.calmQ (h1 := h) rfl hb rfl (sliceStr_op hp e hlo hhi) k
theorem sliceSl_op {α : Type} (T : TyE α) {l z : List α} {lo hi : Int} {xl xh : Option AOperand} (hp : part l lo hi = some z) (e : St.eval [] (subO (Fk.mk (f := f)) x) = some u) (hu : SlP u (l.map T.enc)) (hlo : endO f l.length 0 xl lo) (hhi : endO f l.length l.length xh hi) :
    ∃ v, SlP v (z.map T.enc) ∧ opA E (limP E) (limR E) [] h (sub (Fk.mk (f := f)) (.sliceSl T.sz x xl xh)) = some (v, h) := by
  obtain ⟨vl, vh, e1, e2, e3, rfl⟩ := bounds_part hp hlo hhi
  have hs := T.stride l
  have hm : ((l.drop lo.toNat).take (hi.toNat - lo.toNat)).map T.enc = ((l.map T.enc).drop lo.toNat).take (hi.toNat - lo.toNat) := by rw [List.map_take, List.map_drop]
  have e3' : bounds (l.map T.enc).length vl vh = some (lo.toNat, hi.toNat) := by rw [List.length_map]; exact e3
  rw [hm]
  rcases hu with rfl | rfl | ⟨t, rfl⟩ | ⟨rfl, hn⟩
  · refine ⟨_, .inl rfl, ?_⟩
    rw [sub, opA_sliceSl e e1 e2]
    simp only [sliceSlA, e3', hs, if_true]; rfl
  · refine ⟨_, .inl rfl, ?_⟩
    rw [sub, opA_sliceSl e e1 e2]
    simp only [sliceSlA, e3', hs, if_true]; rfl
  · refine ⟨_, .inl rfl, ?_⟩
    rw [sub, opA_sliceSl e e1 e2]
    simp only [sliceSlA, e3', hs, if_true]; rfl
  · rw [hn] at e3' ⊢
    refine ⟨.nils, .inr (.inr (.inr ⟨rfl, by simp⟩)), ?_⟩
    rw [sub, opA_sliceSl e e1 e2]
    have e4 : bounds 0 vl vh = some (lo.toNat, hi.toNat) := e3'
    simp only [sliceSlA, e4]; rfl
theorem X.sliceSl {α : Type} (T : TyE α) {l z : List α} {lo hi : Int} {xl xh : Option AOperand} (hp : part l lo hi = some z) (hb : below n (x.reads ++ readsO xl ++ readsO xh) = true) (e : St.eval [] (subO (Fk.mk (f := f)) x) = some u) (hu : SlP u (l.map T.enc)) (hlo : endO f l.length 0 xl lo) (hhi : endO f l.length l.length xh hi) (hz : T.sz = size)
    (k : ∀ v, SlP v (z.map T.enc) → X E (.seq (.region os false) rest) ⟨TL n (upd f d v), h⟩ Q) : X E (.seq (.region (⟨d, .sliceSl size x xl xh, none, af⟩ :: os) false) rest) ⟨TL n f, h⟩ Q := by
  subst hz
  obtain ⟨v, h1, h2⟩ := sliceSl_op (E := E) (h := h) T hp e hu hlo hhi
  exact X.stepQ hb rfl h2 (k v h1)
theorem XD.sliceSl {α : Type} (T : TyE α) {l z : List α} {lo hi : Int} {xl xh : Option AOperand} (hp : part l lo hi = some z) (hb : below n (x.reads ++ readsO xl ++ readsO xh) = true) (e : St.eval [] (subO (Fk.mk (f := f)) x) = some u) (hu : SlP u (l.map T.enc)) (hlo : endO f l.length 0 xl lo) (hhi : endO f l.length l.length xh hi) (hz : T.sz = size)
    (k : ∀ v, SlP v (z.map T.enc) → XD E os cs rest ⟨TL n (upd f d v), h⟩ Q) : XD E (⟨d, .sliceSl size x xl xh, none, af⟩ :: os) (true :: cs) rest ⟨TL n f, h⟩ Q := by
  subst hz
  obtain ⟨v, h1, h2⟩ := sliceSl_op (E := E) (h := h) T hp e hu hlo hhi
  exact XD.calmQ (h1 := h) rfl hb rfl h2 (k v h1)
/-- Two texts, one behind the other. -/
theorem joinS_bin {s t z : List UInt8} (hj : joinS s t = some z) : binA .add .no (.pv (.str s)) (.pv (.str t)) = some (.pv (.str z)) := by
  unfold joinS at hj
  split at hj
  · rename_i hc; cases hj; simp only [binA, strBin, if_pos hc]; rfl
  · cases hj
theorem X.joinS {s t z : List UInt8} (hj : Ab.joinS s t = some z) (hb : below n (x.reads ++ y.reads) = true) (e : St.eval [] (subO (Fk.mk (f := f)) x) = some (.pv (.str s))) (e2 : St.eval [] (subO (Fk.mk (f := f)) y) = some (.pv (.str t)))
    (k : X E (.seq (.region os false) rest) ⟨TL n (upd f d (.pv (.str z))), h⟩ Q) : X E (.seq (.region (⟨d, .bin .add .no x y, none, af⟩ :: os) false) rest) ⟨TL n f, h⟩ Q :=
  X.stepQ hb rfl (by simp only [sub, opA, e, e2, joinS_bin hj]; rfl) k
theorem XD.joinS {s t z : List UInt8} (hj : Ab.joinS s t = some z) (hb : below n (x.reads ++ y.reads) = true) (e : St.eval [] (subO (Fk.mk (f := f)) x) = some (.pv (.str s))) (e2 : St.eval [] (subO (Fk.mk (f := f)) y) = some (.pv (.str t)))
    (k : XD E os cs rest ⟨TL n (upd f d (.pv (.str z))), h⟩ Q) : XD E (⟨d, .bin .add .no x y, none, af⟩ :: os) (true :: cs) rest ⟨TL n f, h⟩ Q :=
  XD.calmQ (h1 := h) rfl hb rfl (by simp only [sub, opA, e, e2, joinS_bin hj]; rfl) k
end
end Ab
namespace Ab
open Go
section
variable {E : Env} {σ τ ρ : Type} {id : Nat} {R : σ → St → Prop} {RB : τ → St → Prop} {P : ρ → AExit → St → Prop} {s : σ} {t : τ} {r : ρ} {st : St} {rest : ACode}
theorem X.nextL (h : R s st) : X E .skip st (LP id R RB P (.next s)) := X.skip h
theorem LP.brk' (h : RB t st) : LP id R RB P (.brk t) (.exit id) st := ⟨rfl, h⟩
end
/-- Kinds of elements that are of one cell. -/
def tI (k : IntKind) : TyE Int := ⟨.int k, fun n => [.int k n], 1, false, fun _ => rfl, fun _ => rfl, fun _ => rfl, .inr rfl⟩
def tB : TyE Bool := ⟨.bool, fun n => [.bool n], 1, false, fun _ => rfl, fun _ => rfl, fun _ => rfl, .inr rfl⟩
def tS : TyE (List UInt8) := ⟨.str, fun n => [.str n], 1, false, fun _ => rfl, fun _ => rfl, fun _ => rfl, .inr rfl⟩
def tL {α : Type} (T : TyE α) : TyE (List α) := ⟨fun l => .sl (l.map T.enc), fun l => [.sl (l.map T.enc)], 1, false, fun _ => rfl, fun _ => rfl, fun _ => rfl, .inr rfl⟩
end Ab
namespace Ab
open Go
theorem resS_cell {f : Nat → V} {h : Heap} {t size : Nat} {ag : Bool} {v : V} (e : loadA h ag size (fk (Fk.mk (f := f)) t) = some v) : resS (Fk.mk (f := f)) h [.cell t ag size] = some [v] := by simp only [resS, e]
theorem idsR_perm {rs rs' : List Res} (p : rs.Perm rs') : (idsR rs).Perm (idsR rs') := by
  unfold idsR
  induction p with
  | nil => exact List.Perm.refl _
  | cons a _ ih => simp only [List.flatMap_cons]; exact List.Perm.append (List.Perm.refl _) ih
  | swap a b l => simp only [List.flatMap_cons, ← List.append_assoc]; exact List.Perm.append List.perm_append_comm (List.Perm.refl _)
  | trans _ _ i1 i2 => exact i1.trans i2
theorem Own.perm {h : Heap} {rs rs' : List Res} (ho : Own h rs) (p : rs.Perm rs') : Own h rs' :=
  ⟨(idsR_perm p).nodup_iff.1 ho.nodup, fun i hi => ho.lt i ((idsR_perm p).mem_iff.2 hi), fun r hr => ho.ok r (p.mem_iff.2 hr)⟩
theorem perm_ahead {α : Type} : ∀ {l : List α} {i : Nat} {r : α}, l[i]? = some r → l.Perm (r :: l.eraseIdx i)
  | a :: l, 0, r, h => by simp at h; subst h; exact List.Perm.refl _
  | a :: l, i + 1, r, h => by
    have := perm_ahead (l := l) (i := i) (r := r) (by simpa using h)
    simp only [List.eraseIdx_cons_succ]
    exact (this.cons a).trans (List.Perm.swap _ _ _)
/-- One of them, moved ahead. -/
theorem Own.ahead {h : Heap} {rs rs' : List Res} {r : Res} (ho : Own h rs) (i : Nat) (hk : rs[i]? = some r) (he : r :: rs.eraseIdx i = rs' := by rfl) : Own h rs' := he ▸ ho.perm (perm_ahead hk)
/-- A set, byte by byte. -/
def bits256 (s : BitVec 256) : List PV := (List.range 256).map fun i => .bool (s.getLsbD i)
theorem bits256_len {s : BitVec 256} : (bits256 s).length = 256 := by simp [bits256]
theorem eqBits : ∀ (l : List Nat) (s t : BitVec 256), eqCells (l.map fun _ => .bool) (l.map fun i => .bool (s.getLsbD i)) (l.map fun i => .bool (t.getLsbD i)) = some (l.all fun i => s.getLsbD i == t.getLsbD i)
  | [], _, _ => rfl
  | i :: l, s, t => by simp only [List.map_cons, eqCells, eqCell, eqBits l s t, List.all_cons]
theorem eq256 (s t : BitVec 256) : eqCells (List.replicate 256 .bool) (bits256 s) (bits256 t) = some (s == t) := by
  have h1 : List.replicate 256 Lf.bool = (List.range 256).map fun _ => .bool := by rw [List.map_const', List.length_range]
  rw [h1, bits256, bits256, eqBits]
  congr 1
  rw [Bool.eq_iff_iff, List.all_eq_true]
  constructor
  · intro h
    rw [beq_iff_eq]
    exact BitVec.eq_of_getLsbD_eq fun i hi => by simpa using h i (List.mem_range.2 hi)
  · intro h i _
    rw [beq_iff_eq] at h
    simp [h]
theorem Has.startD {E : Env} {g : FuncId} {n : Nat} {res : List AResult} {body : ACode} {ps rs : List PV} (H : Has E g ⟨n, res, body⟩) (hl : Nat.ble ps.length n = true) (hw : X E (app body .skip) ⟨TL n (argF (ps.map .pv)), []⟩ (Fin res rs)) : limP E g ps = some rs :=
  H.limQ (Nat.le_of_ble_eq_true hl) hw
theorem X.loopQ {E : Env} {σ τ ρ : Type} {id : Nat} {b rest : ACode} {st : St} {body : σ → Option (Lp σ τ ρ)} {s0 : σ} {k : τ → Option ρ} {y : ρ} {Q : AExit → St → Prop} (R : σ → St → Prop) (RB : τ → St → Prop)
    (hl : Ab.loopK body s0 k = some y) (h0 : R s0 st) (hb : ∀ s st o, R s st → body s = some o → X E (app b .skip) st (LP id R RB (fun r ex st => r = y → Q ex st) o)) (hk : ∀ t st, RB t st → k t = some y → X E rest st Q) :
    X E (.seq (.block id (.loop b)) rest) st Q :=
  (X.loopK (P := fun r ex st => r = y → Q ex st) R RB hl h0 hb fun t st h1 h2 => (hk t st h1 h2).mono fun ex st h _ => h).mono fun ex st h => h rfl
theorem LP.retQ {σ τ ρ : Type} {id : Nat} {R : σ → St → Prop} {RB : τ → St → Prop} {y r : ρ} {Q : AExit → St → Prop} {st : St} (h : r = y → Q .ret st) : LP id R RB (fun r ex st => r = y → Q ex st) (.ret r) .ret st := h
theorem SlP.notup {u : V} {ps : List PV} (s : SlP u ps) : ∀ vs, u ≠ .tup vs := by
  intro vs e
  rcases s with rfl | rfl | ⟨t, rfl⟩ | ⟨rfl, _⟩ <;> cases e
theorem eq256_neq {E : Env} {p : FuncId → List PV → Option (List PV)} {r : FuncId → List V → Heap → Option (V × Heap)} {h : Heap} (s t : BitVec 256) : opA E p r [] h (.bin .neq (.cells (List.replicate 256 .bool)) (.val (.pv (.agg (bits256 s)))) (.val (.pv (.agg (bits256 t))))) = some (.pv (.bool (!(s == t))), h) := by
  simp only [opA, St.eval, binA, eq256, eqRes, Option.map_some]
theorem zero256a : bits256 0#256 = List.replicate 256 (.bool false) := by
  rw [bits256]
  have : (fun i => PV.bool ((0#256).getLsbD i)) = fun _ => PV.bool false := by funext i; simp
  rw [this, List.map_const', List.length_range]
end Ab

-- Regions in any order: each step with the places that it touches, by labels.
namespace Ab
open Go

/-- Places by their labels. -/
def lab (m : List (List Nat)) (a : List Nat) : List Nat := a.flatMap fun i => m.getD i []
structure LabOk (h : Heap) (m : List (List Nat)) : Prop where
  nodup : m.flatten.Nodup
  lt : ∀ i ∈ m.flatten, i < h.length
def LogA (m : List (List Nat)) (l : Log) (s : List Nat × Option Nat) (a : List Nat × List Nat) : Prop := (∀ i ∈ l.rd, i ∈ s.1) ∧ l.wr = s.2 ∧ (∀ x ∈ l.ids, x ∈ lab m a.1) ∧ ∀ x ∈ l.wids, x ∈ lab m a.2
def LogsA (m : List (List Nat)) : List Log → List (List Nat × Option Nat) → List (List Nat × List Nat) → Prop
  | [], [], [] => True
  | l :: ls, s :: ss, a :: as => LogA m l s a ∧ LogsA m ls ss as
  | _, _, _ => False
def offL (a b : List Nat) : Bool := a.all fun x => !b.contains x
def statOkS (as : List Nat) (ss : List (List Nat × Option Nat)) (ab : List (List Nat × List Nat)) : Bool :=
  (List.range ss.length).all fun j => (List.range j).all fun i => (as.getD j 0).testBit i || match ss[i]?, ss[j]?, ab[i]?, ab[j]? with
    | some a, some b, some c, some d => statApart a b && (offL c.2 d.1 && offL d.2 c.1)
    | _, _, _, _ => false
theorem lab_mono {m e : List (List Nat)} {a : List Nat} {x : Nat} (h : x ∈ lab m a) : x ∈ lab (m ++ e) a := by
  simp only [lab, List.mem_flatMap] at h ⊢
  obtain ⟨i, hi, hx⟩ := h
  refine ⟨i, hi, ?_⟩
  rw [List.getD_eq_getElem?_getD] at hx ⊢
  rcases Nat.lt_or_ge i m.length with h1 | h1
  · rw [List.getElem?_append_left h1]; exact hx
  · rw [List.getElem?_eq_none h1] at hx; cases hx
theorem flat_apart : ∀ {m : List (List Nat)} {i j : Nat}, m.flatten.Nodup → i ≠ j → ∀ x, x ∈ m.getD i [] → x ∉ m.getD j []
  | [], _, _, _, _ => fun x h => by simp at h
  | a :: m, i, j, hn, hij => fun x hi hj => by
    simp only [List.flatten_cons] at hn
    obtain ⟨n1, n2, n3⟩ := List.nodup_append.1 hn
    have mem : ∀ k, x ∈ m.getD k [] → x ∈ m.flatten := fun k hk => by
      rw [List.getD_eq_getElem?_getD] at hk
      cases e : m[k]? with
      | none => rw [e] at hk; cases hk
      | some l => rw [e] at hk; exact List.mem_flatten.2 ⟨l, List.mem_of_getElem? e, hk⟩
    cases i with
    | zero =>
      cases j with
      | zero => exact hij rfl
      | succ j => simp only [List.getD_cons_zero, List.getD_cons_succ] at hi hj; exact n3 x hi x (mem j hj) rfl
    | succ i =>
      cases j with
      | zero => simp only [List.getD_cons_zero, List.getD_cons_succ] at hi hj; exact n3 x hj x (mem i hi) rfl
      | succ j => simp only [List.getD_cons_succ] at hi hj; exact flat_apart n2 (by omega) x hi hj
theorem lab_off {m : List (List Nat)} {a b : List Nat} (hn : m.flatten.Nodup) (ho : offL a b = true) {x : Nat} (hx : x ∈ lab m a) : x ∉ lab m b := by
  intro hy
  simp only [lab, List.mem_flatMap] at hx hy
  obtain ⟨i, hi, hx⟩ := hx
  obtain ⟨j, hj, hy⟩ := hy
  simp only [offL, List.all_eq_true, Bool.not_eq_true', List.contains_eq_mem, decide_eq_false_iff_not] at ho
  exact flat_apart hn (fun (e : i = j) => ho i hi (by rw [e]; exact hj)) x hx hy
theorem LogsA.at {m : List (List Nat)} : ∀ {ls : List Log} {ss : List (List Nat × Option Nat)} {as : List (List Nat × List Nat)}, LogsA m ls ss as → ls.length = ss.length ∧ ∀ (i : Nat) (s : List Nat × Option Nat) (a : List Nat × List Nat), ss[i]? = some s → as[i]? = some a → ∃ l, ls[i]? = some l ∧ LogA m l s a
  | [], [], [], _ => ⟨rfl, fun i s c h => by simp at h⟩
  | l :: ls, s :: ss, c :: cs, h => by
    obtain ⟨h1, h2⟩ := LogsA.at h.2
    refine ⟨by simp [h1], fun i s' c' hs hc => ?_⟩
    cases i with
    | zero => simp at hs hc; subst hs; subst hc; exact ⟨l, rfl, h.1⟩
    | succ i => exact h2 i s' c' (by simpa using hs) (by simpa using hc)
  | [], _ :: _, _, h => h.elim
  | [], [], _ :: _, h => h.elim
  | _ :: _, [], _, h => h.elim
  | _ :: _, _ :: _, [], h => h.elim

/-- A region in any order, step by step, with labels. -/
structure XS (E : Env) (ops : List AOper) (ab : List (List Nat × List Nat)) (m : List (List Nat)) (rest : ACode) (st : St) (Q : AExit → St → Prop) : Prop where
  run : LabOk st.heap m → ∃ st' ls e, stepsM E (limP E) (limR E) ops st = some (st', ls) ∧ LabOk st'.heap (m ++ e) ∧ LogsA (m ++ e) ls (ops.map statics) ab ∧ X E rest st' Q

section
variable {E : Env} {st : St} {Q : AExit → St → Prop} {rest : ACode} {ops : List AOper} {ab : List (List Nat × List Nat)} {m : List (List Nat)}
theorem X.drawS (ab : List (List Nat × List Nat)) (hm : LabOk st.heap m) (hs : (ordered ops 0 && statOkS (ancs ops []) (ops.map statics) ab) = true) (k : XS E ops ab m rest st Q) : X E (.seq (.region ops true) rest) st Q := by
  obtain ⟨st', ls, e, e1, hok, hl, hx⟩ := k.run hm
  rw [Bool.and_eq_true] at hs
  refine X.draw e1 ?_ hx
  rw [hs.1, Bool.true_and]
  obtain ⟨hlen, hat⟩ := hl.at
  have hs2 := hs.2
  unfold pairsOk
  unfold statOkS at hs2
  rw [hlen]
  simp only [List.all_eq_true, List.mem_range, Bool.or_eq_true] at hs2 ⊢
  intro j hj i hi
  rcases hs2 j hj i hi with h1 | h1
  · exact .inl h1
  · right
    split at h1
    · rename_i a b c d hsi hsj hci hcj
      obtain ⟨la, hla, k1, k2, k3, k4⟩ := hat i a c hsi hci
      obtain ⟨lb, hlb, m1, m2, m3, m4⟩ := hat j b d hsj hcj
      rw [hla, hlb]
      simp only [statApart, Bool.and_eq_true] at h1
      obtain ⟨⟨⟨g1, g2⟩, g3⟩, g4, g5⟩ := h1
      have o1 : (la.wids.all fun i => !lb.ids.contains i) = true := by
        rw [List.all_eq_true]; intro z hz
        simp only [Bool.not_eq_true', List.contains_eq_mem, decide_eq_false_iff_not]
        exact fun hz2 => lab_off hok.nodup g4 (k4 z hz) (m3 z hz2)
      have o2 : (lb.wids.all fun i => !la.ids.contains i) = true := by
        rw [List.all_eq_true]; intro z hz
        simp only [Bool.not_eq_true', List.contains_eq_mem, decide_eq_false_iff_not]
        exact fun hz2 => lab_off hok.nodup g5 (m4 z hz) (k3 z hz2)
      simp only [apart, k2, m2, o1, o2, Bool.and_true, Bool.and_eq_true]
      exact ⟨⟨apartT_of g1 m1, apartT_of g2 k1⟩, g3⟩
    · cases h1
theorem Own.labOk {h : Heap} {rs : List Res} (ho : Own h rs) : LabOk h (rs.map Res.ids) := by
  have e : (rs.map Res.ids).flatten = idsR rs := (List.flatMap_def (l := rs) (f := Res.ids)).symm
  exact ⟨by rw [e]; exact ho.nodup, by rw [e]; exact ho.lt⟩

variable {n : Nat} {f : Nat → V} {h h1 h' : Heap} {d : Option Nat} {op : AOp} {af : List Nat} {os : List AOper} {v w u : V} {rs rs' : List Res} {rs'' : V → List Res} {id off size : Nat} {ag : Bool} {a x y : AOperand} {c : List V} {l1 l2 : List Nat}
theorem XS.nil (k : X E rest st Q) : XS E [] [] m rest st Q := ⟨fun hm => ⟨st, [], [], rfl, by rw [List.append_nil]; exact hm, trivial, k⟩⟩
theorem LabOk.up {h h' : Heap} {m : List (List Nat)} (o : LabOk h m) (hl : h.length ≤ h'.length) : LabOk h' m := ⟨o.nodup, fun i hi => Nat.lt_of_lt_of_le (o.lt i hi) hl⟩
theorem LabOk.more {h h' : Heap} {m : List (List Nat)} (o : LabOk h m) (hl : h.length ≤ h'.length) : LabOk h' (m ++ [List.range' h.length (h'.length - h.length)]) := by
  refine ⟨?_, fun i hi => ?_⟩
  · rw [List.flatten_append]
    refine List.nodup_append.2 ⟨o.nodup, by simpa using List.nodup_range', fun a ha b hb hab => ?_⟩
    subst hab
    have h1 := o.lt a ha
    simp only [List.flatten_cons, List.flatten_nil, List.append_nil, List.mem_range'_1] at hb
    omega
  · rw [List.flatten_append] at hi
    rcases List.mem_append.1 hi with h1 | h1
    · exact Nat.lt_of_lt_of_le (o.lt i h1) hl
    · simp only [List.flatten_cons, List.flatten_nil, List.append_nil, List.mem_range'_1] at h1
      omega
/-- One that turns nothing. -/
theorem XS.calm (l1 : List Nat) (v : V) (hb : below n op.reads = true) (e : opA E (limP E) (limR E) [] h (sub (Fk.mk (f := f)) op) = some (v, h)) (hF : ∀ x ∈ foot [] h (sub (Fk.mk (f := f)) op), x ∈ lab m l1) (hk : calmK op = true)
    (k : XS E os ab m rest ⟨TL n (upd f d v), h⟩ Q) : XS E (⟨d, op, none, af⟩ :: os) ((l1, []) :: ab) m rest ⟨TL n f, h⟩ Q := by
  refine ⟨fun hm => ?_⟩
  obtain ⟨st', ls, ee, e2, hok, hl, hx⟩ := k.run hm
  have e0 : opA E (limP E) (limR E) (TL n f) h op = some (v, h) := by rw [opA_sub hb]; exact e
  have hft : foot (TL n f) h op = foot [] h (sub (Fk.mk (f := f)) op) := foot_sub hb
  obtain ⟨-, e3, e4⟩ := calm_ok hk e0
  refine ⟨st', ⟨[] ++ op.reads, d, foot (TL n f) h op ++ List.range' h.length ((mask (foot (TL n f) h op) h).length - h.length), turned op (foot (TL n f) h op) h (mask (foot (TL n f) h op) h)⟩ :: ls, ee, ?_, hok, ⟨⟨fun i hi => by simpa [statics] using hi, rfl, fun x hx => ?_, fun x hx => ?_⟩, hl⟩, hx⟩
  · simp only [stepsM, stepM, wantA, e3]
    rw [if_pos (by simp [length_mask])]
    simp only [merge_mask, TL_set, e2]
  · simp only [length_mask, Nat.sub_self, List.range'_zero, List.append_nil, hft] at hx
    exact lab_mono (hF x hx)
  · rw [e4] at hx; cases hx
/-- One that turns what it touches, and makes some more. -/
theorem XS.loud (l1 : List Nat) {F : List Nat} (hb : below n op.reads = true) (hF : foot [] h (sub (Fk.mk (f := f)) op) = F) (hFl : ∀ x ∈ F, x ∈ lab m l1) (e : opA E (limP E) (limR E) [] (mask F h) (sub (Fk.mk (f := f)) op) = some (v, h1)) (hlen : h.length ≤ h1.length) (hm : merge F h h1 = h')
    (k : XS E os ab (m ++ [List.range' h.length (h1.length - h.length)]) rest ⟨TL n (upd f d v), h'⟩ Q) : XS E (⟨d, op, none, af⟩ :: os) ((l1 ++ [m.length], l1 ++ [m.length]) :: ab) m rest ⟨TL n f, h⟩ Q := by
  refine ⟨fun hmo => ?_⟩
  have hl' : h'.length = h1.length := by rw [← hm]; simp [merge]
  have hmo2 : LabOk h' (m ++ [List.range' h.length (h1.length - h.length)]) := by have := hmo.more (h' := h') (by rw [hl']; exact hlen); rw [hl'] at this; exact this
  obtain ⟨st', ls, ee, e2, hok, hl, hx⟩ := k.run hmo2
  have hft : foot (TL n f) h op = F := by rw [foot_sub hb]; exact hF
  have e0 : opA E (limP E) (limR E) (TL n f) (mask F h) op = some (v, h1) := by rw [opA_sub hb]; exact e
  have hall : ∀ x, x ∈ F ++ List.range' h.length (h1.length - h.length) → x ∈ lab (m ++ ([List.range' h.length (h1.length - h.length)] ++ ee)) (l1 ++ [m.length]) := by
    intro x hx
    simp only [lab, List.flatMap_append, List.mem_append]
    rcases List.mem_append.1 hx with h2 | h2
    · exact .inl (lab_mono (hFl x h2))
    · right
      simp only [List.flatMap_cons, List.flatMap_nil, List.append_nil]
      rw [List.getD_eq_getElem?_getD, List.getElem?_append_right (Nat.le_refl _), Nat.sub_self]
      exact h2
  rw [List.append_assoc] at hok hl
  refine ⟨st', ⟨[] ++ op.reads, d, F ++ List.range' h.length (h1.length - h.length), turned op F h h1⟩ :: ls, _, ?_, hok, ⟨⟨fun i hi => by simpa [statics] using hi, rfl, hall, fun x hx => hall x ?_⟩, hl⟩, hx⟩
  · simp only [stepsM, stepM, wantA, hft, e0]
    rw [if_pos hlen]
    simp only [hm, TL_set, e2]
  · unfold turned at hx
    split at hx
    · cases hx
    · rcases List.mem_append.1 hx with h2 | h2
      · split at h2
        · exact List.mem_append.2 (.inl (List.mem_filter.1 h2).1)
        · exact List.mem_append.2 (.inl h2)
      · exact List.mem_append.2 (.inr h2)
/-- One that is not wanted; that is. -/
theorem XS.skip {t : Nat} {b : Bool} {aa : List Nat × List Nat} (e : wantA (TL n f) (some (t, b)) = some false) (k : XS E os ab m rest ⟨TL n (upd f d (.tup [])), h⟩ Q) : XS E (⟨d, op, some (t, b), af⟩ :: os) (aa :: ab) m rest ⟨TL n f, h⟩ Q := by
  refine ⟨fun hm => ?_⟩
  obtain ⟨st', ls, ee, e2, hok, hl, hx⟩ := k.run hm
  refine ⟨st', ⟨[t], d, [], []⟩ :: ls, ee, ?_, hok, ⟨⟨fun i hi => by simp at hi; subst hi; simp [statics], rfl, fun x hx => (by cases hx), fun x hx => (by cases hx)⟩, hl⟩, hx⟩
  simp only [stepsM, stepM, e, TL_set, e2]
theorem XS.no {t : Nat} {b : Bool} {aa : List Nat × List Nat} (ht : Nat.blt t n = true) (e : fk (Fk.mk (f := f)) t = .pv (.bool !b)) (k : XS E os ab m rest ⟨TL n (upd f d (.tup [])), h⟩ Q) : XS E (⟨d, op, some (t, b), af⟩ :: os) (aa :: ab) m rest ⟨TL n f, h⟩ Q :=
  XS.skip (by simp only [wantA, wantQ ht, e]; cases b <;> rfl) k
theorem XS.void {t : Nat} {b : Bool} {aa : List Nat × List Nat} (ht : Nat.blt t n = true) (e : fk (Fk.mk (f := f)) t = .tup []) (k : XS E os ab m rest ⟨TL n (upd f d (.tup [])), h⟩ Q) : XS E (⟨d, op, some (t, b), af⟩ :: os) (aa :: ab) m rest ⟨TL n f, h⟩ Q :=
  XS.skip (by simp only [wantA, wantQ ht, e]) k
theorem lab_row {rs : List Res} {k : Nat} {v : V} {es : List PV} {h : Heap} {m : List (List Nat)} (ho : Own h rs) (hk : rs[k]? = some (.row v es)) {a : Nat} (hm : m.getD a [] = Res.ids (.row v es)) : ∀ x ∈ v.ids, x ∈ lab m [a] := by
  intro x hx
  have : x ∈ Res.ids (.row v es) := by
    rcases ho.at hk with ⟨_, rfl⟩ | rfl | ⟨_, tk, rfl, _⟩
    · exact hx
    · exact hx
    · exact hx
  simp only [lab, List.flatMap_cons, List.flatMap_nil, List.append_nil, hm]
  exact this
theorem lab_app_new {m : List (List Nat)} {a q la : List Nat} {k : Nat} (hp : ∀ x ∈ a, x ∈ lab m la) (hk : m.length = k) : ∀ x ∈ a ++ q, x ∈ lab (m ++ [q]) (la ++ [k]) := by
  intro x hx
  simp only [lab, List.flatMap_append, List.mem_append]
  rcases List.mem_append.1 hx with h2 | h2
  · exact .inl (lab_mono (hp x h2))
  · right
    simp only [List.flatMap_cons, List.flatMap_nil, List.append_nil]
    rw [List.getD_eq_getElem?_getD, ← hk, List.getElem?_append_right (Nat.le_refl _), Nat.sub_self]
    exact h2
theorem lab_nil {m : List (List Nat)} {a la : List Nat} (hp : ∀ x ∈ a, x ∈ lab m la) {b : List Nat} (hb : b = []) : ∀ x ∈ a ++ b, x ∈ lab m la := by
  subst hb; intro x hx; rw [List.append_nil] at hx; exact hp x hx
theorem lab_none {m : List (List Nat)} {la : List Nat} {b : List Nat} (hb : b = []) : ∀ x ∈ b, x ∈ lab m la := by
  subst hb; intro x hx; cases hx
theorem XS.yes {t : Nat} {b : Bool} {aa : List Nat × List Nat} (ht : Nat.blt t n = true) (e : fk (Fk.mk (f := f)) t = .pv (.bool b)) (k : XS E (⟨d, op, none, af⟩ :: os) (aa :: ab) m rest ⟨TL n f, h⟩ Q) : XS E (⟨d, op, some (t, b), af⟩ :: os) (aa :: ab) m rest ⟨TL n f, h⟩ Q := by
  refine ⟨fun hm => ?_⟩
  obtain ⟨st', ls, ee, e2, hok, hl, hx⟩ := k.run hm
  have hw : wantA (TL n f) (some (t, b)) = some true := by simp only [wantA, wantQ ht, e, BEq.rfl]
  cases ls with
  | nil => exact hl.elim
  | cons l ls =>
    refine ⟨st', ⟨[t] ++ op.reads, l.wr, l.ids, l.wids⟩ :: ls, ee, ?_, hok, ⟨⟨fun i hi => by simpa [statics] using hi, hl.1.2.1, hl.1.2.2⟩, hl.2⟩, hx⟩
    simp only [stepsM, stepM, hw] at e2 ⊢
    simp only [wantA] at e2
    split at e2
    · rename_i st1 l1 e3
      split at e2
      · rename_i st2 ls2 e4
        cases e2
        split at e3
        · rename_i v h' e5
          split at e3
          · rename_i hlen
            cases e3
            rw [if_pos hlen]
            simp only [e4, List.nil_append]
          · cases e3
        · cases e3
      · cases e2
    · cases e2

theorem at_op {α : Type} (T : TyE α) {l : List α} {i : Int} {z : α} {kk : IntKind} (hy : idx l i = some z) (e : St.eval [] (subO (Fk.mk (f := f)) x) = some u) (hu : SlP u (l.map T.enc)) (e2 : St.eval [] (subO (Fk.mk (f := f)) y) = some (.pv (.int kk i))) (hz : T.sz = size) :
    opA E (limP E) (limR E) [] h (sub (Fk.mk (f := f)) (.iaddrSl size x y)) = some (.pv (.ip (T.cells z) 0), h) := by
  unfold idx at hy
  split at hy
  · rename_i h0
    have h1 : (l.map T.enc)[i.toNat]? = some (T.enc z) := by rw [List.getElem?_map, hy]; rfl
    have hel : elemAt size (l.map T.enc) i.toNat = some (.pv (.ip (T.cells z) 0)) := by simp only [elemAt, h1, T.hc, T.len, hz, if_true]
    have hop : iaddrSlA size u (.pv (.int kk i)) = some (.pv (.ip (T.cells z) 0)) := by
      rcases hu with rfl | rfl | ⟨t, rfl⟩ | ⟨rfl, hn⟩
      · simp only [iaddrSlA, natOf?, if_pos h0, hel]
      · simp only [iaddrSlA, natOf?, if_pos h0, hel]
      · simp only [iaddrSlA, natOf?, if_pos h0, hel]
      · rw [hn] at h1; cases h1
    simp only [sub, opA, e, e2, hop]; rfl
  · cases hy
theorem joinS_op {s t z : List UInt8} (hj : Ab.joinS s t = some z) (e : St.eval [] (subO (Fk.mk (f := f)) x) = some (.pv (.str s))) (e2 : St.eval [] (subO (Fk.mk (f := f)) y) = some (.pv (.str t))) :
    opA E (limP E) (limR E) [] h (sub (Fk.mk (f := f)) (.bin .add .no x y)) = some (.pv (.str z), h) := by simp only [sub, opA, e, e2, joinS_bin hj]; rfl
theorem load_op (i : Nat) (ho : Own h rs) (hk : rs[i]? = some (.blk id c)) (e : St.eval [] (subO (Fk.mk (f := f)) a) = some (.ptr id off)) (hv : cutV ag c off size = some v) :
    opA E (limP E) (limR E) [] h (sub (Fk.mk (f := f)) (.load ag size a)) = some (v, h) := by simp only [sub, opA, e, load_own i ho hk hv]; rfl
/-- A place that is read. -/
theorem XS.read (l1 : List Nat) (v : V) (hb : below n a.reads = true) (he : St.eval [] (subO (Fk.mk (f := f)) a) = some (.ptr id off)) (e : opA E (limP E) (limR E) [] h (sub (Fk.mk (f := f)) (.load ag size a)) = some (v, h)) (hF : id ∈ lab m l1)
    (k : XS E os ab m rest ⟨TL n (upd f d v), h⟩ Q) : XS E (⟨d, .load ag size a, none, af⟩ :: os) ((l1, []) :: ab) m rest ⟨TL n f, h⟩ Q :=
  XS.calm l1 v hb e (fun x hx => by
    have : x ∈ oIds [] (subO (Fk.mk (f := f)) a) := hx
    simp only [oIds, he, V.ids, List.mem_singleton] at this
    rw [this]; exact hF) rfl k
theorem XS.box (l1 : List Nat) (c : List V) (ho : Own h rs) (hb : below n x.reads = true) (e : St.eval [] (subO (Fk.mk (f := f)) x) = some w) (hc : w.cells = c) (ha : c.all V.isCell = true) (hl : l1 = [m.length])
    (k : ∀ id h', Own h' (.blk id c :: rs) → XS E os ab (m ++ [[id]]) rest ⟨TL n (upd f d (.ptr id 0)), h'⟩ Q) : XS E (⟨d, .box x, none, af⟩ :: os) ((l1, l1) :: ab) m rest ⟨TL n f, h⟩ Q := by
  subst hc hl
  refine XS.loud [] (F := []) (h1 := mask [] h ++ [.blk w.cells none]) (v := .ptr (mask [] h).length 0) hb rfl (fun x hx => by cases hx) (by simp only [sub, opA, e, ha, if_true]) (by simp [length_mask]) merge_mask_app ?_
  have hr : List.range' h.length ((mask [] h ++ [Ent.blk w.cells none]).length - h.length) = [h.length] := by simp [length_mask]
  rw [hr, length_mask]
  exact k _ _ ho.push
theorem XS.new {t : TypeId} (l1 : List Nat) (ho : Own h rs) (hl : l1 = [m.length]) (k : ∀ id h', Own h' (.blk id c :: rs) → XS E os ab (m ++ [[id]]) rest ⟨TL n (upd f d (.ptr id 0)), h'⟩ Q) : XS E (⟨d, .new t c, none, af⟩ :: os) ((l1, l1) :: ab) m rest ⟨TL n f, h⟩ Q := by
  subst hl
  refine XS.loud [] (F := []) (h1 := mask [] h ++ [.blk c (some t)]) (v := .ptr (mask [] h).length 0) rfl rfl (fun x hx => by cases hx) rfl (by simp [length_mask]) merge_mask_app ?_
  have hr : List.range' h.length ((mask [] h ++ [Ent.blk c (some t)]).length - h.length) = [h.length] := by simp [length_mask]
  rw [hr, length_mask]
  exact k _ _ ho.push
theorem XS.fresh (l1 : List Nat) (v : V) (hb : below n op.reads = true) (hf : ∀ h, foot [] h (sub (Fk.mk (f := f)) op) = []) (e : ∀ h, opA E (limP E) (limR E) [] h (sub (Fk.mk (f := f)) op) = some (v, h)) (hl : l1 = [m.length]) (k : XS E os ab (m ++ [[]]) rest ⟨TL n (upd f d v), h⟩ Q) :
    XS E (⟨d, op, none, af⟩ :: os) ((l1, l1) :: ab) m rest ⟨TL n f, h⟩ Q := by
  subst hl
  refine XS.loud [] (F := []) (h1 := mask [] h) hb (hf h) (fun x hx => by cases hx) (e _) (by simp [length_mask]) merge_mask ?_
  have hr : List.range' h.length ((mask [] h).length - h.length) = [] := by simp [length_mask]
  rw [hr]
  exact k
theorem XS.store (i : Nat) (l0 l1 : List Nat) (c' : List V) (ho : Own h rs) (hk : rs[i]? = some (.blk id c)) (hb : below n (a.reads ++ x.reads) = true) (e : St.eval [] (subO (Fk.mk (f := f)) a) = some (.ptr id off)) (e2 : St.eval [] (subO (Fk.mk (f := f)) x) = some w)
    (hs : storeV c off size w = some c') (hr : rs.set i (.blk id c') = rs') (hF : id ∈ lab m l0) (hl : l1 = l0 ++ [m.length]) (k : ∀ h', Own h' rs' → XS E os ab (m ++ [[]]) rest ⟨TL n (upd f d (.tup [])), h'⟩ Q) : XS E (⟨d, .store size a x, none, af⟩ :: os) ((l1, l1) :: ab) m rest ⟨TL n f, h⟩ Q := by
  obtain ⟨t, ht⟩ := ho.at hk
  subst hr hl
  unfold storeV at hs
  split at hs
  · rename_i hc
    cases hs
    have hm : ent (mask [id] h) id = .blk c t := by rw [ent_mask, if_pos (by simp)]; exact ht
    refine XS.loud l0 (F := [id]) (h1 := (mask [id] h).set id (.blk (splice c off w.cells) t)) (v := .tup []) hb (by show oIds [] (subO (Fk.mk (f := f)) a) = [id]; simp only [oIds, e, V.ids]) (fun x hx => by rw [List.mem_singleton.1 hx]; exact hF) (by simp only [sub, opA, e, e2, storeA, hm, if_pos hc]; rfl) (by simp [length_mask]) (merge_mask_set (by simp)) ?_
    have hr : List.range' h.length (((mask [id] h).set id (Ent.blk (splice c off w.cells) t)).length - h.length) = [] := by simp [length_mask]
    rw [hr]
    exact k _ (ho.set hk)
  · cases hs
/-- An append: where it stands then. -/
theorem XS.append {α : Type} (T : TyE α) (i : Nat) (l0 l1 : List Nat) {xs ys zs : List α} {te : TypeId} {bytes : Nat} (hj : join bytes xs ys = some zs) (ho : Own h rs) (hk : rs[i]? = some (.row w (xs.map T.enc))) (hb : below n (x.reads ++ y.reads) = true) (e : St.eval [] (subO (Fk.mk (f := f)) x) = some w)
    (e2 : St.eval [] (subO (Fk.mk (f := f)) y) = some u) (hu : SlP u (ys.map T.enc)) (hag : T.ag = ag) (hz : T.sz = size) (hr : ∀ v, rs.set i (.row v (zs.map T.enc)) = rs'' v) (hF : ∀ x ∈ w.ids ++ u.ids, x ∈ lab m l0) (hl : l1 = l0 ++ [m.length])
    (k : ∀ v h' q, Own h' (rs'' v) → (∀ x ∈ v.ids, x ∈ w.ids ++ q) → XS E os ab (m ++ [q]) rest ⟨TL n (upd f d v), h'⟩ Q) : XS E (⟨d, .append ag false size bytes te x y, none, af⟩ :: os) ((l1, l1) :: ab) m rest ⟨TL n f, h⟩ Q := by
  subst hag hz hl
  obtain ⟨v, h', a1, a2, a3⟩ := row_app T (te := te) ho hk hj
  have hFt : foot [] h (sub (Fk.mk (f := f)) (.append T.ag false T.sz bytes te x y)) = w.ids ++ u.ids := by
    show oIds [] (subO (Fk.mk (f := f)) x) ++ oIds [] (subO (Fk.mk (f := f)) y) = _
    simp only [oIds, e, e2]
  obtain ⟨h1, b1, b2, b3⟩ := a3 (w.ids ++ u.ids) fun i hi => by simp [hi]
  have hlen : h1.length = h'.length := by rw [← b3]; simp [merge]
  refine XS.loud l0 (h1 := h1) (v := v) hb hFt hF ?_ b2 b3 (k v h' _ (by rw [← hr]; exact a2) fun z hz => ?_)
  · simp only [sub, opA, e, e2, src_row T hu]
    rw [hu.len.2, List.length_map]
    exact b1
  · -- a row's place is old, or new
    rw [List.mem_append, List.mem_range'_1]
    by_cases hn : ys.length = 0
    · have hslp := ho.slp hk
      have hv : v = w := by
        have : appendA h T.ag false T.sz bytes te w ys.length (T.new ys) = some (w, h) := by unfold appendA; rw [if_pos hn, if_pos hslp.len.1]
        rw [this] at a1; cases a1; rfl
      rw [hv] at hz; exact .inl hz
    · right
      have hlt : ∀ j ∈ v.ids, j < h'.length := by
        intro j hj2
        have hk2 : (rs.set i (.row v (zs.map T.enc)))[i]? = some (.row v (zs.map T.enc)) := by
          rw [List.getElem?_set_self]
          rcases Nat.lt_or_ge i rs.length with h9 | h9
          · exact h9
          · rw [List.getElem?_eq_none h9] at hk; cases hk
        refine a2.lt j (List.mem_flatMap.2 ⟨_, List.mem_of_getElem? hk2, ?_⟩)
        rcases a2.at hk2 with ⟨_, rfl⟩ | rfl | ⟨_, tk, rfl, _⟩
        · exact hj2
        · exact hj2
        · exact hj2
      have hge : ∀ j ∈ v.ids, h.length ≤ j := by
        intro j hj2
        have hr0 := ho.at hk
        unfold appendA at a1
        rw [if_neg hn] at a1
        rcases hr0 with ⟨_, rfl⟩ | rfl | ⟨_, tk, rfl, e9⟩
        · simp only [Bool.false_eq_true, if_false] at a1
          split at a1
          · split at a1
            · cases a1; simp only [V.ids, List.mem_singleton] at hj2; omega
            · cases a1
          · cases a1
        · simp only [Bool.false_eq_true, if_false] at a1
          split at a1
          · split at a1
            · cases a1; simp only [V.ids, List.mem_singleton] at hj2; omega
            · cases a1
          · cases a1
        · simp only [e9] at a1
          split at a1
          · cases a1
          · split at a1
            · split at a1
              · cases a1; simp only [V.ids, List.mem_singleton, List.length_set] at hj2; omega
              · cases a1
            · cases a1
      have := hlt z hz
      have := hge z hz
      omega
/-- A pure call. -/
theorem XS.callP {g : FuncId} {args : List AOperand} (ps qs : List PV) (hl : limP E g ps = some qs) (hr : E.raw g = false) (hb : below n (readsL args) = true) (e : evals [] (subL (Fk.mk (f := f)) args) = some (ps.map .pv))
    (k : XS E os ab m rest ⟨TL n (upd f d (mkRes qs)), h⟩ Q) : XS E (⟨d, .call g args, none, af⟩ :: os) (([], []) :: ab) m rest ⟨TL n f, h⟩ Q := by
  refine ⟨fun hm => ?_⟩
  obtain ⟨st', ls, ee, e2, hok, hl2, hx⟩ := k.run hm
  have e0 : evals (TL n f) args = some (ps.map .pv) := by rw [evals_sub hb]; exact e
  have hids : args.flatMap (oIds (TL n f)) = [] := by
    rw [evals_ids _ _ e0]
    clear e e0 hl
    induction ps with
    | nil => rfl
    | cons p ps ih => simp only [List.map_cons, List.flatMap_cons, V.ids, ih, List.append_nil]
  have hfoot : foot (TL n f) h (.call g args) = [] := by simp only [foot, hids, addNew, reach_nil]
  have hop : opA E (limP E) (limR E) (TL n f) (mask [] h) (.call g args) = some (mkRes qs, mask [] h) := by
    have : snapL snapFuel (ps.map .pv) (mask [] h) = some (ps, mask [] h) := (WkL.pvs ps).snap (n := snapFuel) (by decide)
    simp only [opA, e0, callA, hr, Bool.false_eq_true, if_false, this, hl]
  refine ⟨st', ⟨[] ++ (AOp.call g args).reads, d, [] ++ List.range' h.length ((mask [] h).length - h.length), turned (.call g args) [] h (mask [] h)⟩ :: ls, ee, ?_, hok, ⟨⟨fun i hi => by simpa [statics] using hi, rfl, fun x hx => ?_, fun x hx => ?_⟩, hl2⟩, hx⟩
  · simp only [stepsM, stepM, wantA, hfoot, hop]
    rw [if_pos (by simp [length_mask])]
    simp only [merge_mask, TL_set, e2]
  · simp [length_mask] at hx
  · simp [turned, length_mask] at hx
end
end Ab

-- Things with many cells in a row (sets, byte by byte): what is cut out of them, written into them.
namespace Ab
open Go

theorem zB_eq : List.replicate 256 (V.pv (.bool false)) = (bits256 0#256).map V.pv := by rw [zero256a, List.map_replicate]
theorem zB_app {id : Nat} {A C : List V} {h : Heap} {rs : List Res} (ho : Own h (.blk id (A ++ (List.replicate 256 (V.pv (.bool false)) ++ C)) :: rs)) : Own h (.blk id (A ++ ((bits256 0#256).map V.pv ++ C)) :: rs) := by rw [← zB_eq]; exact ho
theorem zB_fill {A C : List V} {l : List (Nat × Nat × V)} {cs : Option (List V)} (h : fillA (A ++ ((bits256 0#256).map V.pv ++ C)) l = cs) : fillA (A ++ (List.replicate 256 (V.pv (.bool false)) ++ C)) l = cs := by rw [zB_eq]; exact h
section
variable {A C X A2 C2 c c' cs : List V} {A' C' : List PV} {s t : BitVec 256} {off size k : Nat} {ag : Bool} {v w u : V}
theorem bitsV_len : ((bits256 s).map V.pv).length = 256 := by rw [List.length_map, bits256_len]
theorem big_len : (A ++ ((bits256 s).map V.pv ++ C)).length = A.length + 256 + C.length := by simp only [List.length_append, bitsV_len]; omega
theorem big_cells (hA : A'.map V.pv = A) (hC : C'.map V.pv = C) : V.cells (.pv (.agg (A' ++ (bits256 s ++ C')))) = A ++ ((bits256 s).map V.pv ++ C) := by
  subst hA hC; simp only [V.cells, PV.cells, List.map_append]
theorem bits_cells : V.cells (.pv (.agg (bits256 s))) = (bits256 s).map V.pv := rfl
theorem bits_all : ((bits256 s).map V.pv).all V.isCell = true := by
  rw [bits256, List.map_map, List.all_eq_true]
  intro x hx
  obtain ⟨i, _, rfl⟩ := List.mem_map.1 hx
  rfl
theorem big_all (hA : A.all V.isCell = true) (hC : C.all V.isCell = true) : (A ++ ((bits256 s).map V.pv ++ C)).all V.isCell = true := by
  rw [List.all_append, List.all_append, hA, hC, bits_all]; rfl
theorem cut_app (h : off + size ≤ A.length) : cut (A ++ X) off size = cut A off size := by
  unfold cut
  rw [if_pos (by rw [List.length_append]; omega), if_pos h, List.drop_append_of_le_length (by omega), List.take_append_of_le_length (by rw [List.length_drop]; omega)]
theorem cut_skip (A : List V) {X : List V} : cut (A ++ X) (A.length + k) size = cut X k size := by
  unfold cut
  have h1 : (A ++ X).drop (A.length + k) = X.drop k := by rw [← List.drop_drop, List.drop_left]
  rw [h1, List.length_append]
  by_cases h : k + size ≤ X.length
  · rw [if_pos (by omega), if_pos h]
  · rw [if_neg (by omega), if_neg h]
theorem cut_all (h : c.length = size) : cut c 0 size = some c := by
  unfold cut; rw [if_pos (by omega), List.drop_zero, List.take_of_length_le (by omega)]
theorem big_cutA (h : Nat.ble (off + size) A.length = true) (hv : cutV ag A off size = some v) : cutV ag (A ++ X) off size = some v := by
  unfold cutV at hv ⊢; rw [cut_app (Nat.le_of_ble_eq_true h)]; exact hv
theorem big_cutB (h : A.length = off) : cutV true (A ++ ((bits256 s).map V.pv ++ C)) off 256 = some (.pv (.agg (bits256 s))) := by
  subst h
  have h1 : cut (A ++ ((bits256 s).map V.pv ++ C)) A.length 256 = some ((bits256 s).map V.pv) := by
    have := cut_skip (k := 0) (size := 256) A (X := (bits256 s).map V.pv ++ C)
    rw [Nat.add_zero] at this
    rw [this, cut_app (by rw [bitsV_len]; exact Nat.le_refl _), cut_all bitsV_len]
  unfold cutV; rw [h1]; simp only [mkVal, mkAgg_pure, if_true]
theorem big_cutC (h : A.length + (256 + k) = off) (hv : cutV ag C k size = some v) : cutV ag (A ++ ((bits256 s).map V.pv ++ C)) off size = some v := by
  subst h
  unfold cutV at hv ⊢
  rw [cut_skip]
  have := cut_skip (k := k) (size := size) ((bits256 s).map V.pv) (X := C)
  rw [bitsV_len] at this
  rw [this]; exact hv
theorem mkAgg_big (hA : A'.map V.pv = A) (hC : C'.map V.pv = C) : mkAgg (A ++ ((bits256 s).map V.pv ++ C)) = .pv (.agg (A' ++ (bits256 s ++ C'))) := by
  subst hA hC; rw [← List.map_append, ← List.map_append, mkAgg_pure]
theorem pures_none : ∀ {c : List V} {k : Nat} {v : V}, c[k]? = some v → (∀ p, v ≠ .pv p) → pures c = none
  | [], _, _, h, _ => by simp at h
  | x :: c, 0, v, h, hv => by
    simp at h; subst h
    cases x <;> first | rfl | exact absurd rfl (hv _)
  | x :: c, k + 1, v, h, hv => by
    have := pures_none (c := c) (k := k) (by simpa using h) hv
    cases x <;> simp only [pures, this]
theorem mkAgg_row (hk : c[k]? = some v) (hv : ∀ p, v ≠ .pv p) : mkAgg c = .agg c := by unfold mkAgg; rw [pures_none hk hv]
theorem Own.notpv {h : Heap} {rs : List Res} {k : Nat} {v : V} {es : List PV} (ho : Own h rs) (hk : rs[k]? = some (.row v es)) : ∀ p, v ≠ .pv p := by
  intro p e
  rcases ho.at hk with ⟨_, rfl⟩ | rfl | ⟨_, t, rfl, _⟩ <;> cases e
theorem cutV_whole (h : c.length = size) (hm : mkAgg c = v) : cutV true c 0 size = some v := by
  unfold cutV; rw [cut_all h]; simp only [mkVal, if_true, hm]
theorem big_whole (h : A.length + 256 + C.length = size) (hm : mkAgg (A ++ ((bits256 s).map V.pv ++ C)) = v) : cutV true (A ++ ((bits256 s).map V.pv ++ C)) 0 size = some v := cutV_whole (by rw [big_len]; exact h) hm

theorem SlP.cell {ps : List PV} (hu : SlP u ps) : u.cells = [u] ∧ V.isCell u = true := by
  rcases hu with rfl | rfl | ⟨t, rfl⟩ | ⟨rfl, _⟩ <;> exact ⟨rfl, rfl⟩
theorem storeV_row {ps : List PV} (hu : SlP u ps) (h : Nat.ble (off + 1) c.length = true) (hc : splice c off [u] = c') : storeV c off 1 u = some c' := by
  unfold storeV; rw [hu.cell.1, if_pos ⟨rfl, Nat.le_of_ble_eq_true h, by rw [List.all_cons, hu.cell.2]; rfl⟩, hc]
theorem storeV_all (hw : w.cells = c') (hl : c'.length = size) (hc : c.length = size) (ha : c'.all V.isCell = true) : storeV c 0 size w = some c' := by
  unfold storeV; rw [hw, if_pos ⟨hl, by omega, ha⟩]
  unfold splice; rw [List.take_zero, List.nil_append, Nat.zero_add, List.drop_of_length_le (by omega), List.append_nil]
theorem splice_app {n : List V} (h : off + n.length ≤ A.length) : splice (A ++ X) off n = splice A off n ++ X := by
  unfold splice
  rw [List.take_append_of_le_length (by omega), List.drop_append_of_le_length (by omega)]
  simp only [List.append_assoc]
theorem splice_skip {n : List V} : splice (A ++ X) (A.length + k) n = A ++ splice X k n := by
  unfold splice
  rw [List.take_length_add_append, Nat.add_assoc, ← List.drop_drop, List.drop_left]
  simp only [List.append_assoc]
theorem big_storeA (h : storeV A off size w = some A2) : storeV (A ++ X) off size w = some (A2 ++ X) := by
  unfold storeV at h ⊢
  split at h
  · rename_i hc
    cases h
    rw [if_pos ⟨hc.1, by rw [List.length_append]; omega, hc.2.2⟩, splice_app (by omega)]
  · cases h
theorem big_storeB (h : A.length = off) : storeV (A ++ ((bits256 s).map V.pv ++ C)) off 256 (.pv (.agg (bits256 t))) = some (A ++ ((bits256 t).map V.pv ++ C)) := by
  subst h
  unfold storeV
  rw [if_pos ⟨by rw [bits_cells, bitsV_len], by rw [big_len]; omega, by rw [bits_cells]; exact bits_all⟩, bits_cells]
  have := splice_skip (A := A) (k := 0) (X := (bits256 s).map V.pv ++ C) (n := (bits256 t).map V.pv)
  rw [Nat.add_zero] at this
  rw [this, splice_app (by rw [bitsV_len, bitsV_len]; exact Nat.le_refl _)]
  have h2 : splice ((bits256 s).map V.pv) 0 ((bits256 t).map V.pv) = (bits256 t).map V.pv := by
    unfold splice; rw [List.take_zero, List.nil_append, Nat.zero_add, List.drop_of_length_le (by rw [bitsV_len, bitsV_len]; exact Nat.le_refl _), List.append_nil]
  rw [h2]
theorem big_storeC (h : A.length + (256 + k) = off) (hs : storeV C k size w = some C2) : storeV (A ++ ((bits256 s).map V.pv ++ C)) off size w = some (A ++ ((bits256 s).map V.pv ++ C2)) := by
  subst h
  unfold storeV at hs ⊢
  split at hs
  · rename_i hc
    cases hs
    rw [if_pos ⟨hc.1, by rw [big_len]; omega, hc.2.2⟩, splice_skip]
    have := splice_skip (A := (bits256 s).map V.pv) (k := k) (X := C) (n := w.cells)
    rw [bitsV_len] at this
    rw [this]
  · cases hs

/-- A struct out of its parts, one by one. -/
theorem fill_cons {rest : List (Nat × Nat × V)} (h : storeV c off size v = some c') (k : fillA c' rest = some cs) : fillA c ((off, size, v) :: rest) = some cs := by
  unfold storeV at h
  split at h
  · rename_i hc
    cases h
    simp only [fillA, if_pos hc]; exact k
  · cases h
theorem fill_nil : fillA c [] = some c := rfl
theorem build_op {E : Env} {p : FuncId → List PV → Option (List PV)} {r : FuncId → List V → Heap → Option (V × Heap)} {h : Heap} {f : Nat → V} {zero : List V} {parts : List (Nat × Nat × AOperand)} {vs : List V} {ls : List (Nat × Nat × V)} (e : evals [] (subL (Fk.mk (f := f)) (parts.map (·.2.2))) = some vs)
    (hz : (parts.zip vs).map (fun (p, v) => (p.1, p.2.1, v)) = ls) (hf : fillA zero ls = some cs) (hm : mkAgg cs = v) : opA E p r [] h (sub (Fk.mk (f := f)) (.build zero parts)) = some (v, h) := by
  subst hz hm
  simp only [sub, opA, sub3_map, sub3_zip, e, hf]
  rfl

theorem big_at {A C : List V} {s : BitVec 256} {k j : Nat} {v : V} (hk : C[k]? = some v) (hj : A.length + 256 + k = j) : (A ++ ((bits256 s).map V.pv ++ C))[j]? = some v := by
  subst hj
  rw [List.getElem?_append_right (by omega), List.getElem?_append_right (by rw [bitsV_len]; omega), bitsV_len]
  have : A.length + 256 + k - A.length - 256 = k := by omega
  rw [this]; exact hk
theorem big_map {A C : List V} {A' C' : List PV} {s : BitVec 256} (hA : A'.map V.pv = A) (hC : C'.map V.pv = C) : (A' ++ (bits256 s ++ C')).map V.pv = A ++ ((bits256 s).map V.pv ++ C) := by subst hA hC; simp only [List.map_append]
theorem big_ip {A C : List V} {A' C' : List PV} {s : BitVec 256} {ag : Bool} {off size : Nat} {v : V} (hA : A'.map V.pv = A) (hC : C'.map V.pv = C) (hv : cutV ag (A ++ ((bits256 s).map V.pv ++ C)) off size = some v) : cutV ag ((A' ++ (bits256 s ++ C')).map V.pv) off size = some v := by rw [big_map hA hC]; exact hv
theorem loadIp_op {E : Env} {p : FuncId → List PV → Option (List PV)} {r : FuncId → List V → Heap → Option (V × Heap)} {h : Heap} {f : Nat → V} {ag : Bool} {off size : Nat} {a : AOperand} {ps : List PV} {v : V} (e : St.eval [] (subO (Fk.mk (f := f)) a) = some (.pv (.ip ps off))) (hv : cutV ag (ps.map .pv) off size = some v) :
    opA E p r [] h (sub (Fk.mk (f := f)) (.load ag size a)) = some (v, h) := by
  have hl : loadA h ag size (.pv (.ip ps off)) = some v := by
    simp only [loadA]
    unfold cutV at hv
    have e : cut (ps.map V.pv) off size = (cut ps off size).map (·.map .pv) := by
      unfold cut
      rw [List.length_map]
      split
      · simp [List.map_take, List.map_drop]
      · rfl
    rw [e] at hv
    cases hc : cut ps off size with
    | none => rw [hc] at hv; cases hv
    | some c' => rw [hc] at hv; exact hv
  simp only [sub, opA, e, hl]; rfl
end
end Ab

-- Slices that are made and written: as lists.
namespace Ab
open Go
/-- Elements as they stand in a block. -/
structure AE (β : Type) where
  vc : β → List V
  sz : Nat
  len : ∀ b, (vc b).length = sz
def AE.of {α : Type} (T : TyE α) : AE α := ⟨fun a => (T.cells a).map V.pv, T.sz, fun a => by rw [List.length_map, T.len]⟩
/-- With those that were not written yet. -/
def AE.opt {α : Type} (T : TyE α) (z : List V) (hz : z.length = T.sz) : AE (Option α) := ⟨fun a => match a with | some a => (T.cells a).map V.pv | none => z, T.sz, fun a => by cases a with | none => exact hz | some a => rw [List.length_map, T.len]⟩
def AE.all {β : Type} (A : AE β) (xs : List β) : List V := xs.flatMap A.vc
theorem AE.all_len {β : Type} (A : AE β) : ∀ xs : List β, (A.all xs).length = xs.length * A.sz
  | [] => by simp [AE.all]
  | x :: xs => by
    have := AE.all_len A xs
    simp only [AE.all, List.flatMap_cons, List.length_append, A.len, List.length_cons, Nat.succ_mul] at this ⊢
    omega
theorem AE.all_cut {β : Type} (A : AE β) : ∀ {xs : List β} {i : Nat} {x : β} {off size : Nat}, xs[i]? = some x → off + size ≤ A.sz → cut (A.all xs) (i * A.sz + off) size = cut (A.vc x) off size
  | [], i, x, off, size, h, _ => by simp at h
  | y :: xs, 0, x, off, size, h, hs => by
    simp at h; subst h
    simp only [AE.all, List.flatMap_cons, Nat.zero_mul, Nat.zero_add]
    exact cut_app (by rw [A.len]; exact hs)
  | y :: xs, i + 1, x, off, size, h, hs => by
    have ih := AE.all_cut A (xs := xs) (i := i) (x := x) (off := off) (size := size) (by simpa using h) hs
    have e : (i + 1) * A.sz + off = (A.vc y).length + (i * A.sz + off) := by rw [A.len, Nat.succ_mul]; omega
    simp only [AE.all, List.flatMap_cons] at ih ⊢
    rw [e, cut_skip]; exact ih
theorem AE.all_splice {β : Type} (A : AE β) : ∀ {xs : List β} {i : Nat} {x x' : β} {off : Nat} {n : List V}, xs[i]? = some x → off + n.length ≤ A.sz → splice (A.vc x) off n = A.vc x' → splice (A.all xs) (i * A.sz + off) n = A.all (xs.set i x')
  | [], i, x, x', off, n, h, _, _ => by simp at h
  | y :: xs, 0, x, x', off, n, h, hs, hn => by
    simp at h; subst h
    simp only [AE.all, List.flatMap_cons, Nat.zero_mul, Nat.zero_add, List.set_cons_zero]
    rw [splice_app (by rw [A.len]; exact hs), hn]
  | y :: xs, i + 1, x, x', off, n, h, hs, hn => by
    have ih := AE.all_splice A (xs := xs) (i := i) (x := x) (x' := x') (off := off) (n := n) (by simpa using h) hs hn
    have e : (i + 1) * A.sz + off = (A.vc y).length + (i * A.sz + off) := by rw [A.len, Nat.succ_mul]; omega
    simp only [AE.all, List.flatMap_cons, List.set_cons_succ] at ih ⊢
    rw [e, splice_skip, ih]

/-- How many are made, if so many may be. -/
def mkn (bytes : Nat) (l c : Int) : Option Nat := if l = c ∧ 0 ≤ l ∧ l.toNat * bytes ≤ growMax ∧ l.toNat ≤ growMax then some l.toNat else none

section
variable {E : Env} {n : Nat} {f : Nat → V} {h h' : Heap} {Q : AExit → St → Prop} {rest : ACode} {d : Option Nat} {op : AOp} {af : List Nat} {os : List AOper} {rs rs' : List Res} {id off size m : Nat} {v w u : V} {ag : Bool} {a x y : AOperand} {c z : List V} {β : Type} {A : AE β} {b0 : β} {xs : List β}
theorem Own.pushArr {t : Option TypeId} {k sz : Nat} (ho : Own h rs) (hc : c.length = k * sz) : Own (h ++ [.blk c t]) (.arr h.length k sz c :: rs) :=
  ho.app.cons (by simp [Res.ids]) (by simp [Res.ids]) (fun i hi hj => by simp only [Res.ids, List.mem_singleton] at hi; have := ho.lt i hj; omega) ⟨⟨t, by rw [ent_new]⟩, hc⟩
theorem X.mkArr {bytes : Nat} (A : AE β) (b0 : β) {l cc : Int} {k1 k2 : IntKind} (hm : mkn bytes l cc = some m) (ho : Own h rs) (hb : below n (x.reads ++ y.reads) = true) (e1 : St.eval [] (subO (Fk.mk (f := f)) x) = some (.pv (.int k1 l))) (e2 : St.eval [] (subO (Fk.mk (f := f)) y) = some (.pv (.int k2 cc)))
    (hz : A.vc b0 = z) (hs : A.sz = size) (h1 : ag = true ∨ size = 1) (h2 : z ≠ []) (k : ∀ id h', Own h' (.arr id m size (A.all (List.replicate m b0)) :: rs) → X E (.seq (.region os false) rest) ⟨TL n (upd f d (.sln id 0 m size ag)), h'⟩ Q) :
    X E (.seq (.region (⟨d, .mkSlice ag z bytes x y, none, af⟩ :: os) false) rest) ⟨TL n f, h⟩ Q := by
  subst hs
  unfold mkn at hm
  split at hm
  case isFalse => cases hm
  rename_i hc
  cases hm
  obtain ⟨rfl, c2, c3, c4⟩ := hc
  have hl : z.length = A.sz := by rw [← hz, A.len]
  have hall : (List.replicate l.toNat z).flatten = A.all (List.replicate l.toNat b0) := by
    subst hz; rw [AE.all, List.flatMap_def, List.map_replicate]
  refine X.stepQ (vop := sub (Fk.mk (f := f)) (.mkSlice ag z bytes x y)) (v := .sln h.length 0 l.toNat A.sz ag) (h' := h ++ [.blk (A.all (List.replicate l.toNat b0)) none]) hb rfl ?_ (k _ _ (ho.pushArr (by rw [AE.all_len, List.length_replicate])))
  simp only [sub, opA, e1, e2, natOf?, if_pos c2]
  rw [if_pos ⟨by trivial, c3, c4, by rw [hl]; exact h1, fun h => absurd h h2⟩, hl, hall]
/-- A place in one. -/
theorem atArr_op (i : Nat) {j : Int} {kk : IntKind} {y0 : β} (ho : Own h rs) (hk : rs[i]? = some (.arr id m A.sz (A.all xs))) (hy : idx xs j = some y0) (hp : 0 < A.sz) (hz : A.sz = size) (e : St.eval [] (subO (Fk.mk (f := f)) x) = some (.sln id off m size ag)) (e2 : St.eval [] (subO (Fk.mk (f := f)) y) = some (.pv (.int kk j))) :
    opA E (limP E) (limR E) [] h (sub (Fk.mk (f := f)) (.iaddrSl size x y)) = some (.ptr id (off + j.toNat * size), h) := by
  subst hz
  obtain ⟨_, hl⟩ := ho.at hk
  rw [AE.all_len] at hl
  have hm : xs.length = m := Nat.eq_of_mul_eq_mul_right hp hl
  unfold idx at hy
  split at hy
  · rename_i h0
    have hlt := (List.getElem?_eq_some_iff.1 hy).1
    simp only [sub, opA, e, e2, iaddrSlA, natOf?, if_pos h0]
    rw [if_pos ⟨by omega, trivial⟩]; rfl
  · cases hy
theorem loadArr_op (i : Nat) {j : Int} {y0 : β} {o : Nat} (ho : Own h rs) (hk : rs[i]? = some (.arr id m A.sz (A.all xs))) (hy : idx xs j = some y0) (hle : Nat.ble (o + size) A.sz = true) (e : St.eval [] (subO (Fk.mk (f := f)) a) = some (.ptr id off)) (ho2 : off = j.toNat * A.sz + o) (hv : cutV ag (A.vc y0) o size = some v) :
    opA E (limP E) (limR E) [] h (sub (Fk.mk (f := f)) (.load ag size a)) = some (v, h) := by
  obtain ⟨⟨t, ht⟩, _⟩ := ho.at hk
  unfold idx at hy
  split at hy
  · have hc := A.all_cut (xs := xs) (off := o) (size := size) hy (Nat.le_of_ble_eq_true hle)
    have hl : loadA h ag size (.ptr id off) = some v := by
      simp only [loadA, ht, ho2, hc]
      unfold cutV at hv
      split at hv
      · rename_i c' e; rw [e]; exact hv
      · cases hv
    simp only [sub, opA, e, hl]; rfl
  · cases hy
theorem Own.setArr {t : Option TypeId} {cs' : List V} {k sz m : Nat} (ho : Own h rs) (hk : rs[k]? = some (.arr id m sz c)) (hl : cs'.length = c.length) : Own (h.set id (.blk cs' t)) (rs.set k (.arr id m sz cs')) := by
  obtain ⟨⟨t', ht⟩, h2⟩ := ho.at hk
  have hlt := ent_le ht (by simp)
  exact ho.turn hk rfl (by simp) (fun i hi => ent_set_ne' fun e => hi (by simp [Res.ids, e])) ⟨⟨t, ent_set_eq hlt⟩, by rw [hl, h2]⟩
theorem storeArr_ok {i : Nat} {j : Int} {y0 y1 : β} {o : Nat} (ho : Own h rs) (hk : rs[i]? = some (.arr id m A.sz (A.all xs))) (hy : idx xs j = some y0) (hle : Nat.ble (o + size) A.sz = true) (ho2 : off = j.toNat * A.sz + o) (hs : storeV (A.vc y0) o size w = some (A.vc y1)) :
    ∃ t, ent h id = .blk (A.all xs) t ∧ (w.cells.length = size ∧ off + size ≤ (A.all xs).length ∧ w.cells.all V.isCell = true) ∧ splice (A.all xs) off w.cells = A.all (xs.set j.toNat y1) := by
  obtain ⟨⟨t, ht⟩, hl⟩ := ho.at hk
  unfold idx at hy
  split at hy
  · unfold storeV at hs
    split at hs
    · rename_i hc
      have hsp := A.all_splice (xs := xs) (off := o) (n := w.cells) hy (by rw [hc.1]; exact Nat.le_of_ble_eq_true hle) (Option.some.inj hs)
      have hlt := (List.getElem?_eq_some_iff.1 hy).1
      refine ⟨t, ht, ⟨hc.1, ?_, hc.2.2⟩, by rw [ho2]; exact hsp⟩
      rw [AE.all_len, ho2]
      have h2 := Nat.mul_le_mul_right A.sz (show j.toNat + 1 ≤ xs.length from hlt)
      rw [Nat.succ_mul] at h2
      have := Nat.le_of_ble_eq_true hle
      omega
    · cases hs
  · cases hy
theorem X.storeArr (i : Nat) {j : Int} {y0 : β} (y1 : β) {o : Nat} (ho : Own h rs) (hk : rs[i]? = some (.arr id m A.sz (A.all xs))) (hy : idx xs j = some y0) (hle : Nat.ble (o + size) A.sz = true) (hb : below n (a.reads ++ x.reads) = true) (e : St.eval [] (subO (Fk.mk (f := f)) a) = some (.ptr id off)) (ho2 : off = j.toNat * A.sz + o) (e2 : St.eval [] (subO (Fk.mk (f := f)) x) = some w)
    (hs : storeV (A.vc y0) o size w = some (A.vc y1)) (hr : rs.set i (.arr id m A.sz (A.all (xs.set j.toNat y1))) = rs') (k : ∀ h', Own h' rs' → X E (.seq (.region os false) rest) ⟨TL n (upd f d (.tup [])), h'⟩ Q) : X E (.seq (.region (⟨d, .store size a x, none, af⟩ :: os) false) rest) ⟨TL n f, h⟩ Q := by
  subst hr
  obtain ⟨t, ht, hc, hsp⟩ := storeArr_ok ho hk hy hle ho2 hs
  exact X.stepQ (vop := sub (Fk.mk (f := f)) (.store size a x)) (h' := h.set id (.blk (A.all (xs.set j.toNat y1)) t)) (v := .tup []) hb rfl (by simp only [sub, opA, e, e2, storeA, ht, if_pos hc, hsp]; rfl) (k _ (ho.setArr hk (by rw [AE.all_len, AE.all_len, List.length_set])))
theorem XS.storeArr {ab : List (List Nat × List Nat)} {mm : List (List Nat)} (i : Nat) (l0 l1 : List Nat) {j : Int} {y0 : β} (y1 : β) {o : Nat} (ho : Own h rs) (hk : rs[i]? = some (.arr id m A.sz (A.all xs))) (hy : idx xs j = some y0) (hle : Nat.ble (o + size) A.sz = true) (hb : below n (a.reads ++ x.reads) = true) (e : St.eval [] (subO (Fk.mk (f := f)) a) = some (.ptr id off)) (ho2 : off = j.toNat * A.sz + o) (e2 : St.eval [] (subO (Fk.mk (f := f)) x) = some w)
    (hs : storeV (A.vc y0) o size w = some (A.vc y1)) (hr : rs.set i (.arr id m A.sz (A.all (xs.set j.toNat y1))) = rs') (hF : id ∈ lab mm l0) (hl : l1 = l0 ++ [mm.length]) (k : ∀ h', Own h' rs' → XS E os ab (mm ++ [[]]) rest ⟨TL n (upd f d (.tup [])), h'⟩ Q) :
    XS E (⟨d, .store size a x, none, af⟩ :: os) ((l1, l1) :: ab) mm rest ⟨TL n f, h⟩ Q := by
  subst hr hl
  obtain ⟨t, ht, hc, hsp⟩ := storeArr_ok ho hk hy hle ho2 hs
  have hm : ent (mask [id] h) id = .blk (A.all xs) t := by rw [ent_mask, if_pos (by simp)]; exact ht
  refine XS.loud l0 (F := [id]) (h1 := (mask [id] h).set id (.blk (A.all (xs.set j.toNat y1)) t)) (v := .tup []) hb (by show oIds [] (subO (Fk.mk (f := f)) a) = [id]; simp only [oIds, e, V.ids]) (fun x hx => by rw [List.mem_singleton.1 hx]; exact hF) (by simp only [sub, opA, e, e2, storeA, hm, if_pos hc, hsp]; rfl) (by simp [length_mask]) (merge_mask_set (by simp)) ?_
  have hr : List.range' h.length (((mask [id] h).set id (Ent.blk (A.all (xs.set j.toNat y1)) t)).length - h.length) = [] := by simp [length_mask]
  rw [hr]
  exact k _ (ho.setArr hk (by rw [AE.all_len, AE.all_len, List.length_set]))
/-- What elements are when they are frozen. -/
structure AE.Snap (A : AE β) (α : Type) (T : TyE α) (g : β → α) : Prop where
  sz : A.sz = T.sz
  wk : ∀ b, Wk1L (A.vc b) (T.cells (g b))
theorem AE.snap_opt {α : Type} (T : TyE α) {z : List V} {hz : z.length = T.sz} {z0 : α} (h0 : Wk1L z (T.cells z0)) : (AE.opt T z hz).Snap α T (fun o => o.getD z0) := ⟨rfl, fun b => by cases b with | none => exact h0 | some a => exact Wk1L.pvs _⟩
theorem AE.all_wk {α : Type} {T : TyE α} {g : β → α} (S : A.Snap α T g) : ∀ xs : List β, Wk1L (A.all xs) ((xs.map g).flatMap T.cells)
  | [] => trivial
  | x :: xs => by
    simp only [AE.all, List.flatMap_cons, List.map_cons]
    exact Wk1L.app (S.wk x) (AE.all_wk S xs)
theorem chunks_cells {α : Type} (T : TyE α) : ∀ ys : List α, (chunks T.sz ys.length (ys.flatMap T.cells)).map (mkPV T.ag) = ys.map T.enc
  | [] => rfl
  | y :: ys => by
    have ih := chunks_cells T ys
    have hl := T.len y
    simp only [List.length_cons, chunks, List.flatMap_cons, List.map_cons]
    rw [← hl, List.take_left, List.drop_left, hl, ih]
    congr 1
    exact (T.he y).symm
theorem snapArr {α : Type} {T : TyE α} {g : β → α} (S : A.Snap α T g) {i : Nat} (ho : Own h rs) (hk : rs[i]? = some (.arr id m A.sz (A.all xs))) (hp : 0 < A.sz) (hag : T.ag = ag) {k : Nat} (hkk : 3 ≤ k) :
    snap k (.sln id 0 m A.sz ag) h = some (.sl ((xs.map g).map T.enc), h.set id (.frz ((xs.map g).flatMap T.cells))) := by
  obtain ⟨⟨t, ht⟩, hl⟩ := ho.at hk
  rw [AE.all_len] at hl
  have hm : xs.length = m := Nat.eq_of_mul_eq_mul_right hp hl
  obtain ⟨k, rfl⟩ : ∃ j, k = j + 1 := ⟨k - 1, by omega⟩
  subst hag
  have hone : (T.ag || A.sz == 1) = true := by rw [S.sz]; rcases T.one with h | h <;> simp [h]
  have hlen : ((xs.map g).flatMap T.cells).length = m * A.sz := by
    have := (AE.of T).all_len (xs.map g)
    simp only [AE.all, AE.of, List.length_map] at this
    have e : ((xs.map g).flatMap fun a => (T.cells a).map V.pv).length = ((xs.map g).flatMap T.cells).length := by
      simp only [List.length_flatMap, List.length_map]
    rw [e] at this
    rw [this, hm, S.sz]
  have hcut : cut ((xs.map g).flatMap T.cells) 0 (m * A.sz) = some ((xs.map g).flatMap T.cells) := by
    unfold cut; rw [if_pos (by omega), List.drop_zero, List.take_of_length_le (by omega)]
  have hch : (chunks A.sz m ((xs.map g).flatMap T.cells)).map (mkPV T.ag) = (xs.map g).map T.enc := by
    have := chunks_cells T (xs.map g)
    rw [List.length_map, hm] at this
    rw [S.sz]; exact this
  rw [snap_sln, ht]
  simp only [(AE.all_wk S xs).snap (n := k) (by omega), hcut, hone, if_true, hch]
  simp
/-- A pure call that is handed one. -/
theorem X.callA {α : Type} {T : TyE α} {g : β → α} (S : A.Snap α T g) {gf : FuncId} {args : List AOperand} {qs : List PV} (i : Nat) (ho : Own h rs) (hk : rs[i]? = some (.arr id m A.sz (A.all xs))) (hp : 0 < A.sz) (hag : T.ag = ag) (hl : limP E gf [.sl ((xs.map g).map T.enc)] = some qs) (hr : E.raw gf = false) (hb : below n (readsL args) = true)
    (e : evals [] (subL (Fk.mk (f := f)) args) = some [.sln id 0 m A.sz ag]) (hrs : rs.eraseIdx i = rs') (k : ∀ h', Own h' rs' → X E (.seq (.region os false) rest) ⟨TL n (upd f d (mkRes qs)), h'⟩ Q) : X E (.seq (.region (⟨d, .call gf args, none, af⟩ :: os) false) rest) ⟨TL n f, h⟩ Q := by
  subst hrs
  have hs := snapArr S ho hk hp hag (k := 1000) (by decide)
  have ho2 : Own (h.set id (.frz ((xs.map g).flatMap T.cells))) (rs.eraseIdx i) := by
    have h1 := ho.ahead i hk
    refine h1.tail.frame (by simp) fun j hj => ent_set_ne' fun e => ?_
    subst e
    have := (List.nodup_append.1 (show (Res.ids (.arr id m A.sz (A.all xs)) ++ idsR (rs.eraseIdx i)).Nodup by simpa [idsR, List.flatMap_cons] using h1.nodup)).2.2 id (by simp [Res.ids]) id hj
    exact this rfl
  refine X.stepQ (vop := sub (Fk.mk (f := f)) (.call gf args)) (h' := h.set id (.frz ((xs.map g).flatMap T.cells))) hb rfl ?_ (k _ ho2)
  simp only [sub, opA, e, Ab.callA, hr, Bool.false_eq_true, if_false, snapL, snapFuel, snapLF, hs, hl]
theorem snapLF_app {k : Nat} : ∀ {vs us : List V} {ps qs : List PV} {h h1 h2 : Heap}, snapLF (snap k) vs h = some (ps, h1) → snapLF (snap k) us h1 = some (qs, h2) → snapLF (snap k) (vs ++ us) h = some (ps ++ qs, h2)
  | [], us, ps, qs, h, h1, h2, e1, e2 => by simp only [snapLF] at e1; cases e1; exact e2
  | v :: vs, us, ps, qs, h, h1, h2, e1, e2 => by
    simp only [snapLF, List.cons_append] at e1 ⊢
    split at e1
    · rename_i p h3 e3
      split at e1
      · rename_i ps' h4 e4
        cases e1
        rw [snapLF_app e4 e2]; rfl
      · cases e1
    · cases e1
theorem pureRes_aggArr {α : Type} {T : TyE α} {g : β → α} (S : A.Snap α T g) {vs us : List V} {ps qs : List PV} (i : Nat) (ho : Own h rs) (hk : rs[i]? = some (.arr id m A.sz (A.all xs))) (hp : 0 < A.sz) (hag : T.ag = ag) (h1 : Wk1L vs ps) (h2 : Wk1L us qs) :
    pureRes (.agg (vs ++ (.sln id 0 m A.sz ag :: us))) h = some [.agg (ps ++ (.sl ((xs.map g).map T.enc) :: qs))] := by
  have hs := snapArr S ho hk hp hag (k := 999) (by decide)
  have hl : snapLF (snap 999) (vs ++ (.sln id 0 m A.sz ag :: us)) h = some (ps ++ (.sl ((xs.map g).map T.enc) :: qs), h.set id (.frz ((xs.map g).flatMap T.cells))) := by
    refine snapLF_app (h1.snap (by decide)) ?_
    simp only [snapLF, hs, h2.snap (n := 999) (by decide)]
  have : snap 1000 (.agg (vs ++ (.sln id 0 m A.sz ag :: us))) h = some (.agg (ps ++ (.sl ((xs.map g).map T.enc) :: qs)), h.set id (.frz ((xs.map g).flatMap T.cells))) := by
    rw [snap_agg, hl]
  simp only [pureRes, snapFuel, this, Option.map_some]
end
end Ab

-- Sets byte by byte, by a place that is computed; small arrays likewise.
namespace Ab
open Go
def setBit (s : BitVec 256) (i : Nat) (b : Bool) : BitVec 256 := if b then s ||| (1#256 <<< i) else s &&& ~~~(1#256 <<< i)
theorem setBit_get (s : BitVec 256) (i : Nat) (b : Bool) (j : Nat) (hj : j < 256) : (setBit s i b).getLsbD j = if i = j then b else s.getLsbD j := by
  unfold setBit
  have h1 : ∀ k, (1#256 <<< i).getLsbD k = (decide (k < 256) && decide (i = k)) := by
    intro k
    rw [BitVec.getLsbD_shiftLeft, BitVec.getLsbD_one, Bool.eq_iff_iff]
    simp only [Bool.and_eq_true, Bool.not_eq_true', decide_eq_true_eq, decide_eq_false_iff_not]
    omega
  cases b with
  | true =>
    rw [if_pos rfl, BitVec.getLsbD_or, h1]
    by_cases h : i = j <;> simp [h, hj]
  | false =>
    rw [if_neg (by simp), BitVec.getLsbD_and, BitVec.getLsbD_not, h1]
    by_cases h : i = j <;> simp [h, hj]
theorem setBit_bits (s : BitVec 256) (i : Nat) (b : Bool) : bits256 (setBit s i b) = (bits256 s).set i (.bool b) := by
  refine List.ext_getElem? fun j => ?_
  rw [List.getElem?_set]
  simp only [bits256, List.getElem?_map]
  rcases Nat.lt_or_ge j 256 with hj | hj
  · rw [List.getElem?_range hj]
    simp only [Option.map_some, setBit_get s i b j hj]
    by_cases h : i = j
    · subst h; simp [hj]
    · rw [if_neg h, if_neg h]
  · rw [List.getElem?_eq_none (by simpa using hj)]
    by_cases h : i = j
    · subst h; simp [hj]
    · rw [if_neg h]; rfl
/-- A place in a set. -/
def at256 (i : Int) : Option Nat := if 0 ≤ i ∧ i < 256 then some i.toNat else none
theorem at256_ok {i : Int} {k : Nat} (h : at256 i = some k) : 0 ≤ i ∧ i.toNat = k ∧ k < 256 := by
  unfold at256 at h
  split at h
  · cases h; omega
  · cases h
theorem bT' {α : Type} {c : Bool} {a b : Option α} {o : α} (hc : c = true) (h : (bif c then a else b) = some o) : a = some o := by subst hc; exact h
theorem bF' {α : Type} {c : Bool} {a b : Option α} {o : α} (hc : c = false) (h : (bif c then a else b) = some o) : b = some o := by subst hc; exact h
section
variable {E : Env} {p : FuncId → List PV → Option (List PV)} {r : FuncId → List V → Heap → Option (V × Heap)} {n : Nat} {f : Nat → V} {h : Heap} {rs rs' : List Res} {id off size k : Nat} {v w u : V} {ag : Bool} {a x y : AOperand} {A C : List V} {s : BitVec 256} {i : Int} {kk : IntKind} {ps : List PV}
theorem iaddrB_op (hi : at256 i = some k) (e : St.eval [] (subO (Fk.mk (f := f)) x) = some (.ptr id off)) (e2 : St.eval [] (subO (Fk.mk (f := f)) y) = some (.pv (.int kk i))) : opA E p r [] h (sub (Fk.mk (f := f)) (.iaddrArr 256 1 x y)) = some (.ptr id (off + k * 1), h) := by
  obtain ⟨h0, h1, h2⟩ := at256_ok hi
  subst h1
  simp only [sub, opA, e, e2, iaddrArrA, natOf?, if_pos h0, if_pos h2, faddrA]; rfl
theorem splice_bit (b : Bool) (hk : k < 256) : splice ((bits256 s).map V.pv) k [.pv (.bool b)] = (bits256 (setBit s k b)).map V.pv := by
  rw [setBit_bits, List.map_set]
  unfold splice
  rw [List.set_eq_take_append_cons_drop, if_pos (by rw [bitsV_len]; exact hk), List.append_assoc]; rfl
theorem storeV_bit0 {b : Bool} (hi : at256 i = some k) : storeV ((bits256 s).map V.pv) (0 + k * 1) 1 (.pv (.bool b)) = some ((bits256 (setBit s k b)).map V.pv) := by
  obtain ⟨_, _, h2⟩ := at256_ok hi
  unfold storeV
  rw [if_pos ⟨rfl, by rw [bitsV_len]; omega, rfl⟩, Nat.mul_one, Nat.zero_add]
  have : (V.cells (.pv (.bool b))) = [.pv (.bool b)] := rfl
  rw [this, splice_bit b h2]
theorem cutV_bits : cutV true ((bits256 s).map V.pv) 0 256 = some (.pv (.agg (bits256 s))) := by
  unfold cutV; rw [cut_all bitsV_len]; simp only [mkVal, mkAgg_pure, if_true]
theorem storeV_bits {t : BitVec 256} : storeV ((bits256 s).map V.pv) 0 256 (.pv (.agg (bits256 t))) = some ((bits256 t).map V.pv) := storeV_all rfl bitsV_len bitsV_len bits_all
theorem zB_alone {h : Heap} {rs : List Res} {id : Nat} (ho : Own h (.blk id (List.replicate 256 (V.pv (.bool false))) :: rs)) : Own h (.blk id ((bits256 0#256).map V.pv) :: rs) := by rw [← zB_eq]; exact ho
theorem zero256_op : opA E p r [] h (.build (List.replicate 256 (V.pv (.bool false))) []) = some (.pv (.agg (bits256 0#256)), h) := by
  have : (fillA (List.replicate 256 (V.pv (.bool false))) []) = some ((bits256 0#256).map V.pv) := by rw [zB_eq]; rfl
  exact build_op (E := E) (p := p) (r := r) (h := h) (f := fun _ => default) (zero := List.replicate 256 (V.pv (.bool false))) (parts := []) (vs := []) (ls := []) rfl rfl this (mkAgg_pure _)
/-- A place in a small array. -/
theorem iaddrK_op (j len sz : Nat) (hi : i = (j : Int)) (hj : Nat.blt j len = true) (e : St.eval [] (subO (Fk.mk (f := f)) x) = some (.ptr id off)) (e2 : St.eval [] (subO (Fk.mk (f := f)) y) = some (.pv (.int kk i))) : opA E p r [] h (sub (Fk.mk (f := f)) (.iaddrArr len sz x y)) = some (.ptr id (off + j * sz), h) := by
  subst hi
  have hj' : j < len := by simpa using hj
  simp only [sub, opA, e, e2, iaddrArrA, natOf?, if_pos (Int.natCast_nonneg j), Int.toNat_natCast, if_pos hj', faddrA]; rfl
/-- Shifts. -/
def shrI (K : IntKind) (a b : Int) : Option Int := if b < 0 then none else some (a.fdiv (2 ^ min b.toNat K.bits))
theorem shr_op {a b z : Int} {K : IntKind} (hz : shrI K a b = some z) (e : St.eval [] (subO (Fk.mk (f := f)) x) = some (.pv (.int K a))) (e2 : St.eval [] (subO (Fk.mk (f := f)) y) = some (.pv (.int kk b))) : opA E p r [] h (sub (Fk.mk (f := f)) (.bin .shr .no x y)) = some (.pv (.int K z), h) := by
  unfold shrI at hz
  split at hz
  · cases hz
  · rename_i hb; cases hz; simp only [sub, opA, e, e2, binA, intBin, if_neg hb]; rfl
end
end Ab
