/- Coded cores as plain data: alike in all but their choices; each said once. No program in sight. -/
namespace Cds

inductive Cd where
  | mk (kind : Int) (bits : List UInt8) (s0 s1 s2 s3 : Int) (l : List Cd)

def Cd.kind : Cd → Int | .mk k _ _ _ _ _ _ => k
def Cd.bits : Cd → List UInt8 | .mk _ b _ _ _ _ _ => b
def Cd.l : Cd → List Cd | .mk _ _ _ _ _ _ l => l

/-- Without choices. -/
def strip : Cd → Cd
  | .mk k _ s0 s1 s2 s3 l => .mk k [] s0 s1 s2 s3 (stripL l)
where
  stripL : List Cd → List Cd
  | [] => []
  | x :: xs => strip x :: stripL xs

theorem stripL_map : ∀ l, strip.stripL l = l.map strip
  | [] => rfl
  | x :: l => by simp [strip.stripL, stripL_map l]

open Classical in
/-- Alike in all but their choices. -/
noncomputable def same (a b : Cd) : Bool := decide (strip a = strip b)

theorem same_iff {a b : Cd} : same a b = true ↔ strip a = strip b := by simp [same]
theorem same_refl (a : Cd) : same a a = true := by simp [same]
theorem same_symm {a b : Cd} (h : same a b = true) : same b a = true := by rw [same_iff] at *; exact h.symm
theorem same_comm (a b : Cd) : same a b = same b a := by
  rw [Bool.eq_iff_iff]; exact ⟨same_symm, same_symm⟩

theorem snocInd {α : Type} {p : List α → Prop} (h0 : p []) (h1 : ∀ l x, p l → p (l ++ [x])) (l : List α) : p l := by
  have : ∀ (r : List α), p r.reverse := by
    intro r
    induction r with
    | nil => exact h0
    | cons x r ih => rw [List.reverse_cons]; exact h1 _ _ ih
  have := this l.reverse
  rwa [List.reverse_reverse] at this

/-- Whether one like it is among some. -/
noncomputable def among (x : Cd) (l : List Cd) : Bool := l.any fun y => same x y

noncomputable def once1 (out : List Cd) (x : Cd) : List Cd := if among x out = true then out else out ++ [x]
noncomputable def once (l : List Cd) : List Cd := l.foldl once1 []

theorem once_snoc (l : List Cd) (x : Cd) : once (l ++ [x]) = once1 (once l) x := by simp [once]

/-- What is among the first of each is among all. -/
theorem among_once (l : List Cd) (x : Cd) : among x (once l) = among x l := by
  refine snocInd (p := fun l => among x (once l) = among x l) rfl (fun l y ih => ?_) l
  · rw [once_snoc]
    have hl : among x (l ++ [y]) = (among x l || same x y) := by simp [among]
    rw [hl]
    unfold once1
    split
    · rename_i h
      rw [ih]
      cases hs : same x y with
      | false => simp
      | true =>
        rw [Bool.or_true]
        rw [← ih]
        simp only [among, List.any_eq_true] at h ⊢
        obtain ⟨z, hz, hz2⟩ := h
        exact ⟨z, hz, by rw [same_iff] at *; exact hs.trans hz2⟩
    · have : among x (once l ++ [y]) = (among x (once l) || same x y) := by simp [among]
      rw [this, ih]

/-- No two alike. -/
def Apart : List Cd → Prop
  | [] => True
  | x :: l => among x l = false ∧ Apart l

theorem apart_snoc {l : List Cd} {x : Cd} (h : Apart l) (hx : among x l = false) : Apart (l ++ [x]) := by
  induction l with
  | nil => exact ⟨rfl, trivial⟩
  | cons y l ih =>
    have h1 : among x l = false ∧ same x y = false := by
      simp only [among, List.any_cons, Bool.or_eq_false_iff] at hx
      exact ⟨hx.2, hx.1⟩
    refine ⟨?_, ih h.2 h1.1⟩
    have : among y (l ++ [x]) = (among y l || same y x) := by simp [among]
    show among y (l ++ [x]) = false
    rw [this, h.1, same_comm, h1.2]
    rfl

theorem once_apart (l : List Cd) : Apart (once l) := by
  refine snocInd (p := fun l => Apart (once l)) trivial (fun l y ih => ?_) l
  · rw [once_snoc]
    unfold once1
    split
    · exact ih
    · rename_i h
      exact apart_snoc ih (by simpa using h)

theorem once_of_apart (l : List Cd) (h : Apart l) : once l = l := by
  have key : ∀ (l pre : List Cd), Apart (pre ++ l) → l.foldl once1 pre = pre ++ l := by
    intro l
    induction l with
    | nil => intro pre _; simp
    | cons x l ih =>
      intro pre hp
      have hx : among x pre = false := by
        clear ih
        induction pre with
        | nil => rfl
        | cons y pre ihp =>
          obtain ⟨h1, h2⟩ := hp
          have : among y (pre ++ x :: l) = (among y pre || (same y x || among y l)) := by simp [among]
          have h1 : among y (pre ++ x :: l) = false := h1
          rw [this] at h1
          simp only [Bool.or_eq_false_iff] at h1
          simp only [among, List.any_cons, Bool.or_eq_false_iff]
          exact ⟨by rw [same_comm]; exact h1.2.1, ihp h2⟩
      rw [List.foldl_cons]
      have : once1 pre x = pre ++ [x] := by simp [once1, hx]
      rw [this, ih (pre ++ [x]) (by simpa using hp)]
      simp
  have := key l [] (by simpa using h)
  simpa [once] using this

theorem once_once (l : List Cd) : once (once l) = once l := once_of_apart _ (once_apart l)

/-- What has been said once of a beginning is a beginning of what is said once. -/
theorem once_take (l : List Cd) (i : Nat) : ∃ r, once l = once (l.take i) ++ r := by
  have key : ∀ (l out : List Cd), ∃ r, l.foldl once1 out = out ++ r := by
    intro l
    induction l with
    | nil => intro out; exact ⟨[], by simp⟩
    | cons x l ih =>
      intro out
      obtain ⟨r, h⟩ := ih (once1 out x)
      rw [List.foldl_cons, h]
      unfold once1
      split
      · exact ⟨r, rfl⟩
      · exact ⟨x :: r, by simp⟩
  obtain ⟨r, h⟩ := key (l.drop i) (once (l.take i))
  refine ⟨r, ?_⟩
  rw [← h]
  simp only [once]
  rw [← List.foldl_append, List.take_append_drop]

/-- The next one: where none ahead is like it, it stands behind those that have been said. -/
theorem once_next {l : List Cd} {i : Nat} {x : Cd} (hx : l[i]? = some x) :
    (among x (l.take i) = false → (once l)[(once (l.take i)).length]? = some x ∧ (once (l.take (i + 1))).length = (once (l.take i)).length + 1) ∧
    (among x (l.take i) = true → (once (l.take (i + 1))).length = (once (l.take i)).length) := by
  have ht : l.take (i + 1) = l.take i ++ [x] := by rw [List.take_add_one, hx]; rfl
  have hs : once (l.take (i + 1)) = once1 (once (l.take i)) x := by rw [ht, once_snoc]
  refine ⟨fun h => ?_, fun h => ?_⟩
  · have h1 : once (l.take (i + 1)) = once (l.take i) ++ [x] := by
      rw [hs]; simp [once1, among_once, h]
    obtain ⟨r, hr⟩ := once_take l (i + 1)
    refine ⟨?_, by rw [h1]; simp⟩
    rw [hr, h1]
    simp
  · rw [hs]; simp [once1, among_once, h]

end Cds
