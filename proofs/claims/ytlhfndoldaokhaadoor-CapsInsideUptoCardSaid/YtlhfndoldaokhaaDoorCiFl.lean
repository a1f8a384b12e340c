/- CiFl: steps, walks, laws: see the remarks within. -/
import Derived.Test.YtlhfndoldaokhaaDoorAbStep
import Derived.Test.YtlhfndoldaokhaaDoorCiVa
set_option linter.unusedSimpArgs false
set_option linter.unusedVariables false
-- A value's bytes: value.Kids, Flat, Len walked; slices of bytes that are made by appends, kept in the heap.
namespace Cps
open Go Ab Go.Proofs.YtlhfndoldaokhaaDoor.Mach
variable {E : Env}

theorem strideV : ∀ l : List Va, strideOk 3 (l.map encV) = true
  | [] => rfl
  | x :: l => by simp [strideOk, eV]

theorem takeV (l : List Va) : (l.map encV).take l.length = l.map encV := List.take_of_length_le (by simp)

/-- How many of a value's kids count. -/
def kidN (k : Int) (n : Nat) : Nat := if k = 3 then min 2 n else if k = 4 ∨ k = 5 ∨ k = 7 then min 1 n else if k = 6 then n else 0
def kidsV (v : Va) : List Va := v.l.take (kidN v.k v.l.length)

theorem kidN_le (k : Int) (n : Nat) : kidN k n ≤ n := by unfold kidN; repeat' split
                                                         all_goals omega

set_option maxHeartbeats 2000000 in
theorem Kids_ok (H : Has E 119 c119) (v : Va) : limP E 119 [encV v] = some [.sl ((kidsV v).map encV)] := by
  rw [eV]
  obtain ⟨k, b, l⟩ := v
  simp only [Va.k, Va.b, Va.l]
  cases h3 : (k == 3) with
  | true =>
    have h3' : k = 3 := by simpa using h3
    subst h3'
    rcases Nat.lt_or_ge l.length 2 with h | h
    · have h2 : (l.length : Int) < 2 := by omega
      have h1 : min 2 l.length = l.length := by omega
      refine H.lim (Nat.le_of_ble_eq_true rfl) (by simp; with_reducible rfl) ?_; unfold c119
      (repeat' first
    | apply X.retS
    | apply X.skipS
    | apply X.skipB
    | apply X.skipL
    | (apply X.exitS; first | apply X.here | (refine X.out (by decide) ?_; apply X.here))
    | apply X.blockS
    | (apply X.condS rfl <;> intro hp <;> first | exact absurd hp (by decide) | ((try rw [hp]); (try simp at hp)))
    | apply X.stepZ
    | (apply X.step; (focus (simp [-getElem?_pos, h2, h1, -strideOk, strideV]; with_reducible (first | rfl | exact ⟨rfl, rfl⟩))); (focus (simp; with_reducible rfl)))
    | (apply X.stepN rfl; (focus (simp; with_reducible rfl)))
    | ((first | apply X.stepGt rfl | apply X.stepGf rfl); (focus (simp; with_reducible rfl)); all_goals (intro hp; first | exact absurd hp (by decide) | ((try rw [hp]); (try simp at hp))))
    | (apply X.draw0; (focus rfl))
    | apply XD.nil
    | (apply XD.calm rfl; (focus (simp [-getElem?_pos, h2, h1, -strideOk, strideV]; with_reducible (first | rfl | exact ⟨rfl, rfl⟩))); (focus (simp; with_reducible rfl)))
    | (apply XD.call; (focus (simp; with_reducible rfl)); (focus (simp; with_reducible rfl)); (focus (simp [-getElem?_pos, h2, h1, -strideOk, strideV]; done)); (focus (simp [-getElem?_pos, h2, h1, -strideOk, strideV]; with_reducible rfl)); (focus (simp; with_reducible rfl)))
    | (apply XD.stepN rfl; (focus (simp; with_reducible rfl)))
    | ((first | apply XD.stepGt rfl | apply XD.stepGf rfl); (focus (simp; with_reducible rfl)); all_goals (intro hp; first | exact absurd hp (by decide) | ((try rw [hp]); (try simp at hp))))
    | (apply XD.loud; (focus (simp [-getElem?_pos, h2, h1, -strideOk, strideV]; with_reducible (first | rfl | exact ⟨rfl, rfl⟩))); (focus (simp; done)); (focus (simp; with_reducible rfl)); (focus (simp; with_reducible rfl))))
      all_goals ((refine Fin.mk' (by simp [resA]; with_reducible rfl) (by simp [oneOf, pureRes, snapFuel, snapL, kidsV, kidN]; with_reducible rfl) ?_); simp [kidsV, kidN, h1, Va.k, Va.l, takeV])
    · have h2 : ¬ (l.length : Int) < 2 := by omega
      have h1 : min 2 l.length = 2 := by omega
      refine H.lim (Nat.le_of_ble_eq_true rfl) (by simp; with_reducible rfl) ?_; unfold c119
      (repeat' first
    | apply X.retS
    | apply X.skipS
    | apply X.skipB
    | apply X.skipL
    | (apply X.exitS; first | apply X.here | (refine X.out (by decide) ?_; apply X.here))
    | apply X.blockS
    | (apply X.condS rfl <;> intro hp <;> first | exact absurd hp (by decide) | ((try rw [hp]); (try simp at hp)))
    | apply X.stepZ
    | (apply X.step; (focus (simp [-getElem?_pos, h2, h1, h, -strideOk, strideV]; with_reducible (first | rfl | exact ⟨rfl, rfl⟩))); (focus (simp; with_reducible rfl)))
    | (apply X.stepN rfl; (focus (simp; with_reducible rfl)))
    | ((first | apply X.stepGt rfl | apply X.stepGf rfl); (focus (simp; with_reducible rfl)); all_goals (intro hp; first | exact absurd hp (by decide) | ((try rw [hp]); (try simp at hp))))
    | (apply X.draw0; (focus rfl))
    | apply XD.nil
    | (apply XD.calm rfl; (focus (simp [-getElem?_pos, h2, h1, h, -strideOk, strideV]; with_reducible (first | rfl | exact ⟨rfl, rfl⟩))); (focus (simp; with_reducible rfl)))
    | (apply XD.call; (focus (simp; with_reducible rfl)); (focus (simp; with_reducible rfl)); (focus (simp [-getElem?_pos, h2, h1, h, -strideOk, strideV]; done)); (focus (simp [-getElem?_pos, h2, h1, h, -strideOk, strideV]; with_reducible rfl)); (focus (simp; with_reducible rfl)))
    | (apply XD.stepN rfl; (focus (simp; with_reducible rfl)))
    | ((first | apply XD.stepGt rfl | apply XD.stepGf rfl); (focus (simp; with_reducible rfl)); all_goals (intro hp; first | exact absurd hp (by decide) | ((try rw [hp]); (try simp at hp))))
    | (apply XD.loud; (focus (simp [-getElem?_pos, h2, h1, h, -strideOk, strideV]; with_reducible (first | rfl | exact ⟨rfl, rfl⟩))); (focus (simp; done)); (focus (simp; with_reducible rfl)); (focus (simp; with_reducible rfl))))
      all_goals ((refine Fin.mk' (by simp [resA]; with_reducible rfl) (by simp [oneOf, pureRes, snapFuel, snapL, kidsV, kidN]; with_reducible rfl) ?_); simp [kidsV, kidN, h1, Va.k, Va.l, takeV])
  | false =>
    have h3' : ¬ k = 3 := by simpa using h3
    cases h4 : (k == 4 || k == 5 || k == 7) with
    | true =>
      have h4' : k = 4 ∨ k = 5 ∨ k = 7 := by simpa [or_assoc] using h4
      rcases Nat.lt_or_ge l.length 1 with h | h
      · have h2 : (l.length : Int) < 1 := by omega
        have h1 : min 1 l.length = l.length := by omega
        rcases h4' with rfl | rfl | rfl <;> (
        refine H.lim (Nat.le_of_ble_eq_true rfl) (by simp; with_reducible rfl) ?_; unfold c119
        (repeat' first
    | apply X.retS
    | apply X.skipS
    | apply X.skipB
    | apply X.skipL
    | (apply X.exitS; first | apply X.here | (refine X.out (by decide) ?_; apply X.here))
    | apply X.blockS
    | (apply X.condS rfl <;> intro hp <;> first | exact absurd hp (by decide) | ((try rw [hp]); (try simp at hp)))
    | apply X.stepZ
    | (apply X.step; (focus (simp [-getElem?_pos, h2, h1, -strideOk, strideV]; with_reducible (first | rfl | exact ⟨rfl, rfl⟩))); (focus (simp; with_reducible rfl)))
    | (apply X.stepN rfl; (focus (simp; with_reducible rfl)))
    | ((first | apply X.stepGt rfl | apply X.stepGf rfl); (focus (simp; with_reducible rfl)); all_goals (intro hp; first | exact absurd hp (by decide) | ((try rw [hp]); (try simp at hp))))
    | (apply X.draw0; (focus rfl))
    | apply XD.nil
    | (apply XD.calm rfl; (focus (simp [-getElem?_pos, h2, h1, -strideOk, strideV]; with_reducible (first | rfl | exact ⟨rfl, rfl⟩))); (focus (simp; with_reducible rfl)))
    | (apply XD.call; (focus (simp; with_reducible rfl)); (focus (simp; with_reducible rfl)); (focus (simp [-getElem?_pos, h2, h1, -strideOk, strideV]; done)); (focus (simp [-getElem?_pos, h2, h1, -strideOk, strideV]; with_reducible rfl)); (focus (simp; with_reducible rfl)))
    | (apply XD.stepN rfl; (focus (simp; with_reducible rfl)))
    | ((first | apply XD.stepGt rfl | apply XD.stepGf rfl); (focus (simp; with_reducible rfl)); all_goals (intro hp; first | exact absurd hp (by decide) | ((try rw [hp]); (try simp at hp))))
    | (apply XD.loud; (focus (simp [-getElem?_pos, h2, h1, -strideOk, strideV]; with_reducible (first | rfl | exact ⟨rfl, rfl⟩))); (focus (simp; done)); (focus (simp; with_reducible rfl)); (focus (simp; with_reducible rfl))))
        all_goals ((refine Fin.mk' (by simp [resA]; with_reducible rfl) (by simp [oneOf, pureRes, snapFuel, snapL, kidsV, kidN]; with_reducible rfl) ?_); simp [kidsV, kidN, h1, Va.k, Va.l, takeV]))
      · have h2 : ¬ (l.length : Int) < 1 := by omega
        have h1 : min 1 l.length = 1 := by omega
        rcases h4' with rfl | rfl | rfl <;> (
        refine H.lim (Nat.le_of_ble_eq_true rfl) (by simp; with_reducible rfl) ?_; unfold c119
        (repeat' first
    | apply X.retS
    | apply X.skipS
    | apply X.skipB
    | apply X.skipL
    | (apply X.exitS; first | apply X.here | (refine X.out (by decide) ?_; apply X.here))
    | apply X.blockS
    | (apply X.condS rfl <;> intro hp <;> first | exact absurd hp (by decide) | ((try rw [hp]); (try simp at hp)))
    | apply X.stepZ
    | (apply X.step; (focus (simp [-getElem?_pos, h2, h1, h, -strideOk, strideV]; with_reducible (first | rfl | exact ⟨rfl, rfl⟩))); (focus (simp; with_reducible rfl)))
    | (apply X.stepN rfl; (focus (simp; with_reducible rfl)))
    | ((first | apply X.stepGt rfl | apply X.stepGf rfl); (focus (simp; with_reducible rfl)); all_goals (intro hp; first | exact absurd hp (by decide) | ((try rw [hp]); (try simp at hp))))
    | (apply X.draw0; (focus rfl))
    | apply XD.nil
    | (apply XD.calm rfl; (focus (simp [-getElem?_pos, h2, h1, h, -strideOk, strideV]; with_reducible (first | rfl | exact ⟨rfl, rfl⟩))); (focus (simp; with_reducible rfl)))
    | (apply XD.call; (focus (simp; with_reducible rfl)); (focus (simp; with_reducible rfl)); (focus (simp [-getElem?_pos, h2, h1, h, -strideOk, strideV]; done)); (focus (simp [-getElem?_pos, h2, h1, h, -strideOk, strideV]; with_reducible rfl)); (focus (simp; with_reducible rfl)))
    | (apply XD.stepN rfl; (focus (simp; with_reducible rfl)))
    | ((first | apply XD.stepGt rfl | apply XD.stepGf rfl); (focus (simp; with_reducible rfl)); all_goals (intro hp; first | exact absurd hp (by decide) | ((try rw [hp]); (try simp at hp))))
    | (apply XD.loud; (focus (simp [-getElem?_pos, h2, h1, h, -strideOk, strideV]; with_reducible (first | rfl | exact ⟨rfl, rfl⟩))); (focus (simp; done)); (focus (simp; with_reducible rfl)); (focus (simp; with_reducible rfl))))
        all_goals ((refine Fin.mk' (by simp [resA]; with_reducible rfl) (by simp [oneOf, pureRes, snapFuel, snapL, kidsV, kidN]; with_reducible rfl) ?_); simp [kidsV, kidN, h1, Va.k, Va.l, takeV]))
    | false =>
      have h4' : ¬ k = 4 ∧ ¬ k = 5 ∧ ¬ k = 7 := by simpa [and_assoc] using h4
      obtain ⟨e4, e5, e7⟩ := h4'
      cases h6 : (k == 6) with
      | true =>
        have h6' : k = 6 := by simpa using h6
        subst h6'
        refine H.lim (Nat.le_of_ble_eq_true rfl) (by simp; with_reducible rfl) ?_; unfold c119
        (repeat' first
    | apply X.retS
    | apply X.skipS
    | apply X.skipB
    | apply X.skipL
    | (apply X.exitS; first | apply X.here | (refine X.out (by decide) ?_; apply X.here))
    | apply X.blockS
    | (apply X.condS rfl <;> intro hp <;> first | exact absurd hp (by decide) | ((try rw [hp]); (try simp at hp)))
    | apply X.stepZ
    | (apply X.step; (focus (simp [-getElem?_pos, -strideOk, strideV]; with_reducible (first | rfl | exact ⟨rfl, rfl⟩))); (focus (simp; with_reducible rfl)))
    | (apply X.stepN rfl; (focus (simp; with_reducible rfl)))
    | ((first | apply X.stepGt rfl | apply X.stepGf rfl); (focus (simp; with_reducible rfl)); all_goals (intro hp; first | exact absurd hp (by decide) | ((try rw [hp]); (try simp at hp))))
    | (apply X.draw0; (focus rfl))
    | apply XD.nil
    | (apply XD.calm rfl; (focus (simp [-getElem?_pos, -strideOk, strideV]; with_reducible (first | rfl | exact ⟨rfl, rfl⟩))); (focus (simp; with_reducible rfl)))
    | (apply XD.call; (focus (simp; with_reducible rfl)); (focus (simp; with_reducible rfl)); (focus (simp [-getElem?_pos, -strideOk, strideV]; done)); (focus (simp [-getElem?_pos, -strideOk, strideV]; with_reducible rfl)); (focus (simp; with_reducible rfl)))
    | (apply XD.stepN rfl; (focus (simp; with_reducible rfl)))
    | ((first | apply XD.stepGt rfl | apply XD.stepGf rfl); (focus (simp; with_reducible rfl)); all_goals (intro hp; first | exact absurd hp (by decide) | ((try rw [hp]); (try simp at hp))))
    | (apply XD.loud; (focus (simp [-getElem?_pos, -strideOk, strideV]; with_reducible (first | rfl | exact ⟨rfl, rfl⟩))); (focus (simp; done)); (focus (simp; with_reducible rfl)); (focus (simp; with_reducible rfl))))
        all_goals ((refine Fin.mk' (by simp [resA]; with_reducible rfl) (by simp [oneOf, pureRes, snapFuel, snapL, kidsV, kidN]; with_reducible rfl) ?_); simp [kidsV, kidN, Va.k, Va.l, takeV])
      | false =>
        have h6' : ¬ k = 6 := by simpa using h6
        have h2 : ¬ (l.length : Int) < 0 := by omega
        have b4 : (k == 4) = false := by simpa using e4
        have b5 : (k == 5) = false := by simpa using e5
        have b7 : (k == 7) = false := by simpa using e7
        refine H.lim (Nat.le_of_ble_eq_true rfl) (by simp; with_reducible rfl) ?_; unfold c119
        (repeat' first
    | apply X.retS
    | apply X.skipS
    | apply X.skipB
    | apply X.skipL
    | (apply X.exitS; first | apply X.here | (refine X.out (by decide) ?_; apply X.here))
    | apply X.blockS
    | (apply X.condS rfl <;> intro hp <;> first | exact absurd hp (by decide) | ((try rw [hp]); (try simp at hp)))
    | apply X.stepZ
    | (apply X.step; (focus (simp [-getElem?_pos, h3, h6, b4, b5, b7, h2, -strideOk, strideV]; with_reducible (first | rfl | exact ⟨rfl, rfl⟩))); (focus (simp; with_reducible rfl)))
    | (apply X.stepN rfl; (focus (simp; with_reducible rfl)))
    | ((first | apply X.stepGt rfl | apply X.stepGf rfl); (focus (simp; with_reducible rfl)); all_goals (intro hp; first | exact absurd hp (by decide) | ((try rw [hp]); (try simp at hp))))
    | (apply X.draw0; (focus rfl))
    | apply XD.nil
    | (apply XD.calm rfl; (focus (simp [-getElem?_pos, h3, h6, b4, b5, b7, h2, -strideOk, strideV]; with_reducible (first | rfl | exact ⟨rfl, rfl⟩))); (focus (simp; with_reducible rfl)))
    | (apply XD.call; (focus (simp; with_reducible rfl)); (focus (simp; with_reducible rfl)); (focus (simp [-getElem?_pos, h3, h6, b4, b5, b7, h2, -strideOk, strideV]; done)); (focus (simp [-getElem?_pos, h3, h6, b4, b5, b7, h2, -strideOk, strideV]; with_reducible rfl)); (focus (simp; with_reducible rfl)))
    | (apply XD.stepN rfl; (focus (simp; with_reducible rfl)))
    | ((first | apply XD.stepGt rfl | apply XD.stepGf rfl); (focus (simp; with_reducible rfl)); all_goals (intro hp; first | exact absurd hp (by decide) | ((try rw [hp]); (try simp at hp))))
    | (apply XD.loud; (focus (simp [-getElem?_pos, h3, h6, b4, b5, b7, h2, -strideOk, strideV]; with_reducible (first | rfl | exact ⟨rfl, rfl⟩))); (focus (simp; done)); (focus (simp; with_reducible rfl)); (focus (simp; with_reducible rfl))))
        all_goals ((refine Fin.mk' (by simp [resA]; with_reducible rfl) (by simp [oneOf, pureRes, snapFuel, snapL, kidsV, kidN]; with_reducible rfl) ?_); simp [kidsV, kidN, h3', h6', e4, e5, e7, Va.k, Va.l])

/-- A slice that is made by appends and kept in the heap, of elements of one cell. -/
def Buf (h : Heap) (t : TypeId) (v : V) (es : List PV) : Prop := (es = [] ∧ v = .nils) ∨ (es ≠ [] ∧ ∃ id, v = .sln id 0 es.length 1 false ∧ ent h id = .blk (es.map .pv) (some t))
def idOf : V → Option Nat
  | .sln id _ _ _ _ => some id
  | _ => none
/-- What is left of a heap where such a slice has grown. -/
structure Fr (h : Heap) (v : V) (h' : Heap) (v' : V) : Prop where
  len : h.length ≤ h'.length
  old : ∀ i, i < h.length → idOf v ≠ some i → ent h' i = ent h i
  id : ∀ i, idOf v' = some i → idOf v = some i ∨ h.length ≤ i
def killB (h : Heap) (v : V) : Heap := match idOf v with
  | some id => h.set id .dead
  | none => h

section
variable {h h' h2 l : Heap} {t : TypeId} {v v' v2 : V} {es : List PV}
theorem Fr.refl : Fr h v h v := ⟨Nat.le_refl _, fun _ _ _ => rfl, fun _ hi => .inl hi⟩
theorem Fr.trans (a : Fr h v h' v') (b : Fr h' v' h2 v2) : Fr h v h2 v2 := by
  refine ⟨Nat.le_trans a.len b.len, fun i hi hv => ?_, fun i hi => ?_⟩
  · rw [b.old i (Nat.lt_of_lt_of_le hi a.len) fun hh => (a.id i hh).elim hv (by omega), a.old i hi hv]
  · rcases b.id i hi with h1 | h1
    · exact a.id i h1
    · exact .inr (Nat.le_trans a.len h1)
theorem Fr.more (a : Fr h v h' v') : Fr h v (h' ++ l) v' := by
  refine ⟨by have := a.len; simp; omega, fun i hi hv => ?_, a.id⟩
  rw [← a.old i hi hv]
  have : i < h'.length := Nat.lt_of_lt_of_le hi a.len
  simp [ent, List.getElem?_append_left this]
theorem Fr.less (a : Fr (h ++ l) v h' v') : Fr h v h' v' := by
  refine ⟨by have := a.len; simp at this; omega, fun i hi hv => ?_, fun i hi => ?_⟩
  · rw [a.old i (by simp; omega) hv]
    simp [ent, List.getElem?_append_left hi]
  · rcases a.id i hi with h1 | h1
    · exact .inl h1
    · simp at h1; exact .inr (by omega)
theorem Buf.nil : Buf h t .nils [] := .inl ⟨rfl, rfl⟩
theorem Buf.more (b : Buf h t v es) : Buf (h ++ l) t v es := by
  rcases b with b | ⟨h1, id, h2, h3⟩
  · exact .inl b
  · exact .inr ⟨h1, id, h2, ent_app h3 (by simp)⟩
theorem Buf.lt (b : Buf h t v es) {i : Nat} (hi : idOf v = some i) : i < h.length := by
  rcases b with ⟨_, rfl⟩ | ⟨_, id, rfl, h3⟩
  · cases hi
  · cases hi
    rcases Nat.lt_or_ge i h.length with h1 | h1
    · exact h1
    · simp [ent, List.getElem?_eq_none h1] at h3
theorem Buf.pures (b : Buf h t v es) {vs : List V} : pures (v :: vs) = none := by
  rcases b with ⟨_, rfl⟩ | ⟨_, id, rfl, _⟩ <;> simp [Ab.pures]
theorem Buf.lenA (b : Buf h t v es) : lenA v = some es.length := by
  rcases b with ⟨rfl, rfl⟩ | ⟨_, id, rfl, _⟩ <;> simp [Ab.lenA]
theorem killB_len : (killB h v).length = h.length := by unfold killB; split <;> simp
theorem killB_app (b : Buf h t v es) : killB (h ++ l) v = killB h v ++ l := by
  unfold killB
  cases hi : idOf v with
  | none => rfl
  | some i => exact List.set_append_left _ _ (b.lt hi)
/-- One more. -/
theorem Buf.app (b : Buf h t v es) {bytes : Nat} {k : IntKind} {i : Int} (hb : (es.length + 1) * bytes ≤ 35184372088832) :
    appendA h false true 1 bytes t v 1 [.pv (.int k i)] = some (.sln h.length 0 (es.length + 1) 1 false, killB h v ++ [.blk ((es ++ [PV.int k i]).map .pv) (some t)]) := by
  rcases b with ⟨rfl, rfl⟩ | ⟨h1, id, rfl, h3⟩
  · have hb' : bytes ≤ 35184372088832 := by simpa using hb
    simp [appendA, hb', killB, idOf, growMax]
  · simp [appendA, h3, hb, killB, idOf, growMax]
theorem killB_at0 : ent (killB h v ++ l) h.length = ent l 0 := by rw [show h.length = (killB h v).length from killB_len.symm]; exact ent_at0
theorem killB_at {n : Nat} : ent (killB h v ++ l) (h.length + n) = ent l n := by rw [show h.length = (killB h v).length from killB_len.symm]; exact ent_at
theorem Buf.app_buf {p : PV} {n m : Nat} {g : Heap} (hn : n = h.length + g.length) (hm : m = es.length + 1) : Buf (killB h v ++ (g ++ .blk ((es ++ [p]).map .pv) (some t) :: l)) t (.sln n 0 m 1 false) (es ++ [p]) := by
  subst hn hm
  refine .inr ⟨by simp, h.length + g.length, by simp, ?_⟩
  rw [killB_at]
  simp [ent]
theorem Buf.app_fr {n m : Nat} (hn : h.length ≤ n) : Fr h v (killB h v ++ l) (.sln n 0 m 1 false) := by
  refine ⟨by simp [killB_len], fun i hi hv => ?_, fun i hi => ?_⟩
  · have : i < (killB h v).length := by rw [killB_len]; exact hi
    simp only [ent, List.getElem?_append_left this]
    unfold killB
    split
    · rename_i j hj
      rw [List.getElem?_set_ne]
      rintro rfl
      exact hv hj
    · rfl
  · cases hi; exact .inr hn
theorem chunks_one : ∀ es : List PV, (chunks 1 es.length es).map (mkPV false) = es
  | [] => rfl
  | p :: es => by simp [chunks, mkPV, chunks_one es]
theorem Buf.snap (b : Buf h t v es) {n : Nat} : ∃ h2, snap (n + 2) v h = some (.sl es, h2) := by
  rcases b with ⟨rfl, rfl⟩ | ⟨h1, id, rfl, h3⟩
  · exact ⟨h, by simp [Ab.snap]⟩
  · refine ⟨h.set id (.frz es), ?_⟩
    have hs : snapLF (Ab.snap (n + 1)) (es.map V.pv) (h.set id .dead) = some (es, h.set id .dead) := snapLF_pvs _
    have hc : cut es 0 (es.length * 1) = some es := by simp [cut]
    rw [snap_sln, h3]
    simp only [hs, hc]
    have := chunks_one es
    simp [this]
end

/-- A value's bytes. -/
def flatS : Va → List Int
  | .mk k b l => (if k = 2 then [b] else []) ++ flatL (kidN k l.length) l
where
  flatL : Nat → List Va → List Int
  | 0, _ => []
  | _, [] => []
  | n + 1, x :: l => flatS x ++ flatL n l
theorem flatL_eq : ∀ (n : Nat) (l : List Va), flatS.flatL n l = (l.take n).flatMap flatS
  | 0, l => by simp [flatS.flatL]
  | n + 1, [] => by simp [flatS.flatL]
  | n + 1, x :: l => by simp [flatS.flatL, flatL_eq n l]
theorem flatS_eq (v : Va) : flatS v = (if v.k = 2 then [v.b] else []) ++ (kidsV v).flatMap flatS := by
  cases v; rw [flatS, flatL_eq]; rfl
def encB (l : List Int) : List PV := l.map (.int .u8)
theorem encB_nil : encB [] = [] := rfl

theorem kidsV_mem {v x : Va} (h : x ∈ kidsV v) : x ∈ v.l := List.mem_of_mem_take h
theorem kidsV_len (v : Va) : (kidsV v).length ≤ v.l.length := by simp [kidsV]; omega

structure HasF (E : Env) : Prop where
  kids : Has E 119 c119
  flat : HasR E 96 c96
  Flat : Has E 67 c67
  Len : Has E 34 c34

set_option maxHeartbeats 4000000 in
theorem flat_ok (HH : HasF E) : ∀ v, FineV v → ∀ (h : Heap) (b : V) (es : List PV), Buf h 5 b es → es.length + (flatS v).length ≤ 35184372088832 →
    ∃ b' h', limR E 96 [b, .pv (encV v)] h = some (b', h') ∧ (Buf h' 5 b' (es ++ encB (flatS v)) ∧ Fr h b h' b') := by
  refine Va.ind fun v ih hf h b es hb hle => ?_
  obtain ⟨hvb, hf1, hf2⟩ := fineV hf
  have hkid := Kids_ok HH.kids v
  have hkl := kidsV_len v
  have hkm : ∀ x ∈ kidsV v, x ∈ v.l := fun x hx => kidsV_mem hx
  rw [flatS_eq] at hle ⊢
  generalize hK : kidsV v = K at hkid hkl hkm hle ⊢
  rw [eV] at hkid ⊢
  refine HH.flat.limE (Nat.le_of_ble_eq_true rfl) (by simp; with_reducible rfl) ?_; unfold c96
  cases bk : (v.k == 2) with
  | true =>
    have hk : v.k = 2 := by simpa using bk
    have happ : ∀ l : Heap, appendA (h ++ l) false true 1 1 5 b 1 [.pv (.int .u8 v.b)] = some (.sln (h ++ l).length 0 (es.length + 1) 1 false, killB h b ++ (l ++ [.blk ((es ++ [PV.int .u8 v.b]).map .pv) (some 5)])) := fun l => by
      rw [hb.more.app (by simp [hk] at hle; omega), killB_app hb, List.append_assoc]
    (repeat' first
    | apply X.retS
    | apply X.skipS
    | apply X.skipB
    | apply X.skipL
    | (apply X.exitS; first | apply X.here | (refine X.out (by decide) ?_; apply X.here))
    | apply X.blockS
    | (apply X.condS rfl <;> intro hp <;> first | exact absurd hp (by decide) | ((try rw [hp]); (try simp at hp)))
    | apply X.stepZ
    | (apply X.step; (focus (simp [-getElem?_pos, bk, happ, killB_at0, killB_at, HH.kids.raw, hkid]; with_reducible (first | rfl | exact ⟨rfl, rfl⟩))); (focus (simp; with_reducible rfl)))
    | (apply X.stepN rfl; (focus (simp; with_reducible rfl)))
    | ((first | apply X.stepGt rfl | apply X.stepGf rfl); (focus (simp; with_reducible rfl)); all_goals (intro hp; first | exact absurd hp (by decide) | ((try rw [hp]); (try simp at hp))))
    | (apply X.draw0; (focus rfl))
    | apply XD.nil
    | (apply XD.calm rfl; (focus (simp [-getElem?_pos, bk, happ, killB_at0, killB_at, HH.kids.raw, hkid]; with_reducible (first | rfl | exact ⟨rfl, rfl⟩))); (focus (simp; with_reducible rfl)))
    | (apply XD.call; (focus (simp; with_reducible rfl)); (focus (simp; with_reducible rfl)); (focus (simp [-getElem?_pos, bk, happ, killB_at0, killB_at, HH.kids.raw, hkid]; done)); (focus (simp [-getElem?_pos, bk, happ, killB_at0, killB_at, HH.kids.raw, hkid]; with_reducible rfl)); (focus (simp; with_reducible rfl)))
    | (apply XD.stepN rfl; (focus (simp; with_reducible rfl)))
    | ((first | apply XD.stepGt rfl | apply XD.stepGf rfl); (focus (simp; with_reducible rfl)); all_goals (intro hp; first | exact absurd hp (by decide) | ((try rw [hp]); (try simp at hp))))
    | (apply XD.loud; (focus (simp [-getElem?_pos, bk, happ, killB_at0, killB_at, HH.kids.raw, hkid]; with_reducible (first | rfl | exact ⟨rfl, rfl⟩))); (focus (simp; done)); (focus (simp; with_reducible rfl)); (focus (simp; with_reducible rfl))))
    refine X.forS K.length (fun j st => ∃ (hh : Heap) (b1 : V) (es1 : List PV), Buf hh 5 b1 es1 ∧ Fr h b hh b1 ∧ es1.length + ((K.drop j).flatMap flatS).length ≤ 35184372088832 ∧
      es1 ++ encB ((K.drop j).flatMap flatS) = es ++ encB ((if v.k = 2 then [v.b] else []) ++ K.flatMap flatS) ∧ ∃ ts, Pat [some (b1), none, none, none, none, none, none, none, none, none, none, none, none, none, none, none, some (.pv (.sl (K.map encV))), some (.pv (.int .i64 K.length)), some (.pv (.int .i64 j)), none, none, none, none, none, none, none, none] ts ∧ st = ⟨ts, hh⟩) ?_ ?_
    · refine ⟨_, .sln (h.length + 2) 0 (es.length + 1) 1 false, es ++ [PV.int .u8 v.b], ?_, ?_, ?_, by simp [hk, encB], _, ?_, rfl⟩
      · have := Buf.app_buf (h := h) (v := b) (es := es) (t := 5) (p := PV.int .u8 v.b) (n := h.length + 2) (l := []) (g := [Ent.blk [V.pv (PV.int IntKind.i64 v.k), V.pv (PV.int IntKind.u8 v.b), V.pv (PV.sl (List.map encV v.l))] none, Ent.blk [V.pv (PV.int IntKind.u8 v.b)] none]) rfl rfl
        simpa using this
      · exact Buf.app_fr (by omega)
      · rw [if_pos hk] at hle
        simp only [List.length_append, List.length_singleton, List.drop_zero] at hle ⊢
        omega
      · simp [Pat]
    rintro j st hj ⟨hh, b1, es1, hb1, hfr, hle1, hi, ts, hts, rfl⟩
    obtain ⟨f, rfl⟩ := hts.fill
    simp only [Ab.fill, Nat.reduceAdd]
    clear hts
    rcases Nat.lt_or_ge j K.length with hj1 | hj1
    · obtain ⟨x, hx⟩ := at_of_lt hj1
      have hxm := hkm x (List.mem_of_getElem? hx)
      rw [drop_at hx] at hi hle1
      simp only [List.flatMap_cons, List.length_append] at hle1
      have hc := ih x hxm (hf2 x hxm)
      have hww : IntKind.i64.wrap ((j : Int) + 1) = (j : Int) + 1 := wrap_i64 (by omega)
      clear ih
      rw [eV x] at hc
      (repeat' first
    | apply X.retS
    | apply X.skipS
    | apply X.skipB
    | apply X.skipL
    | (apply X.exitS; first | apply X.here | (refine X.out (by decide) ?_; apply X.here))
    | apply X.blockS
    | (apply X.condS rfl <;> intro hp <;> first | exact absurd hp (by decide) | ((try rw [hp]); (try simp at hp)))
    | apply X.stepZ
    | (apply X.step; (focus (simp [-getElem?_pos, hj1, hx, eV x, hww]; with_reducible (first | rfl | exact ⟨rfl, rfl⟩))); (focus (simp; with_reducible rfl)))
    | (apply X.stepN rfl; (focus (simp; with_reducible rfl)))
    | ((first | apply X.stepGt rfl | apply X.stepGf rfl); (focus (simp; with_reducible rfl)); all_goals (intro hp; first | exact absurd hp (by decide) | ((try rw [hp]); (try simp at hp))))
    | (apply X.draw0; (focus rfl))
    | apply XD.nil
    | (apply XD.calm rfl; (focus (simp [-getElem?_pos, hj1, hx, eV x, hww]; with_reducible (first | rfl | exact ⟨rfl, rfl⟩))); (focus (simp; with_reducible rfl)))
    | (apply XD.call; (focus (simp; with_reducible rfl)); (focus (simp; with_reducible rfl)); (focus (simp [-getElem?_pos, hj1, hx, eV x, hww]; done)); (focus (simp [-getElem?_pos, hj1, hx, eV x, hww]; with_reducible rfl)); (focus (simp; with_reducible rfl)))
    | (apply XD.stepN rfl; (focus (simp; with_reducible rfl)))
    | ((first | apply XD.stepGt rfl | apply XD.stepGf rfl); (focus (simp; with_reducible rfl)); all_goals (intro hp; first | exact absurd hp (by decide) | ((try rw [hp]); (try simp at hp))))
    | (apply XD.loud; (focus (simp [-getElem?_pos, hj1, hx, eV x, hww]; with_reducible (first | rfl | exact ⟨rfl, rfl⟩))); (focus (simp; done)); (focus (simp; with_reducible rfl)); (focus (simp; with_reducible rfl))))
      refine X.callR (P := fun b2 h2 => Buf h2 5 b2 (es1 ++ encB (flatS x)) ∧ Fr hh b1 h2 b2) (by simp; with_reducible rfl) HH.flat.raw hb1.pures ?_ ?_
      · obtain ⟨b2, h2, e1, e2, e3⟩ := hc _ b1 es1 hb1.more (by omega)
        exact ⟨b2, h2, e1, e2, e3.less⟩
      rintro b2 h2 ⟨hb2, hfr2⟩
      (repeat' first
    | apply X.retS
    | apply X.skipS
    | apply X.skipB
    | apply X.skipL
    | (apply X.exitS; first | apply X.here | (refine X.out (by decide) ?_; apply X.here))
    | apply X.blockS
    | (apply X.condS rfl <;> intro hp <;> first | exact absurd hp (by decide) | ((try rw [hp]); (try simp at hp)))
    | apply X.stepZ
    | (apply X.step; (focus (simp [-getElem?_pos, hww]; with_reducible (first | rfl | exact ⟨rfl, rfl⟩))); (focus (simp; with_reducible rfl)))
    | (apply X.stepN rfl; (focus (simp; with_reducible rfl)))
    | ((first | apply X.stepGt rfl | apply X.stepGf rfl); (focus (simp; with_reducible rfl)); all_goals (intro hp; first | exact absurd hp (by decide) | ((try rw [hp]); (try simp at hp))))
    | (apply X.draw0; (focus rfl))
    | apply XD.nil
    | (apply XD.calm rfl; (focus (simp [-getElem?_pos, hww]; with_reducible (first | rfl | exact ⟨rfl, rfl⟩))); (focus (simp; with_reducible rfl)))
    | (apply XD.call; (focus (simp; with_reducible rfl)); (focus (simp; with_reducible rfl)); (focus (simp [-getElem?_pos, hww]; done)); (focus (simp [-getElem?_pos, hww]; with_reducible rfl)); (focus (simp; with_reducible rfl)))
    | (apply XD.stepN rfl; (focus (simp; with_reducible rfl)))
    | ((first | apply XD.stepGt rfl | apply XD.stepGf rfl); (focus (simp; with_reducible rfl)); all_goals (intro hp; first | exact absurd hp (by decide) | ((try rw [hp]); (try simp at hp))))
    | (apply XD.loud; (focus (simp [-getElem?_pos, hww]; with_reducible (first | rfl | exact ⟨rfl, rfl⟩))); (focus (simp; done)); (focus (simp; with_reducible rfl)); (focus (simp; with_reducible rfl))))
      refine ⟨hj1, h2, b2, _, hb2, hfr.trans hfr2, by simp only [encB, List.length_append, List.length_map]; omega, ?_, _, by simp [Pat], rfl⟩
      rw [← hi]; simp [encB]
    · have hj2 : ¬ j < K.length := by omega
      rw [List.drop_eq_nil_of_le hj1] at hi
      simp only [List.flatMap_nil, encB_nil, List.append_nil] at hi
      clear ih
      (repeat' first
    | apply X.retS
    | apply X.skipS
    | apply X.skipB
    | apply X.skipL
    | (apply X.exitS; first | apply X.here | (refine X.out (by decide) ?_; apply X.here))
    | apply X.blockS
    | (apply X.condS rfl <;> intro hp <;> first | exact absurd hp (by decide) | ((try rw [hp]); (try simp at hp)))
    | apply X.stepZ
    | (apply X.step; (focus (simp [-getElem?_pos, hj2]; with_reducible (first | rfl | exact ⟨rfl, rfl⟩))); (focus (simp; with_reducible rfl)))
    | (apply X.stepN rfl; (focus (simp; with_reducible rfl)))
    | ((first | apply X.stepGt rfl | apply X.stepGf rfl); (focus (simp; with_reducible rfl)); all_goals (intro hp; first | exact absurd hp (by decide) | ((try rw [hp]); (try simp at hp))))
    | (apply X.draw0; (focus rfl))
    | apply XD.nil
    | (apply XD.calm rfl; (focus (simp [-getElem?_pos, hj2]; with_reducible (first | rfl | exact ⟨rfl, rfl⟩))); (focus (simp; with_reducible rfl)))
    | (apply XD.call; (focus (simp; with_reducible rfl)); (focus (simp; with_reducible rfl)); (focus (simp [-getElem?_pos, hj2]; done)); (focus (simp [-getElem?_pos, hj2]; with_reducible rfl)); (focus (simp; with_reducible rfl)))
    | (apply XD.stepN rfl; (focus (simp; with_reducible rfl)))
    | ((first | apply XD.stepGt rfl | apply XD.stepGf rfl); (focus (simp; with_reducible rfl)); all_goals (intro hp; first | exact absurd hp (by decide) | ((try rw [hp]); (try simp at hp))))
    | (apply XD.loud; (focus (simp [-getElem?_pos, hj2]; with_reducible (first | rfl | exact ⟨rfl, rfl⟩))); (focus (simp; done)); (focus (simp; with_reducible rfl)); (focus (simp; with_reducible rfl))))
      all_goals exact FinE.ret rfl ⟨by rw [← hi]; exact hb1, hfr⟩
  | false =>
    have hk : ¬ v.k = 2 := by simpa using bk
    (repeat' first
    | apply X.retS
    | apply X.skipS
    | apply X.skipB
    | apply X.skipL
    | (apply X.exitS; first | apply X.here | (refine X.out (by decide) ?_; apply X.here))
    | apply X.blockS
    | (apply X.condS rfl <;> intro hp <;> first | exact absurd hp (by decide) | ((try rw [hp]); (try simp at hp)))
    | apply X.stepZ
    | (apply X.step; (focus (simp [-getElem?_pos, bk, HH.kids.raw, hkid]; with_reducible (first | rfl | exact ⟨rfl, rfl⟩))); (focus (simp; with_reducible rfl)))
    | (apply X.stepN rfl; (focus (simp; with_reducible rfl)))
    | ((first | apply X.stepGt rfl | apply X.stepGf rfl); (focus (simp; with_reducible rfl)); all_goals (intro hp; first | exact absurd hp (by decide) | ((try rw [hp]); (try simp at hp))))
    | (apply X.draw0; (focus rfl))
    | apply XD.nil
    | (apply XD.calm rfl; (focus (simp [-getElem?_pos, bk, HH.kids.raw, hkid]; with_reducible (first | rfl | exact ⟨rfl, rfl⟩))); (focus (simp; with_reducible rfl)))
    | (apply XD.call; (focus (simp; with_reducible rfl)); (focus (simp; with_reducible rfl)); (focus (simp [-getElem?_pos, bk, HH.kids.raw, hkid]; done)); (focus (simp [-getElem?_pos, bk, HH.kids.raw, hkid]; with_reducible rfl)); (focus (simp; with_reducible rfl)))
    | (apply XD.stepN rfl; (focus (simp; with_reducible rfl)))
    | ((first | apply XD.stepGt rfl | apply XD.stepGf rfl); (focus (simp; with_reducible rfl)); all_goals (intro hp; first | exact absurd hp (by decide) | ((try rw [hp]); (try simp at hp))))
    | (apply XD.loud; (focus (simp [-getElem?_pos, bk, HH.kids.raw, hkid]; with_reducible (first | rfl | exact ⟨rfl, rfl⟩))); (focus (simp; done)); (focus (simp; with_reducible rfl)); (focus (simp; with_reducible rfl))))
    refine X.forS K.length (fun j st => ∃ (hh : Heap) (b1 : V) (es1 : List PV), Buf hh 5 b1 es1 ∧ Fr h b hh b1 ∧ es1.length + ((K.drop j).flatMap flatS).length ≤ 35184372088832 ∧
      es1 ++ encB ((K.drop j).flatMap flatS) = es ++ encB ((if v.k = 2 then [v.b] else []) ++ K.flatMap flatS) ∧ ∃ ts, Pat [some (b1), none, none, none, none, none, none, none, none, none, none, none, none, none, none, none, some (.pv (.sl (K.map encV))), some (.pv (.int .i64 K.length)), some (.pv (.int .i64 j)), none, none, none, none, none, none, none, none] ts ∧ st = ⟨ts, hh⟩) ?_ ?_
    · exact ⟨_, b, es, hb.more, Fr.refl.more, by simpa [hk] using hle, by simp [hk], _, by simp [Pat], rfl⟩
    rintro j st hj ⟨hh, b1, es1, hb1, hfr, hle1, hi, ts, hts, rfl⟩
    obtain ⟨f, rfl⟩ := hts.fill
    simp only [Ab.fill, Nat.reduceAdd]
    clear hts
    rcases Nat.lt_or_ge j K.length with hj1 | hj1
    · obtain ⟨x, hx⟩ := at_of_lt hj1
      have hxm := hkm x (List.mem_of_getElem? hx)
      rw [drop_at hx] at hi hle1
      simp only [List.flatMap_cons, List.length_append] at hle1
      have hc := ih x hxm (hf2 x hxm)
      have hww : IntKind.i64.wrap ((j : Int) + 1) = (j : Int) + 1 := wrap_i64 (by omega)
      clear ih
      rw [eV x] at hc
      (repeat' first
    | apply X.retS
    | apply X.skipS
    | apply X.skipB
    | apply X.skipL
    | (apply X.exitS; first | apply X.here | (refine X.out (by decide) ?_; apply X.here))
    | apply X.blockS
    | (apply X.condS rfl <;> intro hp <;> first | exact absurd hp (by decide) | ((try rw [hp]); (try simp at hp)))
    | apply X.stepZ
    | (apply X.step; (focus (simp [-getElem?_pos, hj1, hx, eV x, hww]; with_reducible (first | rfl | exact ⟨rfl, rfl⟩))); (focus (simp; with_reducible rfl)))
    | (apply X.stepN rfl; (focus (simp; with_reducible rfl)))
    | ((first | apply X.stepGt rfl | apply X.stepGf rfl); (focus (simp; with_reducible rfl)); all_goals (intro hp; first | exact absurd hp (by decide) | ((try rw [hp]); (try simp at hp))))
    | (apply X.draw0; (focus rfl))
    | apply XD.nil
    | (apply XD.calm rfl; (focus (simp [-getElem?_pos, hj1, hx, eV x, hww]; with_reducible (first | rfl | exact ⟨rfl, rfl⟩))); (focus (simp; with_reducible rfl)))
    | (apply XD.call; (focus (simp; with_reducible rfl)); (focus (simp; with_reducible rfl)); (focus (simp [-getElem?_pos, hj1, hx, eV x, hww]; done)); (focus (simp [-getElem?_pos, hj1, hx, eV x, hww]; with_reducible rfl)); (focus (simp; with_reducible rfl)))
    | (apply XD.stepN rfl; (focus (simp; with_reducible rfl)))
    | ((first | apply XD.stepGt rfl | apply XD.stepGf rfl); (focus (simp; with_reducible rfl)); all_goals (intro hp; first | exact absurd hp (by decide) | ((try rw [hp]); (try simp at hp))))
    | (apply XD.loud; (focus (simp [-getElem?_pos, hj1, hx, eV x, hww]; with_reducible (first | rfl | exact ⟨rfl, rfl⟩))); (focus (simp; done)); (focus (simp; with_reducible rfl)); (focus (simp; with_reducible rfl))))
      refine X.callR (P := fun b2 h2 => Buf h2 5 b2 (es1 ++ encB (flatS x)) ∧ Fr hh b1 h2 b2) (by simp; with_reducible rfl) HH.flat.raw hb1.pures ?_ ?_
      · obtain ⟨b2, h2, e1, e2, e3⟩ := hc _ b1 es1 hb1.more (by omega)
        exact ⟨b2, h2, e1, e2, e3.less⟩
      rintro b2 h2 ⟨hb2, hfr2⟩
      (repeat' first
    | apply X.retS
    | apply X.skipS
    | apply X.skipB
    | apply X.skipL
    | (apply X.exitS; first | apply X.here | (refine X.out (by decide) ?_; apply X.here))
    | apply X.blockS
    | (apply X.condS rfl <;> intro hp <;> first | exact absurd hp (by decide) | ((try rw [hp]); (try simp at hp)))
    | apply X.stepZ
    | (apply X.step; (focus (simp [-getElem?_pos, hww]; with_reducible (first | rfl | exact ⟨rfl, rfl⟩))); (focus (simp; with_reducible rfl)))
    | (apply X.stepN rfl; (focus (simp; with_reducible rfl)))
    | ((first | apply X.stepGt rfl | apply X.stepGf rfl); (focus (simp; with_reducible rfl)); all_goals (intro hp; first | exact absurd hp (by decide) | ((try rw [hp]); (try simp at hp))))
    | (apply X.draw0; (focus rfl))
    | apply XD.nil
    | (apply XD.calm rfl; (focus (simp [-getElem?_pos, hww]; with_reducible (first | rfl | exact ⟨rfl, rfl⟩))); (focus (simp; with_reducible rfl)))
    | (apply XD.call; (focus (simp; with_reducible rfl)); (focus (simp; with_reducible rfl)); (focus (simp [-getElem?_pos, hww]; done)); (focus (simp [-getElem?_pos, hww]; with_reducible rfl)); (focus (simp; with_reducible rfl)))
    | (apply XD.stepN rfl; (focus (simp; with_reducible rfl)))
    | ((first | apply XD.stepGt rfl | apply XD.stepGf rfl); (focus (simp; with_reducible rfl)); all_goals (intro hp; first | exact absurd hp (by decide) | ((try rw [hp]); (try simp at hp))))
    | (apply XD.loud; (focus (simp [-getElem?_pos, hww]; with_reducible (first | rfl | exact ⟨rfl, rfl⟩))); (focus (simp; done)); (focus (simp; with_reducible rfl)); (focus (simp; with_reducible rfl))))
      refine ⟨hj1, h2, b2, _, hb2, hfr.trans hfr2, by simp only [encB, List.length_append, List.length_map]; omega, ?_, _, by simp [Pat], rfl⟩
      rw [← hi]; simp [encB]
    · have hj2 : ¬ j < K.length := by omega
      rw [List.drop_eq_nil_of_le hj1] at hi
      simp only [List.flatMap_nil, encB_nil, List.append_nil] at hi
      clear ih
      (repeat' first
    | apply X.retS
    | apply X.skipS
    | apply X.skipB
    | apply X.skipL
    | (apply X.exitS; first | apply X.here | (refine X.out (by decide) ?_; apply X.here))
    | apply X.blockS
    | (apply X.condS rfl <;> intro hp <;> first | exact absurd hp (by decide) | ((try rw [hp]); (try simp at hp)))
    | apply X.stepZ
    | (apply X.step; (focus (simp [-getElem?_pos, hj2]; with_reducible (first | rfl | exact ⟨rfl, rfl⟩))); (focus (simp; with_reducible rfl)))
    | (apply X.stepN rfl; (focus (simp; with_reducible rfl)))
    | ((first | apply X.stepGt rfl | apply X.stepGf rfl); (focus (simp; with_reducible rfl)); all_goals (intro hp; first | exact absurd hp (by decide) | ((try rw [hp]); (try simp at hp))))
    | (apply X.draw0; (focus rfl))
    | apply XD.nil
    | (apply XD.calm rfl; (focus (simp [-getElem?_pos, hj2]; with_reducible (first | rfl | exact ⟨rfl, rfl⟩))); (focus (simp; with_reducible rfl)))
    | (apply XD.call; (focus (simp; with_reducible rfl)); (focus (simp; with_reducible rfl)); (focus (simp [-getElem?_pos, hj2]; done)); (focus (simp [-getElem?_pos, hj2]; with_reducible rfl)); (focus (simp; with_reducible rfl)))
    | (apply XD.stepN rfl; (focus (simp; with_reducible rfl)))
    | ((first | apply XD.stepGt rfl | apply XD.stepGf rfl); (focus (simp; with_reducible rfl)); all_goals (intro hp; first | exact absurd hp (by decide) | ((try rw [hp]); (try simp at hp))))
    | (apply XD.loud; (focus (simp [-getElem?_pos, hj2]; with_reducible (first | rfl | exact ⟨rfl, rfl⟩))); (focus (simp; done)); (focus (simp; with_reducible rfl)); (focus (simp; with_reducible rfl))))
      all_goals exact FinE.ret rfl ⟨by rw [← hi]; exact hb1, hfr⟩

set_option maxHeartbeats 1000000 in
theorem Flat_ok (HH : HasF E) (v : Va) (hf : FineV v) (hle : (flatS v).length ≤ 35184372088832) : limP E 67 [encV v] = some [.sl (encB (flatS v))] := by
  have hc := flat_ok HH v hf
  rw [eV] at hc ⊢
  have H := HH.Flat
  refine H.lim (Nat.le_of_ble_eq_true rfl) (by simp; with_reducible rfl) ?_; unfold c67
  (repeat' first
    | apply X.retS
    | apply X.skipS
    | apply X.skipB
    | apply X.skipL
    | (apply X.exitS; first | apply X.here | (refine X.out (by decide) ?_; apply X.here))
    | apply X.blockS
    | (apply X.condS rfl <;> intro hp <;> first | exact absurd hp (by decide) | ((try rw [hp]); (try simp at hp)))
    | apply X.stepZ
    | (apply X.step; (focus (simp; with_reducible (first | rfl | exact ⟨rfl, rfl⟩))); (focus (simp; with_reducible rfl)))
    | (apply X.stepN rfl; (focus (simp; with_reducible rfl)))
    | ((first | apply X.stepGt rfl | apply X.stepGf rfl); (focus (simp; with_reducible rfl)); all_goals (intro hp; first | exact absurd hp (by decide) | ((try rw [hp]); (try simp at hp))))
    | (apply X.draw0; (focus rfl))
    | apply XD.nil
    | (apply XD.calm rfl; (focus (simp; with_reducible (first | rfl | exact ⟨rfl, rfl⟩))); (focus (simp; with_reducible rfl)))
    | (apply XD.call; (focus (simp; with_reducible rfl)); (focus (simp; with_reducible rfl)); (focus (simp; done)); (focus (simp; with_reducible rfl)); (focus (simp; with_reducible rfl)))
    | (apply XD.stepN rfl; (focus (simp; with_reducible rfl)))
    | ((first | apply XD.stepGt rfl | apply XD.stepGf rfl); (focus (simp; with_reducible rfl)); all_goals (intro hp; first | exact absurd hp (by decide) | ((try rw [hp]); (try simp at hp))))
    | (apply XD.loud; (focus (simp; with_reducible (first | rfl | exact ⟨rfl, rfl⟩))); (focus (simp; done)); (focus (simp; with_reducible rfl)); (focus (simp; with_reducible rfl))))
  refine X.callR (P := fun b2 h2 => Buf h2 5 b2 (encB (flatS v))) (by simp; with_reducible rfl) HH.flat.raw (by simp [pures]) ?_ ?_
  · obtain ⟨b2, h2, e1, e2, _⟩ := hc _ .nils [] Buf.nil (by simpa using hle)
    exact ⟨b2, h2, e1, by simpa using e2⟩
  rintro b2 h2 hb2
  obtain ⟨h3, hs⟩ := hb2.snap (n := 998)
  (repeat' first
    | apply X.retS
    | apply X.skipS
    | apply X.skipB
    | apply X.skipL
    | (apply X.exitS; first | apply X.here | (refine X.out (by decide) ?_; apply X.here))
    | apply X.blockS
    | (apply X.condS rfl <;> intro hp <;> first | exact absurd hp (by decide) | ((try rw [hp]); (try simp at hp)))
    | apply X.stepZ
    | (apply X.step; (focus (simp; with_reducible (first | rfl | exact ⟨rfl, rfl⟩))); (focus (simp; with_reducible rfl)))
    | (apply X.stepN rfl; (focus (simp; with_reducible rfl)))
    | ((first | apply X.stepGt rfl | apply X.stepGf rfl); (focus (simp; with_reducible rfl)); all_goals (intro hp; first | exact absurd hp (by decide) | ((try rw [hp]); (try simp at hp))))
    | (apply X.draw0; (focus rfl))
    | apply XD.nil
    | (apply XD.calm rfl; (focus (simp; with_reducible (first | rfl | exact ⟨rfl, rfl⟩))); (focus (simp; with_reducible rfl)))
    | (apply XD.call; (focus (simp; with_reducible rfl)); (focus (simp; with_reducible rfl)); (focus (simp; done)); (focus (simp; with_reducible rfl)); (focus (simp; with_reducible rfl)))
    | (apply XD.stepN rfl; (focus (simp; with_reducible rfl)))
    | ((first | apply XD.stepGt rfl | apply XD.stepGf rfl); (focus (simp; with_reducible rfl)); all_goals (intro hp; first | exact absurd hp (by decide) | ((try rw [hp]); (try simp at hp))))
    | (apply XD.loud; (focus (simp; with_reducible (first | rfl | exact ⟨rfl, rfl⟩))); (focus (simp; done)); (focus (simp; with_reducible rfl)); (focus (simp; with_reducible rfl))))
  all_goals (refine Fin.mk' (us := [b2]) rfl ?_ rfl)
  all_goals (rcases hb2 with ⟨_, rfl⟩ | ⟨_, id, rfl, _⟩ <;> simp only [pureRes, oneOf, snapFuel, hs] <;> rfl)

set_option maxHeartbeats 1000000 in
theorem Len_ok (HH : HasF E) (v : Va) (hf : FineV v) (hle : (flatS v).length ≤ 35184372088832) : limP E 34 [encV v] = some [.int .i64 (flatS v).length] := by
  have hc := Flat_ok HH v hf hle
  rw [eV] at hc ⊢
  have H := HH.Len
  refine H.lim (Nat.le_of_ble_eq_true rfl) (by simp; with_reducible rfl) ?_; unfold c34
  (repeat' first
    | apply X.retS
    | apply X.skipS
    | apply X.skipB
    | apply X.skipL
    | (apply X.exitS; first | apply X.here | (refine X.out (by decide) ?_; apply X.here))
    | apply X.blockS
    | (apply X.condS rfl <;> intro hp <;> first | exact absurd hp (by decide) | ((try rw [hp]); (try simp at hp)))
    | apply X.stepZ
    | (apply X.step; (focus (simp [-getElem?_pos, HH.Flat.raw, hc, encB]; with_reducible (first | rfl | exact ⟨rfl, rfl⟩))); (focus (simp; with_reducible rfl)))
    | (apply X.stepN rfl; (focus (simp; with_reducible rfl)))
    | ((first | apply X.stepGt rfl | apply X.stepGf rfl); (focus (simp; with_reducible rfl)); all_goals (intro hp; first | exact absurd hp (by decide) | ((try rw [hp]); (try simp at hp))))
    | (apply X.draw0; (focus rfl))
    | apply XD.nil
    | (apply XD.calm rfl; (focus (simp [-getElem?_pos, HH.Flat.raw, hc, encB]; with_reducible (first | rfl | exact ⟨rfl, rfl⟩))); (focus (simp; with_reducible rfl)))
    | (apply XD.call; (focus (simp; with_reducible rfl)); (focus (simp; with_reducible rfl)); (focus (simp [-getElem?_pos, HH.Flat.raw, hc, encB]; done)); (focus (simp [-getElem?_pos, HH.Flat.raw, hc, encB]; with_reducible rfl)); (focus (simp; with_reducible rfl)))
    | (apply XD.stepN rfl; (focus (simp; with_reducible rfl)))
    | ((first | apply XD.stepGt rfl | apply XD.stepGf rfl); (focus (simp; with_reducible rfl)); all_goals (intro hp; first | exact absurd hp (by decide) | ((try rw [hp]); (try simp at hp))))
    | (apply XD.loud; (focus (simp [-getElem?_pos, HH.Flat.raw, hc, encB]; with_reducible (first | rfl | exact ⟨rfl, rfl⟩))); (focus (simp; done)); (focus (simp; with_reducible rfl)); (focus (simp; with_reducible rfl))))
  all_goals ((refine Fin.mk' (by simp [resA]; with_reducible rfl) (by simp [oneOf, pureRes, snapFuel, snapL]; with_reducible rfl) ?_); simp)
end Cps
