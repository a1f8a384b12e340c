/- CrG: steps, walks, laws: see the remarks within. -/
import Derived.Test.YtlhfndoldaokhaaDoorAbStep
import Derived.Test.YtlhfndoldaokhaaDoorCiVa
import Derived.Test.YtlhfndoldaokhaaDoorCiOf
set_option linter.unusedSimpArgs false
set_option linter.unusedVariables false
-- A value's bytes: value.Kids, Flat, Len walked; slices of bytes that are made by appends, kept in the heap.
namespace Cps
open Go Ab Go.Proofs.YtlhfndoldaokhaaDoor.Mach
variable {E : Env}

theorem strideV : ∀ l : List Va, strideOk 3 (l.map encV) = true
  | [] => rfl
  | x :: l => by simp [strideOk, eV]

theorem takeV (l : List Va) : (l.map encV).take l.length = l.map encV := List.take_of_length_le (by simp)

/-- How many of a value's kids count. -/
def kidN (k : Int) (n : Nat) : Nat := if k = 3 then min 2 n else if k = 4 ∨ k = 5 ∨ k = 7 then min 1 n else if k = 6 then n else 0
def kidsV (v : Va) : List Va := v.l.take (kidN v.k v.l.length)

theorem kidN_le (k : Int) (n : Nat) : kidN k n ≤ n := by unfold kidN; repeat' split
                                                         all_goals omega

set_option maxHeartbeats 2000000 in
theorem Kids_ok (H : Has E 119 c119) (v : Va) : limP E 119 [encV v] = some [.sl ((kidsV v).map encV)] := by
  rw [eV]
  obtain ⟨k, b, l⟩ := v
  simp only [Va.k, Va.b, Va.l]
  cases h3 : (k == 3) with
  | true =>
    have h3' : k = 3 := by simpa using h3
    subst h3'
    rcases Nat.lt_or_ge l.length 2 with h | h
    · have h2 : (l.length : Int) < 2 := by omega
      have h1 : min 2 l.length = l.length := by omega
      refine H.lim (Nat.le_of_ble_eq_true rfl) (by simp; with_reducible rfl) ?_; unfold c119
      (repeat' first
    | apply X.retS
    | apply X.skipS
    | apply X.skipB
    | apply X.skipL
    | (apply X.exitS; first | apply X.here | (refine X.out (by decide) ?_; apply X.here))
    | apply X.blockS
    | (apply X.condS rfl <;> intro hp <;> first | exact absurd hp (by decide) | ((try rw [hp]); (try simp at hp)))
    | apply X.stepZ
    | (apply X.step; (focus (simp [-getElem?_pos, h2, h1, -strideOk, strideV]; with_reducible (first | rfl | exact ⟨rfl, rfl⟩))); (focus (simp; with_reducible rfl)))
    | (apply X.stepN rfl; (focus (simp; with_reducible rfl)))
    | ((first | apply X.stepGt rfl | apply X.stepGf rfl); (focus (simp; with_reducible rfl)); all_goals (intro hp; first | exact absurd hp (by decide) | ((try rw [hp]); (try simp at hp))))
    | (apply X.draw0; (focus rfl))
    | apply XD.nil
    | (apply XD.calm rfl; (focus (simp [-getElem?_pos, h2, h1, -strideOk, strideV]; with_reducible (first | rfl | exact ⟨rfl, rfl⟩))); (focus (simp; with_reducible rfl)))
    | (apply XD.call; (focus (simp; with_reducible rfl)); (focus (simp; with_reducible rfl)); (focus (simp [-getElem?_pos, h2, h1, -strideOk, strideV]; done)); (focus (simp [-getElem?_pos, h2, h1, -strideOk, strideV]; with_reducible rfl)); (focus (simp; with_reducible rfl)))
    | (apply XD.stepN rfl; (focus (simp; with_reducible rfl)))
    | ((first | apply XD.stepGt rfl | apply XD.stepGf rfl); (focus (simp; with_reducible rfl)); all_goals (intro hp; first | exact absurd hp (by decide) | ((try rw [hp]); (try simp at hp))))
    | (apply XD.loud; (focus (simp [-getElem?_pos, h2, h1, -strideOk, strideV]; with_reducible (first | rfl | exact ⟨rfl, rfl⟩))); (focus (simp; done)); (focus (simp; with_reducible rfl)); (focus (simp; with_reducible rfl))))
      all_goals ((refine Fin.mk' (by simp [resA]; with_reducible rfl) (by simp [oneOf, pureRes, snapFuel, snapL, kidsV, kidN]; with_reducible rfl) ?_); simp [kidsV, kidN, h1, Va.k, Va.l, takeV])
    · have h2 : ¬ (l.length : Int) < 2 := by omega
      have h1 : min 2 l.length = 2 := by omega
      refine H.lim (Nat.le_of_ble_eq_true rfl) (by simp; with_reducible rfl) ?_; unfold c119
      (repeat' first
    | apply X.retS
    | apply X.skipS
    | apply X.skipB
    | apply X.skipL
    | (apply X.exitS; first | apply X.here | (refine X.out (by decide) ?_; apply X.here))
    | apply X.blockS
    | (apply X.condS rfl <;> intro hp <;> first | exact absurd hp (by decide) | ((try rw [hp]); (try simp at hp)))
    | apply X.stepZ
    | (apply X.step; (focus (simp [-getElem?_pos, h2, h1, h, -strideOk, strideV]; with_reducible (first | rfl | exact ⟨rfl, rfl⟩))); (focus (simp; with_reducible rfl)))
    | (apply X.stepN rfl; (focus (simp; with_reducible rfl)))
    | ((first | apply X.stepGt rfl | apply X.stepGf rfl); (focus (simp; with_reducible rfl)); all_goals (intro hp; first | exact absurd hp (by decide) | ((try rw [hp]); (try simp at hp))))
    | (apply X.draw0; (focus rfl))
    | apply XD.nil
    | (apply XD.calm rfl; (focus (simp [-getElem?_pos, h2, h1, h, -strideOk, strideV]; with_reducible (first | rfl | exact ⟨rfl, rfl⟩))); (focus (simp; with_reducible rfl)))
    | (apply XD.call; (focus (simp; with_reducible rfl)); (focus (simp; with_reducible rfl)); (focus (simp [-getElem?_pos, h2, h1, h, -strideOk, strideV]; done)); (focus (simp [-getElem?_pos, h2, h1, h, -strideOk, strideV]; with_reducible rfl)); (focus (simp; with_reducible rfl)))
    | (apply XD.stepN rfl; (focus (simp; with_reducible rfl)))
    | ((first | apply XD.stepGt rfl | apply XD.stepGf rfl); (focus (simp; with_reducible rfl)); all_goals (intro hp; first | exact absurd hp (by decide) | ((try rw [hp]); (try simp at hp))))
    | (apply XD.loud; (focus (simp [-getElem?_pos, h2, h1, h, -strideOk, strideV]; with_reducible (first | rfl | exact ⟨rfl, rfl⟩))); (focus (simp; done)); (focus (simp; with_reducible rfl)); (focus (simp; with_reducible rfl))))
      all_goals ((refine Fin.mk' (by simp [resA]; with_reducible rfl) (by simp [oneOf, pureRes, snapFuel, snapL, kidsV, kidN]; with_reducible rfl) ?_); simp [kidsV, kidN, h1, Va.k, Va.l, takeV])
  | false =>
    have h3' : ¬ k = 3 := by simpa using h3
    cases h4 : (k == 4 || k == 5 || k == 7) with
    | true =>
      have h4' : k = 4 ∨ k = 5 ∨ k = 7 := by simpa [or_assoc] using h4
      rcases Nat.lt_or_ge l.length 1 with h | h
      · have h2 : (l.length : Int) < 1 := by omega
        have h1 : min 1 l.length = l.length := by omega
        rcases h4' with rfl | rfl | rfl <;> (
        refine H.lim (Nat.le_of_ble_eq_true rfl) (by simp; with_reducible rfl) ?_; unfold c119
        (repeat' first
    | apply X.retS
    | apply X.skipS
    | apply X.skipB
    | apply X.skipL
    | (apply X.exitS; first | apply X.here | (refine X.out (by decide) ?_; apply X.here))
    | apply X.blockS
    | (apply X.condS rfl <;> intro hp <;> first | exact absurd hp (by decide) | ((try rw [hp]); (try simp at hp)))
    | apply X.stepZ
    | (apply X.step; (focus (simp [-getElem?_pos, h2, h1, -strideOk, strideV]; with_reducible (first | rfl | exact ⟨rfl, rfl⟩))); (focus (simp; with_reducible rfl)))
    | (apply X.stepN rfl; (focus (simp; with_reducible rfl)))
    | ((first | apply X.stepGt rfl | apply X.stepGf rfl); (focus (simp; with_reducible rfl)); all_goals (intro hp; first | exact absurd hp (by decide) | ((try rw [hp]); (try simp at hp))))
    | (apply X.draw0; (focus rfl))
    | apply XD.nil
    | (apply XD.calm rfl; (focus (simp [-getElem?_pos, h2, h1, -strideOk, strideV]; with_reducible (first | rfl | exact ⟨rfl, rfl⟩))); (focus (simp; with_reducible rfl)))
    | (apply XD.call; (focus (simp; with_reducible rfl)); (focus (simp; with_reducible rfl)); (focus (simp [-getElem?_pos, h2, h1, -strideOk, strideV]; done)); (focus (simp [-getElem?_pos, h2, h1, -strideOk, strideV]; with_reducible rfl)); (focus (simp; with_reducible rfl)))
    | (apply XD.stepN rfl; (focus (simp; with_reducible rfl)))
    | ((first | apply XD.stepGt rfl | apply XD.stepGf rfl); (focus (simp; with_reducible rfl)); all_goals (intro hp; first | exact absurd hp (by decide) | ((try rw [hp]); (try simp at hp))))
    | (apply XD.loud; (focus (simp [-getElem?_pos, h2, h1, -strideOk, strideV]; with_reducible (first | rfl | exact ⟨rfl, rfl⟩))); (focus (simp; done)); (focus (simp; with_reducible rfl)); (focus (simp; with_reducible rfl))))
        all_goals ((refine Fin.mk' (by simp [resA]; with_reducible rfl) (by simp [oneOf, pureRes, snapFuel, snapL, kidsV, kidN]; with_reducible rfl) ?_); simp [kidsV, kidN, h1, Va.k, Va.l, takeV]))
      · have h2 : ¬ (l.length : Int) < 1 := by omega
        have h1 : min 1 l.length = 1 := by omega
        rcases h4' with rfl | rfl | rfl <;> (
        refine H.lim (Nat.le_of_ble_eq_true rfl) (by simp; with_reducible rfl) ?_; unfold c119
        (repeat' first
    | apply X.retS
    | apply X.skipS
    | apply X.skipB
    | apply X.skipL
    | (apply X.exitS; first | apply X.here | (refine X.out (by decide) ?_; apply X.here))
    | apply X.blockS
    | (apply X.condS rfl <;> intro hp <;> first | exact absurd hp (by decide) | ((try rw [hp]); (try simp at hp)))
    | apply X.stepZ
    | (apply X.step; (focus (simp [-getElem?_pos, h2, h1, h, -strideOk, strideV]; with_reducible (first | rfl | exact ⟨rfl, rfl⟩))); (focus (simp; with_reducible rfl)))
    | (apply X.stepN rfl; (focus (simp; with_reducible rfl)))
    | ((first | apply X.stepGt rfl | apply X.stepGf rfl); (focus (simp; with_reducible rfl)); all_goals (intro hp; first | exact absurd hp (by decide) | ((try rw [hp]); (try simp at hp))))
    | (apply X.draw0; (focus rfl))
    | apply XD.nil
    | (apply XD.calm rfl; (focus (simp [-getElem?_pos, h2, h1, h, -strideOk, strideV]; with_reducible (first | rfl | exact ⟨rfl, rfl⟩))); (focus (simp; with_reducible rfl)))
    | (apply XD.call; (focus (simp; with_reducible rfl)); (focus (simp; with_reducible rfl)); (focus (simp [-getElem?_pos, h2, h1, h, -strideOk, strideV]; done)); (focus (simp [-getElem?_pos, h2, h1, h, -strideOk, strideV]; with_reducible rfl)); (focus (simp; with_reducible rfl)))
    | (apply XD.stepN rfl; (focus (simp; with_reducible rfl)))
    | ((first | apply XD.stepGt rfl | apply XD.stepGf rfl); (focus (simp; with_reducible rfl)); all_goals (intro hp; first | exact absurd hp (by decide) | ((try rw [hp]); (try simp at hp))))
    | (apply XD.loud; (focus (simp [-getElem?_pos, h2, h1, h, -strideOk, strideV]; with_reducible (first | rfl | exact ⟨rfl, rfl⟩))); (focus (simp; done)); (focus (simp; with_reducible rfl)); (focus (simp; with_reducible rfl))))
        all_goals ((refine Fin.mk' (by simp [resA]; with_reducible rfl) (by simp [oneOf, pureRes, snapFuel, snapL, kidsV, kidN]; with_reducible rfl) ?_); simp [kidsV, kidN, h1, Va.k, Va.l, takeV]))
    | false =>
      have h4' : ¬ k = 4 ∧ ¬ k = 5 ∧ ¬ k = 7 := by simpa [and_assoc] using h4
      obtain ⟨e4, e5, e7⟩ := h4'
      cases h6 : (k == 6) with
      | true =>
        have h6' : k = 6 := by simpa using h6
        subst h6'
        refine H.lim (Nat.le_of_ble_eq_true rfl) (by simp; with_reducible rfl) ?_; unfold c119
        (repeat' first
    | apply X.retS
    | apply X.skipS
    | apply X.skipB
    | apply X.skipL
    | (apply X.exitS; first | apply X.here | (refine X.out (by decide) ?_; apply X.here))
    | apply X.blockS
    | (apply X.condS rfl <;> intro hp <;> first | exact absurd hp (by decide) | ((try rw [hp]); (try simp at hp)))
    | apply X.stepZ
    | (apply X.step; (focus (simp [-getElem?_pos, -strideOk, strideV]; with_reducible (first | rfl | exact ⟨rfl, rfl⟩))); (focus (simp; with_reducible rfl)))
    | (apply X.stepN rfl; (focus (simp; with_reducible rfl)))
    | ((first | apply X.stepGt rfl | apply X.stepGf rfl); (focus (simp; with_reducible rfl)); all_goals (intro hp; first | exact absurd hp (by decide) | ((try rw [hp]); (try simp at hp))))
    | (apply X.draw0; (focus rfl))
    | apply XD.nil
    | (apply XD.calm rfl; (focus (simp [-getElem?_pos, -strideOk, strideV]; with_reducible (first | rfl | exact ⟨rfl, rfl⟩))); (focus (simp; with_reducible rfl)))
    | (apply XD.call; (focus (simp; with_reducible rfl)); (focus (simp; with_reducible rfl)); (focus (simp [-getElem?_pos, -strideOk, strideV]; done)); (focus (simp [-getElem?_pos, -strideOk, strideV]; with_reducible rfl)); (focus (simp; with_reducible rfl)))
    | (apply XD.stepN rfl; (focus (simp; with_reducible rfl)))
    | ((first | apply XD.stepGt rfl | apply XD.stepGf rfl); (focus (simp; with_reducible rfl)); all_goals (intro hp; first | exact absurd hp (by decide) | ((try rw [hp]); (try simp at hp))))
    | (apply XD.loud; (focus (simp [-getElem?_pos, -strideOk, strideV]; with_reducible (first | rfl | exact ⟨rfl, rfl⟩))); (focus (simp; done)); (focus (simp; with_reducible rfl)); (focus (simp; with_reducible rfl))))
        all_goals ((refine Fin.mk' (by simp [resA]; with_reducible rfl) (by simp [oneOf, pureRes, snapFuel, snapL, kidsV, kidN]; with_reducible rfl) ?_); simp [kidsV, kidN, Va.k, Va.l, takeV])
      | false =>
        have h6' : ¬ k = 6 := by simpa using h6
        have h2 : ¬ (l.length : Int) < 0 := by omega
        have b4 : (k == 4) = false := by simpa using e4
        have b5 : (k == 5) = false := by simpa using e5
        have b7 : (k == 7) = false := by simpa using e7
        refine H.lim (Nat.le_of_ble_eq_true rfl) (by simp; with_reducible rfl) ?_; unfold c119
        (repeat' first
    | apply X.retS
    | apply X.skipS
    | apply X.skipB
    | apply X.skipL
    | (apply X.exitS; first | apply X.here | (refine X.out (by decide) ?_; apply X.here))
    | apply X.blockS
    | (apply X.condS rfl <;> intro hp <;> first | exact absurd hp (by decide) | ((try rw [hp]); (try simp at hp)))
    | apply X.stepZ
    | (apply X.step; (focus (simp [-getElem?_pos, h3, h6, b4, b5, b7, h2, -strideOk, strideV]; with_reducible (first | rfl | exact ⟨rfl, rfl⟩))); (focus (simp; with_reducible rfl)))
    | (apply X.stepN rfl; (focus (simp; with_reducible rfl)))
    | ((first | apply X.stepGt rfl | apply X.stepGf rfl); (focus (simp; with_reducible rfl)); all_goals (intro hp; first | exact absurd hp (by decide) | ((try rw [hp]); (try simp at hp))))
    | (apply X.draw0; (focus rfl))
    | apply XD.nil
    | (apply XD.calm rfl; (focus (simp [-getElem?_pos, h3, h6, b4, b5, b7, h2, -strideOk, strideV]; with_reducible (first | rfl | exact ⟨rfl, rfl⟩))); (focus (simp; with_reducible rfl)))
    | (apply XD.call; (focus (simp; with_reducible rfl)); (focus (simp; with_reducible rfl)); (focus (simp [-getElem?_pos, h3, h6, b4, b5, b7, h2, -strideOk, strideV]; done)); (focus (simp [-getElem?_pos, h3, h6, b4, b5, b7, h2, -strideOk, strideV]; with_reducible rfl)); (focus (simp; with_reducible rfl)))
    | (apply XD.stepN rfl; (focus (simp; with_reducible rfl)))
    | ((first | apply XD.stepGt rfl | apply XD.stepGf rfl); (focus (simp; with_reducible rfl)); all_goals (intro hp; first | exact absurd hp (by decide) | ((try rw [hp]); (try simp at hp))))
    | (apply XD.loud; (focus (simp [-getElem?_pos, h3, h6, b4, b5, b7, h2, -strideOk, strideV]; with_reducible (first | rfl | exact ⟨rfl, rfl⟩))); (focus (simp; done)); (focus (simp; with_reducible rfl)); (focus (simp; with_reducible rfl))))
        all_goals ((refine Fin.mk' (by simp [resA]; with_reducible rfl) (by simp [oneOf, pureRes, snapFuel, snapL, kidsV, kidN]; with_reducible rfl) ?_); simp [kidsV, kidN, h3', h6', e4, e5, e7, Va.k, Va.l])

/-- A slice that is made by appends and kept in the heap, of elements of one cell. -/
def Buf (h : Heap) (t : TypeId) (v : V) (es : List PV) : Prop := (es = [] ∧ v = .nils) ∨ (es ≠ [] ∧ ∃ id, v = .sln id 0 es.length 1 false ∧ ent h id = .blk (es.map .pv) (some t))
def idOf : V → Option Nat
  | .sln id _ _ _ _ => some id
  | _ => none
/-- What is left of a heap where such a slice has grown. -/
structure Fr (h : Heap) (v : V) (h' : Heap) (v' : V) : Prop where
  len : h.length ≤ h'.length
  old : ∀ i, i < h.length → idOf v ≠ some i → ent h' i = ent h i
  id : ∀ i, idOf v' = some i → idOf v = some i ∨ h.length ≤ i
def killB (h : Heap) (v : V) : Heap := match idOf v with
  | some id => h.set id .dead
  | none => h

section
variable {h h' h2 l : Heap} {t : TypeId} {v v' v2 : V} {es : List PV}
theorem Fr.refl : Fr h v h v := ⟨Nat.le_refl _, fun _ _ _ => rfl, fun _ hi => .inl hi⟩
theorem Fr.trans (a : Fr h v h' v') (b : Fr h' v' h2 v2) : Fr h v h2 v2 := by
  refine ⟨Nat.le_trans a.len b.len, fun i hi hv => ?_, fun i hi => ?_⟩
  · rw [b.old i (Nat.lt_of_lt_of_le hi a.len) fun hh => (a.id i hh).elim hv (by omega), a.old i hi hv]
  · rcases b.id i hi with h1 | h1
    · exact a.id i h1
    · exact .inr (Nat.le_trans a.len h1)
theorem Fr.more (a : Fr h v h' v') : Fr h v (h' ++ l) v' := by
  refine ⟨by have := a.len; simp; omega, fun i hi hv => ?_, a.id⟩
  rw [← a.old i hi hv]
  have : i < h'.length := Nat.lt_of_lt_of_le hi a.len
  simp [ent, List.getElem?_append_left this]
theorem Fr.less (a : Fr (h ++ l) v h' v') : Fr h v h' v' := by
  refine ⟨by have := a.len; simp at this; omega, fun i hi hv => ?_, fun i hi => ?_⟩
  · rw [a.old i (by simp; omega) hv]
    simp [ent, List.getElem?_append_left hi]
  · rcases a.id i hi with h1 | h1
    · exact .inl h1
    · simp at h1; exact .inr (by omega)
theorem Buf.nil : Buf h t .nils [] := .inl ⟨rfl, rfl⟩
theorem Buf.more (b : Buf h t v es) : Buf (h ++ l) t v es := by
  rcases b with b | ⟨h1, id, h2, h3⟩
  · exact .inl b
  · exact .inr ⟨h1, id, h2, ent_app h3 (by simp)⟩
theorem Buf.lt (b : Buf h t v es) {i : Nat} (hi : idOf v = some i) : i < h.length := by
  rcases b with ⟨_, rfl⟩ | ⟨_, id, rfl, h3⟩
  · cases hi
  · cases hi
    rcases Nat.lt_or_ge i h.length with h1 | h1
    · exact h1
    · simp [ent, List.getElem?_eq_none h1] at h3
theorem Buf.pures (b : Buf h t v es) {vs : List V} : pures (v :: vs) = none := by
  rcases b with ⟨_, rfl⟩ | ⟨_, id, rfl, _⟩ <;> simp [Ab.pures]
theorem Buf.lenA (b : Buf h t v es) : lenA v = some es.length := by
  rcases b with ⟨rfl, rfl⟩ | ⟨_, id, rfl, _⟩ <;> simp [Ab.lenA]
theorem killB_len : (killB h v).length = h.length := by unfold killB; split <;> simp
theorem killB_app (b : Buf h t v es) : killB (h ++ l) v = killB h v ++ l := by
  unfold killB
  cases hi : idOf v with
  | none => rfl
  | some i => exact List.set_append_left _ _ (b.lt hi)
/-- One more. -/
theorem Buf.app (b : Buf h t v es) {bytes : Nat} {k : IntKind} {i : Int} (hb : (es.length + 1) * bytes ≤ 35184372088832) :
    appendA h false true 1 bytes t v 1 [.pv (.int k i)] = some (.sln h.length 0 (es.length + 1) 1 false, killB h v ++ [.blk ((es ++ [PV.int k i]).map .pv) (some t)]) := by
  rcases b with ⟨rfl, rfl⟩ | ⟨h1, id, rfl, h3⟩
  · have hb' : bytes ≤ 35184372088832 := by simpa using hb
    simp [appendA, hb', killB, idOf, growMax]
  · simp [appendA, h3, hb, killB, idOf, growMax]
theorem killB_at0 : ent (killB h v ++ l) h.length = ent l 0 := by rw [show h.length = (killB h v).length from killB_len.symm]; exact ent_at0
theorem killB_at {n : Nat} : ent (killB h v ++ l) (h.length + n) = ent l n := by rw [show h.length = (killB h v).length from killB_len.symm]; exact ent_at
theorem Buf.app_buf {p : PV} {n m : Nat} {g : Heap} (hn : n = h.length + g.length) (hm : m = es.length + 1) : Buf (killB h v ++ (g ++ .blk ((es ++ [p]).map .pv) (some t) :: l)) t (.sln n 0 m 1 false) (es ++ [p]) := by
  subst hn hm
  refine .inr ⟨by simp, h.length + g.length, by simp, ?_⟩
  rw [killB_at]
  simp [ent]
theorem Buf.app_fr {n m : Nat} (hn : h.length ≤ n) : Fr h v (killB h v ++ l) (.sln n 0 m 1 false) := by
  refine ⟨by simp [killB_len], fun i hi hv => ?_, fun i hi => ?_⟩
  · have : i < (killB h v).length := by rw [killB_len]; exact hi
    simp only [ent, List.getElem?_append_left this]
    unfold killB
    split
    · rename_i j hj
      rw [List.getElem?_set_ne]
      rintro rfl
      exact hv hj
    · rfl
  · cases hi; exact .inr hn
theorem chunks_one : ∀ es : List PV, (chunks 1 es.length es).map (mkPV false) = es
  | [] => rfl
  | p :: es => by simp [chunks, mkPV, chunks_one es]
theorem Buf.snap (b : Buf h t v es) {n : Nat} : ∃ h2, snap (n + 2) v h = some (.sl es, h2) := by
  rcases b with ⟨rfl, rfl⟩ | ⟨h1, id, rfl, h3⟩
  · exact ⟨h, by simp [Ab.snap]⟩
  · refine ⟨h.set id (.frz es), ?_⟩
    have hs : snapLF (Ab.snap (n + 1)) (es.map V.pv) (h.set id .dead) = some (es, h.set id .dead) := snapLF_pvs _
    have hc : cut es 0 (es.length * 1) = some es := by simp [cut]
    rw [snap_sln, h3]
    simp only [hs, hc]
    have := chunks_one es
    simp [this]
end

/-- A value's bytes. -/
def flatS : Va → List Int
  | .mk k b l => (if k = 2 then [b] else []) ++ flatL (kidN k l.length) l
where
  flatL : Nat → List Va → List Int
  | 0, _ => []
  | _, [] => []
  | n + 1, x :: l => flatS x ++ flatL n l
theorem flatL_eq : ∀ (n : Nat) (l : List Va), flatS.flatL n l = (l.take n).flatMap flatS
  | 0, l => by simp [flatS.flatL]
  | n + 1, [] => by simp [flatS.flatL]
  | n + 1, x :: l => by simp [flatS.flatL, flatL_eq n l]
theorem flatS_eq (v : Va) : flatS v = (if v.k = 2 then [v.b] else []) ++ (kidsV v).flatMap flatS := by
  cases v; rw [flatS, flatL_eq]; rfl
def encB (l : List Int) : List PV := l.map (.int .u8)
theorem encB_nil : encB [] = [] := rfl

theorem kidsV_mem {v x : Va} (h : x ∈ kidsV v) : x ∈ v.l := List.mem_of_mem_take h
theorem kidsV_len (v : Va) : (kidsV v).length ≤ v.l.length := by simp [kidsV]; omega

structure HasF (E : Env) : Prop where
  kids : Has E 119 c119
  flat : HasR E 96 c96
  Flat : Has E 67 c67
  Len : Has E 34 c34

set_option maxHeartbeats 4000000 in
theorem flat_ok (HH : HasF E) : ∀ v, FineV v → ∀ (h : Heap) (b : V) (es : List PV), Buf h 5 b es → es.length + (flatS v).length ≤ 35184372088832 →
    ∃ b' h', limR E 96 [b, .pv (encV v)] h = some (b', h') ∧ (Buf h' 5 b' (es ++ encB (flatS v)) ∧ Fr h b h' b') := by
  refine Va.ind fun v ih hf h b es hb hle => ?_
  obtain ⟨hvb, hf1, hf2⟩ := fineV hf
  have hkid := Kids_ok HH.kids v
  have hkl := kidsV_len v
  have hkm : ∀ x ∈ kidsV v, x ∈ v.l := fun x hx => kidsV_mem hx
  rw [flatS_eq] at hle ⊢
  generalize hK : kidsV v = K at hkid hkl hkm hle ⊢
  rw [eV] at hkid ⊢
  refine HH.flat.limE (Nat.le_of_ble_eq_true rfl) (by simp; with_reducible rfl) ?_; unfold c96
  cases bk : (v.k == 2) with
  | true =>
    have hk : v.k = 2 := by simpa using bk
    have happ : ∀ l : Heap, appendA (h ++ l) false true 1 1 5 b 1 [.pv (.int .u8 v.b)] = some (.sln (h ++ l).length 0 (es.length + 1) 1 false, killB h b ++ (l ++ [.blk ((es ++ [PV.int .u8 v.b]).map .pv) (some 5)])) := fun l => by
      rw [hb.more.app (by simp [hk] at hle; omega), killB_app hb, List.append_assoc]
    (repeat' first
    | apply X.retS
    | apply X.skipS
    | apply X.skipB
    | apply X.skipL
    | (apply X.exitS; first | apply X.here | (refine X.out (by decide) ?_; apply X.here))
    | apply X.blockS
    | (apply X.condS rfl <;> intro hp <;> first | exact absurd hp (by decide) | ((try rw [hp]); (try simp at hp)))
    | apply X.stepZ
    | (apply X.step; (focus (simp [-getElem?_pos, bk, happ, killB_at0, killB_at, HH.kids.raw, hkid]; with_reducible (first | rfl | exact ⟨rfl, rfl⟩))); (focus (simp; with_reducible rfl)))
    | (apply X.stepN rfl; (focus (simp; with_reducible rfl)))
    | ((first | apply X.stepGt rfl | apply X.stepGf rfl); (focus (simp; with_reducible rfl)); all_goals (intro hp; first | exact absurd hp (by decide) | ((try rw [hp]); (try simp at hp))))
    | (apply X.draw0; (focus rfl))
    | apply XD.nil
    | (apply XD.calm rfl; (focus (simp [-getElem?_pos, bk, happ, killB_at0, killB_at, HH.kids.raw, hkid]; with_reducible (first | rfl | exact ⟨rfl, rfl⟩))); (focus (simp; with_reducible rfl)))
    | (apply XD.call; (focus (simp; with_reducible rfl)); (focus (simp; with_reducible rfl)); (focus (simp [-getElem?_pos, bk, happ, killB_at0, killB_at, HH.kids.raw, hkid]; done)); (focus (simp [-getElem?_pos, bk, happ, killB_at0, killB_at, HH.kids.raw, hkid]; with_reducible rfl)); (focus (simp; with_reducible rfl)))
    | (apply XD.stepN rfl; (focus (simp; with_reducible rfl)))
    | ((first | apply XD.stepGt rfl | apply XD.stepGf rfl); (focus (simp; with_reducible rfl)); all_goals (intro hp; first | exact absurd hp (by decide) | ((try rw [hp]); (try simp at hp))))
    | (apply XD.loud; (focus (simp [-getElem?_pos, bk, happ, killB_at0, killB_at, HH.kids.raw, hkid]; with_reducible (first | rfl | exact ⟨rfl, rfl⟩))); (focus (simp; done)); (focus (simp; with_reducible rfl)); (focus (simp; with_reducible rfl))))
    refine X.forS K.length (fun j st => ∃ (hh : Heap) (b1 : V) (es1 : List PV), Buf hh 5 b1 es1 ∧ Fr h b hh b1 ∧ es1.length + ((K.drop j).flatMap flatS).length ≤ 35184372088832 ∧
      es1 ++ encB ((K.drop j).flatMap flatS) = es ++ encB ((if v.k = 2 then [v.b] else []) ++ K.flatMap flatS) ∧ ∃ ts, Pat [some (b1), none, none, none, none, none, none, none, none, none, none, none, none, none, none, none, some (.pv (.sl (K.map encV))), some (.pv (.int .i64 K.length)), some (.pv (.int .i64 j)), none, none, none, none, none, none, none, none] ts ∧ st = ⟨ts, hh⟩) ?_ ?_
    · refine ⟨_, .sln (h.length + 2) 0 (es.length + 1) 1 false, es ++ [PV.int .u8 v.b], ?_, ?_, ?_, by simp [hk, encB], _, ?_, rfl⟩
      · have := Buf.app_buf (h := h) (v := b) (es := es) (t := 5) (p := PV.int .u8 v.b) (n := h.length + 2) (l := []) (g := [Ent.blk [V.pv (PV.int IntKind.i64 v.k), V.pv (PV.int IntKind.u8 v.b), V.pv (PV.sl (List.map encV v.l))] none, Ent.blk [V.pv (PV.int IntKind.u8 v.b)] none]) rfl rfl
        simpa using this
      · exact Buf.app_fr (by omega)
      · rw [if_pos hk] at hle
        simp only [List.length_append, List.length_singleton, List.drop_zero] at hle ⊢
        omega
      · simp [Pat]
    rintro j st hj ⟨hh, b1, es1, hb1, hfr, hle1, hi, ts, hts, rfl⟩
    obtain ⟨f, rfl⟩ := hts.fill
    simp only [Ab.fill, Nat.reduceAdd]
    clear hts
    rcases Nat.lt_or_ge j K.length with hj1 | hj1
    · obtain ⟨x, hx⟩ := at_of_lt hj1
      have hxm := hkm x (List.mem_of_getElem? hx)
      rw [drop_at hx] at hi hle1
      simp only [List.flatMap_cons, List.length_append] at hle1
      have hc := ih x hxm (hf2 x hxm)
      have hww : IntKind.i64.wrap ((j : Int) + 1) = (j : Int) + 1 := wrap_i64 (by omega)
      clear ih
      rw [eV x] at hc
      (repeat' first
    | apply X.retS
    | apply X.skipS
    | apply X.skipB
    | apply X.skipL
    | (apply X.exitS; first | apply X.here | (refine X.out (by decide) ?_; apply X.here))
    | apply X.blockS
    | (apply X.condS rfl <;> intro hp <;> first | exact absurd hp (by decide) | ((try rw [hp]); (try simp at hp)))
    | apply X.stepZ
    | (apply X.step; (focus (simp [-getElem?_pos, hj1, hx, eV x, hww]; with_reducible (first | rfl | exact ⟨rfl, rfl⟩))); (focus (simp; with_reducible rfl)))
    | (apply X.stepN rfl; (focus (simp; with_reducible rfl)))
    | ((first | apply X.stepGt rfl | apply X.stepGf rfl); (focus (simp; with_reducible rfl)); all_goals (intro hp; first | exact absurd hp (by decide) | ((try rw [hp]); (try simp at hp))))
    | (apply X.draw0; (focus rfl))
    | apply XD.nil
    | (apply XD.calm rfl; (focus (simp [-getElem?_pos, hj1, hx, eV x, hww]; with_reducible (first | rfl | exact ⟨rfl, rfl⟩))); (focus (simp; with_reducible rfl)))
    | (apply XD.call; (focus (simp; with_reducible rfl)); (focus (simp; with_reducible rfl)); (focus (simp [-getElem?_pos, hj1, hx, eV x, hww]; done)); (focus (simp [-getElem?_pos, hj1, hx, eV x, hww]; with_reducible rfl)); (focus (simp; with_reducible rfl)))
    | (apply XD.stepN rfl; (focus (simp; with_reducible rfl)))
    | ((first | apply XD.stepGt rfl | apply XD.stepGf rfl); (focus (simp; with_reducible rfl)); all_goals (intro hp; first | exact absurd hp (by decide) | ((try rw [hp]); (try simp at hp))))
    | (apply XD.loud; (focus (simp [-getElem?_pos, hj1, hx, eV x, hww]; with_reducible (first | rfl | exact ⟨rfl, rfl⟩))); (focus (simp; done)); (focus (simp; with_reducible rfl)); (focus (simp; with_reducible rfl))))
      refine X.callR (P := fun b2 h2 => Buf h2 5 b2 (es1 ++ encB (flatS x)) ∧ Fr hh b1 h2 b2) (by simp; with_reducible rfl) HH.flat.raw hb1.pures ?_ ?_
      · obtain ⟨b2, h2, e1, e2, e3⟩ := hc _ b1 es1 hb1.more (by omega)
        exact ⟨b2, h2, e1, e2, e3.less⟩
      rintro b2 h2 ⟨hb2, hfr2⟩
      (repeat' first
    | apply X.retS
    | apply X.skipS
    | apply X.skipB
    | apply X.skipL
    | (apply X.exitS; first | apply X.here | (refine X.out (by decide) ?_; apply X.here))
    | apply X.blockS
    | (apply X.condS rfl <;> intro hp <;> first | exact absurd hp (by decide) | ((try rw [hp]); (try simp at hp)))
    | apply X.stepZ
    | (apply X.step; (focus (simp [-getElem?_pos, hww]; with_reducible (first | rfl | exact ⟨rfl, rfl⟩))); (focus (simp; with_reducible rfl)))
    | (apply X.stepN rfl; (focus (simp; with_reducible rfl)))
    | ((first | apply X.stepGt rfl | apply X.stepGf rfl); (focus (simp; with_reducible rfl)); all_goals (intro hp; first | exact absurd hp (by decide) | ((try rw [hp]); (try simp at hp))))
    | (apply X.draw0; (focus rfl))
    | apply XD.nil
    | (apply XD.calm rfl; (focus (simp [-getElem?_pos, hww]; with_reducible (first | rfl | exact ⟨rfl, rfl⟩))); (focus (simp; with_reducible rfl)))
    | (apply XD.call; (focus (simp; with_reducible rfl)); (focus (simp; with_reducible rfl)); (focus (simp [-getElem?_pos, hww]; done)); (focus (simp [-getElem?_pos, hww]; with_reducible rfl)); (focus (simp; with_reducible rfl)))
    | (apply XD.stepN rfl; (focus (simp; with_reducible rfl)))
    | ((first | apply XD.stepGt rfl | apply XD.stepGf rfl); (focus (simp; with_reducible rfl)); all_goals (intro hp; first | exact absurd hp (by decide) | ((try rw [hp]); (try simp at hp))))
    | (apply XD.loud; (focus (simp [-getElem?_pos, hww]; with_reducible (first | rfl | exact ⟨rfl, rfl⟩))); (focus (simp; done)); (focus (simp; with_reducible rfl)); (focus (simp; with_reducible rfl))))
      refine ⟨hj1, h2, b2, _, hb2, hfr.trans hfr2, by simp only [encB, List.length_append, List.length_map]; omega, ?_, _, by simp [Pat], rfl⟩
      rw [← hi]; simp [encB]
    · have hj2 : ¬ j < K.length := by omega
      rw [List.drop_eq_nil_of_le hj1] at hi
      simp only [List.flatMap_nil, encB_nil, List.append_nil] at hi
      clear ih
      (repeat' first
    | apply X.retS
    | apply X.skipS
    | apply X.skipB
    | apply X.skipL
    | (apply X.exitS; first | apply X.here | (refine X.out (by decide) ?_; apply X.here))
    | apply X.blockS
    | (apply X.condS rfl <;> intro hp <;> first | exact absurd hp (by decide) | ((try rw [hp]); (try simp at hp)))
    | apply X.stepZ
    | (apply X.step; (focus (simp [-getElem?_pos, hj2]; with_reducible (first | rfl | exact ⟨rfl, rfl⟩))); (focus (simp; with_reducible rfl)))
    | (apply X.stepN rfl; (focus (simp; with_reducible rfl)))
    | ((first | apply X.stepGt rfl | apply X.stepGf rfl); (focus (simp; with_reducible rfl)); all_goals (intro hp; first | exact absurd hp (by decide) | ((try rw [hp]); (try simp at hp))))
    | (apply X.draw0; (focus rfl))
    | apply XD.nil
    | (apply XD.calm rfl; (focus (simp [-getElem?_pos, hj2]; with_reducible (first | rfl | exact ⟨rfl, rfl⟩))); (focus (simp; with_reducible rfl)))
    | (apply XD.call; (focus (simp; with_reducible rfl)); (focus (simp; with_reducible rfl)); (focus (simp [-getElem?_pos, hj2]; done)); (focus (simp [-getElem?_pos, hj2]; with_reducible rfl)); (focus (simp; with_reducible rfl)))
    | (apply XD.stepN rfl; (focus (simp; with_reducible rfl)))
    | ((first | apply XD.stepGt rfl | apply XD.stepGf rfl); (focus (simp; with_reducible rfl)); all_goals (intro hp; first | exact absurd hp (by decide) | ((try rw [hp]); (try simp at hp))))
    | (apply XD.loud; (focus (simp [-getElem?_pos, hj2]; with_reducible (first | rfl | exact ⟨rfl, rfl⟩))); (focus (simp; done)); (focus (simp; with_reducible rfl)); (focus (simp; with_reducible rfl))))
      all_goals exact FinE.ret rfl ⟨by rw [← hi]; exact hb1, hfr⟩
  | false =>
    have hk : ¬ v.k = 2 := by simpa using bk
    (repeat' first
    | apply X.retS
    | apply X.skipS
    | apply X.skipB
    | apply X.skipL
    | (apply X.exitS; first | apply X.here | (refine X.out (by decide) ?_; apply X.here))
    | apply X.blockS
    | (apply X.condS rfl <;> intro hp <;> first | exact absurd hp (by decide) | ((try rw [hp]); (try simp at hp)))
    | apply X.stepZ
    | (apply X.step; (focus (simp [-getElem?_pos, bk, HH.kids.raw, hkid]; with_reducible (first | rfl | exact ⟨rfl, rfl⟩))); (focus (simp; with_reducible rfl)))
    | (apply X.stepN rfl; (focus (simp; with_reducible rfl)))
    | ((first | apply X.stepGt rfl | apply X.stepGf rfl); (focus (simp; with_reducible rfl)); all_goals (intro hp; first | exact absurd hp (by decide) | ((try rw [hp]); (try simp at hp))))
    | (apply X.draw0; (focus rfl))
    | apply XD.nil
    | (apply XD.calm rfl; (focus (simp [-getElem?_pos, bk, HH.kids.raw, hkid]; with_reducible (first | rfl | exact ⟨rfl, rfl⟩))); (focus (simp; with_reducible rfl)))
    | (apply XD.call; (focus (simp; with_reducible rfl)); (focus (simp; with_reducible rfl)); (focus (simp [-getElem?_pos, bk, HH.kids.raw, hkid]; done)); (focus (simp [-getElem?_pos, bk, HH.kids.raw, hkid]; with_reducible rfl)); (focus (simp; with_reducible rfl)))
    | (apply XD.stepN rfl; (focus (simp; with_reducible rfl)))
    | ((first | apply XD.stepGt rfl | apply XD.stepGf rfl); (focus (simp; with_reducible rfl)); all_goals (intro hp; first | exact absurd hp (by decide) | ((try rw [hp]); (try simp at hp))))
    | (apply XD.loud; (focus (simp [-getElem?_pos, bk, HH.kids.raw, hkid]; with_reducible (first | rfl | exact ⟨rfl, rfl⟩))); (focus (simp; done)); (focus (simp; with_reducible rfl)); (focus (simp; with_reducible rfl))))
    refine X.forS K.length (fun j st => ∃ (hh : Heap) (b1 : V) (es1 : List PV), Buf hh 5 b1 es1 ∧ Fr h b hh b1 ∧ es1.length + ((K.drop j).flatMap flatS).length ≤ 35184372088832 ∧
      es1 ++ encB ((K.drop j).flatMap flatS) = es ++ encB ((if v.k = 2 then [v.b] else []) ++ K.flatMap flatS) ∧ ∃ ts, Pat [some (b1), none, none, none, none, none, none, none, none, none, none, none, none, none, none, none, some (.pv (.sl (K.map encV))), some (.pv (.int .i64 K.length)), some (.pv (.int .i64 j)), none, none, none, none, none, none, none, none] ts ∧ st = ⟨ts, hh⟩) ?_ ?_
    · exact ⟨_, b, es, hb.more, Fr.refl.more, by simpa [hk] using hle, by simp [hk], _, by simp [Pat], rfl⟩
    rintro j st hj ⟨hh, b1, es1, hb1, hfr, hle1, hi, ts, hts, rfl⟩
    obtain ⟨f, rfl⟩ := hts.fill
    simp only [Ab.fill, Nat.reduceAdd]
    clear hts
    rcases Nat.lt_or_ge j K.length with hj1 | hj1
    · obtain ⟨x, hx⟩ := at_of_lt hj1
      have hxm := hkm x (List.mem_of_getElem? hx)
      rw [drop_at hx] at hi hle1
      simp only [List.flatMap_cons, List.length_append] at hle1
      have hc := ih x hxm (hf2 x hxm)
      have hww : IntKind.i64.wrap ((j : Int) + 1) = (j : Int) + 1 := wrap_i64 (by omega)
      clear ih
      rw [eV x] at hc
      (repeat' first
    | apply X.retS
    | apply X.skipS
    | apply X.skipB
    | apply X.skipL
    | (apply X.exitS; first | apply X.here | (refine X.out (by decide) ?_; apply X.here))
    | apply X.blockS
    | (apply X.condS rfl <;> intro hp <;> first | exact absurd hp (by decide) | ((try rw [hp]); (try simp at hp)))
    | apply X.stepZ
    | (apply X.step; (focus (simp [-getElem?_pos, hj1, hx, eV x, hww]; with_reducible (first | rfl | exact ⟨rfl, rfl⟩))); (focus (simp; with_reducible rfl)))
    | (apply X.stepN rfl; (focus (simp; with_reducible rfl)))
    | ((first | apply X.stepGt rfl | apply X.stepGf rfl); (focus (simp; with_reducible rfl)); all_goals (intro hp; first | exact absurd hp (by decide) | ((try rw [hp]); (try simp at hp))))
    | (apply X.draw0; (focus rfl))
    | apply XD.nil
    | (apply XD.calm rfl; (focus (simp [-getElem?_pos, hj1, hx, eV x, hww]; with_reducible (first | rfl | exact ⟨rfl, rfl⟩))); (focus (simp; with_reducible rfl)))
    | (apply XD.call; (focus (simp; with_reducible rfl)); (focus (simp; with_reducible rfl)); (focus (simp [-getElem?_pos, hj1, hx, eV x, hww]; done)); (focus (simp [-getElem?_pos, hj1, hx, eV x, hww]; with_reducible rfl)); (focus (simp; with_reducible rfl)))
    | (apply XD.stepN rfl; (focus (simp; with_reducible rfl)))
    | ((first | apply XD.stepGt rfl | apply XD.stepGf rfl); (focus (simp; with_reducible rfl)); all_goals (intro hp; first | exact absurd hp (by decide) | ((try rw [hp]); (try simp at hp))))
    | (apply XD.loud; (focus (simp [-getElem?_pos, hj1, hx, eV x, hww]; with_reducible (first | rfl | exact ⟨rfl, rfl⟩))); (focus (simp; done)); (focus (simp; with_reducible rfl)); (focus (simp; with_reducible rfl))))
      refine X.callR (P := fun b2 h2 => Buf h2 5 b2 (es1 ++ encB (flatS x)) ∧ Fr hh b1 h2 b2) (by simp; with_reducible rfl) HH.flat.raw hb1.pures ?_ ?_
      · obtain ⟨b2, h2, e1, e2, e3⟩ := hc _ b1 es1 hb1.more (by omega)
        exact ⟨b2, h2, e1, e2, e3.less⟩
      rintro b2 h2 ⟨hb2, hfr2⟩
      (repeat' first
    | apply X.retS
    | apply X.skipS
    | apply X.skipB
    | apply X.skipL
    | (apply X.exitS; first | apply X.here | (refine X.out (by decide) ?_; apply X.here))
    | apply X.blockS
    | (apply X.condS rfl <;> intro hp <;> first | exact absurd hp (by decide) | ((try rw [hp]); (try simp at hp)))
    | apply X.stepZ
    | (apply X.step; (focus (simp [-getElem?_pos, hww]; with_reducible (first | rfl | exact ⟨rfl, rfl⟩))); (focus (simp; with_reducible rfl)))
    | (apply X.stepN rfl; (focus (simp; with_reducible rfl)))
    | ((first | apply X.stepGt rfl | apply X.stepGf rfl); (focus (simp; with_reducible rfl)); all_goals (intro hp; first | exact absurd hp (by decide) | ((try rw [hp]); (try simp at hp))))
    | (apply X.draw0; (focus rfl))
    | apply XD.nil
    | (apply XD.calm rfl; (focus (simp [-getElem?_pos, hww]; with_reducible (first | rfl | exact ⟨rfl, rfl⟩))); (focus (simp; with_reducible rfl)))
    | (apply XD.call; (focus (simp; with_reducible rfl)); (focus (simp; with_reducible rfl)); (focus (simp [-getElem?_pos, hww]; done)); (focus (simp [-getElem?_pos, hww]; with_reducible rfl)); (focus (simp; with_reducible rfl)))
    | (apply XD.stepN rfl; (focus (simp; with_reducible rfl)))
    | ((first | apply XD.stepGt rfl | apply XD.stepGf rfl); (focus (simp; with_reducible rfl)); all_goals (intro hp; first | exact absurd hp (by decide) | ((try rw [hp]); (try simp at hp))))
    | (apply XD.loud; (focus (simp [-getElem?_pos, hww]; with_reducible (first | rfl | exact ⟨rfl, rfl⟩))); (focus (simp; done)); (focus (simp; with_reducible rfl)); (focus (simp; with_reducible rfl))))
      refine ⟨hj1, h2, b2, _, hb2, hfr.trans hfr2, by simp only [encB, List.length_append, List.length_map]; omega, ?_, _, by simp [Pat], rfl⟩
      rw [← hi]; simp [encB]
    · have hj2 : ¬ j < K.length := by omega
      rw [List.drop_eq_nil_of_le hj1] at hi
      simp only [List.flatMap_nil, encB_nil, List.append_nil] at hi
      clear ih
      (repeat' first
    | apply X.retS
    | apply X.skipS
    | apply X.skipB
    | apply X.skipL
    | (apply X.exitS; first | apply X.here | (refine X.out (by decide) ?_; apply X.here))
    | apply X.blockS
    | (apply X.condS rfl <;> intro hp <;> first | exact absurd hp (by decide) | ((try rw [hp]); (try simp at hp)))
    | apply X.stepZ
    | (apply X.step; (focus (simp [-getElem?_pos, hj2]; with_reducible (first | rfl | exact ⟨rfl, rfl⟩))); (focus (simp; with_reducible rfl)))
    | (apply X.stepN rfl; (focus (simp; with_reducible rfl)))
    | ((first | apply X.stepGt rfl | apply X.stepGf rfl); (focus (simp; with_reducible rfl)); all_goals (intro hp; first | exact absurd hp (by decide) | ((try rw [hp]); (try simp at hp))))
    | (apply X.draw0; (focus rfl))
    | apply XD.nil
    | (apply XD.calm rfl; (focus (simp [-getElem?_pos, hj2]; with_reducible (first | rfl | exact ⟨rfl, rfl⟩))); (focus (simp; with_reducible rfl)))
    | (apply XD.call; (focus (simp; with_reducible rfl)); (focus (simp; with_reducible rfl)); (focus (simp [-getElem?_pos, hj2]; done)); (focus (simp [-getElem?_pos, hj2]; with_reducible rfl)); (focus (simp; with_reducible rfl)))
    | (apply XD.stepN rfl; (focus (simp; with_reducible rfl)))
    | ((first | apply XD.stepGt rfl | apply XD.stepGf rfl); (focus (simp; with_reducible rfl)); all_goals (intro hp; first | exact absurd hp (by decide) | ((try rw [hp]); (try simp at hp))))
    | (apply XD.loud; (focus (simp [-getElem?_pos, hj2]; with_reducible (first | rfl | exact ⟨rfl, rfl⟩))); (focus (simp; done)); (focus (simp; with_reducible rfl)); (focus (simp; with_reducible rfl))))
      all_goals exact FinE.ret rfl ⟨by rw [← hi]; exact hb1, hfr⟩

set_option maxHeartbeats 1000000 in
theorem Flat_ok (HH : HasF E) (v : Va) (hf : FineV v) (hle : (flatS v).length ≤ 35184372088832) : limP E 67 [encV v] = some [.sl (encB (flatS v))] := by
  have hc := flat_ok HH v hf
  rw [eV] at hc ⊢
  have H := HH.Flat
  refine H.lim (Nat.le_of_ble_eq_true rfl) (by simp; with_reducible rfl) ?_; unfold c67
  (repeat' first
    | apply X.retS
    | apply X.skipS
    | apply X.skipB
    | apply X.skipL
    | (apply X.exitS; first | apply X.here | (refine X.out (by decide) ?_; apply X.here))
    | apply X.blockS
    | (apply X.condS rfl <;> intro hp <;> first | exact absurd hp (by decide) | ((try rw [hp]); (try simp at hp)))
    | apply X.stepZ
    | (apply X.step; (focus (simp; with_reducible (first | rfl | exact ⟨rfl, rfl⟩))); (focus (simp; with_reducible rfl)))
    | (apply X.stepN rfl; (focus (simp; with_reducible rfl)))
    | ((first | apply X.stepGt rfl | apply X.stepGf rfl); (focus (simp; with_reducible rfl)); all_goals (intro hp; first | exact absurd hp (by decide) | ((try rw [hp]); (try simp at hp))))
    | (apply X.draw0; (focus rfl))
    | apply XD.nil
    | (apply XD.calm rfl; (focus (simp; with_reducible (first | rfl | exact ⟨rfl, rfl⟩))); (focus (simp; with_reducible rfl)))
    | (apply XD.call; (focus (simp; with_reducible rfl)); (focus (simp; with_reducible rfl)); (focus (simp; done)); (focus (simp; with_reducible rfl)); (focus (simp; with_reducible rfl)))
    | (apply XD.stepN rfl; (focus (simp; with_reducible rfl)))
    | ((first | apply XD.stepGt rfl | apply XD.stepGf rfl); (focus (simp; with_reducible rfl)); all_goals (intro hp; first | exact absurd hp (by decide) | ((try rw [hp]); (try simp at hp))))
    | (apply XD.loud; (focus (simp; with_reducible (first | rfl | exact ⟨rfl, rfl⟩))); (focus (simp; done)); (focus (simp; with_reducible rfl)); (focus (simp; with_reducible rfl))))
  refine X.callR (P := fun b2 h2 => Buf h2 5 b2 (encB (flatS v))) (by simp; with_reducible rfl) HH.flat.raw (by simp [pures]) ?_ ?_
  · obtain ⟨b2, h2, e1, e2, _⟩ := hc _ .nils [] Buf.nil (by simpa using hle)
    exact ⟨b2, h2, e1, by simpa using e2⟩
  rintro b2 h2 hb2
  obtain ⟨h3, hs⟩ := hb2.snap (n := 998)
  (repeat' first
    | apply X.retS
    | apply X.skipS
    | apply X.skipB
    | apply X.skipL
    | (apply X.exitS; first | apply X.here | (refine X.out (by decide) ?_; apply X.here))
    | apply X.blockS
    | (apply X.condS rfl <;> intro hp <;> first | exact absurd hp (by decide) | ((try rw [hp]); (try simp at hp)))
    | apply X.stepZ
    | (apply X.step; (focus (simp; with_reducible (first | rfl | exact ⟨rfl, rfl⟩))); (focus (simp; with_reducible rfl)))
    | (apply X.stepN rfl; (focus (simp; with_reducible rfl)))
    | ((first | apply X.stepGt rfl | apply X.stepGf rfl); (focus (simp; with_reducible rfl)); all_goals (intro hp; first | exact absurd hp (by decide) | ((try rw [hp]); (try simp at hp))))
    | (apply X.draw0; (focus rfl))
    | apply XD.nil
    | (apply XD.calm rfl; (focus (simp; with_reducible (first | rfl | exact ⟨rfl, rfl⟩))); (focus (simp; with_reducible rfl)))
    | (apply XD.call; (focus (simp; with_reducible rfl)); (focus (simp; with_reducible rfl)); (focus (simp; done)); (focus (simp; with_reducible rfl)); (focus (simp; with_reducible rfl)))
    | (apply XD.stepN rfl; (focus (simp; with_reducible rfl)))
    | ((first | apply XD.stepGt rfl | apply XD.stepGf rfl); (focus (simp; with_reducible rfl)); all_goals (intro hp; first | exact absurd hp (by decide) | ((try rw [hp]); (try simp at hp))))
    | (apply XD.loud; (focus (simp; with_reducible (first | rfl | exact ⟨rfl, rfl⟩))); (focus (simp; done)); (focus (simp; with_reducible rfl)); (focus (simp; with_reducible rfl))))
  all_goals (refine Fin.mk' (us := [b2]) rfl ?_ rfl)
  all_goals (rcases hb2 with ⟨_, rfl⟩ | ⟨_, id, rfl, _⟩ <;> simp only [pureRes, oneOf, snapFuel, hs] <;> rfl)

set_option maxHeartbeats 1000000 in
theorem Len_ok (HH : HasF E) (v : Va) (hf : FineV v) (hle : (flatS v).length ≤ 35184372088832) : limP E 34 [encV v] = some [.int .i64 (flatS v).length] := by
  have hc := Flat_ok HH v hf hle
  rw [eV] at hc ⊢
  have H := HH.Len
  refine H.lim (Nat.le_of_ble_eq_true rfl) (by simp; with_reducible rfl) ?_; unfold c34
  (repeat' first
    | apply X.retS
    | apply X.skipS
    | apply X.skipB
    | apply X.skipL
    | (apply X.exitS; first | apply X.here | (refine X.out (by decide) ?_; apply X.here))
    | apply X.blockS
    | (apply X.condS rfl <;> intro hp <;> first | exact absurd hp (by decide) | ((try rw [hp]); (try simp at hp)))
    | apply X.stepZ
    | (apply X.step; (focus (simp [-getElem?_pos, HH.Flat.raw, hc, encB]; with_reducible (first | rfl | exact ⟨rfl, rfl⟩))); (focus (simp; with_reducible rfl)))
    | (apply X.stepN rfl; (focus (simp; with_reducible rfl)))
    | ((first | apply X.stepGt rfl | apply X.stepGf rfl); (focus (simp; with_reducible rfl)); all_goals (intro hp; first | exact absurd hp (by decide) | ((try rw [hp]); (try simp at hp))))
    | (apply X.draw0; (focus rfl))
    | apply XD.nil
    | (apply XD.calm rfl; (focus (simp [-getElem?_pos, HH.Flat.raw, hc, encB]; with_reducible (first | rfl | exact ⟨rfl, rfl⟩))); (focus (simp; with_reducible rfl)))
    | (apply XD.call; (focus (simp; with_reducible rfl)); (focus (simp; with_reducible rfl)); (focus (simp [-getElem?_pos, HH.Flat.raw, hc, encB]; done)); (focus (simp [-getElem?_pos, HH.Flat.raw, hc, encB]; with_reducible rfl)); (focus (simp; with_reducible rfl)))
    | (apply XD.stepN rfl; (focus (simp; with_reducible rfl)))
    | ((first | apply XD.stepGt rfl | apply XD.stepGf rfl); (focus (simp; with_reducible rfl)); all_goals (intro hp; first | exact absurd hp (by decide) | ((try rw [hp]); (try simp at hp))))
    | (apply XD.loud; (focus (simp [-getElem?_pos, HH.Flat.raw, hc, encB]; with_reducible (first | rfl | exact ⟨rfl, rfl⟩))); (focus (simp; done)); (focus (simp; with_reducible rfl)); (focus (simp; with_reducible rfl))))
  all_goals ((refine Fin.mk' (by simp [resA]; with_reducible rfl) (by simp [oneOf, pureRes, snapFuel, snapL]; with_reducible rfl) ?_); simp)
end Cps

-- Where groups' texts stand: within the whole; moved along, the same, moved; of two, one behind the other.
namespace Cps
open Go Ab

/-- Two walks, the second so much further on: alike, moved; within. -/
structure RR (lo b : Int) (s s' : List Sp × Int) : Prop where
  at' : s'.2 = s.2 + b
  lo' : lo ≤ s.2
  len : s.1.length = s'.1.length
  sp : ∀ (i : Nat) (p : Sp), s.1[i]? = some p → ∃ q, s'.1[i]? = some q ∧ ((p = (-1, -1) ∧ q = (-1, -1)) ∨ (lo ≤ p.1 ∧ p.1 ≤ p.2 ∧ p.2 ≤ s.2 ∧ q = (p.1 + b, p.2 + b)))

section
variable {lo b : Int} {s s' : List Sp × Int}

theorem RR.set (R : RR lo b s s') (i : Nat) {p q : Sp} (h : (p = (-1, -1) ∧ q = (-1, -1)) ∨ (lo ≤ p.1 ∧ p.1 ≤ p.2 ∧ p.2 ≤ s.2 ∧ q = (p.1 + b, p.2 + b))) : RR lo b (s.1.set i p, s.2) (s'.1.set i q, s'.2) := by
  refine ⟨R.at', R.lo', by simp [R.len], fun j x hx => ?_⟩
  simp only [List.getElem?_set] at hx ⊢
  by_cases hij : i = j
  · subst hij
    simp only [if_true] at hx ⊢
    by_cases hl : i < s.1.length
    · rw [if_pos hl] at hx
      rw [if_pos (by rw [← R.len]; exact hl)]
      cases hx
      exact ⟨q, rfl, h⟩
    · rw [if_neg hl] at hx; cases hx
  · rw [if_neg hij] at hx ⊢
    exact R.sp j x hx

theorem RR.go (R : RR lo b s s') {a : Int} (h : s.2 ≤ a) : RR lo b (s.1, a) (s'.1, a + b) := by
  refine ⟨rfl, by have := R.lo'; simp; omega, R.len, fun j x hx => ?_⟩
  obtain ⟨q, h1, h2⟩ := R.sp j x hx
  refine ⟨q, h1, ?_⟩
  rcases h2 with h2 | ⟨h2, h3, h4, h5⟩
  · exact .inl h2
  · exact .inr ⟨h2, h3, by simp; omega, h5⟩

theorem RR.forget : ∀ (c : Co) (s s' : List Sp × Int), RR lo b s s' → RR lo b (forgetS c s.1, s.2) (forgetS c s'.1, s'.2) := by
  refine Co.ind fun c ih s s' R => ?_
  have key : ∀ (l : List Co) (s s' : List Sp × Int), (∀ y ∈ l, ∀ s s' : List Sp × Int, RR lo b s s' → RR lo b (forgetS y s.1, s.2) (forgetS y s'.1, s'.2)) → RR lo b s s' → RR lo b (forgetS.forgetL l s.1, s.2) (forgetS.forgetL l s'.1, s'.2) := by
    intro l
    induction l with
    | nil => intro s s' _ h; exact h
    | cons x l ihl => intro s s' hh h; exact ihl _ _ (fun y hy => hh y (by simp [hy])) (hh x (by simp) _ _ h)
  rw [forget_eq, forget_eq]
  by_cases hc : c.k = 6 ∧ c.n < s.1.length
  · rw [if_pos hc, if_pos (by rw [← R.len]; exact hc)]
    exact key _ _ _ ih (R.set _ (.inl ⟨rfl, rfl⟩))
  · rw [if_neg hc, if_neg (by rw [← R.len]; exact hc)]
    exact key _ _ _ ih R
end

theorem eP' (p : Sp) : encP p = .agg [.int .i64 p.1, .int .i64 p.2] := rfl

theorem flat_two {k b : Int} {x y : Va} (hk : k = 3) : flatS (.mk k b [x, y]) = flatS x ++ flatS y := by
  subst hk; rw [flatS_eq]; simp [kidsV, kidN, Va.k, Va.l]
theorem flat_one {k b : Int} {x : Va} (hk : k = 4 ∨ k = 5 ∨ k = 7) : flatS (.mk k b [x]) = flatS x := by
  rcases hk with rfl | rfl | rfl <;> (rw [flatS_eq]; simp [kidsV, kidN, Va.k, Va.l])
theorem flat_all {b : Int} {l : List Va} : flatS (.mk 6 b l) = l.flatMap flatS := by
  rw [flatS_eq]; simp [kidsV, kidN, Va.k, Va.l]

/-- What a value of a kind is made of. -/
theorem gv_kind (c : Co) (v : Va) (h : gvS c v = true) (h7 : ¬ c.k = 7) : kindC v.k = c.k ∧ (v.l.length : Int) = kindM v.k v.l.length := by
  rw [gvS_eq, if_neg h7] at h
  split at h
  · cases h
  · rename_i hg
    exact ⟨Decidable.byContradiction fun hh => hg (.inl hh), Decidable.byContradiction fun hh => hg (.inr (.inr (.inl hh)))⟩

theorem gv_1 {c : Co} {v : Va} (h : gvS c v = true) (hk : c.k = 1) : flatS v = [] := by
  obtain ⟨h1, h2⟩ := gv_kind c v h (by omega)
  rw [hk] at h1
  have hv : v.k = 1 := by unfold kindC at h1; repeat' split at h1
                          all_goals omega
  rw [flatS_eq]; simp [kidsV, kidN, hv]
theorem gv_2 {c : Co} {v : Va} (h : gvS c v = true) (hk : c.k = 2) : flatS v = [v.b] := by
  obtain ⟨h1, h2⟩ := gv_kind c v h (by omega)
  rw [hk] at h1
  have hv : v.k = 2 := by unfold kindC at h1; repeat' split at h1
                          all_goals omega
  rw [flatS_eq]; simp [kidsV, kidN, hv]
theorem gv_3 {c : Co} {v : Va} (h : gvS c v = true) (hk : c.k = 3) : v.k = 3 := by
  obtain ⟨h1, h2⟩ := gv_kind c v h (by omega)
  rw [hk] at h1
  unfold kindC at h1; repeat' split at h1
  all_goals omega
theorem gv_5 {c : Co} {v : Va} (h : gvS c v = true) (hk : c.k = 5) : v.k = 6 := by
  obtain ⟨h1, h2⟩ := gv_kind c v h (by omega)
  rw [hk] at h1
  unfold kindC at h1; repeat' split at h1
  all_goals omega
theorem gv_6 {c : Co} {v : Va} (h : gvS c v = true) (hk : c.k = 6) : v.k = 7 := by
  obtain ⟨h1, h2⟩ := gv_kind c v h (by omega)
  rw [hk] at h1
  unfold kindC at h1; repeat' split at h1
  all_goals omega

theorem setIf_fst {n a : Int} {s : List Sp × Int} : (setIf n a s).2 = s.2 := by unfold setIf; split <;> rfl

/-- How far a walk goes. -/
theorem walk_at : ∀ c, Sh c → ∀ v s, gvS c v = true → -4611686018427387904 ≤ s.2 → s.2 + ((flatS v).length : Int) ≤ 4611686018427387904 → (walkS c v s).2 = s.2 + ((flatS v).length : Int) := by
  refine Co.ind fun c ih hs v s hg h0 hle => ?_
  have hgc := gv_cases c v hg
  have hsk := hs
  obtain ⟨hs1, hs2, hs3⟩ := sh_mk.1 hs
  rcases hgc with h | h | ⟨h, x, y, hl, ga, gb⟩ | ⟨h, x, hl, hgx⟩ | ⟨h, hl⟩ | ⟨h, x, hl, ga⟩ | ⟨h, ga⟩
  · have hf := gv_1 hg h
    obtain ⟨k, s0, s1, s2, s3, n, l⟩ := c
    simp only [Co.k] at h; subst h
    rw [walkS_eq]
    simp [hf]
  · have hf := gv_2 hg h
    obtain ⟨k, s0, s1, s2, s3, n, l⟩ := c
    simp only [Co.k] at h; subst h
    rw [walkS_eq]
    rw [hf] at hle
    simp only [List.length_singleton] at hle
    have : IntKind.i64.wrap (s.2 + 1) = s.2 + 1 := wrap_i64 (by omega)
    simp [hf, this]
  · have hvk := gv_3 hg h
    obtain ⟨a, b, hcl, ha, hb⟩ := sh_two hs (.inl h)
    rw [hcl] at ih ga gb
    simp only [gvS.gvAt] at ga gb
    obtain ⟨k, s0, s1, s2, s3, n, l⟩ := c
    simp only [Co.k, Co.l] at h hcl; subst h; subst hcl
    obtain ⟨vk, vb, vl⟩ := v
    simp only [Va.k, Va.l] at hvk hl; subst hvk; subst hl
    rw [flat_two rfl, List.length_append] at hle ⊢
    rw [walkS_eq]
    simp only [Va.l, walkS.walkAt]
    have e1 := ih a (by simp) ha x s ga h0 (by omega)
    have e2 := ih b (by simp) hb y (walkS a x s) gb (by omega) (by omega)
    simp only [show ¬ (3 : Int) = 2 by omega, if_false, if_true]
    rw [e2, e1]; omega
  · obtain ⟨a, b, hcl, ha, hb⟩ := sh_two hs (.inr h)
    rw [hcl] at ih hgx
    simp only [gvS.gvAt] at hgx
    obtain ⟨k, s0, s1, s2, s3, n, l⟩ := c
    simp only [Co.k, Co.l] at h hcl; subst h; subst hcl
    obtain ⟨vk, vb, vl⟩ := v
    simp only [Va.k, Va.l] at hgx hl; subst hl
    rw [flat_one (by omega)] at hle ⊢
    rw [walkS_eq]
    rcases hgx with ⟨rfl, ga⟩ | ⟨rfl, gb⟩
    · have e1 := ih a (by simp) ha x s ga h0 (by omega)
      simpa [Va.l, Va.k, walkS.walkAt] using e1
    · have e1 := ih b (by simp) hb x s gb h0 (by omega)
      simpa [Va.l, Va.k, walkS.walkAt] using e1
  · have hvk := gv_5 hg h
    obtain ⟨a, hcl, ha⟩ := sh_one hs (.inl h)
    rw [hcl] at ih hl
    simp only [gvS.gvAt] at hl
    obtain ⟨k, s0, s1, s2, s3, n, l⟩ := c
    simp only [Co.k, Co.l] at h hcl; subst h; subst hcl
    obtain ⟨vk, vb, vl⟩ := v
    simp only [Va.k, Va.l] at hvk hl; subst hvk
    rw [flat_all] at hle ⊢
    rw [walkS_eq]
    simp only [show ¬ (5 : Int) = 2 by omega, show ¬ (5 : Int) = 3 by omega, show ¬ (5 : Int) = 4 by omega, if_false, if_true, Va.l, walkS.walkAt, forgetAt]
    clear hg hsk hs hs1 hs3
    have key : ∀ (xs : List Va) (s : List Sp × Int), (∀ x ∈ xs, gvS a x = true) → -4611686018427387904 ≤ s.2 → s.2 + ((xs.flatMap flatS).length : Int) ≤ 4611686018427387904 →
        (xs.foldl (fun s x => walkS a x (forgetS a s.1, s.2)) s).2 = s.2 + ((xs.flatMap flatS).length : Int) := by
      intro xs
      induction xs with
      | nil => intro s _ _ _; simp
      | cons x xs ihx =>
        intro s hx h0 hle
        simp only [List.flatMap_cons, List.length_append] at hle
        have e1 := ih a (by simp) ha x (forgetS a s.1, s.2) (hx x (by simp)) h0 (by simp only; omega)
        simp only at e1
        rw [List.foldl_cons, ihx _ (fun y hy => hx y (by simp [hy])) (by omega) (by omega), e1, List.flatMap_cons, List.length_append]
        omega
    exact key _ _ hl h0 hle
  · have hvk := gv_6 hg h
    obtain ⟨a, hcl, ha⟩ := sh_one hs (.inr (.inl h))
    rw [hcl] at ih ga
    simp only [gvS.gvAt] at ga
    obtain ⟨k, s0, s1, s2, s3, n, l⟩ := c
    simp only [Co.k, Co.l] at h hcl; subst h; subst hcl
    obtain ⟨vk, vb, vl⟩ := v
    simp only [Va.k, Va.l] at hvk hl; subst hvk; subst hl
    rw [flat_one (by omega)] at hle ⊢
    rw [walkS_eq]
    have e1 := ih a (by simp) ha x s ga h0 (by omega)
    simpa [Va.l, Va.k, walkS.walkAt, setIf_fst] using e1
  · obtain ⟨a, hcl, ha⟩ := sh_one hs (.inr (.inr h))
    rw [hcl] at ih ga
    simp only [gvS.gvAt] at ga
    obtain ⟨k, s0, s1, s2, s3, n, l⟩ := c
    simp only [Co.k, Co.l] at h hcl; subst h; subst hcl
    rw [walkS_eq]
    have e1 := ih a (by simp) ha v (forgetS a s.1, s.2) ga h0 hle
    simpa [walkS.walkAt, forgetAt] using e1

/-- Two walks of the same, so much further on. -/
theorem walk_rel {lo b : Int} (hlo : -1 ≤ lo) (hb : 0 ≤ b) : ∀ c, Sh c → ∀ v (s s' : List Sp × Int), gvS c v = true → s.2 + b + ((flatS v).length : Int) ≤ 4611686018427387904 → RR lo b s s' → RR lo b (walkS c v s) (walkS c v s') := by
  refine Co.ind fun c ih hs v s s' hg hle R => ?_
  have hgc := gv_cases c v hg
  have hl0 := R.lo'
  have hat := R.at'
  obtain ⟨hs1, hs2, hs3⟩ := sh_mk.1 hs
  rcases hgc with h | h | ⟨h, x, y, hl, ga, gb⟩ | ⟨h, x, hl, hgx⟩ | ⟨h, hl⟩ | ⟨h, x, hl, ga⟩ | ⟨h, ga⟩
  · obtain ⟨k, s0, s1, s2, s3, n, l⟩ := c
    simp only [Co.k] at h; subst h
    rw [walkS_eq, walkS_eq]
    simpa using R
  · have hf := gv_2 hg h
    obtain ⟨k, s0, s1, s2, s3, n, l⟩ := c
    simp only [Co.k] at h; subst h
    rw [walkS_eq, walkS_eq]
    rw [hf] at hle
    simp only [List.length_singleton] at hle
    have e1 : IntKind.i64.wrap (s.2 + 1) = s.2 + 1 := wrap_i64 (by omega)
    have e2 : IntKind.i64.wrap (s'.2 + 1) = (s.2 + 1) + b := by rw [hat, wrap_i64 (by omega)]; omega
    simp only [if_true, e1, e2]
    exact R.go (by omega)
  · have hvk := gv_3 hg h
    obtain ⟨a, d, hcl, ha, hd⟩ := sh_two hs (.inl h)
    rw [hcl] at ih ga gb
    simp only [gvS.gvAt] at ga gb
    obtain ⟨k, s0, s1, s2, s3, n, l⟩ := c
    simp only [Co.k, Co.l] at h hcl; subst h; subst hcl
    obtain ⟨vk, vb, vl⟩ := v
    simp only [Va.k, Va.l] at hvk hl; subst hvk; subst hl
    rw [flat_two rfl, List.length_append] at hle
    rw [walkS_eq, walkS_eq]
    simp only [Va.l, walkS.walkAt]
    have e1 := ih a (by simp) ha x s s' ga (by omega) R
    have e0 := walk_at a ha x s ga (by omega) (by omega)
    have e2 := ih d (by simp) hd y _ _ gb (by omega) e1
    simpa using e2
  · obtain ⟨a, d, hcl, ha, hd⟩ := sh_two hs (.inr h)
    rw [hcl] at ih hgx
    simp only [gvS.gvAt] at hgx
    obtain ⟨k, s0, s1, s2, s3, n, l⟩ := c
    simp only [Co.k, Co.l] at h hcl; subst h; subst hcl
    obtain ⟨vk, vb, vl⟩ := v
    simp only [Va.k, Va.l] at hgx hl; subst hl
    rw [flat_one (by omega)] at hle
    rw [walkS_eq, walkS_eq]
    rcases hgx with ⟨rfl, ga⟩ | ⟨rfl, gb⟩
    · have e1 := ih a (by simp) ha x s s' ga (by omega) R
      simpa [Va.l, Va.k, walkS.walkAt] using e1
    · have e1 := ih d (by simp) hd x s s' gb (by omega) R
      simpa [Va.l, Va.k, walkS.walkAt] using e1
  · have hvk := gv_5 hg h
    obtain ⟨a, hcl, ha⟩ := sh_one hs (.inl h)
    rw [hcl] at ih hl
    simp only [gvS.gvAt] at hl
    obtain ⟨k, s0, s1, s2, s3, n, l⟩ := c
    simp only [Co.k, Co.l] at h hcl; subst h; subst hcl
    obtain ⟨vk, vb, vl⟩ := v
    simp only [Va.k, Va.l] at hvk hl; subst hvk
    rw [flat_all] at hle
    rw [walkS_eq, walkS_eq]
    simp only [show ¬ (5 : Int) = 2 by omega, show ¬ (5 : Int) = 3 by omega, show ¬ (5 : Int) = 4 by omega, if_false, if_true, Va.l, walkS.walkAt, forgetAt]
    have key : ∀ (xs : List Va) (s s' : List Sp × Int), (∀ x ∈ xs, gvS a x = true) → s.2 + b + ((xs.flatMap flatS).length : Int) ≤ 4611686018427387904 → RR lo b s s' →
        RR lo b (xs.foldl (fun s x => walkS a x (forgetS a s.1, s.2)) s) (xs.foldl (fun s x => walkS a x (forgetS a s.1, s.2)) s') := by
      intro xs
      induction xs with
      | nil => intro s s' _ _ R; exact R
      | cons x xs ihx =>
        intro s s' hx hle R
        have hl0 := R.lo'
        simp only [List.flatMap_cons, List.length_append] at hle
        have R1 := RR.forget a s s' R
        have e1 := ih a (by simp) ha x _ _ (hx x (by simp)) (by simp only; omega) R1
        have e0 := walk_at a ha x (forgetS a s.1, s.2) (hx x (by simp)) (by simp only; omega) (by simp only; omega)
        simp only at e0
        rw [List.foldl_cons, List.foldl_cons]
        exact ihx _ _ (fun y hy => hx y (by simp [hy])) (by omega) e1
    exact key _ _ _ hl hle R
  · have hvk := gv_6 hg h
    obtain ⟨a, hcl, ha⟩ := sh_one hs (.inr (.inl h))
    rw [hcl] at ih ga
    simp only [gvS.gvAt] at ga
    obtain ⟨k, s0, s1, s2, s3, n, l⟩ := c
    simp only [Co.k, Co.l] at h hcl; subst h; subst hcl
    obtain ⟨vk, vb, vl⟩ := v
    simp only [Va.k, Va.l] at hvk hl; subst hvk; subst hl
    rw [flat_one (by omega)] at hle
    rw [walkS_eq, walkS_eq]
    have e1 := ih a (by simp) ha x s s' ga (by omega) R
    have e0 := walk_at a ha x s ga (by omega) (by omega)
    simp only [show ¬ (6 : Int) = 2 by omega, show ¬ (6 : Int) = 3 by omega, show ¬ (6 : Int) = 4 by omega, show ¬ (6 : Int) = 5 by omega, if_false, if_true, Va.l, walkS.walkAt]
    unfold setIf
    by_cases hn : n < (walkS a x s).1.length
    · rw [if_pos hn, if_pos (by rw [← e1.len]; exact hn)]
      have := e1.set n.toNat (p := (s.2, (walkS a x s).2)) (q := (s'.2, (walkS a x s').2)) (.inr ⟨by simpa using hl0, by simp only; omega, Int.le_refl _, by rw [hat, e1.at']⟩)
      exact this
    · rw [if_neg hn, if_neg (by rw [← e1.len]; exact hn)]
      exact e1
  · obtain ⟨a, hcl, ha⟩ := sh_one hs (.inr (.inr h))
    rw [hcl] at ih ga
    simp only [gvS.gvAt] at ga
    obtain ⟨k, s0, s1, s2, s3, n, l⟩ := c
    simp only [Co.k, Co.l] at h hcl; subst h; subst hcl
    rw [walkS_eq, walkS_eq]
    have R1 := RR.forget a s s' R
    have e1 := ih a (by simp) ha v _ _ ga (by simpa using hle) R1
    simpa [walkS.walkAt, forgetAt] using e1

theorem rr_none {a b : Int} (n : Nat) : RR a b (List.replicate n ((-1 : Int), (-1 : Int)), a) (List.replicate n ((-1 : Int), (-1 : Int)), a + b) := by
  refine ⟨rfl, Int.le_refl _, rfl, fun i p hp => ⟨p, hp, .inl ?_⟩⟩
  have := List.mem_of_getElem? hp
  simp at this
  exact ⟨this.2, this.2⟩

/-- The whole is the first; each within it; moved, the same, moved. -/
theorem of_rel {c : Co} (hs : Sh c) {v : Va} (hg : gvS c v = true) {a b : Int} (ha : 0 ≤ a) (hb : 0 ≤ b) (n : Nat) (hle : a + b + ((flatS v).length : Int) ≤ 4611686018427387904) :
    (ofS c v a n)[0]? = some (a, a + ((flatS v).length : Int)) ∧ ∀ (i : Nat) (p : Sp), (ofS c v a n)[i]? = some p → ∃ q, (ofS c v (a + b) n)[i]? = some q ∧
      ((p = (-1, -1) ∧ q = (-1, -1)) ∨ (a ≤ p.1 ∧ p.1 ≤ p.2 ∧ p.2 ≤ a + ((flatS v).length : Int) ∧ q = (p.1 + b, p.2 + b))) := by
  have R := walk_rel (by omega) hb c hs v _ _ hg (by simpa using hle) (rr_none (a := a) (b := b) (n + 1))
  have e0 := walk_at c hs v (List.replicate (n + 1) ((-1 : Int), (-1 : Int)), a) hg (by simp only; omega) (by simp only; omega)
  have e1 := walk_at c hs v (List.replicate (n + 1) ((-1 : Int), (-1 : Int)), a + b) hg (by simp only; omega) (by simp only; omega)
  simp only at e0 e1
  have hlen := walk_len c v (List.replicate (n + 1) ((-1 : Int), (-1 : Int)), a)
  simp only [List.length_replicate] at hlen
  have R2 := R.set 0 (p := (a, a + ((flatS v).length : Int))) (q := (a + b, a + b + ((flatS v).length : Int))) (.inr ⟨Int.le_refl _, by simp only; omega, by simp only; omega, by simp only [Prod.mk.injEq, true_and]; omega⟩)
  refine ⟨?_, fun i p hp => ?_⟩
  · simp only [ofS, e0]
    rw [List.getElem?_set_self (by omega)]
  · have := R2.sp i p (by simpa only [ofS, e0] using hp)
    simp only [e0] at this
    simpa only [ofS, e1] using this
end Cps

-- A core's groups: core.Groups walked; a walk touches the spans of a core's own groups alone.
namespace Cps
open Go Ab Go.Proofs.YtlhfndoldaokhaaDoor.Mach
variable {E : Env}

/-- All numbers of groups. -/
def gl : Co → List Int
  | .mk k _ _ _ _ n l => (if k = 6 then [n] else []) ++ glL l
where
  glL : List Co → List Int
  | [] => []
  | x :: l => gl x ++ glL l
theorem glL_eq : ∀ l, gl.glL l = l.flatMap gl
  | [] => rfl
  | x :: l => by simp [gl.glL, glL_eq l]
theorem gl_eq (c : Co) : gl c = (if c.k = 6 then [c.n] else []) ++ c.l.flatMap gl := by cases c; rw [gl, glL_eq]; rfl

/-- One more, where it is not there. -/
def add1 (k n : Int) (L : List Int) : List Int := if k = 6 then (if n ∈ L then L else L ++ [n]) else L
/-- The groups' numbers, each once. -/
def addG : Co → List Int → List Int
  | .mk k _ _ _ _ n l, L => addL l (add1 k n L)
where
  addL : List Co → List Int → List Int
  | [], L => L
  | x :: l, L => addL l (addG x L)
theorem addG_eq (c : Co) (L : List Int) : addG c L = addG.addL c.l (add1 c.k c.n L) := by cases c; rfl

theorem mem_add1 {k n : Int} {L : List Int} {x : Int} : x ∈ add1 k n L ↔ x ∈ L ∨ (k = 6 ∧ x = n) := by
  unfold add1
  split
  · split
    · rename_i h1 h2
      constructor
      · exact .inl
      · rintro (h | ⟨_, rfl⟩) <;> assumption
    · rename_i h1 h2
      simp [h1]
  · rename_i h1
    simp [h1]
theorem mem_addG (x : Int) : ∀ c L, x ∈ addG c L ↔ x ∈ L ∨ x ∈ gl c := by
  refine Co.ind fun c ih L => ?_
  have key : ∀ (l : List Co) (L : List Int), (∀ y ∈ l, ∀ L, x ∈ addG y L ↔ x ∈ L ∨ x ∈ gl y) → (x ∈ addG.addL l L ↔ x ∈ L ∨ x ∈ l.flatMap gl) := by
    intro l
    induction l with
    | nil => intro L _; simp [addG.addL]
    | cons y l ihl =>
      intro L h
      rw [addG.addL, ihl _ fun z hz => h z (by simp [hz]), h y (by simp)]
      simp [or_assoc]
  rw [addG_eq, key _ _ ih, mem_add1, gl_eq]
  by_cases hk : c.k = 6 <;> simp [hk, or_assoc]
/-- How many words. -/
def nodes : Co → Nat
  | .mk _ _ _ _ _ _ l => 1 + nodesL l
where
  nodesL : List Co → Nat
  | [] => 0
  | x :: l => nodes x + nodesL l
theorem nodes_eq (c : Co) : nodes c = 1 + nodes.nodesL c.l := by cases c; rfl
theorem len_add1 {k n : Int} {L : List Int} : (add1 k n L).length ≤ L.length + 1 := by unfold add1; repeat' split
                                                                                       all_goals simp
theorem len_addG : ∀ c L, (addG c L).length ≤ L.length + nodes c := by
  refine Co.ind fun c ih L => ?_
  have key : ∀ (l : List Co) (L : List Int), (∀ y ∈ l, ∀ L, (addG y L).length ≤ L.length + nodes y) → (addG.addL l L).length ≤ L.length + nodes.nodesL l := by
    intro l
    induction l with
    | nil => intro L _; simp [addG.addL, nodes.nodesL]
    | cons y l ihl =>
      intro L h
      have h1 := ihl (addG y L) fun z hz => h z (by simp [hz])
      have h2 := h y (by simp) L
      simp only [addG.addL, nodes.nodesL]
      omega
  have h1 := key c.l (add1 c.k c.n L) ih
  have h2 := len_add1 (k := c.k) (n := c.n) (L := L)
  rw [addG_eq, nodes_eq]
  omega

/-- What is left of a heap where a boxed row has grown. -/
structure FrT (h : Heap) (id : Nat) (h' : Heap) : Prop where
  len : h.length ≤ h'.length
  old : ∀ i, i ≠ id → ent h i ≠ .tok → ent h i ≠ .dead → ent h' i = ent h i
section
variable {h h' h2 l : Heap} {id : Nat}
theorem FrT.refl : FrT h id h := ⟨Nat.le_refl _, fun _ _ _ _ => rfl⟩
theorem FrT.trans (a : FrT h id h') (b : FrT h' id h2) : FrT h id h2 :=
  ⟨Nat.le_trans a.len b.len, fun i h1 h2 h3 => by rw [b.old i h1 (by rw [a.old i h1 h2 h3]; exact h2) (by rw [a.old i h1 h2 h3]; exact h3), a.old i h1 h2 h3]⟩
theorem FrT.more : FrT h id (h ++ l) := ⟨by simp, fun i _ _ h3 => ent_app rfl h3⟩
end

/-- Numbers as the heap has them. -/
def encI (l : List Int) : List PV := l.map (.int .i64)
theorem strideI : ∀ l, strideOk 1 (encI l) = true
  | [] => rfl
  | x :: l => by simp [strideOk, encI]

structure HasG (E : Env) : Prop where
  groups : Has E 40 c40
  each : HasR E 73 c73
  g1 : HasR E 74 c74
  con : Has E 75 c75
  idx : Has E 102 c102

/-- Where a number stands. -/
def idxI (x : Int) : List Int → Nat → Int
  | [], _ => -1
  | y :: l, j => if x = y then j else idxI x l (j + 1)
theorem idxI_ge (x : Int) : ∀ (l : List Int) (j : Nat), decide (0 ≤ idxI x l j) = decide (x ∈ l)
  | [], j => by simp [idxI]
  | y :: l, j => by
    have := idxI_ge x l (j + 1)
    unfold idxI
    by_cases h : x = y
    · simp [h]
    · simp [h, this]

set_option maxHeartbeats 1000000 in
theorem idxI_ok (H : Has E 102 c102) (L : List Int) (x : Int) (hl : L.length ≤ 9223372036854775807) : limP E 102 [.sl (encI L), .int .i64 x] = some [.int .i64 (idxI x L 0)] := by
  refine H.lim (Nat.le_of_ble_eq_true rfl) (by simp; with_reducible rfl) ?_; unfold c102
  (repeat' first
    | apply X.retS
    | apply X.skipS
    | apply X.skipB
    | apply X.skipL
    | (apply X.exitS; first | apply X.here | (refine X.out (by decide) ?_; apply X.here))
    | apply X.blockS
    | (apply X.condS rfl <;> intro hp <;> first | exact absurd hp (by decide) | ((try rw [hp]); (try simp at hp)))
    | apply X.stepZ
    | (apply X.step; (focus (simp; with_reducible (first | rfl | exact ⟨rfl, rfl⟩))); (focus (simp; with_reducible rfl)))
    | (apply X.stepN rfl; (focus (simp; with_reducible rfl)))
    | ((first | apply X.stepGt rfl | apply X.stepGf rfl); (focus (simp; with_reducible rfl)); all_goals (intro hp; first | exact absurd hp (by decide) | ((try rw [hp]); (try simp at hp))))
    | (apply X.draw0; (focus rfl))
    | apply XD.nil
    | (apply XD.calm rfl; (focus (simp; with_reducible (first | rfl | exact ⟨rfl, rfl⟩))); (focus (simp; with_reducible rfl)))
    | (apply XD.call; (focus (simp; with_reducible rfl)); (focus (simp; with_reducible rfl)); (focus (simp; done)); (focus (simp; with_reducible rfl)); (focus (simp; with_reducible rfl)))
    | (apply XD.stepN rfl; (focus (simp; with_reducible rfl)))
    | ((first | apply XD.stepGt rfl | apply XD.stepGf rfl); (focus (simp; with_reducible rfl)); all_goals (intro hp; first | exact absurd hp (by decide) | ((try rw [hp]); (try simp at hp))))
    | (apply XD.loud; (focus (simp; with_reducible (first | rfl | exact ⟨rfl, rfl⟩))); (focus (simp; done)); (focus (simp; with_reducible rfl)); (focus (simp; with_reducible rfl))))
  refine X.forS L.length (fun j st => idxI x (L.drop j) j = idxI x L 0 ∧ ∃ hh ts, Pat [some (.pv (.sl (encI L))), some (.pv (.int .i64 x)), none, none, none, none, none, some (.pv (.int .i64 L.length)), some (.pv (.int .i64 j)), none, none, none, none, none, none, none, none, none, none] ts ∧ st = ⟨ts, hh⟩) ?_ ?_
  · exact ⟨rfl, _, _, by simp [Pat, encI], rfl⟩
  rintro j st hj ⟨hi, hh, ts, hts, rfl⟩
  obtain ⟨f, rfl⟩ := hts.fill
  simp only [Ab.fill, Nat.reduceAdd]
  clear hts
  rcases Nat.lt_or_ge j L.length with hj1 | hj1
  · obtain ⟨y, hy⟩ := at_of_lt hj1
    have hy2 : (encI L)[j]? = some (.int .i64 y) := by simp [encI, hy]
    have hww : IntKind.i64.wrap ((j : Int) + 1) = (j : Int) + 1 := wrap_i64 (by omega)
    rw [drop_at hy] at hi
    simp only [idxI] at hi
    cases he : (x == y) with
    | true =>
      have he' : x = y := by simpa using he
      rw [if_pos he'] at hi
      (repeat' first
    | apply X.retS
    | apply X.skipS
    | apply X.skipB
    | apply X.skipL
    | (apply X.exitS; first | apply X.here | (refine X.out (by decide) ?_; apply X.here))
    | apply X.blockS
    | (apply X.condS rfl <;> intro hp <;> first | exact absurd hp (by decide) | ((try rw [hp]); (try simp at hp)))
    | apply X.stepZ
    | (apply X.step; (focus (simp [-getElem?_pos, hj1, hy2, he]; with_reducible (first | rfl | exact ⟨rfl, rfl⟩))); (focus (simp; with_reducible rfl)))
    | (apply X.stepN rfl; (focus (simp; with_reducible rfl)))
    | ((first | apply X.stepGt rfl | apply X.stepGf rfl); (focus (simp; with_reducible rfl)); all_goals (intro hp; first | exact absurd hp (by decide) | ((try rw [hp]); (try simp at hp))))
    | (apply X.draw0; (focus rfl))
    | apply XD.nil
    | (apply XD.calm rfl; (focus (simp [-getElem?_pos, hj1, hy2, he]; with_reducible (first | rfl | exact ⟨rfl, rfl⟩))); (focus (simp; with_reducible rfl)))
    | (apply XD.call; (focus (simp; with_reducible rfl)); (focus (simp; with_reducible rfl)); (focus (simp [-getElem?_pos, hj1, hy2, he]; done)); (focus (simp [-getElem?_pos, hj1, hy2, he]; with_reducible rfl)); (focus (simp; with_reducible rfl)))
    | (apply XD.stepN rfl; (focus (simp; with_reducible rfl)))
    | ((first | apply XD.stepGt rfl | apply XD.stepGf rfl); (focus (simp; with_reducible rfl)); all_goals (intro hp; first | exact absurd hp (by decide) | ((try rw [hp]); (try simp at hp))))
    | (apply XD.loud; (focus (simp [-getElem?_pos, hj1, hy2, he]; with_reducible (first | rfl | exact ⟨rfl, rfl⟩))); (focus (simp; done)); (focus (simp; with_reducible rfl)); (focus (simp; with_reducible rfl))))
      all_goals ((refine Fin.mk' (by simp [resA]; with_reducible rfl) (by simp [oneOf, pureRes, snapFuel, snapL]; with_reducible rfl) ?_); simp [← hi])
    | false =>
      have he' : ¬ x = y := by simpa using he
      rw [if_neg he'] at hi
      (repeat' first
    | apply X.retS
    | apply X.skipS
    | apply X.skipB
    | apply X.skipL
    | (apply X.exitS; first | apply X.here | (refine X.out (by decide) ?_; apply X.here))
    | apply X.blockS
    | (apply X.condS rfl <;> intro hp <;> first | exact absurd hp (by decide) | ((try rw [hp]); (try simp at hp)))
    | apply X.stepZ
    | (apply X.step; (focus (simp [-getElem?_pos, hj1, hy2, he, hww]; with_reducible (first | rfl | exact ⟨rfl, rfl⟩))); (focus (simp; with_reducible rfl)))
    | (apply X.stepN rfl; (focus (simp; with_reducible rfl)))
    | ((first | apply X.stepGt rfl | apply X.stepGf rfl); (focus (simp; with_reducible rfl)); all_goals (intro hp; first | exact absurd hp (by decide) | ((try rw [hp]); (try simp at hp))))
    | (apply X.draw0; (focus rfl))
    | apply XD.nil
    | (apply XD.calm rfl; (focus (simp [-getElem?_pos, hj1, hy2, he, hww]; with_reducible (first | rfl | exact ⟨rfl, rfl⟩))); (focus (simp; with_reducible rfl)))
    | (apply XD.call; (focus (simp; with_reducible rfl)); (focus (simp; with_reducible rfl)); (focus (simp [-getElem?_pos, hj1, hy2, he, hww]; done)); (focus (simp [-getElem?_pos, hj1, hy2, he, hww]; with_reducible rfl)); (focus (simp; with_reducible rfl)))
    | (apply XD.stepN rfl; (focus (simp; with_reducible rfl)))
    | ((first | apply XD.stepGt rfl | apply XD.stepGf rfl); (focus (simp; with_reducible rfl)); all_goals (intro hp; first | exact absurd hp (by decide) | ((try rw [hp]); (try simp at hp))))
    | (apply XD.loud; (focus (simp [-getElem?_pos, hj1, hy2, he, hww]; with_reducible (first | rfl | exact ⟨rfl, rfl⟩))); (focus (simp; done)); (focus (simp; with_reducible rfl)); (focus (simp; with_reducible rfl))))
      exact ⟨hj1, hi, _, _, by simp [Pat], rfl⟩
  · have hj2 : ¬ j < L.length := by omega
    rw [List.drop_eq_nil_of_le hj1] at hi
    simp only [idxI] at hi
    (repeat' first
    | apply X.retS
    | apply X.skipS
    | apply X.skipB
    | apply X.skipL
    | (apply X.exitS; first | apply X.here | (refine X.out (by decide) ?_; apply X.here))
    | apply X.blockS
    | (apply X.condS rfl <;> intro hp <;> first | exact absurd hp (by decide) | ((try rw [hp]); (try simp at hp)))
    | apply X.stepZ
    | (apply X.step; (focus (simp [-getElem?_pos, hj2]; with_reducible (first | rfl | exact ⟨rfl, rfl⟩))); (focus (simp; with_reducible rfl)))
    | (apply X.stepN rfl; (focus (simp; with_reducible rfl)))
    | ((first | apply X.stepGt rfl | apply X.stepGf rfl); (focus (simp; with_reducible rfl)); all_goals (intro hp; first | exact absurd hp (by decide) | ((try rw [hp]); (try simp at hp))))
    | (apply X.draw0; (focus rfl))
    | apply XD.nil
    | (apply XD.calm rfl; (focus (simp [-getElem?_pos, hj2]; with_reducible (first | rfl | exact ⟨rfl, rfl⟩))); (focus (simp; with_reducible rfl)))
    | (apply XD.call; (focus (simp; with_reducible rfl)); (focus (simp; with_reducible rfl)); (focus (simp [-getElem?_pos, hj2]; done)); (focus (simp [-getElem?_pos, hj2]; with_reducible rfl)); (focus (simp; with_reducible rfl)))
    | (apply XD.stepN rfl; (focus (simp; with_reducible rfl)))
    | ((first | apply XD.stepGt rfl | apply XD.stepGf rfl); (focus (simp; with_reducible rfl)); all_goals (intro hp; first | exact absurd hp (by decide) | ((try rw [hp]); (try simp at hp))))
    | (apply XD.loud; (focus (simp [-getElem?_pos, hj2]; with_reducible (first | rfl | exact ⟨rfl, rfl⟩))); (focus (simp; done)); (focus (simp; with_reducible rfl)); (focus (simp; with_reducible rfl))))
    all_goals ((refine Fin.mk' (by simp [resA]; with_reducible rfl) (by simp [oneOf, pureRes, snapFuel, snapL]; with_reducible rfl) ?_); simp [← hi])

theorem conI_ok (HH : HasG E) (L : List Int) (x : Int) (hl : L.length ≤ 9223372036854775807) : limP E 75 [.sl (encI L), .int .i64 x] = some [.bool (decide (x ∈ L))] := by
  have h1 := idxI_ok HH.idx L x hl
  have h2 := idxI_ge x L 0
  generalize idxI x L 0 = r at h1 h2
  have H := HH.con
  refine H.lim (Nat.le_of_ble_eq_true rfl) (by simp; with_reducible rfl) ?_; unfold c75
  (repeat' first
    | apply X.retS
    | apply X.skipS
    | apply X.skipB
    | apply X.skipL
    | (apply X.exitS; first | apply X.here | (refine X.out (by decide) ?_; apply X.here))
    | apply X.blockS
    | (apply X.condS rfl <;> intro hp <;> first | exact absurd hp (by decide) | ((try rw [hp]); (try simp at hp)))
    | apply X.stepZ
    | (apply X.step; (focus (simp [-getElem?_pos, HH.idx.raw, h1]; with_reducible (first | rfl | exact ⟨rfl, rfl⟩))); (focus (simp; with_reducible rfl)))
    | (apply X.stepN rfl; (focus (simp; with_reducible rfl)))
    | ((first | apply X.stepGt rfl | apply X.stepGf rfl); (focus (simp; with_reducible rfl)); all_goals (intro hp; first | exact absurd hp (by decide) | ((try rw [hp]); (try simp at hp))))
    | (apply X.draw0; (focus rfl))
    | apply XD.nil
    | (apply XD.calm rfl; (focus (simp [-getElem?_pos, HH.idx.raw, h1]; with_reducible (first | rfl | exact ⟨rfl, rfl⟩))); (focus (simp; with_reducible rfl)))
    | (apply XD.call; (focus (simp; with_reducible rfl)); (focus (simp; with_reducible rfl)); (focus (simp [-getElem?_pos, HH.idx.raw, h1]; done)); (focus (simp [-getElem?_pos, HH.idx.raw, h1]; with_reducible rfl)); (focus (simp; with_reducible rfl)))
    | (apply XD.stepN rfl; (focus (simp; with_reducible rfl)))
    | ((first | apply XD.stepGt rfl | apply XD.stepGf rfl); (focus (simp; with_reducible rfl)); all_goals (intro hp; first | exact absurd hp (by decide) | ((try rw [hp]); (try simp at hp))))
    | (apply XD.loud; (focus (simp [-getElem?_pos, HH.idx.raw, h1]; with_reducible (first | rfl | exact ⟨rfl, rfl⟩))); (focus (simp; done)); (focus (simp; with_reducible rfl)); (focus (simp; with_reducible rfl))))
  all_goals ((refine Fin.mk' (by simp [resA]; with_reducible rfl) (by simp [oneOf, pureRes, snapFuel, snapL]; with_reducible rfl) ?_); simp [← h2])

theorem grow_ok {h l : Heap} {v : V} {es : List PV} {id : Nat} {B : Ent} (hr : Row h v es) (h1 : ent h id ≠ .tok) (h2 : ent h id ≠ .dead) :
    FrT h id ((kill (h ++ l) v).set id B ++ [.tok]) ∧ ent ((kill (h ++ l) v).set id B ++ [.tok]) id = B ∧ ent ((kill (h ++ l) v).set id B ++ [.tok]) (h.length + l.length) = .tok := by
  have hid : id < h.length := lt_of_ent h2
  have hlen : ((kill (h ++ l) v).set id B).length = h.length + l.length := by simp [length_kill]
  refine ⟨⟨by simp [length_kill]; omega, fun i hi h3 h4 => ?_⟩, ?_, ?_⟩
  · have hlt : i < h.length := lt_of_ent h4
    have e1 : ent (h ++ l) i = ent h i := ent_app rfl h4
    have e2 := (hr.mono (l := l)).keep (l := []) e1 h3 h4
    rw [List.append_nil] at e2
    rw [← e2]
    simp only [ent]
    rw [List.getElem?_append_left (by omega), List.getElem?_set_ne (by omega)]
  · simp only [ent]
    rw [List.getElem?_append_left (by omega), List.getElem?_set_self (by rw [length_kill]; simp; omega)]
    rfl
  · rw [← hlen]
    exact ent_at0

/-- A row that is boxed, one more or not: the closure of core.Groups. -/
theorem g1_ok (HH : HasG E) (c : Co) (h : Heap) (id : Nat) (v : V) (L : List Int) (t : Option TypeId) (hb : ent h id = .blk [v] t) (hr : Row h v (encI L)) (hl : L.length ≤ 4000000000) :
    ∃ w h', limR E 74 [.pv (encC c), .ptr id 0] h = some (w, h') ∧ (w = .tup [] ∧ ∃ v', ent h' id = .blk [v'] t ∧ Row h' v' (encI (add1 c.k c.n L)) ∧ FrT h id h') := by
  have hcon := conI_ok HH L c.n (by omega)
  have hid : id < h.length := lt_of_ent (by rw [hb]; simp)
  have hb' : ∀ l, ent (h ++ l) id = .blk [v] t := fun l => ent_app hb (by simp)
  have hset : ∀ (l : Heap) (B : Ent), (h ++ l).set id B = h.set id B ++ l := fun l B => List.set_append_left _ _ hid
  rw [eC]
  refine HH.g1.limE (Nat.le_of_ble_eq_true rfl) (by simp; with_reducible rfl) ?_; unfold c74
  cases bk : (c.k == 6) with
  | false =>
    have hk : ¬ c.k = 6 := by simpa using bk
    (repeat' first
    | apply X.retS
    | apply X.skipS
    | apply X.skipB
    | apply X.skipL
    | (apply X.exitS; first | apply X.here | (refine X.out (by decide) ?_; apply X.here))
    | apply X.blockS
    | (apply X.condS rfl <;> intro hp <;> first | exact absurd hp (by decide) | ((try rw [hp]); (try simp at hp)))
    | apply X.stepZ
    | (apply X.step; (focus (simp [-getElem?_pos, bk, hb']; with_reducible (first | rfl | exact ⟨rfl, rfl⟩))); (focus (simp; with_reducible rfl)))
    | (apply X.stepN rfl; (focus (simp; with_reducible rfl)))
    | ((first | apply X.stepGt rfl | apply X.stepGf rfl); (focus (simp; with_reducible rfl)); all_goals (intro hp; first | exact absurd hp (by decide) | ((try rw [hp]); (try simp at hp))))
    | (apply X.draw0; (focus rfl))
    | apply XD.nil
    | (apply XD.calm rfl; (focus (simp [-getElem?_pos, bk, hb']; with_reducible (first | rfl | exact ⟨rfl, rfl⟩))); (focus (simp; with_reducible rfl)))
    | (apply XD.call; (focus (simp; with_reducible rfl)); (focus (simp; with_reducible rfl)); (focus (simp [-getElem?_pos, bk, hb']; done)); (focus (simp [-getElem?_pos, bk, hb']; with_reducible rfl)); (focus (simp; with_reducible rfl)))
    | (apply XD.stepN rfl; (focus (simp; with_reducible rfl)))
    | ((first | apply XD.stepGt rfl | apply XD.stepGf rfl); (focus (simp; with_reducible rfl)); all_goals (intro hp; first | exact absurd hp (by decide) | ((try rw [hp]); (try simp at hp))))
    | (apply XD.loud; (focus (simp [-getElem?_pos, bk, hb']; with_reducible (first | rfl | exact ⟨rfl, rfl⟩))); (focus (simp; done)); (focus (simp; with_reducible rfl)); (focus (simp; with_reducible rfl))))
    all_goals exact X.skipE rfl ⟨rfl, v, hb' _, by rw [add1, if_neg hk]; exact hr.mono, FrT.more⟩
  | true =>
    have hk : c.k = 6 := by simpa using bk
    have hsn : ∀ l, snap 1000 v l = some (.sl (encI L), l) := fun l => hr.snap 999 l
    by_cases hm : c.n ∈ L
    · rw [decide_eq_true hm] at hcon
      (repeat' first
    | apply X.retS
    | apply X.skipS
    | apply X.skipB
    | apply X.skipL
    | (apply X.exitS; first | apply X.here | (refine X.out (by decide) ?_; apply X.here))
    | apply X.blockS
    | (apply X.condS rfl <;> intro hp <;> first | exact absurd hp (by decide) | ((try rw [hp]); (try simp at hp)))
    | apply X.stepZ
    | (apply X.step; (focus (simp [-getElem?_pos, bk, hb', HH.con.raw, hsn, hcon]; with_reducible (first | rfl | exact ⟨rfl, rfl⟩))); (focus (simp; with_reducible rfl)))
    | (apply X.stepN rfl; (focus (simp; with_reducible rfl)))
    | ((first | apply X.stepGt rfl | apply X.stepGf rfl); (focus (simp; with_reducible rfl)); all_goals (intro hp; first | exact absurd hp (by decide) | ((try rw [hp]); (try simp at hp))))
    | (apply X.draw0; (focus rfl))
    | apply XD.nil
    | (apply XD.calm rfl; (focus (simp [-getElem?_pos, bk, hb', HH.con.raw, hsn, hcon]; with_reducible (first | rfl | exact ⟨rfl, rfl⟩))); (focus (simp; with_reducible rfl)))
    | (apply XD.call; (focus (simp; with_reducible rfl)); (focus (simp; with_reducible rfl)); (focus (simp [-getElem?_pos, bk, hb', HH.con.raw, hsn, hcon]; done)); (focus (simp [-getElem?_pos, bk, hb', HH.con.raw, hsn, hcon]; with_reducible rfl)); (focus (simp; with_reducible rfl)))
    | (apply XD.stepN rfl; (focus (simp; with_reducible rfl)))
    | ((first | apply XD.stepGt rfl | apply XD.stepGf rfl); (focus (simp; with_reducible rfl)); all_goals (intro hp; first | exact absurd hp (by decide) | ((try rw [hp]); (try simp at hp))))
    | (apply XD.loud; (focus (simp [-getElem?_pos, bk, hb', HH.con.raw, hsn, hcon]; with_reducible (first | rfl | exact ⟨rfl, rfl⟩))); (focus (simp; done)); (focus (simp; with_reducible rfl)); (focus (simp; with_reducible rfl))))
      all_goals exact X.skipE rfl ⟨rfl, v, hb' _, by rw [add1, if_pos hk, if_pos hm]; exact hr.mono, FrT.more⟩
    · rw [decide_eq_false hm] at hcon
      have happ : ∀ l, appendA (h ++ l) false false 1 8 3 v 1 [.pv (.int .i64 c.n)] = some (.slt (encI (L ++ [c.n])) (h ++ l).length, kill (h ++ l) v ++ [.tok]) := fun l => by
        rw [(hr.mono (l := l)).app (by omega) (strideI L) rfl (by simp [encI]; omega) rfl rfl]
        simp [chunks, mkPV, encI]
      have hk2 : ∀ l l', ent (kill (h ++ l) v ++ l') id = .blk [v] t := fun l l' => (hr.mono).keep (hb' l) (by simp) (by simp)
      have hs2 : ∀ (l l' : Heap) (B : Ent), (kill (h ++ l) v ++ l').set id B = (kill (h ++ l) v).set id B ++ l' := fun l l' B => List.set_append_left _ _ (by rw [length_kill]; simp; omega)
      (repeat' first
    | apply X.retS
    | apply X.skipS
    | apply X.skipB
    | apply X.skipL
    | (apply X.exitS; first | apply X.here | (refine X.out (by decide) ?_; apply X.here))
    | apply X.blockS
    | (apply X.condS rfl <;> intro hp <;> first | exact absurd hp (by decide) | ((try rw [hp]); (try simp at hp)))
    | apply X.stepZ
    | (apply X.step; (focus (simp [-getElem?_pos, bk, hb', HH.con.raw, hsn, hcon, happ, hset, hk2, hs2]; with_reducible (first | rfl | exact ⟨rfl, rfl⟩))); (focus (simp; with_reducible rfl)))
    | (apply X.stepN rfl; (focus (simp; with_reducible rfl)))
    | ((first | apply X.stepGt rfl | apply X.stepGf rfl); (focus (simp; with_reducible rfl)); all_goals (intro hp; first | exact absurd hp (by decide) | ((try rw [hp]); (try simp at hp))))
    | (apply X.draw0; (focus rfl))
    | apply XD.nil
    | (apply XD.calm rfl; (focus (simp [-getElem?_pos, bk, hb', HH.con.raw, hsn, hcon, happ, hset, hk2, hs2]; with_reducible (first | rfl | exact ⟨rfl, rfl⟩))); (focus (simp; with_reducible rfl)))
    | (apply XD.call; (focus (simp; with_reducible rfl)); (focus (simp; with_reducible rfl)); (focus (simp [-getElem?_pos, bk, hb', HH.con.raw, hsn, hcon, happ, hset, hk2, hs2]; done)); (focus (simp [-getElem?_pos, bk, hb', HH.con.raw, hsn, hcon, happ, hset, hk2, hs2]; with_reducible rfl)); (focus (simp; with_reducible rfl)))
    | (apply XD.stepN rfl; (focus (simp; with_reducible rfl)))
    | ((first | apply XD.stepGt rfl | apply XD.stepGf rfl); (focus (simp; with_reducible rfl)); all_goals (intro hp; first | exact absurd hp (by decide) | ((try rw [hp]); (try simp at hp))))
    | (apply XD.loud; (focus (simp [-getElem?_pos, bk, hb', HH.con.raw, hsn, hcon, happ, hset, hk2, hs2]; with_reducible (first | rfl | exact ⟨rfl, rfl⟩))); (focus (simp; done)); (focus (simp; with_reducible rfl)); (focus (simp; with_reducible rfl))))
      all_goals
        obtain ⟨g1, g2, g3⟩ := grow_ok (l := [Ent.blk [.pv (.int .i64 c.k), .pv (.int .u64 c.s0), .pv (.int .u64 c.s1), .pv (.int .u64 c.s2), .pv (.int .u64 c.s3), .pv (.int .i64 c.n), .pv (.sl (c.l.map encC))] none])
          (B := .blk [.slt (encI (L ++ [c.n])) (h.length + 1)] t) hr (id := id) (by rw [hb]; simp) (by rw [hb]; simp)
        exact X.skipE rfl ⟨rfl, _, g2, by rw [add1, if_pos hk, if_neg hm]; exact .inr ⟨by simp [encI], _, rfl, g3⟩, g1⟩

theorem _root_.Ab.X.callvR {ts : List V} {h : Heap} {Q : AExit → St → Prop} {rest : ACode} {d : Option Nat} {af : List Nat} {os : List AOper} {fo : AOperand} {f : FuncId} {args : List AOperand} {vs cs : List V} {P : V → Heap → Prop}
    (e0 : St.eval ts fo = some (.fn f cs)) (e : evals ts args = some vs) (hr : E.raw f = true) (hp : pures (vs ++ cs) = none) (hl : ∃ v h', limR E f (vs ++ cs) h = some (v, h') ∧ P v h')
    (k : ∀ v h', P v h' → X E (.seq (.region os false) rest) ⟨putA ts d v, h'⟩ Q) : X E (.seq (.region (⟨d, .callv fo args, none, af⟩ :: os) false) rest) ⟨ts, h⟩ Q := by
  obtain ⟨v, h', h1, h2⟩ := hl
  exact X.step (v := v) (h' := h') (by simp only [opA, e0, e, callA, hr, if_true, hp, h1]) rfl (k v h' h2)

set_option maxHeartbeats 4000000 in
theorem each_ok (HH : HasG E) : ∀ c, FineC c → ∀ (h : Heap) (id : Nat) (v : V) (L : List Int) (t : Option TypeId), ent h id = .blk [v] t → Row h v (encI L) → L.length + nodes c ≤ 4000000000 →
    ∃ w h', limR E 73 [.pv (encC c), .fn 74 [.ptr id 0]] h = some (w, h') ∧ (w = .tup [] ∧ ∃ v', ent h' id = .blk [v'] t ∧ Row h' v' (encI (addG c L)) ∧ FrT h id h') := by
  refine Co.ind fun c ih hf h id v L t hb hr hl => ?_
  obtain ⟨hf1, hf2⟩ := fineC hf
  have hid : id < h.length := lt_of_ent (by rw [hb]; simp)
  have hg1 := g1_ok HH c
  have hla := len_add1 (k := c.k) (n := c.n) (L := L)
  rw [nodes_eq] at hl
  rw [addG_eq]
  rw [eC] at hg1 ⊢
  refine HH.each.limE (Nat.le_of_ble_eq_true rfl) (by simp; with_reducible rfl) ?_; unfold c73
  (repeat' first
    | apply X.retS
    | apply X.skipS
    | apply X.skipB
    | apply X.skipL
    | (apply X.exitS; first | apply X.here | (refine X.out (by decide) ?_; apply X.here))
    | apply X.blockS
    | (apply X.condS rfl <;> intro hp <;> first | exact absurd hp (by decide) | ((try rw [hp]); (try simp at hp)))
    | apply X.stepZ
    | (apply X.step; (focus (simp; with_reducible (first | rfl | exact ⟨rfl, rfl⟩))); (focus (simp; with_reducible rfl)))
    | (apply X.stepN rfl; (focus (simp; with_reducible rfl)))
    | ((first | apply X.stepGt rfl | apply X.stepGf rfl); (focus (simp; with_reducible rfl)); all_goals (intro hp; first | exact absurd hp (by decide) | ((try rw [hp]); (try simp at hp))))
    | (apply X.draw0; (focus rfl))
    | apply XD.nil
    | (apply XD.calm rfl; (focus (simp; with_reducible (first | rfl | exact ⟨rfl, rfl⟩))); (focus (simp; with_reducible rfl)))
    | (apply XD.call; (focus (simp; with_reducible rfl)); (focus (simp; with_reducible rfl)); (focus (simp; done)); (focus (simp; with_reducible rfl)); (focus (simp; with_reducible rfl)))
    | (apply XD.stepN rfl; (focus (simp; with_reducible rfl)))
    | ((first | apply XD.stepGt rfl | apply XD.stepGf rfl); (focus (simp; with_reducible rfl)); all_goals (intro hp; first | exact absurd hp (by decide) | ((try rw [hp]); (try simp at hp))))
    | (apply XD.loud; (focus (simp; with_reducible (first | rfl | exact ⟨rfl, rfl⟩))); (focus (simp; done)); (focus (simp; with_reducible rfl)); (focus (simp; with_reducible rfl))))
  refine X.callvR (P := fun w h' => w = .tup [] ∧ ∃ v', ent h' id = .blk [v'] t ∧ Row h' v' (encI (add1 c.k c.n L)) ∧ FrT (h ++ [Ent.blk [.pv (.int .i64 c.k), .pv (.int .u64 c.s0), .pv (.int .u64 c.s1), .pv (.int .u64 c.s2), .pv (.int .u64 c.s3), .pv (.int .i64 c.n), .pv (.sl (c.l.map encC))] none]) id h')
    (by simp; with_reducible rfl) (by simp; with_reducible rfl) HH.g1.raw (by simp [pures]) (hg1 _ id v L t (ent_app hb (by simp)) hr.mono (by omega)) ?_
  rintro w h1 ⟨rfl, v1, hb1, hr1, hfr1⟩
  have hbx : ent h1 h.length = Ent.blk [.pv (.int .i64 c.k), .pv (.int .u64 c.s0), .pv (.int .u64 c.s1), .pv (.int .u64 c.s2), .pv (.int .u64 c.s3), .pv (.int .i64 c.n), .pv (.sl (c.l.map encC))] none := by
    rw [hfr1.old h.length (by omega) (by simp [ent]) (by simp [ent])]
    simp [ent]
  have hfr0 : FrT h id h1 := FrT.more.trans hfr1
  generalize hL1 : add1 c.k c.n L = L1 at hr1 hla
  clear hg1 hfr1
  (repeat' first
    | apply X.retS
    | apply X.skipS
    | apply X.skipB
    | apply X.skipL
    | (apply X.exitS; first | apply X.here | (refine X.out (by decide) ?_; apply X.here))
    | apply X.blockS
    | (apply X.condS rfl <;> intro hp <;> first | exact absurd hp (by decide) | ((try rw [hp]); (try simp at hp)))
    | apply X.stepZ
    | (apply X.step; (focus (simp [-getElem?_pos, hbx]; with_reducible (first | rfl | exact ⟨rfl, rfl⟩))); (focus (simp; with_reducible rfl)))
    | (apply X.stepN rfl; (focus (simp; with_reducible rfl)))
    | ((first | apply X.stepGt rfl | apply X.stepGf rfl); (focus (simp; with_reducible rfl)); all_goals (intro hp; first | exact absurd hp (by decide) | ((try rw [hp]); (try simp at hp))))
    | (apply X.draw0; (focus rfl))
    | apply XD.nil
    | (apply XD.calm rfl; (focus (simp [-getElem?_pos, hbx]; with_reducible (first | rfl | exact ⟨rfl, rfl⟩))); (focus (simp; with_reducible rfl)))
    | (apply XD.call; (focus (simp; with_reducible rfl)); (focus (simp; with_reducible rfl)); (focus (simp [-getElem?_pos, hbx]; done)); (focus (simp [-getElem?_pos, hbx]; with_reducible rfl)); (focus (simp; with_reducible rfl)))
    | (apply XD.stepN rfl; (focus (simp; with_reducible rfl)))
    | ((first | apply XD.stepGt rfl | apply XD.stepGf rfl); (focus (simp; with_reducible rfl)); all_goals (intro hp; first | exact absurd hp (by decide) | ((try rw [hp]); (try simp at hp))))
    | (apply XD.loud; (focus (simp [-getElem?_pos, hbx]; with_reducible (first | rfl | exact ⟨rfl, rfl⟩))); (focus (simp; done)); (focus (simp; with_reducible rfl)); (focus (simp; with_reducible rfl))))
  refine X.forS c.l.length (fun j st => ∃ (hh : Heap) (v2 : V) (L2 : List Int), ent hh id = .blk [v2] t ∧ Row hh v2 (encI L2) ∧ FrT h id hh ∧ addG.addL (c.l.drop j) L2 = addG.addL c.l L1 ∧ L2.length + nodes.nodesL (c.l.drop j) ≤ 4000000000 ∧
    ∃ ts, Pat [none, some (.fn 74 [.ptr id 0]), none, none, none, none, none, none, none, none, some (.pv (.sl (c.l.map encC))), some (.pv (.int .i64 c.l.length)), some (.pv (.int .i64 j)), none, none, none, none, none, none, none] ts ∧ st = ⟨ts, hh⟩) ?_ ?_
  · exact ⟨h1, v1, L1, hb1, hr1, hfr0, rfl, by simp only [List.drop_zero]; omega, _, by simp [Pat], rfl⟩
  rintro j st hj ⟨hh, v2, L2, hb2, hr2, hfr2, hi, hle, ts, hts, rfl⟩
  obtain ⟨f, rfl⟩ := hts.fill
  simp only [Ab.fill, Nat.reduceAdd]
  clear hts hbx
  rcases Nat.lt_or_ge j c.l.length with hj1 | hj1
  · obtain ⟨x, hx⟩ := at_of_lt hj1
    have hxm := List.mem_of_getElem? hx
    have hc := ih x hxm (hf2 x hxm)
    have hlx := len_addG x L2
    have hww : IntKind.i64.wrap ((j : Int) + 1) = (j : Int) + 1 := wrap_i64 (by omega)
    rw [drop_at hx] at hi hle
    simp only [addG.addL, nodes.nodesL] at hi hle
    rw [eC x] at hc
    clear ih
    (repeat' first
    | apply X.retS
    | apply X.skipS
    | apply X.skipB
    | apply X.skipL
    | (apply X.exitS; first | apply X.here | (refine X.out (by decide) ?_; apply X.here))
    | apply X.blockS
    | (apply X.condS rfl <;> intro hp <;> first | exact absurd hp (by decide) | ((try rw [hp]); (try simp at hp)))
    | apply X.stepZ
    | (apply X.step; (focus (simp [-getElem?_pos, hj1, hx, eC x]; with_reducible (first | rfl | exact ⟨rfl, rfl⟩))); (focus (simp; with_reducible rfl)))
    | (apply X.stepN rfl; (focus (simp; with_reducible rfl)))
    | ((first | apply X.stepGt rfl | apply X.stepGf rfl); (focus (simp; with_reducible rfl)); all_goals (intro hp; first | exact absurd hp (by decide) | ((try rw [hp]); (try simp at hp))))
    | (apply X.draw0; (focus rfl))
    | apply XD.nil
    | (apply XD.calm rfl; (focus (simp [-getElem?_pos, hj1, hx, eC x]; with_reducible (first | rfl | exact ⟨rfl, rfl⟩))); (focus (simp; with_reducible rfl)))
    | (apply XD.call; (focus (simp; with_reducible rfl)); (focus (simp; with_reducible rfl)); (focus (simp [-getElem?_pos, hj1, hx, eC x]; done)); (focus (simp [-getElem?_pos, hj1, hx, eC x]; with_reducible rfl)); (focus (simp; with_reducible rfl)))
    | (apply XD.stepN rfl; (focus (simp; with_reducible rfl)))
    | ((first | apply XD.stepGt rfl | apply XD.stepGf rfl); (focus (simp; with_reducible rfl)); all_goals (intro hp; first | exact absurd hp (by decide) | ((try rw [hp]); (try simp at hp))))
    | (apply XD.loud; (focus (simp [-getElem?_pos, hj1, hx, eC x]; with_reducible (first | rfl | exact ⟨rfl, rfl⟩))); (focus (simp; done)); (focus (simp; with_reducible rfl)); (focus (simp; with_reducible rfl))))
    refine X.callR (P := fun w h' => w = .tup [] ∧ ∃ v', ent h' id = .blk [v'] t ∧ Row h' v' (encI (addG x L2)) ∧ FrT h id h') (by simp; with_reducible rfl) HH.each.raw (by simp [pures]) ?_ ?_
    · obtain ⟨w, h3, e1, e2, v3, e3, e4, e5⟩ := hc _ id v2 L2 t (ent_app hb2 (by simp)) hr2.mono (by omega)
      exact ⟨w, h3, e1, e2, v3, e3, e4, (hfr2.trans FrT.more).trans e5⟩
    rintro w h3 ⟨rfl, v3, hb3, hr3, hfr3⟩
    (repeat' first
    | apply X.retS
    | apply X.skipS
    | apply X.skipB
    | apply X.skipL
    | (apply X.exitS; first | apply X.here | (refine X.out (by decide) ?_; apply X.here))
    | apply X.blockS
    | (apply X.condS rfl <;> intro hp <;> first | exact absurd hp (by decide) | ((try rw [hp]); (try simp at hp)))
    | apply X.stepZ
    | (apply X.step; (focus (simp [-getElem?_pos, hww]; with_reducible (first | rfl | exact ⟨rfl, rfl⟩))); (focus (simp; with_reducible rfl)))
    | (apply X.stepN rfl; (focus (simp; with_reducible rfl)))
    | ((first | apply X.stepGt rfl | apply X.stepGf rfl); (focus (simp; with_reducible rfl)); all_goals (intro hp; first | exact absurd hp (by decide) | ((try rw [hp]); (try simp at hp))))
    | (apply X.draw0; (focus rfl))
    | apply XD.nil
    | (apply XD.calm rfl; (focus (simp [-getElem?_pos, hww]; with_reducible (first | rfl | exact ⟨rfl, rfl⟩))); (focus (simp; with_reducible rfl)))
    | (apply XD.call; (focus (simp; with_reducible rfl)); (focus (simp; with_reducible rfl)); (focus (simp [-getElem?_pos, hww]; done)); (focus (simp [-getElem?_pos, hww]; with_reducible rfl)); (focus (simp; with_reducible rfl)))
    | (apply XD.stepN rfl; (focus (simp; with_reducible rfl)))
    | ((first | apply XD.stepGt rfl | apply XD.stepGf rfl); (focus (simp; with_reducible rfl)); all_goals (intro hp; first | exact absurd hp (by decide) | ((try rw [hp]); (try simp at hp))))
    | (apply XD.loud; (focus (simp [-getElem?_pos, hww]; with_reducible (first | rfl | exact ⟨rfl, rfl⟩))); (focus (simp; done)); (focus (simp; with_reducible rfl)); (focus (simp; with_reducible rfl))))
    exact ⟨hj1, h3, v3, _, hb3, hr3, hfr3, hi, by omega, _, by simp [Pat], rfl⟩
  · have hj2 : ¬ j < c.l.length := by omega
    rw [List.drop_eq_nil_of_le hj1] at hi
    simp only [addG.addL] at hi
    clear ih
    (repeat' first
    | apply X.retS
    | apply X.skipS
    | apply X.skipB
    | apply X.skipL
    | (apply X.exitS; first | apply X.here | (refine X.out (by decide) ?_; apply X.here))
    | apply X.blockS
    | (apply X.condS rfl <;> intro hp <;> first | exact absurd hp (by decide) | ((try rw [hp]); (try simp at hp)))
    | apply X.stepZ
    | (apply X.step; (focus (simp [-getElem?_pos, hj2]; with_reducible (first | rfl | exact ⟨rfl, rfl⟩))); (focus (simp; with_reducible rfl)))
    | (apply X.stepN rfl; (focus (simp; with_reducible rfl)))
    | ((first | apply X.stepGt rfl | apply X.stepGf rfl); (focus (simp; with_reducible rfl)); all_goals (intro hp; first | exact absurd hp (by decide) | ((try rw [hp]); (try simp at hp))))
    | (apply X.draw0; (focus rfl))
    | apply XD.nil
    | (apply XD.calm rfl; (focus (simp [-getElem?_pos, hj2]; with_reducible (first | rfl | exact ⟨rfl, rfl⟩))); (focus (simp; with_reducible rfl)))
    | (apply XD.call; (focus (simp; with_reducible rfl)); (focus (simp; with_reducible rfl)); (focus (simp [-getElem?_pos, hj2]; done)); (focus (simp [-getElem?_pos, hj2]; with_reducible rfl)); (focus (simp; with_reducible rfl)))
    | (apply XD.stepN rfl; (focus (simp; with_reducible rfl)))
    | ((first | apply XD.stepGt rfl | apply XD.stepGf rfl); (focus (simp; with_reducible rfl)); all_goals (intro hp; first | exact absurd hp (by decide) | ((try rw [hp]); (try simp at hp))))
    | (apply XD.loud; (focus (simp [-getElem?_pos, hj2]; with_reducible (first | rfl | exact ⟨rfl, rfl⟩))); (focus (simp; done)); (focus (simp; with_reducible rfl)); (focus (simp; with_reducible rfl))))
    all_goals exact X.skipE rfl ⟨rfl, v2, hb2, by rw [← hi]; exact hr2, hfr2⟩

set_option maxHeartbeats 1000000 in
theorem Groups_ok (HH : HasG E) (c : Co) (hf : FineC c) (hl : nodes c ≤ 2000000000) : limP E 40 [encC c] = some [.sl (encI (addG c []))] := by
  have hc := each_ok HH c hf
  rw [eC] at hc ⊢
  have H := HH.groups
  refine H.lim (Nat.le_of_ble_eq_true rfl) (by simp; with_reducible rfl) ?_; unfold c40
  (repeat' first
    | apply X.retS
    | apply X.skipS
    | apply X.skipB
    | apply X.skipL
    | (apply X.exitS; first | apply X.here | (refine X.out (by decide) ?_; apply X.here))
    | apply X.blockS
    | (apply X.condS rfl <;> intro hp <;> first | exact absurd hp (by decide) | ((try rw [hp]); (try simp at hp)))
    | apply X.stepZ
    | (apply X.step; (focus (simp; with_reducible (first | rfl | exact ⟨rfl, rfl⟩))); (focus (simp; with_reducible rfl)))
    | (apply X.stepN rfl; (focus (simp; with_reducible rfl)))
    | ((first | apply X.stepGt rfl | apply X.stepGf rfl); (focus (simp; with_reducible rfl)); all_goals (intro hp; first | exact absurd hp (by decide) | ((try rw [hp]); (try simp at hp))))
    | (apply X.draw0; (focus rfl))
    | apply XD.nil
    | (apply XD.calm rfl; (focus (simp; with_reducible (first | rfl | exact ⟨rfl, rfl⟩))); (focus (simp; with_reducible rfl)))
    | (apply XD.call; (focus (simp; with_reducible rfl)); (focus (simp; with_reducible rfl)); (focus (simp; done)); (focus (simp; with_reducible rfl)); (focus (simp; with_reducible rfl)))
    | (apply XD.stepN rfl; (focus (simp; with_reducible rfl)))
    | ((first | apply XD.stepGt rfl | apply XD.stepGf rfl); (focus (simp; with_reducible rfl)); all_goals (intro hp; first | exact absurd hp (by decide) | ((try rw [hp]); (try simp at hp))))
    | (apply XD.loud; (focus (simp; with_reducible (first | rfl | exact ⟨rfl, rfl⟩))); (focus (simp; done)); (focus (simp; with_reducible rfl)); (focus (simp; with_reducible rfl))))
  refine X.callR (P := fun w h' => w = .tup [] ∧ ∃ v', ent h' 1 = .blk [v'] (some 87) ∧ Row h' v' (encI (addG c []))) (by simp; with_reducible rfl) HH.each.raw (by simp [pures]) ?_ ?_
  · obtain ⟨w, h3, e1, e2, v3, e3, e4, e5⟩ := hc [Ent.blk [.pv (.int .i64 c.k), .pv (.int .u64 c.s0), .pv (.int .u64 c.s1), .pv (.int .u64 c.s2), .pv (.int .u64 c.s3), .pv (.int .i64 c.n), .pv (.sl (c.l.map encC))] none, .blk [.nils] (some 87)] 1 .nils [] (some 87) rfl Row.nil (by simp; omega)
    exact ⟨w, h3, e1, e2, v3, e3, e4⟩
  rintro w h3 ⟨rfl, v3, hb3, hr3⟩
  (repeat' first
    | apply X.retS
    | apply X.skipS
    | apply X.skipB
    | apply X.skipL
    | (apply X.exitS; first | apply X.here | (refine X.out (by decide) ?_; apply X.here))
    | apply X.blockS
    | (apply X.condS rfl <;> intro hp <;> first | exact absurd hp (by decide) | ((try rw [hp]); (try simp at hp)))
    | apply X.stepZ
    | (apply X.step; (focus (simp [-getElem?_pos, hb3]; with_reducible (first | rfl | exact ⟨rfl, rfl⟩))); (focus (simp; with_reducible rfl)))
    | (apply X.stepN rfl; (focus (simp; with_reducible rfl)))
    | ((first | apply X.stepGt rfl | apply X.stepGf rfl); (focus (simp; with_reducible rfl)); all_goals (intro hp; first | exact absurd hp (by decide) | ((try rw [hp]); (try simp at hp))))
    | (apply X.draw0; (focus rfl))
    | apply XD.nil
    | (apply XD.calm rfl; (focus (simp [-getElem?_pos, hb3]; with_reducible (first | rfl | exact ⟨rfl, rfl⟩))); (focus (simp; with_reducible rfl)))
    | (apply XD.call; (focus (simp; with_reducible rfl)); (focus (simp; with_reducible rfl)); (focus (simp [-getElem?_pos, hb3]; done)); (focus (simp [-getElem?_pos, hb3]; with_reducible rfl)); (focus (simp; with_reducible rfl)))
    | (apply XD.stepN rfl; (focus (simp; with_reducible rfl)))
    | ((first | apply XD.stepGt rfl | apply XD.stepGf rfl); (focus (simp; with_reducible rfl)); all_goals (intro hp; first | exact absurd hp (by decide) | ((try rw [hp]); (try simp at hp))))
    | (apply XD.loud; (focus (simp [-getElem?_pos, hb3]; with_reducible (first | rfl | exact ⟨rfl, rfl⟩))); (focus (simp; done)); (focus (simp; with_reducible rfl)); (focus (simp; with_reducible rfl))))
  all_goals (refine Fin.mk' (us := [v3]) rfl ?_ rfl)
  all_goals (rcases hr3 with ⟨h0, rfl⟩ | ⟨_, tok, rfl, _⟩ <;> simp [pureRes, oneOf, snapFuel, snap_nils, snap_slt])
  all_goals simp [h0]
end Cps

-- Of two, one behind the other: the spans are the one's and the other's.
namespace Cps
open Go Ab

/-- Alike at one place. -/
structure At (i : Nat) (s s' : List Sp × Int) : Prop where
  at' : s.2 = s'.2
  len : s.1.length = s'.1.length
  sp : s.1[i]? = s'.1[i]?

theorem At.set {i j : Nat} {s s' : List Sp × Int} (h : At i s s') (x : Sp) : At i (s.1.set j x, s.2) (s'.1.set j x, s'.2) := by
  refine ⟨h.at', by simp [h.len], ?_⟩
  simp only [List.getElem?_set, h.len, h.sp]
theorem At.forget {i : Nat} : ∀ (c : Co) (s s' : List Sp × Int), At i s s' → At i (forgetS c s.1, s.2) (forgetS c s'.1, s'.2) := by
  refine Co.ind fun c ih s s' h => ?_
  have key : ∀ (l : List Co) (s s' : List Sp × Int), (∀ y ∈ l, ∀ s s' : List Sp × Int, At i s s' → At i (forgetS y s.1, s.2) (forgetS y s'.1, s'.2)) → At i s s' → At i (forgetS.forgetL l s.1, s.2) (forgetS.forgetL l s'.1, s'.2) := by
    intro l
    induction l with
    | nil => intro s s' _ h; exact h
    | cons x l ihl => intro s s' hh h; exact ihl _ _ (fun y hy => hh y (by simp [hy])) (hh x (by simp) _ _ h)
  rw [forget_eq, forget_eq]
  by_cases hc : c.k = 6 ∧ c.n < s.1.length
  · rw [if_pos hc, if_pos (by rw [← h.len]; exact hc)]
    exact key _ _ _ ih (h.set _)
  · rw [if_neg hc, if_neg (by rw [← h.len]; exact hc)]
    exact key _ _ _ ih h

/-- What a walk does at a place hangs on what was there alone. -/
theorem At.walk {i : Nat} : ∀ c v (s s' : List Sp × Int), At i s s' → At i (walkS c v s) (walkS c v s') := by
  refine Co.ind fun c ih v s s' h => ?_
  obtain ⟨k, s0, s1, s2, s3, n, l⟩ := c
  simp only [Co.l] at ih
  have hat : ∀ (l : List Co) (j : Nat) (v : Va) (s s' : List Sp × Int), (∀ y ∈ l, ∀ v s s', At i s s' → At i (walkS y v s) (walkS y v s')) → At i s s' → At i (walkS.walkAt l j v s) (walkS.walkAt l j v s') := by
    intro l
    induction l with
    | nil => intro j v s s' _ h; simpa [walkS.walkAt] using h
    | cons x l ihl =>
      intro j v s s' hh h
      cases j with
      | zero => simp only [walkS.walkAt]; exact hh x (by simp) v s s' h
      | succ j => simp only [walkS.walkAt]; exact ihl j v s s' (fun y hy => hh y (by simp [hy])) h
  have hfg : ∀ s s' : List Sp × Int, At i s s' → At i (forgetAt l s.1, s.2) (forgetAt l s'.1, s'.2) := fun s s' h => by
    cases l with
    | nil => exact h
    | cons x l => exact At.forget x _ _ h
  rw [walkS_eq, walkS_eq]
  repeat' split
  all_goals first | exact h | skip
  · exact ⟨by simp only; rw [h.at'], h.len, h.sp⟩
  · exact hat l 1 _ _ _ ih (hat l 0 _ _ _ ih h)
  · exact hat l _ _ _ _ ih h
  · have : ∀ (xs : List Va) (s s' : List Sp × Int), At i s s' → At i (xs.foldl (fun s x => walkS.walkAt l 0 x (forgetAt l s.1, s.2)) s) (xs.foldl (fun s x => walkS.walkAt l 0 x (forgetAt l s.1, s.2)) s') := by
      intro xs
      induction xs with
      | nil => intro s s' h; exact h
      | cons x xs ihx => intro s s' h; exact ihx _ _ (hat l 0 _ _ _ ih (hfg _ _ h))
    exact this _ _ _ h
  · rename_i x _
    have h1 := hat l 0 x _ _ ih h
    unfold setIf
    rw [h1.len, ← h.at', ← h1.at']
    split
    · have := h1.set (j := n.toNat) (s.2, (walkS.walkAt l 0 x s).2)
      rw [← h1.at'] at this
      exact this
    · exact h1
  · exact hat l 0 _ _ _ ih (hfg _ _ h)

/-- What is no group of a core's stays. -/
theorem forget_off {i : Nat} : ∀ c, (∀ n ∈ gl c, n.toNat ≠ i) → ∀ L : List Sp, (forgetS c L)[i]? = L[i]? := by
  refine Co.ind fun c ih h L => ?_
  rw [gl_eq] at h
  have key : ∀ (l : List Co) (L : List Sp), (∀ y ∈ l, (∀ n ∈ gl y, n.toNat ≠ i) → ∀ L : List Sp, (forgetS y L)[i]? = L[i]?) → (∀ n ∈ l.flatMap gl, n.toNat ≠ i) → (forgetS.forgetL l L)[i]? = L[i]? := by
    intro l
    induction l with
    | nil => intro L _ _; rfl
    | cons x l ihl =>
      intro L hh h
      simp only [List.flatMap_cons, List.mem_append] at h
      rw [forgetS.forgetL, ihl _ (fun y hy => hh y (by simp [hy])) (fun n hn => h n (.inr hn)), hh x (by simp) (fun n hn => h n (.inl hn))]
  rw [forget_eq, key _ _ ih (fun n hn => h n (by simp only [List.mem_append]; exact .inr hn))]
  split
  · rename_i hc
    rw [List.getElem?_set_ne (h c.n (by simp [hc.1]))]
  · rfl
theorem walk_off {i : Nat} : ∀ c, (∀ n ∈ gl c, n.toNat ≠ i) → ∀ v (s : List Sp × Int), (walkS c v s).1[i]? = s.1[i]? := by
  refine Co.ind fun c ih h v s => ?_
  rw [gl_eq] at h
  obtain ⟨k, s0, s1, s2, s3, n, l⟩ := c
  simp only [Co.l, Co.k, Co.n] at ih h
  have hn : k = 6 → n.toNat ≠ i := fun hk => h n (by simp [hk])
  have h : ∀ n ∈ l.flatMap gl, n.toNat ≠ i := fun n hn => h n (by simp only [List.mem_append]; exact .inr hn)
  have hat : ∀ (l : List Co) (j : Nat) (v : Va) (s : List Sp × Int), (∀ y ∈ l, (∀ n ∈ gl y, n.toNat ≠ i) → ∀ v (s : List Sp × Int), (walkS y v s).1[i]? = s.1[i]?) → (∀ n ∈ l.flatMap gl, n.toNat ≠ i) → (walkS.walkAt l j v s).1[i]? = s.1[i]? := by
    intro l
    induction l with
    | nil => intro j v s _ _; simp [walkS.walkAt]
    | cons x l ihl =>
      intro j v s hh h
      simp only [List.flatMap_cons, List.mem_append] at h
      cases j with
      | zero => simp only [walkS.walkAt]; exact hh x (by simp) (fun n hn => h n (.inl hn)) v s
      | succ j => simp only [walkS.walkAt]; exact ihl j v s (fun y hy => hh y (by simp [hy])) (fun n hn => h n (.inr hn))
  have hfg : ∀ L : List Sp, (forgetAt l L)[i]? = L[i]? := fun L => by
    cases l with
    | nil => rfl
    | cons x l =>
      simp only [List.flatMap_cons, List.mem_append] at h
      exact forget_off x (fun n hn => h n (.inl hn)) L
  rw [walkS_eq]
  repeat' split
  · rfl
  · rw [hat l 1 _ _ ih h, hat l 0 _ _ ih h]
  · rfl
  · rw [hat l _ _ _ ih h]
  · rfl
  · have : ∀ (xs : List Va) (s : List Sp × Int), (xs.foldl (fun s x => walkS.walkAt l 0 x (forgetAt l s.1, s.2)) s).1[i]? = s.1[i]? := by
      intro xs
      induction xs with
      | nil => intro s; rfl
      | cons x xs ihx => intro s; rw [List.foldl_cons, ihx, hat l 0 _ _ ih h, hfg]
    exact this _ _
  · rename_i hk _ _ _
    unfold setIf
    split
    · rw [List.getElem?_set_ne (hn hk), hat l 0 _ _ ih h]
    · exact hat l 0 _ _ ih h
  · rfl
  · rw [hat l 0 _ _ ih h, hfg]
  · rfl

def seqS (c d : Co) : Co := .mk 3 0 0 0 0 0 [c, d]
def rowS (v u : Va) : Va := .mk 3 0 [v, u]

theorem gv_row {c d : Co} {v u : Va} (h1 : gvS c v = true) (h2 : gvS d u = true) : gvS (seqS c d) (rowS v u) = true := by
  rw [gvS_eq]
  simp [seqS, rowS, Co.k, Co.l, Va.k, Va.l, Va.b, kindC, kindM, gvS.gvAt, h1, h2]

/-- Of two, one behind the other, without groups that both have. -/
theorem rows_rel {c d : Co} {v u : Va} (hs : Sh c) (hg : gvS c v = true) (hap : ∀ n, n ∈ gl c → n ∉ gl d) (hcl : ∀ n ∈ gl c, 1 ≤ n) (hdl : ∀ n ∈ gl d, 1 ≤ n) (hle : ((flatS v).length : Int) ≤ 1048576) {i : Nat} (hi : 1 ≤ i) (hi2 : i < 33) :
    ∃ p q, (ofS c v 0 32)[i]? = some p ∧ (ofS d u (flatS v).length 32)[i]? = some q ∧ ((p = (-1, -1) ∧ (ofS (seqS c d) (rowS v u) 0 32)[i]? = some q) ∨ (0 ≤ p.1 ∧ (ofS (seqS c d) (rowS v u) 0 32)[i]? = some p)) := by
  have e0 := walk_at c hs v (List.replicate 33 ((-1 : Int), (-1 : Int)), 0) hg (by simp only; omega) (by simp only; omega)
  simp only [Int.zero_add] at e0
  have hseq : ∀ s, walkS (seqS c d) (rowS v u) s = walkS d u (walkS c v s) := fun s => by
    rw [seqS, walkS_eq]; simp [rowS, Va.l, walkS.walkAt]
  have hset : ∀ (L : List Sp) (x : Sp), (L.set 0 x)[i]? = L[i]? := fun L x => List.getElem?_set_ne (by omega)
  have hrep : (List.replicate 33 ((-1 : Int), (-1 : Int)))[i]? = some (-1, -1) := by rw [List.getElem?_replicate, if_pos hi2]
  have la := walk_len c v (List.replicate 33 ((-1 : Int), (-1 : Int)), 0)
  have lb := walk_len d u (List.replicate 33 ((-1 : Int), (-1 : Int)), (flatS v).length)
  simp only [List.length_replicate] at la lb
  obtain ⟨p, hp⟩ := at_of_lt (l := (walkS c v (List.replicate 33 ((-1 : Int), (-1 : Int)), 0)).1) (j := i) (by omega)
  obtain ⟨q, hq⟩ := at_of_lt (l := (walkS d u (List.replicate 33 ((-1 : Int), (-1 : Int)), (flatS v).length)).1) (j := i) (by omega)
  refine ⟨p, q, by simp only [ofS, hset]; exact hp, by simp only [ofS, hset]; exact hq, ?_⟩
  by_cases hic : ∃ n ∈ gl c, n.toNat = i
  · obtain ⟨n, hn, hni⟩ := hic
    have hid : ∀ m ∈ gl d, m.toNat ≠ i := fun m hm hmi => by
      have h1 := hcl n hn
      have h2 := hdl m hm
      have : n = m := by omega
      subst this
      exact hap _ hn hm
    have e1 := walk_off d hid u (List.replicate 33 ((-1 : Int), (-1 : Int)), (flatS v).length)
    rw [hq, hrep] at e1
    have e2 := walk_off d hid u (walkS c v (List.replicate 33 ((-1 : Int), (-1 : Int)), 0))
    rw [hp] at e2
    have R := walk_rel (lo := 0) (b := 0) (by omega) (by omega) c hs v _ _ hg (by simp only; omega) (rr_none (a := 0) (b := 0) 33)
    obtain ⟨_, _, hpp⟩ := R.sp i p hp
    rcases hpp with ⟨h1, _⟩ | ⟨h1, _, _, _⟩
    · left
      refine ⟨h1, ?_⟩
      simp only [ofS, hset, hseq]
      rw [e2, h1]; exact e1.symm
    · right
      refine ⟨h1, ?_⟩
      simp only [ofS, hset, hseq]
      exact e2
  · have hic' : ∀ n ∈ gl c, n.toNat ≠ i := fun n hn hh => hic ⟨n, hn, hh⟩
    have e1 := walk_off c hic' v (List.replicate 33 ((-1 : Int), (-1 : Int)), 0)
    left
    have hp' : p = (-1, -1) := by rw [hp, hrep] at e1; exact Option.some.inj e1
    refine ⟨hp', ?_⟩
    have A := At.walk (i := i) d u (walkS c v (List.replicate 33 ((-1 : Int), (-1 : Int)), 0)) (List.replicate 33 ((-1 : Int), (-1 : Int)), (flatS v).length) ⟨by rw [e0], by simpa using la, e1⟩
    simp only [ofS, hset, hseq]
    rw [A.sp]; exact hq

theorem gl_pos : ∀ c, Sh c → ∀ n ∈ gl c, 1 ≤ n := by
  refine Co.ind fun c ih hs n hn => ?_
  obtain ⟨h1, h2, h3⟩ := sh_mk.1 hs
  rw [gl_eq, List.mem_append] at hn
  rcases hn with hn | hn
  · split at hn
    · rename_i hk; simp at hn; subst hn; exact (h2 hk).1
    · cases hn
  · obtain ⟨x, hx, hn⟩ := List.mem_flatMap.1 hn
    exact ih x hx (h3 x hx) n hn
end Cps
