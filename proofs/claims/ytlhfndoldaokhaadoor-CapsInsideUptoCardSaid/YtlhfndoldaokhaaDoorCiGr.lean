/- CiGr: steps, walks, laws: see the remarks within. -/
import Derived.Test.YtlhfndoldaokhaaDoorCiIn
set_option linter.unusedSimpArgs false
set_option linter.unusedVariables false
-- A core's groups: core.Groups walked; a walk touches the spans of a core's own groups alone.
namespace Cps
open Go Ab Go.Proofs.YtlhfndoldaokhaaDoor.Mach
variable {E : Env}

/-- All numbers of groups. -/
def gl : Co → List Int
  | .mk k _ _ _ _ n l => (if k = 6 then [n] else []) ++ glL l
where
  glL : List Co → List Int
  | [] => []
  | x :: l => gl x ++ glL l
theorem glL_eq : ∀ l, gl.glL l = l.flatMap gl
  | [] => rfl
  | x :: l => by simp [gl.glL, glL_eq l]
theorem gl_eq (c : Co) : gl c = (if c.k = 6 then [c.n] else []) ++ c.l.flatMap gl := by cases c; rw [gl, glL_eq]; rfl

/-- One more, where it is not there. -/
def add1 (k n : Int) (L : List Int) : List Int := if k = 6 then (if n ∈ L then L else L ++ [n]) else L
/-- The groups' numbers, each once. -/
def addG : Co → List Int → List Int
  | .mk k _ _ _ _ n l, L => addL l (add1 k n L)
where
  addL : List Co → List Int → List Int
  | [], L => L
  | x :: l, L => addL l (addG x L)
theorem addG_eq (c : Co) (L : List Int) : addG c L = addG.addL c.l (add1 c.k c.n L) := by cases c; rfl

theorem mem_add1 {k n : Int} {L : List Int} {x : Int} : x ∈ add1 k n L ↔ x ∈ L ∨ (k = 6 ∧ x = n) := by
  unfold add1
  split
  · split
    · rename_i h1 h2
      constructor
      · exact .inl
      · rintro (h | ⟨_, rfl⟩) <;> assumption
    · rename_i h1 h2
      simp [h1]
  · rename_i h1
    simp [h1]
theorem mem_addG (x : Int) : ∀ c L, x ∈ addG c L ↔ x ∈ L ∨ x ∈ gl c := by
  refine Co.ind fun c ih L => ?_
  have key : ∀ (l : List Co) (L : List Int), (∀ y ∈ l, ∀ L, x ∈ addG y L ↔ x ∈ L ∨ x ∈ gl y) → (x ∈ addG.addL l L ↔ x ∈ L ∨ x ∈ l.flatMap gl) := by
    intro l
    induction l with
    | nil => intro L _; simp [addG.addL]
    | cons y l ihl =>
      intro L h
      rw [addG.addL, ihl _ fun z hz => h z (by simp [hz]), h y (by simp)]
      simp [or_assoc]
  rw [addG_eq, key _ _ ih, mem_add1, gl_eq]
  by_cases hk : c.k = 6 <;> simp [hk, or_assoc]
/-- How many words. -/
def nodes : Co → Nat
  | .mk _ _ _ _ _ _ l => 1 + nodesL l
where
  nodesL : List Co → Nat
  | [] => 0
  | x :: l => nodes x + nodesL l
theorem nodes_eq (c : Co) : nodes c = 1 + nodes.nodesL c.l := by cases c; rfl
theorem len_add1 {k n : Int} {L : List Int} : (add1 k n L).length ≤ L.length + 1 := by unfold add1; repeat' split
                                                                                       all_goals simp
theorem len_addG : ∀ c L, (addG c L).length ≤ L.length + nodes c := by
  refine Co.ind fun c ih L => ?_
  have key : ∀ (l : List Co) (L : List Int), (∀ y ∈ l, ∀ L, (addG y L).length ≤ L.length + nodes y) → (addG.addL l L).length ≤ L.length + nodes.nodesL l := by
    intro l
    induction l with
    | nil => intro L _; simp [addG.addL, nodes.nodesL]
    | cons y l ihl =>
      intro L h
      have h1 := ihl (addG y L) fun z hz => h z (by simp [hz])
      have h2 := h y (by simp) L
      simp only [addG.addL, nodes.nodesL]
      omega
  have h1 := key c.l (add1 c.k c.n L) ih
  have h2 := len_add1 (k := c.k) (n := c.n) (L := L)
  rw [addG_eq, nodes_eq]
  omega

/-- What is left of a heap where a boxed row has grown. -/
structure FrT (h : Heap) (id : Nat) (h' : Heap) : Prop where
  len : h.length ≤ h'.length
  old : ∀ i, i ≠ id → ent h i ≠ .tok → ent h i ≠ .dead → ent h' i = ent h i
section
variable {h h' h2 l : Heap} {id : Nat}
theorem FrT.refl : FrT h id h := ⟨Nat.le_refl _, fun _ _ _ _ => rfl⟩
theorem FrT.trans (a : FrT h id h') (b : FrT h' id h2) : FrT h id h2 :=
  ⟨Nat.le_trans a.len b.len, fun i h1 h2 h3 => by rw [b.old i h1 (by rw [a.old i h1 h2 h3]; exact h2) (by rw [a.old i h1 h2 h3]; exact h3), a.old i h1 h2 h3]⟩
theorem FrT.more : FrT h id (h ++ l) := ⟨by simp, fun i _ _ h3 => ent_app rfl h3⟩
end

/-- Numbers as the heap has them. -/
def encI (l : List Int) : List PV := l.map (.int .i64)
theorem strideI : ∀ l, strideOk 1 (encI l) = true
  | [] => rfl
  | x :: l => by simp [strideOk, encI]

structure HasG (E : Env) : Prop where
  groups : Has E 40 c40
  each : HasR E 73 c73
  g1 : HasR E 74 c74
  con : Has E 75 c75
  idx : Has E 102 c102

/-- Where a number stands. -/
def idxI (x : Int) : List Int → Nat → Int
  | [], _ => -1
  | y :: l, j => if x = y then j else idxI x l (j + 1)
theorem idxI_ge (x : Int) : ∀ (l : List Int) (j : Nat), decide (0 ≤ idxI x l j) = decide (x ∈ l)
  | [], j => by simp [idxI]
  | y :: l, j => by
    have := idxI_ge x l (j + 1)
    unfold idxI
    by_cases h : x = y
    · simp [h]
    · simp [h, this]

set_option maxHeartbeats 1000000 in
theorem idxI_ok (H : Has E 102 c102) (L : List Int) (x : Int) (hl : L.length ≤ 9223372036854775807) : limP E 102 [.sl (encI L), .int .i64 x] = some [.int .i64 (idxI x L 0)] := by
  refine H.lim (Nat.le_of_ble_eq_true rfl) (by simp; with_reducible rfl) ?_; unfold c102
  (repeat' first
    | apply X.retS
    | apply X.skipS
    | apply X.skipB
    | apply X.skipL
    | (apply X.exitS; first | apply X.here | (refine X.out (by decide) ?_; apply X.here))
    | apply X.blockS
    | (apply X.condS rfl <;> intro hp <;> first | exact absurd hp (by decide) | ((try rw [hp]); (try simp at hp)))
    | apply X.stepZ
    | (apply X.step; (focus (simp; with_reducible (first | rfl | exact ⟨rfl, rfl⟩))); (focus (simp; with_reducible rfl)))
    | (apply X.stepN rfl; (focus (simp; with_reducible rfl)))
    | ((first | apply X.stepGt rfl | apply X.stepGf rfl); (focus (simp; with_reducible rfl)); all_goals (intro hp; first | exact absurd hp (by decide) | ((try rw [hp]); (try simp at hp))))
    | (apply X.draw0; (focus rfl))
    | apply XD.nil
    | (apply XD.calm rfl; (focus (simp; with_reducible (first | rfl | exact ⟨rfl, rfl⟩))); (focus (simp; with_reducible rfl)))
    | (apply XD.call; (focus (simp; with_reducible rfl)); (focus (simp; with_reducible rfl)); (focus (simp; done)); (focus (simp; with_reducible rfl)); (focus (simp; with_reducible rfl)))
    | (apply XD.stepN rfl; (focus (simp; with_reducible rfl)))
    | ((first | apply XD.stepGt rfl | apply XD.stepGf rfl); (focus (simp; with_reducible rfl)); all_goals (intro hp; first | exact absurd hp (by decide) | ((try rw [hp]); (try simp at hp))))
    | (apply XD.loud; (focus (simp; with_reducible (first | rfl | exact ⟨rfl, rfl⟩))); (focus (simp; done)); (focus (simp; with_reducible rfl)); (focus (simp; with_reducible rfl))))
  refine X.forS L.length (fun j st => idxI x (L.drop j) j = idxI x L 0 ∧ ∃ hh ts, Pat [some (.pv (.sl (encI L))), some (.pv (.int .i64 x)), none, none, none, none, none, some (.pv (.int .i64 L.length)), some (.pv (.int .i64 j)), none, none, none, none, none, none, none, none, none, none] ts ∧ st = ⟨ts, hh⟩) ?_ ?_
  · exact ⟨rfl, _, _, by simp [Pat, encI], rfl⟩
  rintro j st hj ⟨hi, hh, ts, hts, rfl⟩
  obtain ⟨f, rfl⟩ := hts.fill
  simp only [Ab.fill, Nat.reduceAdd]
  clear hts
  rcases Nat.lt_or_ge j L.length with hj1 | hj1
  · obtain ⟨y, hy⟩ := at_of_lt hj1
    have hy2 : (encI L)[j]? = some (.int .i64 y) := by simp [encI, hy]
    have hww : IntKind.i64.wrap ((j : Int) + 1) = (j : Int) + 1 := wrap_i64 (by omega)
    rw [drop_at hy] at hi
    simp only [idxI] at hi
    cases he : (x == y) with
    | true =>
      have he' : x = y := by simpa using he
      rw [if_pos he'] at hi
      (repeat' first
    | apply X.retS
    | apply X.skipS
    | apply X.skipB
    | apply X.skipL
    | (apply X.exitS; first | apply X.here | (refine X.out (by decide) ?_; apply X.here))
    | apply X.blockS
    | (apply X.condS rfl <;> intro hp <;> first | exact absurd hp (by decide) | ((try rw [hp]); (try simp at hp)))
    | apply X.stepZ
    | (apply X.step; (focus (simp [-getElem?_pos, hj1, hy2, he]; with_reducible (first | rfl | exact ⟨rfl, rfl⟩))); (focus (simp; with_reducible rfl)))
    | (apply X.stepN rfl; (focus (simp; with_reducible rfl)))
    | ((first | apply X.stepGt rfl | apply X.stepGf rfl); (focus (simp; with_reducible rfl)); all_goals (intro hp; first | exact absurd hp (by decide) | ((try rw [hp]); (try simp at hp))))
    | (apply X.draw0; (focus rfl))
    | apply XD.nil
    | (apply XD.calm rfl; (focus (simp [-getElem?_pos, hj1, hy2, he]; with_reducible (first | rfl | exact ⟨rfl, rfl⟩))); (focus (simp; with_reducible rfl)))
    | (apply XD.call; (focus (simp; with_reducible rfl)); (focus (simp; with_reducible rfl)); (focus (simp [-getElem?_pos, hj1, hy2, he]; done)); (focus (simp [-getElem?_pos, hj1, hy2, he]; with_reducible rfl)); (focus (simp; with_reducible rfl)))
    | (apply XD.stepN rfl; (focus (simp; with_reducible rfl)))
    | ((first | apply XD.stepGt rfl | apply XD.stepGf rfl); (focus (simp; with_reducible rfl)); all_goals (intro hp; first | exact absurd hp (by decide) | ((try rw [hp]); (try simp at hp))))
    | (apply XD.loud; (focus (simp [-getElem?_pos, hj1, hy2, he]; with_reducible (first | rfl | exact ⟨rfl, rfl⟩))); (focus (simp; done)); (focus (simp; with_reducible rfl)); (focus (simp; with_reducible rfl))))
      all_goals ((refine Fin.mk' (by simp [resA]; with_reducible rfl) (by simp [oneOf, pureRes, snapFuel, snapL]; with_reducible rfl) ?_); simp [← hi])
    | false =>
      have he' : ¬ x = y := by simpa using he
      rw [if_neg he'] at hi
      (repeat' first
    | apply X.retS
    | apply X.skipS
    | apply X.skipB
    | apply X.skipL
    | (apply X.exitS; first | apply X.here | (refine X.out (by decide) ?_; apply X.here))
    | apply X.blockS
    | (apply X.condS rfl <;> intro hp <;> first | exact absurd hp (by decide) | ((try rw [hp]); (try simp at hp)))
    | apply X.stepZ
    | (apply X.step; (focus (simp [-getElem?_pos, hj1, hy2, he, hww]; with_reducible (first | rfl | exact ⟨rfl, rfl⟩))); (focus (simp; with_reducible rfl)))
    | (apply X.stepN rfl; (focus (simp; with_reducible rfl)))
    | ((first | apply X.stepGt rfl | apply X.stepGf rfl); (focus (simp; with_reducible rfl)); all_goals (intro hp; first | exact absurd hp (by decide) | ((try rw [hp]); (try simp at hp))))
    | (apply X.draw0; (focus rfl))
    | apply XD.nil
    | (apply XD.calm rfl; (focus (simp [-getElem?_pos, hj1, hy2, he, hww]; with_reducible (first | rfl | exact ⟨rfl, rfl⟩))); (focus (simp; with_reducible rfl)))
    | (apply XD.call; (focus (simp; with_reducible rfl)); (focus (simp; with_reducible rfl)); (focus (simp [-getElem?_pos, hj1, hy2, he, hww]; done)); (focus (simp [-getElem?_pos, hj1, hy2, he, hww]; with_reducible rfl)); (focus (simp; with_reducible rfl)))
    | (apply XD.stepN rfl; (focus (simp; with_reducible rfl)))
    | ((first | apply XD.stepGt rfl | apply XD.stepGf rfl); (focus (simp; with_reducible rfl)); all_goals (intro hp; first | exact absurd hp (by decide) | ((try rw [hp]); (try simp at hp))))
    | (apply XD.loud; (focus (simp [-getElem?_pos, hj1, hy2, he, hww]; with_reducible (first | rfl | exact ⟨rfl, rfl⟩))); (focus (simp; done)); (focus (simp; with_reducible rfl)); (focus (simp; with_reducible rfl))))
      exact ⟨hj1, hi, _, _, by simp [Pat], rfl⟩
  · have hj2 : ¬ j < L.length := by omega
    rw [List.drop_eq_nil_of_le hj1] at hi
    simp only [idxI] at hi
    (repeat' first
    | apply X.retS
    | apply X.skipS
    | apply X.skipB
    | apply X.skipL
    | (apply X.exitS; first | apply X.here | (refine X.out (by decide) ?_; apply X.here))
    | apply X.blockS
    | (apply X.condS rfl <;> intro hp <;> first | exact absurd hp (by decide) | ((try rw [hp]); (try simp at hp)))
    | apply X.stepZ
    | (apply X.step; (focus (simp [-getElem?_pos, hj2]; with_reducible (first | rfl | exact ⟨rfl, rfl⟩))); (focus (simp; with_reducible rfl)))
    | (apply X.stepN rfl; (focus (simp; with_reducible rfl)))
    | ((first | apply X.stepGt rfl | apply X.stepGf rfl); (focus (simp; with_reducible rfl)); all_goals (intro hp; first | exact absurd hp (by decide) | ((try rw [hp]); (try simp at hp))))
    | (apply X.draw0; (focus rfl))
    | apply XD.nil
    | (apply XD.calm rfl; (focus (simp [-getElem?_pos, hj2]; with_reducible (first | rfl | exact ⟨rfl, rfl⟩))); (focus (simp; with_reducible rfl)))
    | (apply XD.call; (focus (simp; with_reducible rfl)); (focus (simp; with_reducible rfl)); (focus (simp [-getElem?_pos, hj2]; done)); (focus (simp [-getElem?_pos, hj2]; with_reducible rfl)); (focus (simp; with_reducible rfl)))
    | (apply XD.stepN rfl; (focus (simp; with_reducible rfl)))
    | ((first | apply XD.stepGt rfl | apply XD.stepGf rfl); (focus (simp; with_reducible rfl)); all_goals (intro hp; first | exact absurd hp (by decide) | ((try rw [hp]); (try simp at hp))))
    | (apply XD.loud; (focus (simp [-getElem?_pos, hj2]; with_reducible (first | rfl | exact ⟨rfl, rfl⟩))); (focus (simp; done)); (focus (simp; with_reducible rfl)); (focus (simp; with_reducible rfl))))
    all_goals ((refine Fin.mk' (by simp [resA]; with_reducible rfl) (by simp [oneOf, pureRes, snapFuel, snapL]; with_reducible rfl) ?_); simp [← hi])

theorem conI_ok (HH : HasG E) (L : List Int) (x : Int) (hl : L.length ≤ 9223372036854775807) : limP E 75 [.sl (encI L), .int .i64 x] = some [.bool (decide (x ∈ L))] := by
  have h1 := idxI_ok HH.idx L x hl
  have h2 := idxI_ge x L 0
  generalize idxI x L 0 = r at h1 h2
  have H := HH.con
  refine H.lim (Nat.le_of_ble_eq_true rfl) (by simp; with_reducible rfl) ?_; unfold c75
  (repeat' first
    | apply X.retS
    | apply X.skipS
    | apply X.skipB
    | apply X.skipL
    | (apply X.exitS; first | apply X.here | (refine X.out (by decide) ?_; apply X.here))
    | apply X.blockS
    | (apply X.condS rfl <;> intro hp <;> first | exact absurd hp (by decide) | ((try rw [hp]); (try simp at hp)))
    | apply X.stepZ
    | (apply X.step; (focus (simp [-getElem?_pos, HH.idx.raw, h1]; with_reducible (first | rfl | exact ⟨rfl, rfl⟩))); (focus (simp; with_reducible rfl)))
    | (apply X.stepN rfl; (focus (simp; with_reducible rfl)))
    | ((first | apply X.stepGt rfl | apply X.stepGf rfl); (focus (simp; with_reducible rfl)); all_goals (intro hp; first | exact absurd hp (by decide) | ((try rw [hp]); (try simp at hp))))
    | (apply X.draw0; (focus rfl))
    | apply XD.nil
    | (apply XD.calm rfl; (focus (simp [-getElem?_pos, HH.idx.raw, h1]; with_reducible (first | rfl | exact ⟨rfl, rfl⟩))); (focus (simp; with_reducible rfl)))
    | (apply XD.call; (focus (simp; with_reducible rfl)); (focus (simp; with_reducible rfl)); (focus (simp [-getElem?_pos, HH.idx.raw, h1]; done)); (focus (simp [-getElem?_pos, HH.idx.raw, h1]; with_reducible rfl)); (focus (simp; with_reducible rfl)))
    | (apply XD.stepN rfl; (focus (simp; with_reducible rfl)))
    | ((first | apply XD.stepGt rfl | apply XD.stepGf rfl); (focus (simp; with_reducible rfl)); all_goals (intro hp; first | exact absurd hp (by decide) | ((try rw [hp]); (try simp at hp))))
    | (apply XD.loud; (focus (simp [-getElem?_pos, HH.idx.raw, h1]; with_reducible (first | rfl | exact ⟨rfl, rfl⟩))); (focus (simp; done)); (focus (simp; with_reducible rfl)); (focus (simp; with_reducible rfl))))
  all_goals ((refine Fin.mk' (by simp [resA]; with_reducible rfl) (by simp [oneOf, pureRes, snapFuel, snapL]; with_reducible rfl) ?_); simp [← h2])

theorem grow_ok {h l : Heap} {v : V} {es : List PV} {id : Nat} {B : Ent} (hr : Row h v es) (h1 : ent h id ≠ .tok) (h2 : ent h id ≠ .dead) :
    FrT h id ((kill (h ++ l) v).set id B ++ [.tok]) ∧ ent ((kill (h ++ l) v).set id B ++ [.tok]) id = B ∧ ent ((kill (h ++ l) v).set id B ++ [.tok]) (h.length + l.length) = .tok := by
  have hid : id < h.length := lt_of_ent h2
  have hlen : ((kill (h ++ l) v).set id B).length = h.length + l.length := by simp [length_kill]
  refine ⟨⟨by simp [length_kill]; omega, fun i hi h3 h4 => ?_⟩, ?_, ?_⟩
  · have hlt : i < h.length := lt_of_ent h4
    have e1 : ent (h ++ l) i = ent h i := ent_app rfl h4
    have e2 := (hr.mono (l := l)).keep (l := []) e1 h3 h4
    rw [List.append_nil] at e2
    rw [← e2]
    simp only [ent]
    rw [List.getElem?_append_left (by omega), List.getElem?_set_ne (by omega)]
  · simp only [ent]
    rw [List.getElem?_append_left (by omega), List.getElem?_set_self (by rw [length_kill]; simp; omega)]
    rfl
  · rw [← hlen]
    exact ent_at0

/-- A row that is boxed, one more or not: the closure of core.Groups. -/
theorem g1_ok (HH : HasG E) (c : Co) (h : Heap) (id : Nat) (v : V) (L : List Int) (t : Option TypeId) (hb : ent h id = .blk [v] t) (hr : Row h v (encI L)) (hl : L.length ≤ 4000000000) :
    ∃ w h', limR E 74 [.pv (encC c), .ptr id 0] h = some (w, h') ∧ (w = .tup [] ∧ ∃ v', ent h' id = .blk [v'] t ∧ Row h' v' (encI (add1 c.k c.n L)) ∧ FrT h id h') := by
  have hcon := conI_ok HH L c.n (by omega)
  have hid : id < h.length := lt_of_ent (by rw [hb]; simp)
  have hb' : ∀ l, ent (h ++ l) id = .blk [v] t := fun l => ent_app hb (by simp)
  have hset : ∀ (l : Heap) (B : Ent), (h ++ l).set id B = h.set id B ++ l := fun l B => List.set_append_left _ _ hid
  rw [eC]
  refine HH.g1.limE (Nat.le_of_ble_eq_true rfl) (by simp; with_reducible rfl) ?_; unfold c74
  cases bk : (c.k == 6) with
  | false =>
    have hk : ¬ c.k = 6 := by simpa using bk
    (repeat' first
    | apply X.retS
    | apply X.skipS
    | apply X.skipB
    | apply X.skipL
    | (apply X.exitS; first | apply X.here | (refine X.out (by decide) ?_; apply X.here))
    | apply X.blockS
    | (apply X.condS rfl <;> intro hp <;> first | exact absurd hp (by decide) | ((try rw [hp]); (try simp at hp)))
    | apply X.stepZ
    | (apply X.step; (focus (simp [-getElem?_pos, bk, hb']; with_reducible (first | rfl | exact ⟨rfl, rfl⟩))); (focus (simp; with_reducible rfl)))
    | (apply X.stepN rfl; (focus (simp; with_reducible rfl)))
    | ((first | apply X.stepGt rfl | apply X.stepGf rfl); (focus (simp; with_reducible rfl)); all_goals (intro hp; first | exact absurd hp (by decide) | ((try rw [hp]); (try simp at hp))))
    | (apply X.draw0; (focus rfl))
    | apply XD.nil
    | (apply XD.calm rfl; (focus (simp [-getElem?_pos, bk, hb']; with_reducible (first | rfl | exact ⟨rfl, rfl⟩))); (focus (simp; with_reducible rfl)))
    | (apply XD.call; (focus (simp; with_reducible rfl)); (focus (simp; with_reducible rfl)); (focus (simp [-getElem?_pos, bk, hb']; done)); (focus (simp [-getElem?_pos, bk, hb']; with_reducible rfl)); (focus (simp; with_reducible rfl)))
    | (apply XD.stepN rfl; (focus (simp; with_reducible rfl)))
    | ((first | apply XD.stepGt rfl | apply XD.stepGf rfl); (focus (simp; with_reducible rfl)); all_goals (intro hp; first | exact absurd hp (by decide) | ((try rw [hp]); (try simp at hp))))
    | (apply XD.loud; (focus (simp [-getElem?_pos, bk, hb']; with_reducible (first | rfl | exact ⟨rfl, rfl⟩))); (focus (simp; done)); (focus (simp; with_reducible rfl)); (focus (simp; with_reducible rfl))))
    all_goals exact X.skipE rfl ⟨rfl, v, hb' _, by rw [add1, if_neg hk]; exact hr.mono, FrT.more⟩
  | true =>
    have hk : c.k = 6 := by simpa using bk
    have hsn : ∀ l, snap 1000 v l = some (.sl (encI L), l) := fun l => hr.snap 999 l
    by_cases hm : c.n ∈ L
    · rw [decide_eq_true hm] at hcon
      (repeat' first
    | apply X.retS
    | apply X.skipS
    | apply X.skipB
    | apply X.skipL
    | (apply X.exitS; first | apply X.here | (refine X.out (by decide) ?_; apply X.here))
    | apply X.blockS
    | (apply X.condS rfl <;> intro hp <;> first | exact absurd hp (by decide) | ((try rw [hp]); (try simp at hp)))
    | apply X.stepZ
    | (apply X.step; (focus (simp [-getElem?_pos, bk, hb', HH.con.raw, hsn, hcon]; with_reducible (first | rfl | exact ⟨rfl, rfl⟩))); (focus (simp; with_reducible rfl)))
    | (apply X.stepN rfl; (focus (simp; with_reducible rfl)))
    | ((first | apply X.stepGt rfl | apply X.stepGf rfl); (focus (simp; with_reducible rfl)); all_goals (intro hp; first | exact absurd hp (by decide) | ((try rw [hp]); (try simp at hp))))
    | (apply X.draw0; (focus rfl))
    | apply XD.nil
    | (apply XD.calm rfl; (focus (simp [-getElem?_pos, bk, hb', HH.con.raw, hsn, hcon]; with_reducible (first | rfl | exact ⟨rfl, rfl⟩))); (focus (simp; with_reducible rfl)))
    | (apply XD.call; (focus (simp; with_reducible rfl)); (focus (simp; with_reducible rfl)); (focus (simp [-getElem?_pos, bk, hb', HH.con.raw, hsn, hcon]; done)); (focus (simp [-getElem?_pos, bk, hb', HH.con.raw, hsn, hcon]; with_reducible rfl)); (focus (simp; with_reducible rfl)))
    | (apply XD.stepN rfl; (focus (simp; with_reducible rfl)))
    | ((first | apply XD.stepGt rfl | apply XD.stepGf rfl); (focus (simp; with_reducible rfl)); all_goals (intro hp; first | exact absurd hp (by decide) | ((try rw [hp]); (try simp at hp))))
    | (apply XD.loud; (focus (simp [-getElem?_pos, bk, hb', HH.con.raw, hsn, hcon]; with_reducible (first | rfl | exact ⟨rfl, rfl⟩))); (focus (simp; done)); (focus (simp; with_reducible rfl)); (focus (simp; with_reducible rfl))))
      all_goals exact X.skipE rfl ⟨rfl, v, hb' _, by rw [add1, if_pos hk, if_pos hm]; exact hr.mono, FrT.more⟩
    · rw [decide_eq_false hm] at hcon
      have happ : ∀ l, appendA (h ++ l) false false 1 8 3 v 1 [.pv (.int .i64 c.n)] = some (.slt (encI (L ++ [c.n])) (h ++ l).length, kill (h ++ l) v ++ [.tok]) := fun l => by
        rw [(hr.mono (l := l)).app (by omega) (strideI L) rfl (by simp [encI]; omega) rfl rfl]
        simp [chunks, mkPV, encI]
      have hk2 : ∀ l l', ent (kill (h ++ l) v ++ l') id = .blk [v] t := fun l l' => (hr.mono).keep (hb' l) (by simp) (by simp)
      have hs2 : ∀ (l l' : Heap) (B : Ent), (kill (h ++ l) v ++ l').set id B = (kill (h ++ l) v).set id B ++ l' := fun l l' B => List.set_append_left _ _ (by rw [length_kill]; simp; omega)
      (repeat' first
    | apply X.retS
    | apply X.skipS
    | apply X.skipB
    | apply X.skipL
    | (apply X.exitS; first | apply X.here | (refine X.out (by decide) ?_; apply X.here))
    | apply X.blockS
    | (apply X.condS rfl <;> intro hp <;> first | exact absurd hp (by decide) | ((try rw [hp]); (try simp at hp)))
    | apply X.stepZ
    | (apply X.step; (focus (simp [-getElem?_pos, bk, hb', HH.con.raw, hsn, hcon, happ, hset, hk2, hs2]; with_reducible (first | rfl | exact ⟨rfl, rfl⟩))); (focus (simp; with_reducible rfl)))
    | (apply X.stepN rfl; (focus (simp; with_reducible rfl)))
    | ((first | apply X.stepGt rfl | apply X.stepGf rfl); (focus (simp; with_reducible rfl)); all_goals (intro hp; first | exact absurd hp (by decide) | ((try rw [hp]); (try simp at hp))))
    | (apply X.draw0; (focus rfl))
    | apply XD.nil
    | (apply XD.calm rfl; (focus (simp [-getElem?_pos, bk, hb', HH.con.raw, hsn, hcon, happ, hset, hk2, hs2]; with_reducible (first | rfl | exact ⟨rfl, rfl⟩))); (focus (simp; with_reducible rfl)))
    | (apply XD.call; (focus (simp; with_reducible rfl)); (focus (simp; with_reducible rfl)); (focus (simp [-getElem?_pos, bk, hb', HH.con.raw, hsn, hcon, happ, hset, hk2, hs2]; done)); (focus (simp [-getElem?_pos, bk, hb', HH.con.raw, hsn, hcon, happ, hset, hk2, hs2]; with_reducible rfl)); (focus (simp; with_reducible rfl)))
    | (apply XD.stepN rfl; (focus (simp; with_reducible rfl)))
    | ((first | apply XD.stepGt rfl | apply XD.stepGf rfl); (focus (simp; with_reducible rfl)); all_goals (intro hp; first | exact absurd hp (by decide) | ((try rw [hp]); (try simp at hp))))
    | (apply XD.loud; (focus (simp [-getElem?_pos, bk, hb', HH.con.raw, hsn, hcon, happ, hset, hk2, hs2]; with_reducible (first | rfl | exact ⟨rfl, rfl⟩))); (focus (simp; done)); (focus (simp; with_reducible rfl)); (focus (simp; with_reducible rfl))))
      all_goals
        obtain ⟨g1, g2, g3⟩ := grow_ok (l := [Ent.blk [.pv (.int .i64 c.k), .pv (.int .u64 c.s0), .pv (.int .u64 c.s1), .pv (.int .u64 c.s2), .pv (.int .u64 c.s3), .pv (.int .i64 c.n), .pv (.sl (c.l.map encC))] none])
          (B := .blk [.slt (encI (L ++ [c.n])) (h.length + 1)] t) hr (id := id) (by rw [hb]; simp) (by rw [hb]; simp)
        exact X.skipE rfl ⟨rfl, _, g2, by rw [add1, if_pos hk, if_neg hm]; exact .inr ⟨by simp [encI], _, rfl, g3⟩, g1⟩

theorem _root_.Ab.X.callvR {ts : List V} {h : Heap} {Q : AExit → St → Prop} {rest : ACode} {d : Option Nat} {af : List Nat} {os : List AOper} {fo : AOperand} {f : FuncId} {args : List AOperand} {vs cs : List V} {P : V → Heap → Prop}
    (e0 : St.eval ts fo = some (.fn f cs)) (e : evals ts args = some vs) (hr : E.raw f = true) (hp : pures (vs ++ cs) = none) (hl : ∃ v h', limR E f (vs ++ cs) h = some (v, h') ∧ P v h')
    (k : ∀ v h', P v h' → X E (.seq (.region os false) rest) ⟨putA ts d v, h'⟩ Q) : X E (.seq (.region (⟨d, .callv fo args, none, af⟩ :: os) false) rest) ⟨ts, h⟩ Q := by
  obtain ⟨v, h', h1, h2⟩ := hl
  exact X.step (v := v) (h' := h') (by simp only [opA, e0, e, callA, hr, if_true, hp, h1]) rfl (k v h' h2)

set_option maxHeartbeats 4000000 in
theorem each_ok (HH : HasG E) : ∀ c, FineC c → ∀ (h : Heap) (id : Nat) (v : V) (L : List Int) (t : Option TypeId), ent h id = .blk [v] t → Row h v (encI L) → L.length + nodes c ≤ 4000000000 →
    ∃ w h', limR E 73 [.pv (encC c), .fn 74 [.ptr id 0]] h = some (w, h') ∧ (w = .tup [] ∧ ∃ v', ent h' id = .blk [v'] t ∧ Row h' v' (encI (addG c L)) ∧ FrT h id h') := by
  refine Co.ind fun c ih hf h id v L t hb hr hl => ?_
  obtain ⟨hf1, hf2⟩ := fineC hf
  have hid : id < h.length := lt_of_ent (by rw [hb]; simp)
  have hg1 := g1_ok HH c
  have hla := len_add1 (k := c.k) (n := c.n) (L := L)
  rw [nodes_eq] at hl
  rw [addG_eq]
  rw [eC] at hg1 ⊢
  refine HH.each.limE (Nat.le_of_ble_eq_true rfl) (by simp; with_reducible rfl) ?_; unfold c73
  (repeat' first
    | apply X.retS
    | apply X.skipS
    | apply X.skipB
    | apply X.skipL
    | (apply X.exitS; first | apply X.here | (refine X.out (by decide) ?_; apply X.here))
    | apply X.blockS
    | (apply X.condS rfl <;> intro hp <;> first | exact absurd hp (by decide) | ((try rw [hp]); (try simp at hp)))
    | apply X.stepZ
    | (apply X.step; (focus (simp; with_reducible (first | rfl | exact ⟨rfl, rfl⟩))); (focus (simp; with_reducible rfl)))
    | (apply X.stepN rfl; (focus (simp; with_reducible rfl)))
    | ((first | apply X.stepGt rfl | apply X.stepGf rfl); (focus (simp; with_reducible rfl)); all_goals (intro hp; first | exact absurd hp (by decide) | ((try rw [hp]); (try simp at hp))))
    | (apply X.draw0; (focus rfl))
    | apply XD.nil
    | (apply XD.calm rfl; (focus (simp; with_reducible (first | rfl | exact ⟨rfl, rfl⟩))); (focus (simp; with_reducible rfl)))
    | (apply XD.call; (focus (simp; with_reducible rfl)); (focus (simp; with_reducible rfl)); (focus (simp; done)); (focus (simp; with_reducible rfl)); (focus (simp; with_reducible rfl)))
    | (apply XD.stepN rfl; (focus (simp; with_reducible rfl)))
    | ((first | apply XD.stepGt rfl | apply XD.stepGf rfl); (focus (simp; with_reducible rfl)); all_goals (intro hp; first | exact absurd hp (by decide) | ((try rw [hp]); (try simp at hp))))
    | (apply XD.loud; (focus (simp; with_reducible (first | rfl | exact ⟨rfl, rfl⟩))); (focus (simp; done)); (focus (simp; with_reducible rfl)); (focus (simp; with_reducible rfl))))
  refine X.callvR (P := fun w h' => w = .tup [] ∧ ∃ v', ent h' id = .blk [v'] t ∧ Row h' v' (encI (add1 c.k c.n L)) ∧ FrT (h ++ [Ent.blk [.pv (.int .i64 c.k), .pv (.int .u64 c.s0), .pv (.int .u64 c.s1), .pv (.int .u64 c.s2), .pv (.int .u64 c.s3), .pv (.int .i64 c.n), .pv (.sl (c.l.map encC))] none]) id h')
    (by simp; with_reducible rfl) (by simp; with_reducible rfl) HH.g1.raw (by simp [pures]) (hg1 _ id v L t (ent_app hb (by simp)) hr.mono (by omega)) ?_
  rintro w h1 ⟨rfl, v1, hb1, hr1, hfr1⟩
  have hbx : ent h1 h.length = Ent.blk [.pv (.int .i64 c.k), .pv (.int .u64 c.s0), .pv (.int .u64 c.s1), .pv (.int .u64 c.s2), .pv (.int .u64 c.s3), .pv (.int .i64 c.n), .pv (.sl (c.l.map encC))] none := by
    rw [hfr1.old h.length (by omega) (by simp [ent]) (by simp [ent])]
    simp [ent]
  have hfr0 : FrT h id h1 := FrT.more.trans hfr1
  generalize hL1 : add1 c.k c.n L = L1 at hr1 hla
  clear hg1 hfr1
  (repeat' first
    | apply X.retS
    | apply X.skipS
    | apply X.skipB
    | apply X.skipL
    | (apply X.exitS; first | apply X.here | (refine X.out (by decide) ?_; apply X.here))
    | apply X.blockS
    | (apply X.condS rfl <;> intro hp <;> first | exact absurd hp (by decide) | ((try rw [hp]); (try simp at hp)))
    | apply X.stepZ
    | (apply X.step; (focus (simp [-getElem?_pos, hbx]; with_reducible (first | rfl | exact ⟨rfl, rfl⟩))); (focus (simp; with_reducible rfl)))
    | (apply X.stepN rfl; (focus (simp; with_reducible rfl)))
    | ((first | apply X.stepGt rfl | apply X.stepGf rfl); (focus (simp; with_reducible rfl)); all_goals (intro hp; first | exact absurd hp (by decide) | ((try rw [hp]); (try simp at hp))))
    | (apply X.draw0; (focus rfl))
    | apply XD.nil
    | (apply XD.calm rfl; (focus (simp [-getElem?_pos, hbx]; with_reducible (first | rfl | exact ⟨rfl, rfl⟩))); (focus (simp; with_reducible rfl)))
    | (apply XD.call; (focus (simp; with_reducible rfl)); (focus (simp; with_reducible rfl)); (focus (simp [-getElem?_pos, hbx]; done)); (focus (simp [-getElem?_pos, hbx]; with_reducible rfl)); (focus (simp; with_reducible rfl)))
    | (apply XD.stepN rfl; (focus (simp; with_reducible rfl)))
    | ((first | apply XD.stepGt rfl | apply XD.stepGf rfl); (focus (simp; with_reducible rfl)); all_goals (intro hp; first | exact absurd hp (by decide) | ((try rw [hp]); (try simp at hp))))
    | (apply XD.loud; (focus (simp [-getElem?_pos, hbx]; with_reducible (first | rfl | exact ⟨rfl, rfl⟩))); (focus (simp; done)); (focus (simp; with_reducible rfl)); (focus (simp; with_reducible rfl))))
  refine X.forS c.l.length (fun j st => ∃ (hh : Heap) (v2 : V) (L2 : List Int), ent hh id = .blk [v2] t ∧ Row hh v2 (encI L2) ∧ FrT h id hh ∧ addG.addL (c.l.drop j) L2 = addG.addL c.l L1 ∧ L2.length + nodes.nodesL (c.l.drop j) ≤ 4000000000 ∧
    ∃ ts, Pat [none, some (.fn 74 [.ptr id 0]), none, none, none, none, none, none, none, none, some (.pv (.sl (c.l.map encC))), some (.pv (.int .i64 c.l.length)), some (.pv (.int .i64 j)), none, none, none, none, none, none, none] ts ∧ st = ⟨ts, hh⟩) ?_ ?_
  · exact ⟨h1, v1, L1, hb1, hr1, hfr0, rfl, by simp only [List.drop_zero]; omega, _, by simp [Pat], rfl⟩
  rintro j st hj ⟨hh, v2, L2, hb2, hr2, hfr2, hi, hle, ts, hts, rfl⟩
  obtain ⟨f, rfl⟩ := hts.fill
  simp only [Ab.fill, Nat.reduceAdd]
  clear hts hbx
  rcases Nat.lt_or_ge j c.l.length with hj1 | hj1
  · obtain ⟨x, hx⟩ := at_of_lt hj1
    have hxm := List.mem_of_getElem? hx
    have hc := ih x hxm (hf2 x hxm)
    have hlx := len_addG x L2
    have hww : IntKind.i64.wrap ((j : Int) + 1) = (j : Int) + 1 := wrap_i64 (by omega)
    rw [drop_at hx] at hi hle
    simp only [addG.addL, nodes.nodesL] at hi hle
    rw [eC x] at hc
    clear ih
    (repeat' first
    | apply X.retS
    | apply X.skipS
    | apply X.skipB
    | apply X.skipL
    | (apply X.exitS; first | apply X.here | (refine X.out (by decide) ?_; apply X.here))
    | apply X.blockS
    | (apply X.condS rfl <;> intro hp <;> first | exact absurd hp (by decide) | ((try rw [hp]); (try simp at hp)))
    | apply X.stepZ
    | (apply X.step; (focus (simp [-getElem?_pos, hj1, hx, eC x]; with_reducible (first | rfl | exact ⟨rfl, rfl⟩))); (focus (simp; with_reducible rfl)))
    | (apply X.stepN rfl; (focus (simp; with_reducible rfl)))
    | ((first | apply X.stepGt rfl | apply X.stepGf rfl); (focus (simp; with_reducible rfl)); all_goals (intro hp; first | exact absurd hp (by decide) | ((try rw [hp]); (try simp at hp))))
    | (apply X.draw0; (focus rfl))
    | apply XD.nil
    | (apply XD.calm rfl; (focus (simp [-getElem?_pos, hj1, hx, eC x]; with_reducible (first | rfl | exact ⟨rfl, rfl⟩))); (focus (simp; with_reducible rfl)))
    | (apply XD.call; (focus (simp; with_reducible rfl)); (focus (simp; with_reducible rfl)); (focus (simp [-getElem?_pos, hj1, hx, eC x]; done)); (focus (simp [-getElem?_pos, hj1, hx, eC x]; with_reducible rfl)); (focus (simp; with_reducible rfl)))
    | (apply XD.stepN rfl; (focus (simp; with_reducible rfl)))
    | ((first | apply XD.stepGt rfl | apply XD.stepGf rfl); (focus (simp; with_reducible rfl)); all_goals (intro hp; first | exact absurd hp (by decide) | ((try rw [hp]); (try simp at hp))))
    | (apply XD.loud; (focus (simp [-getElem?_pos, hj1, hx, eC x]; with_reducible (first | rfl | exact ⟨rfl, rfl⟩))); (focus (simp; done)); (focus (simp; with_reducible rfl)); (focus (simp; with_reducible rfl))))
    refine X.callR (P := fun w h' => w = .tup [] ∧ ∃ v', ent h' id = .blk [v'] t ∧ Row h' v' (encI (addG x L2)) ∧ FrT h id h') (by simp; with_reducible rfl) HH.each.raw (by simp [pures]) ?_ ?_
    · obtain ⟨w, h3, e1, e2, v3, e3, e4, e5⟩ := hc _ id v2 L2 t (ent_app hb2 (by simp)) hr2.mono (by omega)
      exact ⟨w, h3, e1, e2, v3, e3, e4, (hfr2.trans FrT.more).trans e5⟩
    rintro w h3 ⟨rfl, v3, hb3, hr3, hfr3⟩
    (repeat' first
    | apply X.retS
    | apply X.skipS
    | apply X.skipB
    | apply X.skipL
    | (apply X.exitS; first | apply X.here | (refine X.out (by decide) ?_; apply X.here))
    | apply X.blockS
    | (apply X.condS rfl <;> intro hp <;> first | exact absurd hp (by decide) | ((try rw [hp]); (try simp at hp)))
    | apply X.stepZ
    | (apply X.step; (focus (simp [-getElem?_pos, hww]; with_reducible (first | rfl | exact ⟨rfl, rfl⟩))); (focus (simp; with_reducible rfl)))
    | (apply X.stepN rfl; (focus (simp; with_reducible rfl)))
    | ((first | apply X.stepGt rfl | apply X.stepGf rfl); (focus (simp; with_reducible rfl)); all_goals (intro hp; first | exact absurd hp (by decide) | ((try rw [hp]); (try simp at hp))))
    | (apply X.draw0; (focus rfl))
    | apply XD.nil
    | (apply XD.calm rfl; (focus (simp [-getElem?_pos, hww]; with_reducible (first | rfl | exact ⟨rfl, rfl⟩))); (focus (simp; with_reducible rfl)))
    | (apply XD.call; (focus (simp; with_reducible rfl)); (focus (simp; with_reducible rfl)); (focus (simp [-getElem?_pos, hww]; done)); (focus (simp [-getElem?_pos, hww]; with_reducible rfl)); (focus (simp; with_reducible rfl)))
    | (apply XD.stepN rfl; (focus (simp; with_reducible rfl)))
    | ((first | apply XD.stepGt rfl | apply XD.stepGf rfl); (focus (simp; with_reducible rfl)); all_goals (intro hp; first | exact absurd hp (by decide) | ((try rw [hp]); (try simp at hp))))
    | (apply XD.loud; (focus (simp [-getElem?_pos, hww]; with_reducible (first | rfl | exact ⟨rfl, rfl⟩))); (focus (simp; done)); (focus (simp; with_reducible rfl)); (focus (simp; with_reducible rfl))))
    exact ⟨hj1, h3, v3, _, hb3, hr3, hfr3, hi, by omega, _, by simp [Pat], rfl⟩
  · have hj2 : ¬ j < c.l.length := by omega
    rw [List.drop_eq_nil_of_le hj1] at hi
    simp only [addG.addL] at hi
    clear ih
    (repeat' first
    | apply X.retS
    | apply X.skipS
    | apply X.skipB
    | apply X.skipL
    | (apply X.exitS; first | apply X.here | (refine X.out (by decide) ?_; apply X.here))
    | apply X.blockS
    | (apply X.condS rfl <;> intro hp <;> first | exact absurd hp (by decide) | ((try rw [hp]); (try simp at hp)))
    | apply X.stepZ
    | (apply X.step; (focus (simp [-getElem?_pos, hj2]; with_reducible (first | rfl | exact ⟨rfl, rfl⟩))); (focus (simp; with_reducible rfl)))
    | (apply X.stepN rfl; (focus (simp; with_reducible rfl)))
    | ((first | apply X.stepGt rfl | apply X.stepGf rfl); (focus (simp; with_reducible rfl)); all_goals (intro hp; first | exact absurd hp (by decide) | ((try rw [hp]); (try simp at hp))))
    | (apply X.draw0; (focus rfl))
    | apply XD.nil
    | (apply XD.calm rfl; (focus (simp [-getElem?_pos, hj2]; with_reducible (first | rfl | exact ⟨rfl, rfl⟩))); (focus (simp; with_reducible rfl)))
    | (apply XD.call; (focus (simp; with_reducible rfl)); (focus (simp; with_reducible rfl)); (focus (simp [-getElem?_pos, hj2]; done)); (focus (simp [-getElem?_pos, hj2]; with_reducible rfl)); (focus (simp; with_reducible rfl)))
    | (apply XD.stepN rfl; (focus (simp; with_reducible rfl)))
    | ((first | apply XD.stepGt rfl | apply XD.stepGf rfl); (focus (simp; with_reducible rfl)); all_goals (intro hp; first | exact absurd hp (by decide) | ((try rw [hp]); (try simp at hp))))
    | (apply XD.loud; (focus (simp [-getElem?_pos, hj2]; with_reducible (first | rfl | exact ⟨rfl, rfl⟩))); (focus (simp; done)); (focus (simp; with_reducible rfl)); (focus (simp; with_reducible rfl))))
    all_goals exact X.skipE rfl ⟨rfl, v2, hb2, by rw [← hi]; exact hr2, hfr2⟩

set_option maxHeartbeats 1000000 in
theorem Groups_ok (HH : HasG E) (c : Co) (hf : FineC c) (hl : nodes c ≤ 2000000000) : limP E 40 [encC c] = some [.sl (encI (addG c []))] := by
  have hc := each_ok HH c hf
  rw [eC] at hc ⊢
  have H := HH.groups
  refine H.lim (Nat.le_of_ble_eq_true rfl) (by simp; with_reducible rfl) ?_; unfold c40
  (repeat' first
    | apply X.retS
    | apply X.skipS
    | apply X.skipB
    | apply X.skipL
    | (apply X.exitS; first | apply X.here | (refine X.out (by decide) ?_; apply X.here))
    | apply X.blockS
    | (apply X.condS rfl <;> intro hp <;> first | exact absurd hp (by decide) | ((try rw [hp]); (try simp at hp)))
    | apply X.stepZ
    | (apply X.step; (focus (simp; with_reducible (first | rfl | exact ⟨rfl, rfl⟩))); (focus (simp; with_reducible rfl)))
    | (apply X.stepN rfl; (focus (simp; with_reducible rfl)))
    | ((first | apply X.stepGt rfl | apply X.stepGf rfl); (focus (simp; with_reducible rfl)); all_goals (intro hp; first | exact absurd hp (by decide) | ((try rw [hp]); (try simp at hp))))
    | (apply X.draw0; (focus rfl))
    | apply XD.nil
    | (apply XD.calm rfl; (focus (simp; with_reducible (first | rfl | exact ⟨rfl, rfl⟩))); (focus (simp; with_reducible rfl)))
    | (apply XD.call; (focus (simp; with_reducible rfl)); (focus (simp; with_reducible rfl)); (focus (simp; done)); (focus (simp; with_reducible rfl)); (focus (simp; with_reducible rfl)))
    | (apply XD.stepN rfl; (focus (simp; with_reducible rfl)))
    | ((first | apply XD.stepGt rfl | apply XD.stepGf rfl); (focus (simp; with_reducible rfl)); all_goals (intro hp; first | exact absurd hp (by decide) | ((try rw [hp]); (try simp at hp))))
    | (apply XD.loud; (focus (simp; with_reducible (first | rfl | exact ⟨rfl, rfl⟩))); (focus (simp; done)); (focus (simp; with_reducible rfl)); (focus (simp; with_reducible rfl))))
  refine X.callR (P := fun w h' => w = .tup [] ∧ ∃ v', ent h' 1 = .blk [v'] (some 87) ∧ Row h' v' (encI (addG c []))) (by simp; with_reducible rfl) HH.each.raw (by simp [pures]) ?_ ?_
  · obtain ⟨w, h3, e1, e2, v3, e3, e4, e5⟩ := hc [Ent.blk [.pv (.int .i64 c.k), .pv (.int .u64 c.s0), .pv (.int .u64 c.s1), .pv (.int .u64 c.s2), .pv (.int .u64 c.s3), .pv (.int .i64 c.n), .pv (.sl (c.l.map encC))] none, .blk [.nils] (some 87)] 1 .nils [] (some 87) rfl Row.nil (by simp; omega)
    exact ⟨w, h3, e1, e2, v3, e3, e4⟩
  rintro w h3 ⟨rfl, v3, hb3, hr3⟩
  (repeat' first
    | apply X.retS
    | apply X.skipS
    | apply X.skipB
    | apply X.skipL
    | (apply X.exitS; first | apply X.here | (refine X.out (by decide) ?_; apply X.here))
    | apply X.blockS
    | (apply X.condS rfl <;> intro hp <;> first | exact absurd hp (by decide) | ((try rw [hp]); (try simp at hp)))
    | apply X.stepZ
    | (apply X.step; (focus (simp [-getElem?_pos, hb3]; with_reducible (first | rfl | exact ⟨rfl, rfl⟩))); (focus (simp; with_reducible rfl)))
    | (apply X.stepN rfl; (focus (simp; with_reducible rfl)))
    | ((first | apply X.stepGt rfl | apply X.stepGf rfl); (focus (simp; with_reducible rfl)); all_goals (intro hp; first | exact absurd hp (by decide) | ((try rw [hp]); (try simp at hp))))
    | (apply X.draw0; (focus rfl))
    | apply XD.nil
    | (apply XD.calm rfl; (focus (simp [-getElem?_pos, hb3]; with_reducible (first | rfl | exact ⟨rfl, rfl⟩))); (focus (simp; with_reducible rfl)))
    | (apply XD.call; (focus (simp; with_reducible rfl)); (focus (simp; with_reducible rfl)); (focus (simp [-getElem?_pos, hb3]; done)); (focus (simp [-getElem?_pos, hb3]; with_reducible rfl)); (focus (simp; with_reducible rfl)))
    | (apply XD.stepN rfl; (focus (simp; with_reducible rfl)))
    | ((first | apply XD.stepGt rfl | apply XD.stepGf rfl); (focus (simp; with_reducible rfl)); all_goals (intro hp; first | exact absurd hp (by decide) | ((try rw [hp]); (try simp at hp))))
    | (apply XD.loud; (focus (simp [-getElem?_pos, hb3]; with_reducible (first | rfl | exact ⟨rfl, rfl⟩))); (focus (simp; done)); (focus (simp; with_reducible rfl)); (focus (simp; with_reducible rfl))))
  all_goals (refine Fin.mk' (us := [v3]) rfl ?_ rfl)
  all_goals (rcases hr3 with ⟨h0, rfl⟩ | ⟨_, tok, rfl, _⟩ <;> simp [pureRes, oneOf, snapFuel, snap_nils, snap_slt])
  all_goals simp [h0]
end Cps
