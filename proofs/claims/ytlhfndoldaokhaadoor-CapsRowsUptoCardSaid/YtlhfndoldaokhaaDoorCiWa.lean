/- CiWa: steps, walks, laws: see the remarks within. -/
import Derived.Test.YtlhfndoldaokhaaDoorAbStep
import Derived.Test.YtlhfndoldaokhaaDoorCiVb
set_option linter.unusedSimpArgs false
set_option linter.unusedVariables false
-- The walker: what it forgets, where it goes; in its caller's heap.
namespace Cps
open Go Ab Go.Proofs.YtlhfndoldaokhaaDoor.Mach
variable {E : Env}

abbrev Sp := Int × Int
/-- Spans, cell by cell. -/
def cellsP : List Sp → List PV
  | [] => []
  | p :: l => .int .i64 p.1 :: .int .i64 p.2 :: cellsP l
theorem cellsP_len : ∀ l, (cellsP l).length = l.length * 2
  | [] => rfl
  | p :: l => by simp [cellsP, cellsP_len l]; omega
theorem cellsP_splice : ∀ (l : List Sp) (i : Nat) (p : Sp), i < l.length → splice ((cellsP l).map V.pv) (i * 2) [.pv (.int .i64 p.1), .pv (.int .i64 p.2)] = (cellsP (l.set i p)).map V.pv
  | [], _, _, h => by simp at h
  | q :: l, 0, p, _ => by simp [splice, cellsP]
  | q :: l, i + 1, p, h => by
    have := cellsP_splice l i p (by simpa using h)
    simp only [splice] at this ⊢
    have e : (i + 1) * 2 = i * 2 + 2 := by omega
    have e2 : i * 2 + 2 + [V.pv (PV.int IntKind.i64 p.1), V.pv (PV.int IntKind.i64 p.2)].length = i * 2 + [V.pv (PV.int IntKind.i64 p.1), V.pv (PV.int IntKind.i64 p.2)].length + 2 := by simp
    rw [e, e2]
    simp only [cellsP, List.map_cons, List.take_succ_cons, List.drop_succ_cons, List.cons_append, List.set_cons_succ, List.append_assoc] at this ⊢
    rw [this]

/-- All groups of a core: not said any more. -/
def forgetS : Co → List Sp → List Sp
  | .mk k _ _ _ _ n l, L => forgetL l (if k = 6 ∧ n < L.length then L.set n.toNat (-1, -1) else L)
where
  forgetL : List Co → List Sp → List Sp
  | [], L => L
  | x :: l, L => forgetL l (forgetS x L)

theorem forget_len : ∀ c L, (forgetS c L).length = L.length := by
  refine Co.ind fun c ih => ?_
  obtain ⟨k, s0, s1, s2, s3, n, l⟩ := c
  have key : ∀ (l : List Co) (L : List Sp), (∀ y ∈ l, ∀ L, (forgetS y L).length = L.length) → (forgetS.forgetL l L).length = L.length := by
    intro l
    induction l with
    | nil => intro L _; rfl
    | cons x l ihl => intro L h; rw [forgetS.forgetL, ihl _ fun y hy => h y (by simp [hy]), h x (by simp)]
  intro L
  rw [forgetS, key l _ ih]
  split <;> simp

/-- A walker in a heap: its spans, where it is. -/
structure Wk (h : Heap) (wi li : Nat) (L : List Sp) (at' : Int) (tw tl : Option TypeId) : Prop where
  w : ent h wi = .blk [.sln li 0 L.length 2 true, .pv (.int .i64 at')] tw
  l : ent h li = .blk ((cellsP L).map V.pv) tl
  ne : wi ≠ li

theorem Wk.app {h l : Heap} {wi li : Nat} {L : List Sp} {at' : Int} {tw tl : Option TypeId} (W : Wk h wi li L at' tw tl) : Wk (h ++ l) wi li L at' tw tl := ⟨ent_app W.w (by simp), ent_app W.l (by simp), W.ne⟩
theorem lt_of_ent {h : Heap} {i : Nat} (he : ent h i ≠ .dead) : i < h.length := by
  rcases Nat.lt_or_ge i h.length with h1 | h1
  · exact h1
  · exact absurd (by simp [ent, List.getElem?_eq_none h1]) he
theorem Wk.li_lt {h : Heap} {wi li : Nat} {L : List Sp} {at' : Int} {tw tl : Option TypeId} (W : Wk h wi li L at' tw tl) : li < h.length := lt_of_ent (by rw [W.l]; simp)
theorem Wk.wi_lt {h : Heap} {wi li : Nat} {L : List Sp} {at' : Int} {tw tl : Option TypeId} (W : Wk h wi li L at' tw tl) : wi < h.length := lt_of_ent (by rw [W.w]; simp)

/-- The heap with other spans, and another place. -/
def upd (h : Heap) (wi li : Nat) (m : Nat) (L : List Sp) (at' : Int) (tw tl : Option TypeId) : Heap := (h.set li (.blk ((cellsP L).map V.pv) tl)).set wi (.blk [.sln li 0 m 2 true, .pv (.int .i64 at')] tw)
theorem upd_len {h : Heap} {wi li m : Nat} {L : List Sp} {at' : Int} {tw tl : Option TypeId} : (upd h wi li m L at' tw tl).length = h.length := by simp [upd]
theorem upd_wk {h : Heap} {wi li : Nat} {L L' : List Sp} {at' at2 : Int} {tw tl : Option TypeId} (W : Wk h wi li L at' tw tl) : Wk (upd h wi li L'.length L' at2 tw tl) wi li L' at2 tw tl := by
  have h1 := W.li_lt
  have h2 := W.wi_lt
  refine ⟨?_, ?_, W.ne⟩
  · simp [upd, ent, h2]
  · simp [upd, ent, h1, W.ne]
theorem upd_same {h : Heap} {wi li : Nat} {L : List Sp} {at' : Int} {tw tl : Option TypeId} (W : Wk h wi li L at' tw tl) : upd h wi li L.length L at' tw tl = h := by
  have h1 := W.li_lt
  have h2 := W.wi_lt
  have e1 := W.w
  have e2 := W.l
  simp only [ent, List.getElem?_eq_getElem h2, Option.getD_some] at e1
  simp only [ent, List.getElem?_eq_getElem h1, Option.getD_some] at e2
  simp only [upd]
  rw [← e1, ← e2]
  simp
theorem upd_upd {h : Heap} {wi li m m2 : Nat} {L L2 : List Sp} {a a2 : Int} {tw tl : Option TypeId} (hne : wi ≠ li) : upd (upd h wi li m L a tw tl) wi li m2 L2 a2 tw tl = upd h wi li m2 L2 a2 tw tl := by
  unfold upd
  apply List.ext_getElem?
  intro i
  simp only [List.getElem?_set, List.length_set]
  by_cases h1 : wi = i <;> by_cases h2 : li = i <;> simp_all
theorem upd_app {h l : Heap} {wi li m : Nat} {L : List Sp} {a : Int} {tw tl : Option TypeId} (h1 : li < h.length) (h2 : wi < h.length) : upd (h ++ l) wi li m L a tw tl = upd h wi li m L a tw tl ++ l := by
  unfold upd
  rw [List.set_append_left _ _ h1, List.set_append_left _ _ (by simpa using h2)]

theorem forget_eq (c : Co) (L : List Sp) : forgetS c L = forgetS.forgetL c.l (if c.k = 6 ∧ c.n < L.length then L.set c.n.toNat (-1, -1) else L) := by cases c; rfl

theorem upd_set {h : Heap} {wi li : Nat} {L L' : List Sp} {at' : Int} {tw tl : Option TypeId} (W : Wk h wi li L at' tw tl) : h.set li (.blk ((cellsP L').map V.pv) tl) = upd h wi li L.length L' at' tw tl := by
  have h2 := W.wi_lt
  have e1 := W.w
  simp only [ent, List.getElem?_eq_getElem h2, Option.getD_some] at e1
  unfold upd
  rw [List.set_comm _ _ W.ne.symm, ← e1, List.set_getElem_self]

set_option maxHeartbeats 4000000 in
theorem forget_ok (H : HasR E 83 c83) {wi li : Nat} {tw tl : Option TypeId} : ∀ c, Sh c → FineC c → ∀ (h : Heap) (L : List Sp) (at' : Int), L.length ≤ 1000 → Wk h wi li L at' tw tl →
    ∃ v h', limR E 83 [.ptr wi 0, .pv (encC c)] h = some (v, h') ∧ v = .tup [] ∧ ∃ g, h' = upd h wi li L.length (forgetS c L) at' tw tl ++ g := by
  refine Co.ind fun c ih hs hf h L at' hL hW => ?_
  obtain ⟨hf1, hf2⟩ := fineC hf
  obtain ⟨hs1, hs2, hs3⟩ := sh_mk.1 hs
  rw [eC]
  refine H.limE (Nat.le_of_ble_eq_true rfl) (by simp; with_reducible rfl) ?_; unfold c83
  have hw : ∀ l, ent (h ++ l) wi = .blk [.sln li 0 L.length 2 true, .pv (.int .i64 at')] tw := fun l => hW.app.w
  have hl : ∀ l, ent (h ++ l) li = .blk ((cellsP L).map V.pv) tl := fun l => hW.app.l
  have hle := hW.li_lt
  have hsa : ∀ (l : Heap) (B : Ent), (h ++ l).set li B = h.set li B ++ l := fun l B => List.set_append_left _ _ hle
  have hsl : ∀ (l : Heap) (B : Ent), ent (h.set li B ++ l) h.length = ent l 0 := fun l B => by rw [show h.length = (h.set li B).length by simp]; exact ent_at0
  cases bk : (c.k == 6) with
  | true =>
    have hk : c.k = 6 := by simpa using bk
    have hn := (hs2 hk).1
    have hn0 : 0 ≤ c.n := by omega
    cases bn : decide (c.n < (L.length : Int)) with
    | true =>
      have hnl : c.n < (L.length : Int) := of_decide_eq_true bn
      have hnt : c.n.toNat < L.length := by omega
      have hsp := cellsP_splice L c.n.toNat (-1, -1) hnt
      simp [splice] at hsp
      have hle2 : c.n.toNat * 2 + 2 ≤ L.length * 2 := by omega
      have hfo : forgetS.forgetL c.l (L.set c.n.toNat (-1, -1)) = forgetS c L := by rw [forget_eq, if_pos ⟨hk, hnl⟩]
      (repeat' first
    | apply X.retS
    | apply X.skipS
    | apply X.skipB
    | apply X.skipL
    | (apply X.exitS; first | apply X.here | (refine X.out (by decide) ?_; apply X.here))
    | apply X.blockS
    | (apply X.condS rfl <;> intro hp <;> first | exact absurd hp (by decide) | ((try rw [hp]); (try simp at hp)))
    | apply X.stepZ
    | (apply X.step; (focus (simp [-getElem?_pos, bk, bn, hw, hl, hn0, hnt, hsp, hle2, cellsP_len, hsa, hsl]; with_reducible (first | rfl | exact ⟨rfl, rfl⟩))); (focus (simp; with_reducible rfl)))
    | (apply X.stepN rfl; (focus (simp; with_reducible rfl)))
    | ((first | apply X.stepGt rfl | apply X.stepGf rfl); (focus (simp; with_reducible rfl)); all_goals (intro hp; first | exact absurd hp (by decide) | ((try rw [hp]); (try simp at hp))))
    | (apply X.draw0; (focus rfl))
    | apply XD.nil
    | (apply XD.calm rfl; (focus (simp [-getElem?_pos, bk, bn, hw, hl, hn0, hnt, hsp, hle2, cellsP_len, hsa, hsl]; with_reducible (first | rfl | exact ⟨rfl, rfl⟩))); (focus (simp; with_reducible rfl)))
    | (apply XD.call; (focus (simp; with_reducible rfl)); (focus (simp; with_reducible rfl)); (focus (simp [-getElem?_pos, bk, bn, hw, hl, hn0, hnt, hsp, hle2, cellsP_len, hsa, hsl]; done)); (focus (simp [-getElem?_pos, bk, bn, hw, hl, hn0, hnt, hsp, hle2, cellsP_len, hsa, hsl]; with_reducible rfl)); (focus (simp; with_reducible rfl)))
    | (apply XD.stepN rfl; (focus (simp; with_reducible rfl)))
    | ((first | apply XD.stepGt rfl | apply XD.stepGf rfl); (focus (simp; with_reducible rfl)); all_goals (intro hp; first | exact absurd hp (by decide) | ((try rw [hp]); (try simp at hp))))
    | (apply XD.loud; (focus (simp [-getElem?_pos, bk, bn, hw, hl, hn0, hnt, hsp, hle2, cellsP_len, hsa, hsl]; with_reducible (first | rfl | exact ⟨rfl, rfl⟩))); (focus (simp; done)); (focus (simp; with_reducible rfl)); (focus (simp; with_reducible rfl))))
      refine X.forS c.l.length (fun j st => ∃ (L' : List Sp) (g : Heap), L'.length = L.length ∧ forgetS.forgetL (c.l.drop j) L' = forgetS c L ∧ ∃ x1 x2 x3 x4 x5 x6 x7 x8 x9 x10 x11 x12 x13 x14 x15 x16 x17 x18 x19 x20 x21 x22 x23 x24 x25 x26 x27 x31 x32 x33 x34 x35 x36 x37,
        st = ⟨[.ptr wi 0, x1, x2, x3, x4, x5, x6, x7, x8, x9, x10, x11, x12, x13, x14, x15, x16, x17, x18, x19, x20, x21, x22, x23, x24, x25, x26, x27, .pv (.sl (c.l.map encC)), .pv (.int .i64 c.l.length), .pv (.int .i64 j), x31, x32, x33, x34, x35, x36, x37], upd h wi li L.length L' at' tw tl ++ g⟩) ?_ ?_
      · exact ⟨L.set c.n.toNat (-1, -1), _, by simp, hfo, _, _, _, _, _, _, _, _, _, _, _, _, _, _, _, _, _, _, _, _, _, _, _, _, _, _, _, _, _, _, _, _, _, _, by rw [upd_set hW]; rfl⟩
      rintro j st hj ⟨L', g, hLl, hi, x1, x2, x3, x4, x5, x6, x7, x8, x9, x10, x11, x12, x13, x14, x15, x16, x17, x18, x19, x20, x21, x22, x23, x24, x25, x26, x27, x31, x32, x33, x34, x35, x36, x37, rfl⟩
      rcases Nat.lt_or_ge j c.l.length with hj1 | hj1
      · obtain ⟨x, hx⟩ := at_of_lt hj1
        rw [drop_at hx] at hi
        simp only [forgetS.forgetL] at hi
        have hxm := List.mem_of_getElem? hx
        have hc := ih x hxm (hs3 x hxm) (hf2 x hxm)
        have hwk : ∀ l, Wk (upd h wi li L.length L' at' tw tl ++ l) wi li L' at' tw tl := fun l => by rw [← hLl]; exact (upd_wk hW).app
        have hww : IntKind.i64.wrap ((j : Int) + 1) = (j : Int) + 1 := wrap_i64 (by omega)
        rw [eC] at hc
        clear ih
        (repeat' first
    | apply X.retS
    | apply X.skipS
    | apply X.skipB
    | apply X.skipL
    | (apply X.exitS; first | apply X.here | (refine X.out (by decide) ?_; apply X.here))
    | apply X.blockS
    | (apply X.condS rfl <;> intro hp <;> first | exact absurd hp (by decide) | ((try rw [hp]); (try simp at hp)))
    | apply X.stepZ
    | (apply X.step; (focus (simp [-getElem?_pos, hj1, hx, eC]; with_reducible (first | rfl | exact ⟨rfl, rfl⟩))); (focus (simp; with_reducible rfl)))
    | (apply X.stepN rfl; (focus (simp; with_reducible rfl)))
    | ((first | apply X.stepGt rfl | apply X.stepGf rfl); (focus (simp; with_reducible rfl)); all_goals (intro hp; first | exact absurd hp (by decide) | ((try rw [hp]); (try simp at hp))))
    | (apply X.draw0; (focus rfl))
    | apply XD.nil
    | (apply XD.calm rfl; (focus (simp [-getElem?_pos, hj1, hx, eC]; with_reducible (first | rfl | exact ⟨rfl, rfl⟩))); (focus (simp; with_reducible rfl)))
    | (apply XD.call; (focus (simp; with_reducible rfl)); (focus (simp; with_reducible rfl)); (focus (simp [-getElem?_pos, hj1, hx, eC]; done)); (focus (simp [-getElem?_pos, hj1, hx, eC]; with_reducible rfl)); (focus (simp; with_reducible rfl)))
    | (apply XD.stepN rfl; (focus (simp; with_reducible rfl)))
    | ((first | apply XD.stepGt rfl | apply XD.stepGf rfl); (focus (simp; with_reducible rfl)); all_goals (intro hp; first | exact absurd hp (by decide) | ((try rw [hp]); (try simp at hp))))
    | (apply XD.loud; (focus (simp [-getElem?_pos, hj1, hx, eC]; with_reducible (first | rfl | exact ⟨rfl, rfl⟩))); (focus (simp; done)); (focus (simp; with_reducible rfl)); (focus (simp; with_reducible rfl))))
        refine X.callR (P := fun v h' => v = .tup [] ∧ ∃ g', h' = upd h wi li L.length (forgetS x L') at' tw tl ++ g') (by simp; with_reducible rfl) H.raw (by simp [pures]) ?_ ?_
        try simp only [List.append_assoc]
        · obtain ⟨v, h', e1, e2, g', e3⟩ := hc _ L' at' (by omega) (hwk _)
          subst e3
          refine ⟨v, _, e1, e2, ?_⟩
          rw [hLl, upd_app (by rw [upd_len]; exact hle) (by rw [upd_len]; exact hW.wi_lt), upd_upd hW.ne, List.append_assoc]
          exact ⟨_, rfl⟩
        · rintro v h' ⟨rfl, g', rfl⟩
          (repeat' first
    | apply X.retS
    | apply X.skipS
    | apply X.skipB
    | apply X.skipL
    | (apply X.exitS; first | apply X.here | (refine X.out (by decide) ?_; apply X.here))
    | apply X.blockS
    | (apply X.condS rfl <;> intro hp <;> first | exact absurd hp (by decide) | ((try rw [hp]); (try simp at hp)))
    | apply X.stepZ
    | (apply X.step; (focus (simp [-getElem?_pos, hww]; with_reducible (first | rfl | exact ⟨rfl, rfl⟩))); (focus (simp; with_reducible rfl)))
    | (apply X.stepN rfl; (focus (simp; with_reducible rfl)))
    | ((first | apply X.stepGt rfl | apply X.stepGf rfl); (focus (simp; with_reducible rfl)); all_goals (intro hp; first | exact absurd hp (by decide) | ((try rw [hp]); (try simp at hp))))
    | (apply X.draw0; (focus rfl))
    | apply XD.nil
    | (apply XD.calm rfl; (focus (simp [-getElem?_pos, hww]; with_reducible (first | rfl | exact ⟨rfl, rfl⟩))); (focus (simp; with_reducible rfl)))
    | (apply XD.call; (focus (simp; with_reducible rfl)); (focus (simp; with_reducible rfl)); (focus (simp [-getElem?_pos, hww]; done)); (focus (simp [-getElem?_pos, hww]; with_reducible rfl)); (focus (simp; with_reducible rfl)))
    | (apply XD.stepN rfl; (focus (simp; with_reducible rfl)))
    | ((first | apply XD.stepGt rfl | apply XD.stepGf rfl); (focus (simp; with_reducible rfl)); all_goals (intro hp; first | exact absurd hp (by decide) | ((try rw [hp]); (try simp at hp))))
    | (apply XD.loud; (focus (simp [-getElem?_pos, hww]; with_reducible (first | rfl | exact ⟨rfl, rfl⟩))); (focus (simp; done)); (focus (simp; with_reducible rfl)); (focus (simp; with_reducible rfl))))
          exact ⟨hj1, forgetS x L', g', by rw [forget_len, hLl], hi, _, _, _, _, _, _, _, _, _, _, _, _, _, _, _, _, _, _, _, _, _, _, _, _, _, _, _, _, _, _, _, _, _, _, rfl⟩
      · have hj2 : ¬ j < c.l.length := by omega
        rw [List.drop_eq_nil_of_le hj1] at hi
        simp only [forgetS.forgetL] at hi
        clear ih
        (repeat' first
    | apply X.retS
    | apply X.skipS
    | apply X.skipB
    | apply X.skipL
    | (apply X.exitS; first | apply X.here | (refine X.out (by decide) ?_; apply X.here))
    | apply X.blockS
    | (apply X.condS rfl <;> intro hp <;> first | exact absurd hp (by decide) | ((try rw [hp]); (try simp at hp)))
    | apply X.stepZ
    | (apply X.step; (focus (simp [-getElem?_pos, hj2]; with_reducible (first | rfl | exact ⟨rfl, rfl⟩))); (focus (simp; with_reducible rfl)))
    | (apply X.stepN rfl; (focus (simp; with_reducible rfl)))
    | ((first | apply X.stepGt rfl | apply X.stepGf rfl); (focus (simp; with_reducible rfl)); all_goals (intro hp; first | exact absurd hp (by decide) | ((try rw [hp]); (try simp at hp))))
    | (apply X.draw0; (focus rfl))
    | apply XD.nil
    | (apply XD.calm rfl; (focus (simp [-getElem?_pos, hj2]; with_reducible (first | rfl | exact ⟨rfl, rfl⟩))); (focus (simp; with_reducible rfl)))
    | (apply XD.call; (focus (simp; with_reducible rfl)); (focus (simp; with_reducible rfl)); (focus (simp [-getElem?_pos, hj2]; done)); (focus (simp [-getElem?_pos, hj2]; with_reducible rfl)); (focus (simp; with_reducible rfl)))
    | (apply XD.stepN rfl; (focus (simp; with_reducible rfl)))
    | ((first | apply XD.stepGt rfl | apply XD.stepGf rfl); (focus (simp; with_reducible rfl)); all_goals (intro hp; first | exact absurd hp (by decide) | ((try rw [hp]); (try simp at hp))))
    | (apply XD.loud; (focus (simp [-getElem?_pos, hj2]; with_reducible (first | rfl | exact ⟨rfl, rfl⟩))); (focus (simp; done)); (focus (simp; with_reducible rfl)); (focus (simp; with_reducible rfl))))
        all_goals exact X.skipE rfl ⟨rfl, g, by rw [hi]⟩

    | false =>
      have hnl : ¬ c.n < (L.length : Int) := of_decide_eq_false bn
      have hfo : forgetS.forgetL c.l L = forgetS c L := by rw [forget_eq, if_neg fun hh => hnl hh.2]
      (repeat' first
    | apply X.retS
    | apply X.skipS
    | apply X.skipB
    | apply X.skipL
    | (apply X.exitS; first | apply X.here | (refine X.out (by decide) ?_; apply X.here))
    | apply X.blockS
    | (apply X.condS rfl <;> intro hp <;> first | exact absurd hp (by decide) | ((try rw [hp]); (try simp at hp)))
    | apply X.stepZ
    | (apply X.step; (focus (simp [-getElem?_pos, bk, bn, hw, hl]; with_reducible (first | rfl | exact ⟨rfl, rfl⟩))); (focus (simp; with_reducible rfl)))
    | (apply X.stepN rfl; (focus (simp; with_reducible rfl)))
    | ((first | apply X.stepGt rfl | apply X.stepGf rfl); (focus (simp; with_reducible rfl)); all_goals (intro hp; first | exact absurd hp (by decide) | ((try rw [hp]); (try simp at hp))))
    | (apply X.draw0; (focus rfl))
    | apply XD.nil
    | (apply XD.calm rfl; (focus (simp [-getElem?_pos, bk, bn, hw, hl]; with_reducible (first | rfl | exact ⟨rfl, rfl⟩))); (focus (simp; with_reducible rfl)))
    | (apply XD.call; (focus (simp; with_reducible rfl)); (focus (simp; with_reducible rfl)); (focus (simp [-getElem?_pos, bk, bn, hw, hl]; done)); (focus (simp [-getElem?_pos, bk, bn, hw, hl]; with_reducible rfl)); (focus (simp; with_reducible rfl)))
    | (apply XD.stepN rfl; (focus (simp; with_reducible rfl)))
    | ((first | apply XD.stepGt rfl | apply XD.stepGf rfl); (focus (simp; with_reducible rfl)); all_goals (intro hp; first | exact absurd hp (by decide) | ((try rw [hp]); (try simp at hp))))
    | (apply XD.loud; (focus (simp [-getElem?_pos, bk, bn, hw, hl]; with_reducible (first | rfl | exact ⟨rfl, rfl⟩))); (focus (simp; done)); (focus (simp; with_reducible rfl)); (focus (simp; with_reducible rfl))))
      refine X.forS c.l.length (fun j st => ∃ (L' : List Sp) (g : Heap), L'.length = L.length ∧ forgetS.forgetL (c.l.drop j) L' = forgetS c L ∧ ∃ x1 x2 x3 x4 x5 x6 x7 x8 x9 x10 x11 x12 x13 x14 x15 x16 x17 x18 x19 x20 x21 x22 x23 x24 x25 x26 x27 x31 x32 x33 x34 x35 x36 x37,
        st = ⟨[.ptr wi 0, x1, x2, x3, x4, x5, x6, x7, x8, x9, x10, x11, x12, x13, x14, x15, x16, x17, x18, x19, x20, x21, x22, x23, x24, x25, x26, x27, .pv (.sl (c.l.map encC)), .pv (.int .i64 c.l.length), .pv (.int .i64 j), x31, x32, x33, x34, x35, x36, x37], upd h wi li L.length L' at' tw tl ++ g⟩) ?_ ?_
      · exact ⟨L, _, rfl, hfo, _, _, _, _, _, _, _, _, _, _, _, _, _, _, _, _, _, _, _, _, _, _, _, _, _, _, _, _, _, _, _, _, _, _, by rw [upd_same hW]; rfl⟩
      rintro j st hj ⟨L', g, hLl, hi, x1, x2, x3, x4, x5, x6, x7, x8, x9, x10, x11, x12, x13, x14, x15, x16, x17, x18, x19, x20, x21, x22, x23, x24, x25, x26, x27, x31, x32, x33, x34, x35, x36, x37, rfl⟩
      rcases Nat.lt_or_ge j c.l.length with hj1 | hj1
      · obtain ⟨x, hx⟩ := at_of_lt hj1
        rw [drop_at hx] at hi
        simp only [forgetS.forgetL] at hi
        have hxm := List.mem_of_getElem? hx
        have hc := ih x hxm (hs3 x hxm) (hf2 x hxm)
        have hwk : ∀ l, Wk (upd h wi li L.length L' at' tw tl ++ l) wi li L' at' tw tl := fun l => by rw [← hLl]; exact (upd_wk hW).app
        have hww : IntKind.i64.wrap ((j : Int) + 1) = (j : Int) + 1 := wrap_i64 (by omega)
        rw [eC] at hc
        clear ih
        (repeat' first
    | apply X.retS
    | apply X.skipS
    | apply X.skipB
    | apply X.skipL
    | (apply X.exitS; first | apply X.here | (refine X.out (by decide) ?_; apply X.here))
    | apply X.blockS
    | (apply X.condS rfl <;> intro hp <;> first | exact absurd hp (by decide) | ((try rw [hp]); (try simp at hp)))
    | apply X.stepZ
    | (apply X.step; (focus (simp [-getElem?_pos, hj1, hx, eC]; with_reducible (first | rfl | exact ⟨rfl, rfl⟩))); (focus (simp; with_reducible rfl)))
    | (apply X.stepN rfl; (focus (simp; with_reducible rfl)))
    | ((first | apply X.stepGt rfl | apply X.stepGf rfl); (focus (simp; with_reducible rfl)); all_goals (intro hp; first | exact absurd hp (by decide) | ((try rw [hp]); (try simp at hp))))
    | (apply X.draw0; (focus rfl))
    | apply XD.nil
    | (apply XD.calm rfl; (focus (simp [-getElem?_pos, hj1, hx, eC]; with_reducible (first | rfl | exact ⟨rfl, rfl⟩))); (focus (simp; with_reducible rfl)))
    | (apply XD.call; (focus (simp; with_reducible rfl)); (focus (simp; with_reducible rfl)); (focus (simp [-getElem?_pos, hj1, hx, eC]; done)); (focus (simp [-getElem?_pos, hj1, hx, eC]; with_reducible rfl)); (focus (simp; with_reducible rfl)))
    | (apply XD.stepN rfl; (focus (simp; with_reducible rfl)))
    | ((first | apply XD.stepGt rfl | apply XD.stepGf rfl); (focus (simp; with_reducible rfl)); all_goals (intro hp; first | exact absurd hp (by decide) | ((try rw [hp]); (try simp at hp))))
    | (apply XD.loud; (focus (simp [-getElem?_pos, hj1, hx, eC]; with_reducible (first | rfl | exact ⟨rfl, rfl⟩))); (focus (simp; done)); (focus (simp; with_reducible rfl)); (focus (simp; with_reducible rfl))))
        refine X.callR (P := fun v h' => v = .tup [] ∧ ∃ g', h' = upd h wi li L.length (forgetS x L') at' tw tl ++ g') (by simp; with_reducible rfl) H.raw (by simp [pures]) ?_ ?_
        try simp only [List.append_assoc]
        · obtain ⟨v, h', e1, e2, g', e3⟩ := hc _ L' at' (by omega) (hwk _)
          subst e3
          refine ⟨v, _, e1, e2, ?_⟩
          rw [hLl, upd_app (by rw [upd_len]; exact hle) (by rw [upd_len]; exact hW.wi_lt), upd_upd hW.ne, List.append_assoc]
          exact ⟨_, rfl⟩
        · rintro v h' ⟨rfl, g', rfl⟩
          (repeat' first
    | apply X.retS
    | apply X.skipS
    | apply X.skipB
    | apply X.skipL
    | (apply X.exitS; first | apply X.here | (refine X.out (by decide) ?_; apply X.here))
    | apply X.blockS
    | (apply X.condS rfl <;> intro hp <;> first | exact absurd hp (by decide) | ((try rw [hp]); (try simp at hp)))
    | apply X.stepZ
    | (apply X.step; (focus (simp [-getElem?_pos, hww]; with_reducible (first | rfl | exact ⟨rfl, rfl⟩))); (focus (simp; with_reducible rfl)))
    | (apply X.stepN rfl; (focus (simp; with_reducible rfl)))
    | ((first | apply X.stepGt rfl | apply X.stepGf rfl); (focus (simp; with_reducible rfl)); all_goals (intro hp; first | exact absurd hp (by decide) | ((try rw [hp]); (try simp at hp))))
    | (apply X.draw0; (focus rfl))
    | apply XD.nil
    | (apply XD.calm rfl; (focus (simp [-getElem?_pos, hww]; with_reducible (first | rfl | exact ⟨rfl, rfl⟩))); (focus (simp; with_reducible rfl)))
    | (apply XD.call; (focus (simp; with_reducible rfl)); (focus (simp; with_reducible rfl)); (focus (simp [-getElem?_pos, hww]; done)); (focus (simp [-getElem?_pos, hww]; with_reducible rfl)); (focus (simp; with_reducible rfl)))
    | (apply XD.stepN rfl; (focus (simp; with_reducible rfl)))
    | ((first | apply XD.stepGt rfl | apply XD.stepGf rfl); (focus (simp; with_reducible rfl)); all_goals (intro hp; first | exact absurd hp (by decide) | ((try rw [hp]); (try simp at hp))))
    | (apply XD.loud; (focus (simp [-getElem?_pos, hww]; with_reducible (first | rfl | exact ⟨rfl, rfl⟩))); (focus (simp; done)); (focus (simp; with_reducible rfl)); (focus (simp; with_reducible rfl))))
          exact ⟨hj1, forgetS x L', g', by rw [forget_len, hLl], hi, _, _, _, _, _, _, _, _, _, _, _, _, _, _, _, _, _, _, _, _, _, _, _, _, _, _, _, _, _, _, _, _, _, _, rfl⟩
      · have hj2 : ¬ j < c.l.length := by omega
        rw [List.drop_eq_nil_of_le hj1] at hi
        simp only [forgetS.forgetL] at hi
        clear ih
        (repeat' first
    | apply X.retS
    | apply X.skipS
    | apply X.skipB
    | apply X.skipL
    | (apply X.exitS; first | apply X.here | (refine X.out (by decide) ?_; apply X.here))
    | apply X.blockS
    | (apply X.condS rfl <;> intro hp <;> first | exact absurd hp (by decide) | ((try rw [hp]); (try simp at hp)))
    | apply X.stepZ
    | (apply X.step; (focus (simp [-getElem?_pos, hj2]; with_reducible (first | rfl | exact ⟨rfl, rfl⟩))); (focus (simp; with_reducible rfl)))
    | (apply X.stepN rfl; (focus (simp; with_reducible rfl)))
    | ((first | apply X.stepGt rfl | apply X.stepGf rfl); (focus (simp; with_reducible rfl)); all_goals (intro hp; first | exact absurd hp (by decide) | ((try rw [hp]); (try simp at hp))))
    | (apply X.draw0; (focus rfl))
    | apply XD.nil
    | (apply XD.calm rfl; (focus (simp [-getElem?_pos, hj2]; with_reducible (first | rfl | exact ⟨rfl, rfl⟩))); (focus (simp; with_reducible rfl)))
    | (apply XD.call; (focus (simp; with_reducible rfl)); (focus (simp; with_reducible rfl)); (focus (simp [-getElem?_pos, hj2]; done)); (focus (simp [-getElem?_pos, hj2]; with_reducible rfl)); (focus (simp; with_reducible rfl)))
    | (apply XD.stepN rfl; (focus (simp; with_reducible rfl)))
    | ((first | apply XD.stepGt rfl | apply XD.stepGf rfl); (focus (simp; with_reducible rfl)); all_goals (intro hp; first | exact absurd hp (by decide) | ((try rw [hp]); (try simp at hp))))
    | (apply XD.loud; (focus (simp [-getElem?_pos, hj2]; with_reducible (first | rfl | exact ⟨rfl, rfl⟩))); (focus (simp; done)); (focus (simp; with_reducible rfl)); (focus (simp; with_reducible rfl))))
        all_goals exact X.skipE rfl ⟨rfl, g, by rw [hi]⟩

  | false =>
    have hk : ¬ c.k = 6 := by simpa using bk
    have hfo : forgetS.forgetL c.l L = forgetS c L := by rw [forget_eq, if_neg fun hh => hk hh.1]
    (repeat' first
    | apply X.retS
    | apply X.skipS
    | apply X.skipB
    | apply X.skipL
    | (apply X.exitS; first | apply X.here | (refine X.out (by decide) ?_; apply X.here))
    | apply X.blockS
    | (apply X.condS rfl <;> intro hp <;> first | exact absurd hp (by decide) | ((try rw [hp]); (try simp at hp)))
    | apply X.stepZ
    | (apply X.step; (focus (simp [-getElem?_pos, bk, hw, hl]; with_reducible (first | rfl | exact ⟨rfl, rfl⟩))); (focus (simp; with_reducible rfl)))
    | (apply X.stepN rfl; (focus (simp; with_reducible rfl)))
    | ((first | apply X.stepGt rfl | apply X.stepGf rfl); (focus (simp; with_reducible rfl)); all_goals (intro hp; first | exact absurd hp (by decide) | ((try rw [hp]); (try simp at hp))))
    | (apply X.draw0; (focus rfl))
    | apply XD.nil
    | (apply XD.calm rfl; (focus (simp [-getElem?_pos, bk, hw, hl]; with_reducible (first | rfl | exact ⟨rfl, rfl⟩))); (focus (simp; with_reducible rfl)))
    | (apply XD.call; (focus (simp; with_reducible rfl)); (focus (simp; with_reducible rfl)); (focus (simp [-getElem?_pos, bk, hw, hl]; done)); (focus (simp [-getElem?_pos, bk, hw, hl]; with_reducible rfl)); (focus (simp; with_reducible rfl)))
    | (apply XD.stepN rfl; (focus (simp; with_reducible rfl)))
    | ((first | apply XD.stepGt rfl | apply XD.stepGf rfl); (focus (simp; with_reducible rfl)); all_goals (intro hp; first | exact absurd hp (by decide) | ((try rw [hp]); (try simp at hp))))
    | (apply XD.loud; (focus (simp [-getElem?_pos, bk, hw, hl]; with_reducible (first | rfl | exact ⟨rfl, rfl⟩))); (focus (simp; done)); (focus (simp; with_reducible rfl)); (focus (simp; with_reducible rfl))))
    refine X.forS c.l.length (fun j st => ∃ (L' : List Sp) (g : Heap), L'.length = L.length ∧ forgetS.forgetL (c.l.drop j) L' = forgetS c L ∧ ∃ x1 x2 x3 x4 x5 x6 x7 x8 x9 x10 x11 x12 x13 x14 x15 x16 x17 x18 x19 x20 x21 x22 x23 x24 x25 x26 x27 x31 x32 x33 x34 x35 x36 x37,
      st = ⟨[.ptr wi 0, x1, x2, x3, x4, x5, x6, x7, x8, x9, x10, x11, x12, x13, x14, x15, x16, x17, x18, x19, x20, x21, x22, x23, x24, x25, x26, x27, .pv (.sl (c.l.map encC)), .pv (.int .i64 c.l.length), .pv (.int .i64 j), x31, x32, x33, x34, x35, x36, x37], upd h wi li L.length L' at' tw tl ++ g⟩) ?_ ?_
    · exact ⟨L, _, rfl, hfo, _, _, _, _, _, _, _, _, _, _, _, _, _, _, _, _, _, _, _, _, _, _, _, _, _, _, _, _, _, _, _, _, _, _, by rw [upd_same hW]; rfl⟩
    rintro j st hj ⟨L', g, hLl, hi, x1, x2, x3, x4, x5, x6, x7, x8, x9, x10, x11, x12, x13, x14, x15, x16, x17, x18, x19, x20, x21, x22, x23, x24, x25, x26, x27, x31, x32, x33, x34, x35, x36, x37, rfl⟩
    rcases Nat.lt_or_ge j c.l.length with hj1 | hj1
    · obtain ⟨x, hx⟩ := at_of_lt hj1
      rw [drop_at hx] at hi
      simp only [forgetS.forgetL] at hi
      have hxm := List.mem_of_getElem? hx
      have hc := ih x hxm (hs3 x hxm) (hf2 x hxm)
      have hwk : ∀ l, Wk (upd h wi li L.length L' at' tw tl ++ l) wi li L' at' tw tl := fun l => by rw [← hLl]; exact (upd_wk hW).app
      have hww : IntKind.i64.wrap ((j : Int) + 1) = (j : Int) + 1 := wrap_i64 (by omega)
      rw [eC] at hc
      clear ih
      (repeat' first
    | apply X.retS
    | apply X.skipS
    | apply X.skipB
    | apply X.skipL
    | (apply X.exitS; first | apply X.here | (refine X.out (by decide) ?_; apply X.here))
    | apply X.blockS
    | (apply X.condS rfl <;> intro hp <;> first | exact absurd hp (by decide) | ((try rw [hp]); (try simp at hp)))
    | apply X.stepZ
    | (apply X.step; (focus (simp [-getElem?_pos, hj1, hx, eC]; with_reducible (first | rfl | exact ⟨rfl, rfl⟩))); (focus (simp; with_reducible rfl)))
    | (apply X.stepN rfl; (focus (simp; with_reducible rfl)))
    | ((first | apply X.stepGt rfl | apply X.stepGf rfl); (focus (simp; with_reducible rfl)); all_goals (intro hp; first | exact absurd hp (by decide) | ((try rw [hp]); (try simp at hp))))
    | (apply X.draw0; (focus rfl))
    | apply XD.nil
    | (apply XD.calm rfl; (focus (simp [-getElem?_pos, hj1, hx, eC]; with_reducible (first | rfl | exact ⟨rfl, rfl⟩))); (focus (simp; with_reducible rfl)))
    | (apply XD.call; (focus (simp; with_reducible rfl)); (focus (simp; with_reducible rfl)); (focus (simp [-getElem?_pos, hj1, hx, eC]; done)); (focus (simp [-getElem?_pos, hj1, hx, eC]; with_reducible rfl)); (focus (simp; with_reducible rfl)))
    | (apply XD.stepN rfl; (focus (simp; with_reducible rfl)))
    | ((first | apply XD.stepGt rfl | apply XD.stepGf rfl); (focus (simp; with_reducible rfl)); all_goals (intro hp; first | exact absurd hp (by decide) | ((try rw [hp]); (try simp at hp))))
    | (apply XD.loud; (focus (simp [-getElem?_pos, hj1, hx, eC]; with_reducible (first | rfl | exact ⟨rfl, rfl⟩))); (focus (simp; done)); (focus (simp; with_reducible rfl)); (focus (simp; with_reducible rfl))))
      refine X.callR (P := fun v h' => v = .tup [] ∧ ∃ g', h' = upd h wi li L.length (forgetS x L') at' tw tl ++ g') (by simp; with_reducible rfl) H.raw (by simp [pures]) ?_ ?_
      try simp only [List.append_assoc]
      · obtain ⟨v, h', e1, e2, g', e3⟩ := hc _ L' at' (by omega) (hwk _)
        subst e3
        refine ⟨v, _, e1, e2, ?_⟩
        rw [hLl, upd_app (by rw [upd_len]; exact hle) (by rw [upd_len]; exact hW.wi_lt), upd_upd hW.ne, List.append_assoc]
        exact ⟨_, rfl⟩
      · rintro v h' ⟨rfl, g', rfl⟩
        (repeat' first
    | apply X.retS
    | apply X.skipS
    | apply X.skipB
    | apply X.skipL
    | (apply X.exitS; first | apply X.here | (refine X.out (by decide) ?_; apply X.here))
    | apply X.blockS
    | (apply X.condS rfl <;> intro hp <;> first | exact absurd hp (by decide) | ((try rw [hp]); (try simp at hp)))
    | apply X.stepZ
    | (apply X.step; (focus (simp [-getElem?_pos, hww]; with_reducible (first | rfl | exact ⟨rfl, rfl⟩))); (focus (simp; with_reducible rfl)))
    | (apply X.stepN rfl; (focus (simp; with_reducible rfl)))
    | ((first | apply X.stepGt rfl | apply X.stepGf rfl); (focus (simp; with_reducible rfl)); all_goals (intro hp; first | exact absurd hp (by decide) | ((try rw [hp]); (try simp at hp))))
    | (apply X.draw0; (focus rfl))
    | apply XD.nil
    | (apply XD.calm rfl; (focus (simp [-getElem?_pos, hww]; with_reducible (first | rfl | exact ⟨rfl, rfl⟩))); (focus (simp; with_reducible rfl)))
    | (apply XD.call; (focus (simp; with_reducible rfl)); (focus (simp; with_reducible rfl)); (focus (simp [-getElem?_pos, hww]; done)); (focus (simp [-getElem?_pos, hww]; with_reducible rfl)); (focus (simp; with_reducible rfl)))
    | (apply XD.stepN rfl; (focus (simp; with_reducible rfl)))
    | ((first | apply XD.stepGt rfl | apply XD.stepGf rfl); (focus (simp; with_reducible rfl)); all_goals (intro hp; first | exact absurd hp (by decide) | ((try rw [hp]); (try simp at hp))))
    | (apply XD.loud; (focus (simp [-getElem?_pos, hww]; with_reducible (first | rfl | exact ⟨rfl, rfl⟩))); (focus (simp; done)); (focus (simp; with_reducible rfl)); (focus (simp; with_reducible rfl))))
        exact ⟨hj1, forgetS x L', g', by rw [forget_len, hLl], hi, _, _, _, _, _, _, _, _, _, _, _, _, _, _, _, _, _, _, _, _, _, _, _, _, _, _, _, _, _, _, _, _, _, _, rfl⟩
    · have hj2 : ¬ j < c.l.length := by omega
      rw [List.drop_eq_nil_of_le hj1] at hi
      simp only [forgetS.forgetL] at hi
      clear ih
      (repeat' first
    | apply X.retS
    | apply X.skipS
    | apply X.skipB
    | apply X.skipL
    | (apply X.exitS; first | apply X.here | (refine X.out (by decide) ?_; apply X.here))
    | apply X.blockS
    | (apply X.condS rfl <;> intro hp <;> first | exact absurd hp (by decide) | ((try rw [hp]); (try simp at hp)))
    | apply X.stepZ
    | (apply X.step; (focus (simp [-getElem?_pos, hj2]; with_reducible (first | rfl | exact ⟨rfl, rfl⟩))); (focus (simp; with_reducible rfl)))
    | (apply X.stepN rfl; (focus (simp; with_reducible rfl)))
    | ((first | apply X.stepGt rfl | apply X.stepGf rfl); (focus (simp; with_reducible rfl)); all_goals (intro hp; first | exact absurd hp (by decide) | ((try rw [hp]); (try simp at hp))))
    | (apply X.draw0; (focus rfl))
    | apply XD.nil
    | (apply XD.calm rfl; (focus (simp [-getElem?_pos, hj2]; with_reducible (first | rfl | exact ⟨rfl, rfl⟩))); (focus (simp; with_reducible rfl)))
    | (apply XD.call; (focus (simp; with_reducible rfl)); (focus (simp; with_reducible rfl)); (focus (simp [-getElem?_pos, hj2]; done)); (focus (simp [-getElem?_pos, hj2]; with_reducible rfl)); (focus (simp; with_reducible rfl)))
    | (apply XD.stepN rfl; (focus (simp; with_reducible rfl)))
    | ((first | apply XD.stepGt rfl | apply XD.stepGf rfl); (focus (simp; with_reducible rfl)); all_goals (intro hp; first | exact absurd hp (by decide) | ((try rw [hp]); (try simp at hp))))
    | (apply XD.loud; (focus (simp [-getElem?_pos, hj2]; with_reducible (first | rfl | exact ⟨rfl, rfl⟩))); (focus (simp; done)); (focus (simp; with_reducible rfl)); (focus (simp; with_reducible rfl))))
      all_goals exact X.skipE rfl ⟨rfl, g, by rw [hi]⟩

end Cps

-- The walker's walk.
namespace Cps
open Go Ab Go.Proofs.YtlhfndoldaokhaaDoor.Mach
variable {E : Env}

def forgetAt (l : List Co) (L : List Sp) : List Sp := match l with
  | c :: _ => forgetS c L
  | [] => L
/-- A group's span is told. -/
def setIf (n : Int) (a : Int) (s : List Sp × Int) : List Sp × Int := if n < s.1.length then (s.1.set n.toNat (a, s.2), s.2) else s

/-- Where each group's text stands, from a place on. -/
def walkS : Co → Va → List Sp × Int → List Sp × Int
  | .mk k _ _ _ _ n l, v, s =>
    if k = 2 then (s.1, IntKind.i64.wrap (s.2 + 1))
    else if k = 3 then (match v.l with | [x, y] => walkAt l 1 y (walkAt l 0 x s) | _ => s)
    else if k = 4 then (match v.l with | [x] => walkAt l (v.k - 4).toNat x s | _ => s)
    else if k = 5 then v.l.foldl (fun s x => walkAt l 0 x (forgetAt l s.1, s.2)) s
    else if k = 6 then (match v.l with | [x] => setIf n s.2 (walkAt l 0 x s) | _ => s)
    else if k = 7 then walkAt l 0 v (forgetAt l s.1, s.2)
    else s
where
  walkAt : List Co → Nat → Va → List Sp × Int → List Sp × Int
  | [], _, _, s => s
  | c :: _, 0, v, s => walkS c v s
  | _ :: l, i + 1, v, s => walkAt l i v s

theorem Wk.mask {h : Heap} {wi li : Nat} {L : List Sp} {at' : Int} {tw tl : Option TypeId} (W : Wk h wi li L at' tw tl) {F : List Nat} (h1 : wi ∈ F) (h2 : li ∈ F) : Wk (mask F h) wi li L at' tw tl :=
  ⟨by rw [ent_mask, if_pos (by simpa using h1)]; exact W.w, by rw [ent_mask, if_pos (by simpa using h2)]; exact W.l, W.ne⟩
theorem Wk.li_reach {h : Heap} {wi li : Nat} {L : List Sp} {at' : Int} {tw tl : Option TypeId} (W : Wk h wi li L at' tw tl) : li ∈ reach h h.length [wi] :=
  reach_next (x := wi) (by simp) (by rw [W.w]; simp [entIds, V.ids.idsL, V.ids]) (by have := W.wi_lt; omega)
theorem upd_merge {h g : Heap} {wi li m : Nat} {L : List Sp} {a : Int} {tw tl : Option TypeId} {F : List Nat} (h1 : wi ∈ F) (h2 : li ∈ F) : merge F h (upd (mask F h) wi li m L a tw tl ++ g) = upd h wi li m L a tw tl ++ g := by
  rw [merge_app (by rw [upd_len, length_mask])]
  congr 1
  unfold upd
  refine List.ext_getElem (by simp [merge, mask]) fun j k1 k2 => ?_
  simp only [merge, List.getElem_mapIdx, List.getElem_set, mask]
  by_cases e1 : wi = j
  · subst e1; simp [h1]
  · by_cases e2 : li = j
    · subst e2; simp [h2, e1]
    · simp only [if_neg e1, if_neg e2]
      simp only [List.length_set] at k2
      by_cases hj : j ∈ F
      · simp [hj]
      · have : j < h.length := k2
        simp [hj, ent, this, Nat.not_le.2 this]

/-- What a function does to a walker, on what it may touch alone. -/
theorem masked {f : FuncId} {args : List V} {wi li : Nat} {L L' : List Sp} {a a' : Int} {tw tl : Option TypeId} {h : Heap} {F : List Nat} (hF : F = reach h h.length [wi])
    (hc : ∀ h : Heap, Wk h wi li L a tw tl → ∃ v h', limR E f args h = some (v, h') ∧ v = .tup [] ∧ ∃ g, h' = upd h wi li L.length L' a' tw tl ++ g) (W : Wk h wi li L a tw tl) :
    ∃ v h1, limR E f args (mask F h) = some (v, h1) ∧ h.length ≤ h1.length ∧ v = .tup [] ∧ ∃ g, merge F h h1 = upd h wi li L.length L' a' tw tl ++ g := by
  have h1 : wi ∈ F := by rw [hF]; exact mem_reach (by simp)
  have h2 : li ∈ F := by rw [hF]; exact W.li_reach
  obtain ⟨v, h', e1, e2, g, e3⟩ := hc _ (W.mask h1 h2)
  subst e3
  exact ⟨v, _, e1, by simp [upd_len, length_mask], e2, g, upd_merge h1 h2⟩

theorem upd_at {h : Heap} {wi li : Nat} {L : List Sp} {at' a : Int} {tw tl : Option TypeId} (W : Wk h wi li L at' tw tl) : h.set wi (.blk [.sln li 0 L.length 2 true, .pv (.int .i64 a)] tw) = upd h wi li L.length L a tw tl := by
  have h2 := W.li_lt
  have e1 := W.l
  simp only [ent, List.getElem?_eq_getElem h2, Option.getD_some] at e1
  unfold upd
  rw [← e1, List.set_getElem_self]

theorem gv_cases (c : Co) (v : Va) (h : gvS c v = true) : c.k = 1 ∨ c.k = 2 ∨ (c.k = 3 ∧ ∃ x y, v.l = [x, y] ∧ gvS.gvAt c.l 0 x = true ∧ gvS.gvAt c.l 1 y = true) ∨
    (c.k = 4 ∧ ∃ x, v.l = [x] ∧ ((v.k = 4 ∧ gvS.gvAt c.l 0 x = true) ∨ (v.k = 5 ∧ gvS.gvAt c.l 1 x = true))) ∨ (c.k = 5 ∧ ∀ x ∈ v.l, gvS.gvAt c.l 0 x = true) ∨ (c.k = 6 ∧ ∃ x, v.l = [x] ∧ gvS.gvAt c.l 0 x = true) ∨ (c.k = 7 ∧ gvS.gvAt c.l 0 v = true) := by
  rw [gvS_eq] at h
  by_cases h7 : c.k = 7
  · rw [if_pos h7] at h; exact .inr (.inr (.inr (.inr (.inr (.inr ⟨h7, h⟩)))))
  · rw [if_neg h7] at h
    split at h
    · cases h
    · rename_i hg
      have h1 : kindC v.k = c.k := Decidable.byContradiction fun hh => hg (.inl hh)
      have h2 : ¬ kindC v.k = 0 := fun hh => hg (.inr (.inl hh))
      have h3 : (v.l.length : Int) = kindM v.k v.l.length := Decidable.byContradiction fun hh => hg (.inr (.inr (.inl hh)))
      clear hg
      have one : v.l.length = 1 → ∃ x, v.l = [x] := fun h => by
        match hl : v.l, h with
        | [x], _ => exact ⟨x, rfl⟩
      have two : v.l.length = 2 → ∃ x y, v.l = [x, y] := fun h => by
        match hl : v.l, h with
        | [x, y], _ => exact ⟨x, y, rfl⟩
      rcases kind_cases h2 with hk | hk | hk | hk | hk | hk | hk <;> rw [hk] at h1 h3 h <;> simp [kindC, kindM] at h1 h3 h
      · exact .inl h1.symm
      · exact .inr (.inl h1.symm)
      · obtain ⟨x, y, e⟩ := two (by omega)
        rw [e] at h
        simp only [Bool.and_eq_true] at h
        exact .inr (.inr (.inl ⟨h1.symm, x, y, e, h.1, h.2⟩))
      · obtain ⟨x, e⟩ := one (by omega)
        exact .inr (.inr (.inr (.inl ⟨h1.symm, x, e, .inl ⟨hk, h x (by rw [e]; simp)⟩⟩)))
      · obtain ⟨x, e⟩ := one (by omega)
        rw [e] at h
        exact .inr (.inr (.inr (.inl ⟨h1.symm, x, e, .inr ⟨hk, h⟩⟩)))
      · exact .inr (.inr (.inr (.inr (.inl ⟨h1.symm, h⟩))))
      · obtain ⟨x, e⟩ := one (by omega)
        exact .inr (.inr (.inr (.inr (.inr (.inl ⟨h1.symm, x, e, h x (by rw [e]; simp)⟩)))))

structure HasW (E : Env) : Prop where
  walk : HasR E 59 c59
  forget : HasR E 83 c83

/-- What the walk does. -/
def WalkOk (E : Env) (c : Co) : Prop := ∀ v, FineV v → gvS c v = true → ∀ (wi li : Nat) (tw tl : Option TypeId) (L : List Sp) (at' : Int), L.length ≤ 1000 → ∀ h, Wk h wi li L at' tw tl →
    ∃ v' h', limR E 59 [.ptr wi 0, .pv (encC c), .pv (encV v)] h = some (v', h') ∧ v' = .tup [] ∧ ∃ g, h' = upd h wi li L.length (walkS c v (L, at')).1 (walkS c v (L, at')).2 tw tl ++ g

theorem walkAt_eq : ∀ (l : List Co) (i : Nat) (c : Co) (v : Va) (s : List Sp × Int), l[i]? = some c → walkS.walkAt l i v s = walkS c v s
  | [], _, _, _, _, h => by simp at h
  | x :: l, 0, c, v, s, h => by simp at h; subst h; simp [walkS.walkAt]
  | x :: l, i + 1, c, v, s, h => by simp only [walkS.walkAt]; exact walkAt_eq l i c v s (by simpa using h)

theorem walkS_eq (k s0 s1 s2 s3 n : Int) (l : List Co) (v : Va) (s : List Sp × Int) : walkS (.mk k s0 s1 s2 s3 n l) v s =
    if k = 2 then (s.1, IntKind.i64.wrap (s.2 + 1))
    else if k = 3 then (match v.l with | [x, y] => walkS.walkAt l 1 y (walkS.walkAt l 0 x s) | _ => s)
    else if k = 4 then (match v.l with | [x] => walkS.walkAt l (v.k - 4).toNat x s | _ => s)
    else if k = 5 then v.l.foldl (fun s x => walkS.walkAt l 0 x (forgetAt l s.1, s.2)) s
    else if k = 6 then (match v.l with | [x] => setIf n s.2 (walkS.walkAt l 0 x s) | _ => s)
    else if k = 7 then walkS.walkAt l 0 v (forgetAt l s.1, s.2)
    else s := by
  rw [walkS]

theorem walk_len : ∀ c v s, (walkS c v s).1.length = s.1.length := by
  refine Co.ind fun c ih v s => ?_
  obtain ⟨k, s0, s1, s2, s3, n, l⟩ := c
  simp only [Co.l] at ih
  have hat : ∀ (l : List Co) (i : Nat) (v : Va) (s : List Sp × Int), (∀ y ∈ l, ∀ v s, (walkS y v s).1.length = s.1.length) → (walkS.walkAt l i v s).1.length = s.1.length := by
    intro l
    induction l with
    | nil => intro i v s _; simp [walkS.walkAt]
    | cons x l ihl =>
      intro i v s hh
      cases i with
      | zero => simp only [walkS.walkAt]; exact hh x (by simp) v s
      | succ i => simp only [walkS.walkAt]; exact ihl i v s fun y hy => hh y (by simp [hy])
  have hfg : ∀ L, (forgetAt l L).length = L.length := fun L => by
    cases l with
    | nil => rfl
    | cons x l => exact forget_len x L
  rw [walkS_eq]
  repeat' split
  · rfl
  · rw [hat l 1 _ _ ih, hat l 0 _ _ ih]
  · rfl
  · rw [hat l _ _ _ ih]
  · rfl
  · have : ∀ (xs : List Va) (s : List Sp × Int), (xs.foldl (fun s x => walkS.walkAt l 0 x (forgetAt l s.1, s.2)) s).1.length = s.1.length := by
      intro xs
      induction xs with
      | nil => intro s; rfl
      | cons x xs ihx => intro s; rw [List.foldl_cons, ihx, hat l 0 _ _ ih, hfg]
    exact this _ _
  · unfold setIf
    split
    · simp [hat l 0 _ _ ih]
    · exact hat l 0 _ _ ih
  · rfl
  · rw [hat l 0 _ _ ih, hfg]
  · rfl
end Cps

-- The walker's walk, by the core's kind.
namespace Cps
open Go Ab Go.Proofs.YtlhfndoldaokhaaDoor.Mach
variable {E : Env}

/-- A walker's heap, with its spans and its place. -/
structure Us (h : Heap) (wi li m : Nat) (tw tl : Option TypeId) (U : List Sp → Int → Heap) : Prop where
  len : ∀ L a, (U L a).length = h.length
  w : ∀ L a l, ent (U L a ++ l) wi = .blk [.sln li 0 m 2 true, .pv (.int .i64 a)] tw
  l : ∀ L a l, ent (U L a ++ l) li = .blk ((cellsP L).map V.pv) tl
  at' : ∀ L a l n, ent (U L a ++ l) (h.length + n) = ent l n
  at0 : ∀ L a l, ent (U L a ++ l) h.length = ent l 0
  sw : ∀ L a l a2, (U L a ++ l).set wi (.blk [.sln li 0 m 2 true, .pv (.int .i64 a2)] tw) = U L a2 ++ l
  sl : ∀ L a l L2, (U L a ++ l).set li (.blk ((cellsP L2).map V.pv) tl) = U L2 a ++ l
  s2 : ∀ L a l n B, (U L a ++ l).set (h.length + n) B = U L a ++ l.set n B
  wk : ∀ L a l, L.length = m → Wk (U L a ++ l) wi li L a tw tl
  up : ∀ L a l L2 a2, upd (U L a ++ l) wi li m L2 a2 tw tl = U L2 a2 ++ l

theorem mkUs {h : Heap} {wi li : Nat} {L : List Sp} {a : Int} {tw tl : Option TypeId} (W : Wk h wi li L a tw tl) : ∃ U, Us h wi li L.length tw tl U ∧ U L a = h := by
  have h1 := W.li_lt
  have h2 := W.wi_lt
  have e1 : ∀ L' a', ent (upd h wi li L.length L' a' tw tl) wi = .blk [.sln li 0 L.length 2 true, .pv (.int .i64 a')] tw := fun L' a' => by simp [upd, ent, h2]
  have e2 : ∀ L' a', ent (upd h wi li L.length L' a' tw tl) li = .blk ((cellsP L').map V.pv) tl := fun L' a' => by simp [upd, ent, h1, W.ne]
  refine ⟨fun L' a' => upd h wi li L.length L' a' tw tl, ⟨fun _ _ => upd_len, fun L' a' l => ent_app (e1 L' a') (by simp), fun L' a' l => ent_app (e2 L' a') (by simp), fun L' a' l n => ?_, fun L' a' l => ?_, fun L' a' l a2 => ?_, fun L' a' l L2 => ?_, fun L' a' l n B => ?_, fun L' a' l hl => ?_, fun L' a' l L2 a2 => ?_⟩, upd_same W⟩
  · rw [← upd_len (h := h) (wi := wi) (li := li) (m := L.length) (L := L') (tw := tw) (tl := tl) (at' := a')]; exact ent_at
  · rw [← upd_len (h := h) (wi := wi) (li := li) (m := L.length) (L := L') (tw := tw) (tl := tl) (at' := a')]; exact ent_at0
  · rw [List.set_append_left _ _ (by rw [upd_len]; exact h2)]
    congr 1
    unfold upd
    rw [List.set_set]
  · rw [List.set_append_left _ _ (by rw [upd_len]; exact h1)]
    congr 1
    unfold upd
    apply List.ext_getElem?
    intro i
    simp only [List.getElem?_set, List.length_set]
    have := W.ne
    by_cases k1 : wi = i <;> by_cases k2 : li = i <;> simp_all
  · rw [List.set_append_right _ _ (by rw [upd_len]; omega), upd_len]
    congr 2
    omega
  · exact ⟨by rw [hl]; exact ent_app (e1 L' a') (by simp), ent_app (e2 L' a') (by simp), W.ne⟩
  · rw [upd_app (by rw [upd_len]; exact h1) (by rw [upd_len]; exact h2), upd_upd W.ne]

/-- A walk's call, in a drawn region. -/
theorem maskedU {f : FuncId} {args : List V} {wi li m : Nat} {L L' : List Sp} {a a' : Int} {tw tl : Option TypeId} {h l : Heap} {U : List Sp → Int → Heap} (S : Us h wi li m tw tl U) (hL : L.length = m) {F : List Nat} (hF : F = reach (U L a ++ l) (U L a ++ l).length [wi])
    (hc : ∀ h : Heap, Wk h wi li L a tw tl → ∃ v h', limR E f args h = some (v, h') ∧ v = .tup [] ∧ ∃ g, h' = upd h wi li L.length L' a' tw tl ++ g) :
    ∃ v h1, limR E f args (mask F (U L a ++ l)) = some (v, h1) ∧ (U L a ++ l).length ≤ h1.length ∧ v = .tup [] ∧ ∃ g, merge F (U L a ++ l) h1 = U L' a' ++ (l ++ g) := by
  obtain ⟨v, h1, e1, e2, e3, g, e4⟩ := masked hF hc (S.wk L a l hL)
  refine ⟨v, h1, e1, e2, e3, g, ?_⟩
  rw [e4, hL, S.up, List.append_assoc]

/-- A call, in the text's order. -/
theorem plainU {f : FuncId} {args : List V} {wi li m : Nat} {L L' : List Sp} {a a' : Int} {tw tl : Option TypeId} {h l : Heap} {U : List Sp → Int → Heap} (S : Us h wi li m tw tl U) (hL : L.length = m)
    (hc : ∀ h : Heap, Wk h wi li L a tw tl → ∃ v h', limR E f args h = some (v, h') ∧ v = .tup [] ∧ ∃ g, h' = upd h wi li L.length L' a' tw tl ++ g) :
    ∃ v h1, limR E f args (U L a ++ l) = some (v, h1) ∧ v = .tup [] ∧ ∃ g, h1 = U L' a' ++ (l ++ g) := by
  obtain ⟨v, h1, e1, e3, g, e4⟩ := hc _ (S.wk L a l hL)
  refine ⟨v, h1, e1, e3, g, ?_⟩
  rw [e4, hL, S.up, List.append_assoc]

/-- What is to be shown, in words of U. -/
theorem walk_of {c : Co} (h : ∀ v, FineV v → gvS c v = true → ∀ (wi li : Nat) (tw tl : Option TypeId) (L : List Sp) (a : Int), L.length ≤ 1000 → ∀ (h : Heap) (U : List Sp → Int → Heap), Us h wi li L.length tw tl U →
    ∃ v' h', limR E 59 [.ptr wi 0, .pv (encC c), .pv (encV v)] (U L a ++ []) = some (v', h') ∧ v' = .tup [] ∧ ∃ g, h' = U (walkS c v (L, a)).1 (walkS c v (L, a)).2 ++ g) : WalkOk E c := by
  intro v hv hg wi li tw tl L a hL hp hW
  obtain ⟨U, S, hU⟩ := mkUs hW
  obtain ⟨v', h', e1, e2, g, e3⟩ := h v hv hg wi li tw tl L a hL hp U S
  refine ⟨v', h', by rw [← e1, List.append_nil, hU], e2, g, ?_⟩
  rw [e3]
  have := S.up L a [] (walkS c v (L, a)).1 (walkS c v (L, a)).2
  simp only [List.append_nil] at this
  rw [← this, hU]

section
variable {ts : List V} {h l : Heap} {Q : AExit → St → Prop} {rest : ACode} {d : Option Nat} {af : List Nat} {os : List AOper} {f : FuncId} {args : List AOperand} {vs : List V} {cs : List Bool}
  {wi li m : Nat} {L L' : List Sp} {a a' : Int} {tw tl : Option TypeId} {U : List Sp → Int → Heap}

theorem callD (S : Us h wi li m tw tl U) (hL : L.length = m) (e : evals ts args = some vs) (hr : E.raw f = true) (hp : pures vs = none) (hF : foot ts (U L a ++ l) (.call f args) = reach (U L a ++ l) (U L a ++ l).length [wi])
    (hc : ∀ h : Heap, Wk h wi li L a tw tl → ∃ v h', limR E f vs h = some (v, h') ∧ v = .tup [] ∧ ∃ g, h' = upd h wi li L.length L' a' tw tl ++ g) (k : ∀ g, XD E os cs rest ⟨putA ts d (.tup []), U L' a' ++ (l ++ g)⟩ Q) :
    XD E (⟨d, .call f args, none, af⟩ :: os) (false :: cs) rest ⟨ts, U L a ++ l⟩ Q := by
  refine XD.callR (P := fun v h' => v = .tup [] ∧ ∃ g, h' = U L' a' ++ (l ++ g)) e hr hp (maskedU S hL hF hc) ?_
  rintro v h' ⟨rfl, g, rfl⟩
  exact k g

theorem callP (S : Us h wi li m tw tl U) (hL : L.length = m) (e : evals ts args = some vs) (hr : E.raw f = true) (hp : pures vs = none)
    (hc : ∀ h : Heap, Wk h wi li L a tw tl → ∃ v h', limR E f vs h = some (v, h') ∧ v = .tup [] ∧ ∃ g, h' = upd h wi li L.length L' a' tw tl ++ g) (k : ∀ g, X E (.seq (.region os false) rest) ⟨putA ts d (.tup []), U L' a' ++ (l ++ g)⟩ Q) :
    X E (.seq (.region (⟨d, .call f args, none, af⟩ :: os) false) rest) ⟨ts, U L a ++ l⟩ Q := by
  refine X.callR (P := fun v h' => v = .tup [] ∧ ∃ g, h' = U L' a' ++ (l ++ g)) e hr hp (plainU S hL hc) ?_
  rintro v h' ⟨rfl, g, rfl⟩
  exact k g
end
end Cps
