/- CiOf: steps, walks, laws: see the remarks within. -/
import Derived.Test.YtlhfndoldaokhaaDoorAbStep
import Derived.Test.YtlhfndoldaokhaaDoorCiWc
import Derived.Test.YtlhfndoldaokhaaDoorCiWd
set_option linter.unusedSimpArgs false
set_option linter.unusedVariables false
-- Where each group's text stands: caps.Of, walked.
namespace Cps
open Go Ab Go.Proofs.YtlhfndoldaokhaaDoor.Mach
variable {E : Env}

theorem walk_ok (HH : HasW E) : ∀ c, Sh c → FineC c → WalkOk E c := by
  refine Co.ind fun c ih hs hf v hv hg => ?_
  have hgc := gv_cases c v hg
  obtain ⟨hf1, hf2⟩ := fineC hf
  obtain ⟨hs1, hs2, hs3⟩ := sh_mk.1 hs
  refine (?_ : WalkOk E c) v hv hg
  rcases hgc with h | h | ⟨h, _⟩ | ⟨h, _⟩ | ⟨h, _⟩ | ⟨h, _⟩ | ⟨h, _⟩
  · obtain ⟨k, s0, s1, s2, s3, n, l⟩ := c
    simp only [Co.k] at h; subst h
    exact walk_k1 HH s0 s1 s2 s3 n l
  · obtain ⟨k, s0, s1, s2, s3, n, l⟩ := c
    simp only [Co.k] at h; subst h
    exact walk_k2 HH s0 s1 s2 s3 n l
  · obtain ⟨a, b, hl, ha, hb⟩ := sh_two hs (.inl h)
    rw [hl] at ih hf2
    have ia := ih a (by simp) ha (hf2 a (by simp))
    have ib := ih b (by simp) hb (hf2 b (by simp))
    obtain ⟨k, s0, s1, s2, s3, n, l⟩ := c
    simp only [Co.k, Co.l] at h hl; subst h; subst hl
    exact walk_k3 HH s0 s1 s2 s3 n a b ia ib
  · obtain ⟨a, b, hl, ha, hb⟩ := sh_two hs (.inr h)
    rw [hl] at ih hf2
    have ia := ih a (by simp) ha (hf2 a (by simp))
    have ib := ih b (by simp) hb (hf2 b (by simp))
    obtain ⟨k, s0, s1, s2, s3, n, l⟩ := c
    simp only [Co.k, Co.l] at h hl; subst h; subst hl
    exact walk_k4 HH s0 s1 s2 s3 n a b ia ib
  · obtain ⟨a, hl, ha⟩ := sh_one hs (.inl h)
    rw [hl] at ih hf2
    have hfa := hf2 a (by simp)
    have ia := ih a (by simp) ha hfa
    obtain ⟨k, s0, s1, s2, s3, n, l⟩ := c
    simp only [Co.k, Co.l] at h hl; subst h; subst hl
    exact walk_k5 HH s0 s1 s2 s3 n a ha hfa ia
  · obtain ⟨a, hl, ha⟩ := sh_one hs (.inr (.inl h))
    rw [hl] at ih hf2
    have hfa := hf2 a (by simp)
    have ia := ih a (by simp) ha hfa
    have hn := (hs2 h).1
    obtain ⟨k, s0, s1, s2, s3, n, l⟩ := c
    simp only [Co.k, Co.l, Co.n] at h hl hn; subst h; subst hl
    exact walk_k6 HH s0 s1 s2 s3 n a hn ia
  · obtain ⟨a, hl, ha⟩ := sh_one hs (.inr (.inr h))
    rw [hl] at ih hf2
    have hfa := hf2 a (by simp)
    have ia := ih a (by simp) ha hfa
    obtain ⟨k, s0, s1, s2, s3, n, l⟩ := c
    simp only [Co.k, Co.l] at h hl; subst h; subst hl
    exact walk_k7 HH s0 s1 s2 s3 n a ha hfa ia

def GoodV (c : Co) (v : Va) : Bool := if GoodC c = true then gvS c v else false

set_option maxHeartbeats 1000000 in
theorem VGood_ok (HH : HasV E) (c : Co) (v : Va) (hf : FineC c) (hv : FineV v) : limP E 33 [encC c, encV v] = some [.bool (GoodV c v)] := by
  have h1 := CGood_ok HH.core c hf
  have H := HH.Good
  cases hg : GoodC c with
  | false =>
    rw [hg] at h1
    rw [eC] at h1 ⊢
    rw [eV]
    refine H.lim (Nat.le_of_ble_eq_true rfl) (by simp; with_reducible rfl) ?_; unfold c33
    (repeat' first
    | apply X.retS
    | apply X.skipS
    | apply X.skipB
    | apply X.skipL
    | (apply X.exitS; first | apply X.here | (refine X.out (by decide) ?_; apply X.here))
    | apply X.blockS
    | (apply X.condS rfl <;> intro hp <;> first | exact absurd hp (by decide) | ((try rw [hp]); (try simp at hp)))
    | apply X.stepZ
    | (apply X.step; (focus (simp [-getElem?_pos, HH.core.Good.raw, h1]; with_reducible (first | rfl | exact ⟨rfl, rfl⟩))); (focus (simp; with_reducible rfl)))
    | (apply X.stepN rfl; (focus (simp; with_reducible rfl)))
    | ((first | apply X.stepGt rfl | apply X.stepGf rfl); (focus (simp; with_reducible rfl)); all_goals (intro hp; first | exact absurd hp (by decide) | ((try rw [hp]); (try simp at hp))))
    | (apply X.draw0; (focus rfl))
    | apply XD.nil
    | (apply XD.calm rfl; (focus (simp [-getElem?_pos, HH.core.Good.raw, h1]; with_reducible (first | rfl | exact ⟨rfl, rfl⟩))); (focus (simp; with_reducible rfl)))
    | (apply XD.call; (focus (simp; with_reducible rfl)); (focus (simp; with_reducible rfl)); (focus (simp [-getElem?_pos, HH.core.Good.raw, h1]; done)); (focus (simp [-getElem?_pos, HH.core.Good.raw, h1]; with_reducible rfl)); (focus (simp; with_reducible rfl)))
    | (apply XD.stepN rfl; (focus (simp; with_reducible rfl)))
    | ((first | apply XD.stepGt rfl | apply XD.stepGf rfl); (focus (simp; with_reducible rfl)); all_goals (intro hp; first | exact absurd hp (by decide) | ((try rw [hp]); (try simp at hp))))
    | (apply XD.loud; (focus (simp [-getElem?_pos, HH.core.Good.raw, h1]; with_reducible (first | rfl | exact ⟨rfl, rfl⟩))); (focus (simp; done)); (focus (simp; with_reducible rfl)); (focus (simp; with_reducible rfl))))
    all_goals ((refine Fin.mk' (by simp [resA]; with_reducible rfl) (by simp [oneOf, pureRes, snapFuel, snapL]; with_reducible rfl) ?_); simp [GoodV, hg])
  | true =>
    have h2 := vgood_ok HH c (sh_GoodC hg) v hv
    rw [hg] at h1
    rw [eC] at h1 h2 ⊢
    rw [eV] at h2 ⊢
    refine H.lim (Nat.le_of_ble_eq_true rfl) (by simp; with_reducible rfl) ?_; unfold c33
    (repeat' first
    | apply X.retS
    | apply X.skipS
    | apply X.skipB
    | apply X.skipL
    | (apply X.exitS; first | apply X.here | (refine X.out (by decide) ?_; apply X.here))
    | apply X.blockS
    | (apply X.condS rfl <;> intro hp <;> first | exact absurd hp (by decide) | ((try rw [hp]); (try simp at hp)))
    | apply X.stepZ
    | (apply X.step; (focus (simp [-getElem?_pos, HH.core.Good.raw, h1, HH.good.raw, h2]; with_reducible (first | rfl | exact ⟨rfl, rfl⟩))); (focus (simp; with_reducible rfl)))
    | (apply X.stepN rfl; (focus (simp; with_reducible rfl)))
    | ((first | apply X.stepGt rfl | apply X.stepGf rfl); (focus (simp; with_reducible rfl)); all_goals (intro hp; first | exact absurd hp (by decide) | ((try rw [hp]); (try simp at hp))))
    | (apply X.draw0; (focus rfl))
    | apply XD.nil
    | (apply XD.calm rfl; (focus (simp [-getElem?_pos, HH.core.Good.raw, h1, HH.good.raw, h2]; with_reducible (first | rfl | exact ⟨rfl, rfl⟩))); (focus (simp; with_reducible rfl)))
    | (apply XD.call; (focus (simp; with_reducible rfl)); (focus (simp; with_reducible rfl)); (focus (simp [-getElem?_pos, HH.core.Good.raw, h1, HH.good.raw, h2]; done)); (focus (simp [-getElem?_pos, HH.core.Good.raw, h1, HH.good.raw, h2]; with_reducible rfl)); (focus (simp; with_reducible rfl)))
    | (apply XD.stepN rfl; (focus (simp; with_reducible rfl)))
    | ((first | apply XD.stepGt rfl | apply XD.stepGf rfl); (focus (simp; with_reducible rfl)); all_goals (intro hp; first | exact absurd hp (by decide) | ((try rw [hp]); (try simp at hp))))
    | (apply XD.loud; (focus (simp [-getElem?_pos, HH.core.Good.raw, h1, HH.good.raw, h2]; with_reducible (first | rfl | exact ⟨rfl, rfl⟩))); (focus (simp; done)); (focus (simp; with_reducible rfl)); (focus (simp; with_reducible rfl))))
    all_goals ((refine Fin.mk' (by simp [resA]; with_reducible rfl) (by simp [oneOf, pureRes, snapFuel, snapL]; with_reducible rfl) ?_); simp [GoodV, hg])

def encP (p : Sp) : PV := .agg [.int .i64 p.1, .int .i64 p.2]
theorem chunks_cells : ∀ L : List Sp, (chunks 2 L.length (cellsP L)).map (mkPV true) = L.map encP
  | [] => rfl
  | p :: L => by simp [chunks, cellsP, mkPV, encP, chunks_cells L]

/-- Where each group's text stands. -/
def ofS (c : Co) (v : Va) (at' : Int) (n : Nat) : List Sp :=
  let s := walkS c v (List.replicate (n + 1) (-1, -1), at')
  s.1.set 0 (at', s.2)

theorem of_len (c : Co) (v : Va) (at' : Int) (n : Nat) : (ofS c v at' n).length = n + 1 := by simp [ofS, walk_len]

/-- The walker, its spans one by one. -/
structure Inv (hh : Heap) (X Y : Ent) (at' : Int) (j : Nat) : Prop where
  x : hh[0]? = some X
  y : hh[1]? = some Y
  z : j = 0 → hh[2]? = some (.blk [.nils, .pv (.int .i64 at')] none)
  s : 0 < j → ∃ id, 3 ≤ id ∧ hh[2]? = some (.blk [.sln id 0 j 2 true, .pv (.int .i64 at')] none) ∧ hh[id]? = some (.blk ((cellsP (List.replicate j (-1, -1))).map V.pv) (some 75))

theorem inv_zero {hh : Heap} {X Y B : Ent} {a : Int} (hI : Inv hh X Y a 0) (hl : 2 < hh.length) :
    Inv (hh.set 2 (.blk [.sln (hh.length + 1) 0 1 2 true, .pv (.int .i64 a)] none) ++ [B, .blk [.pv (.int .i64 (-1)), .pv (.int .i64 (-1))] (some 75)]) X Y a (0 + 1) := by
  have hx := hI.x
  have hy := hI.y
  have h0 := (List.getElem?_eq_some_iff.1 hx).1
  refine ⟨?_, ?_, fun h => absurd h (by omega), fun _ => ⟨hh.length + 1, by omega, ?_, ?_⟩⟩
  · rw [List.getElem?_append_left (by simp; omega), List.getElem?_set_ne (by omega)]; exact hx
  · rw [List.getElem?_append_left (by simp; omega), List.getElem?_set_ne (by omega)]; exact hy
  · rw [List.getElem?_append_left (by simp; omega), List.getElem?_set_self hl]
  · rw [List.getElem?_append_right (by simp)]; simp [cellsP]

theorem inv_next {hh : Heap} {X Y B : Ent} {a : Int} {j id : Nat} (hI : Inv hh X Y a j) (hid : 3 ≤ id) (hl : 2 < hh.length) (hl2 : id < hh.length) :
    Inv ((hh.set id .dead).set 2 (.blk [.sln (hh.length + 1) 0 (j + 1) 2 true, .pv (.int .i64 a)] none) ++ [B, .blk ((cellsP (List.replicate (j + 1) (-1, -1))).map V.pv) (some 75)]) X Y a (j + 1) := by
  have hx := hI.x
  have hy := hI.y
  refine ⟨?_, ?_, fun h => absurd h (by omega), fun _ => ⟨hh.length + 1, by omega, ?_, ?_⟩⟩
  · rw [List.getElem?_append_left (by simp; omega), List.getElem?_set_ne (by omega), List.getElem?_set_ne (by omega)]; exact hx
  · rw [List.getElem?_append_left (by simp; omega), List.getElem?_set_ne (by omega), List.getElem?_set_ne (by omega)]; exact hy
  · rw [List.getElem?_append_left (by simp; omega), List.getElem?_set_self (by simpa using hl)]
  · rw [List.getElem?_append_right (by simp)]; simp

theorem snap_fin {heap : Heap} {id n : Nat} {L : List Sp} {tl : Option TypeId} (he : ent heap id = .blk ((cellsP L).map V.pv) tl) (hl : L.length = n + 1) :
    snap 1000 (.sln id 0 (n + 1) 2 true) heap = some (.sl (L.map encP), heap.set id (.frz (cellsP L))) := by
  have hs : snapLF (snap 999) ((cellsP L).map V.pv) (heap.set id .dead) = some (cellsP L, heap.set id .dead) := snapLF_pvs _
  have hc : cut (cellsP L) 0 ((n + 1) * 2) = some (cellsP L) := by
    have : (cellsP L).length = (n + 1) * 2 := by rw [cellsP_len, hl]
    simp only [cut]
    rw [if_pos (by omega)]
    simp [← this]
  rw [snap_sln, he]
  simp only [hs, hc]
  rw [← hl]
  simp [chunks_cells]

theorem ent_get {h l : Heap} {i : Nat} {e : Ent} (he : h[i]? = some e) : ent (h ++ l) i = e := by
  have := lt_of_at he
  simp [ent, List.getElem?_append_left this, he]
theorem ent_get0 {h : Heap} {i : Nat} {e : Ent} (he : h[i]? = some e) : ent h i = e := by simp [ent, he]

theorem cellsP_snoc : ∀ (L : List Sp) (p : Sp), cellsP (L ++ [p]) = cellsP L ++ [.int .i64 p.1, .int .i64 p.2]
  | [], p => rfl
  | q :: L, p => by simp [cellsP, cellsP_snoc L p]

structure HasO (E : Env) : Prop where
  of : Has E 25 c25
  v : HasV E
  w : HasW E

set_option maxHeartbeats 4000000 in
theorem of_ok (HH : HasO E) (c : Co) (v : Va) (hf : FineC c) (hv : FineV v) (hg : GoodV c v = true) (a : Int) (ha : 0 ≤ a ∧ a ≤ 1073741824) (n : Nat) (hn : n ≤ 32) :
    limP E 25 [encC c, encV v, .int .i64 a, .int .i64 n] = some [.sl ((ofS c v a n).map encP), .int .i64 0] := by
  have hgood := VGood_ok HH.v c v hf hv
  rw [hg] at hgood
  have hgc : GoodC c = true := by unfold GoodV at hg; split at hg; assumption; cases hg
  have hgv : gvS c v = true := by unfold GoodV at hg; rw [if_pos hgc] at hg; exact hg
  have hsh := sh_GoodC hgc
  have hwalk := walk_ok HH.w c hsh hf v hv hgv
  have ha1 : ¬ a < 0 := by omega
  have ha2 : ¬ 1073741824 < a := by omega
  have hn1 : ¬ 32 < n := by omega
  have hn2 : ¬ (32 : Int) < (n : Int) := by omega
  have hn3 : ¬ (n : Int) < 0 := by omega
  have hw1 : IntKind.i64.wrap ((n : Int) + 1) = (n : Int) + 1 := wrap_i64 (by omega)
  unfold WalkOk at hwalk
  rw [eC, eV] at hgood hwalk
  rw [eC, eV]
  have H := HH.of
  refine H.lim (Nat.le_of_ble_eq_true rfl) (by simp; with_reducible rfl) ?_; unfold c25
  (repeat' first
    | apply X.retS
    | apply X.skipS
    | apply X.skipB
    | apply X.skipL
    | (apply X.exitS; first | apply X.here | (refine X.out (by decide) ?_; apply X.here))
    | apply X.blockS
    | (apply X.condS rfl <;> intro hp <;> first | exact absurd hp (by decide) | ((try rw [hp]); (try simp at hp)))
    | apply X.stepZ
    | (apply X.step; (focus (simp [-getElem?_pos, HH.v.Good.raw, hgood, ha1, ha2, hn1, hn2, hn3, hw1]; with_reducible (first | rfl | exact ⟨rfl, rfl⟩))); (focus (simp; with_reducible rfl)))
    | (apply X.stepN rfl; (focus (simp; with_reducible rfl)))
    | ((first | apply X.stepGt rfl | apply X.stepGf rfl); (focus (simp; with_reducible rfl)); all_goals (intro hp; first | exact absurd hp (by decide) | ((try rw [hp]); (try simp at hp))))
    | (apply X.draw0; (focus rfl))
    | apply XD.nil
    | (apply XD.calm rfl; (focus (simp [-getElem?_pos, HH.v.Good.raw, hgood, ha1, ha2, hn1, hn2, hn3, hw1]; with_reducible (first | rfl | exact ⟨rfl, rfl⟩))); (focus (simp; with_reducible rfl)))
    | (apply XD.call; (focus (simp; with_reducible rfl)); (focus (simp; with_reducible rfl)); (focus (simp [-getElem?_pos, HH.v.Good.raw, hgood, ha1, ha2, hn1, hn2, hn3, hw1]; done)); (focus (simp [-getElem?_pos, HH.v.Good.raw, hgood, ha1, ha2, hn1, hn2, hn3, hw1]; with_reducible rfl)); (focus (simp; with_reducible rfl)))
    | (apply XD.stepN rfl; (focus (simp; with_reducible rfl)))
    | ((first | apply XD.stepGt rfl | apply XD.stepGf rfl); (focus (simp; with_reducible rfl)); all_goals (intro hp; first | exact absurd hp (by decide) | ((try rw [hp]); (try simp at hp))))
    | (apply XD.loud; (focus (simp [-getElem?_pos, HH.v.Good.raw, hgood, ha1, ha2, hn1, hn2, hn3, hw1]; with_reducible (first | rfl | exact ⟨rfl, rfl⟩))); (focus (simp; done)); (focus (simp; with_reducible rfl)); (focus (simp; with_reducible rfl))))
  refine X.forS (n + 1) (fun j st => ∃ hh, Inv hh (Ent.blk [.pv (.int .i64 c.k), .pv (.int .u64 c.s0), .pv (.int .u64 c.s1), .pv (.int .u64 c.s2), .pv (.int .u64 c.s3), .pv (.int .i64 c.n), .pv (.sl (c.l.map encC))] none) (Ent.blk [.pv (.int .i64 v.k), .pv (.int .u8 v.b), .pv (.sl (v.l.map encV))] none) a j ∧ ∃ ts, Pat [none, none, some (.pv (.int .i64 a)), none, some (.ptr 0 0), some (.ptr 1 0), none, none, none, none, some (.ptr 2 0), none, none, none, none, none, none, none, none, none, none, none, none, none, none, none, none, none, none, none, none, none, none, none, none, some (.pv (.int .i64 ((n : Int) + 1))), some (.pv (.int .i64 j)), none, none, none, none, none, none, none, none, none, none, none, none, none, none, none, none, none, none, none, none, none, none, none, none, none, none, none, none, none, none, none] ts ∧ st = ⟨ts, hh⟩) ?_ ?_
  · exact ⟨_, ⟨rfl, rfl, fun _ => rfl, fun h => absurd h (by omega)⟩, _, by simp [Pat], rfl⟩
  rintro j st hj ⟨hh, hI, ts, hts, rfl⟩
  obtain ⟨f, rfl⟩ := hts.fill
  simp only [Ab.fill, Nat.reduceAdd]
  clear hts
  have hx := hI.x
  have hy := hI.y
  rcases Nat.lt_or_ge j (n + 1) with hj1 | hj1
  · have hja : (j : Int) < (n : Int) + 1 := by omega
    have hjb : j ≤ n := by omega
    have hjc : (j : Int) ≤ (n : Int) := by omega
    have hww : IntKind.i64.wrap ((j : Int) + 1) = (j : Int) + 1 := wrap_i64 (by omega)
    rcases Nat.eq_zero_or_pos j with h0 | h0
    · have hz := hI.z h0
      have hlt := lt_of_at hz
      have e2 : ∀ l, ent (hh ++ l) 2 = .blk [.nils, .pv (.int .i64 a)] none := fun l => ent_get hz
      have e2' := ent_get0 hz
      have happ : ∀ l, appendA (hh ++ l) true true 2 16 75 .nils 1 [.pv (.int .i64 (-1)), .pv (.int .i64 (-1))] = some (.sln (hh ++ l).length 0 1 2 true, hh ++ (l ++ [.blk [.pv (.int .i64 (-1)), .pv (.int .i64 (-1))] (some 75)])) := fun l => by
        simp [appendA, growMax]
      have hset : ∀ (l : Heap) (B : Ent), (hh ++ l).set 2 B = hh.set 2 B ++ l := fun l B => List.set_append_left _ _ hlt
      (repeat' first
    | apply X.retS
    | apply X.skipS
    | apply X.skipB
    | apply X.skipL
    | (apply X.exitS; first | apply X.here | (refine X.out (by decide) ?_; apply X.here))
    | apply X.blockS
    | (apply X.condS rfl <;> intro hp <;> first | exact absurd hp (by decide) | ((try rw [hp]); (try simp at hp)))
    | apply X.stepZ
    | (apply X.step; (focus (simp [-getElem?_pos, hja, hjb, hjc, hww, e2, e2', happ, hset]; with_reducible (first | rfl | exact ⟨rfl, rfl⟩))); (focus (simp; with_reducible rfl)))
    | (apply X.stepN rfl; (focus (simp; with_reducible rfl)))
    | ((first | apply X.stepGt rfl | apply X.stepGf rfl); (focus (simp; with_reducible rfl)); all_goals (intro hp; first | exact absurd hp (by decide) | ((try rw [hp]); (try simp at hp))))
    | (apply X.draw0; (focus rfl))
    | apply XD.nil
    | (apply XD.calm rfl; (focus (simp [-getElem?_pos, hja, hjb, hjc, hww, e2, e2', happ, hset]; with_reducible (first | rfl | exact ⟨rfl, rfl⟩))); (focus (simp; with_reducible rfl)))
    | (apply XD.call; (focus (simp; with_reducible rfl)); (focus (simp; with_reducible rfl)); (focus (simp [-getElem?_pos, hja, hjb, hjc, hww, e2, e2', happ, hset]; done)); (focus (simp [-getElem?_pos, hja, hjb, hjc, hww, e2, e2', happ, hset]; with_reducible rfl)); (focus (simp; with_reducible rfl)))
    | (apply XD.stepN rfl; (focus (simp; with_reducible rfl)))
    | ((first | apply XD.stepGt rfl | apply XD.stepGf rfl); (focus (simp; with_reducible rfl)); all_goals (intro hp; first | exact absurd hp (by decide) | ((try rw [hp]); (try simp at hp))))
    | (apply XD.loud; (focus (simp [-getElem?_pos, hja, hjb, hjc, hww, e2, e2', happ, hset]; with_reducible (first | rfl | exact ⟨rfl, rfl⟩))); (focus (simp; done)); (focus (simp; with_reducible rfl)); (focus (simp; with_reducible rfl))))
      refine ⟨hj1, _, ?_, _, by simp [Pat], rfl⟩
      subst h0
      exact inv_zero hI hlt
    · obtain ⟨id, hid, hz, hs⟩ := hI.s h0
      have e2 : ∀ l, ent (hh ++ l) 2 = .blk [.sln id 0 j 2 true, .pv (.int .i64 a)] none := fun l => ent_get hz
      have e2' := ent_get0 hz
      have e3 : ∀ l, ent (hh ++ l) id = .blk ((cellsP (List.replicate j (-1, -1))).map V.pv) (some 75) := fun l => ent_get hs
      have hgr : (j + 1) * 16 ≤ 35184372088832 := by omega
      have hlt := lt_of_at hz
      have hlt2 := lt_of_at hs
      have hset2 : ∀ (l : Heap) (B : Ent), (hh ++ l).set id B = hh.set id B ++ l := fun l B => List.set_append_left _ _ hlt2
      have happ : ∀ l, appendA (hh ++ l) true true 2 16 75 (.sln id 0 j 2 true) 1 [.pv (.int .i64 (-1)), .pv (.int .i64 (-1))] =
          some (.sln (hh ++ l).length 0 (j + 1) 2 true, hh.set id .dead ++ (l ++ [.blk ((cellsP (List.replicate (j + 1) (-1, -1))).map V.pv) (some 75)])) := fun l => by
        simp [appendA, growMax, e3, cellsP_len, hgr, hset2, List.replicate_succ', cellsP_snoc]
      have e4 : ∀ l, ent (hh.set id .dead ++ l) 2 = .blk [.sln id 0 j 2 true, .pv (.int .i64 a)] none := fun l => ent_get (by rw [List.getElem?_set_ne (by omega)]; exact hz)
      have hset : ∀ (l : Heap) (B : Ent), (hh.set id .dead ++ l).set 2 B = (hh.set id .dead).set 2 B ++ l := fun l B => List.set_append_left _ _ (by simpa using hlt)
      (repeat' first
    | apply X.retS
    | apply X.skipS
    | apply X.skipB
    | apply X.skipL
    | (apply X.exitS; first | apply X.here | (refine X.out (by decide) ?_; apply X.here))
    | apply X.blockS
    | (apply X.condS rfl <;> intro hp <;> first | exact absurd hp (by decide) | ((try rw [hp]); (try simp at hp)))
    | apply X.stepZ
    | (apply X.step; (focus (simp [-getElem?_pos, hja, hjb, hjc, hww, e2, e2', happ, e4, hset]; with_reducible (first | rfl | exact ⟨rfl, rfl⟩))); (focus (simp; with_reducible rfl)))
    | (apply X.stepN rfl; (focus (simp; with_reducible rfl)))
    | ((first | apply X.stepGt rfl | apply X.stepGf rfl); (focus (simp; with_reducible rfl)); all_goals (intro hp; first | exact absurd hp (by decide) | ((try rw [hp]); (try simp at hp))))
    | (apply X.draw0; (focus rfl))
    | apply XD.nil
    | (apply XD.calm rfl; (focus (simp [-getElem?_pos, hja, hjb, hjc, hww, e2, e2', happ, e4, hset]; with_reducible (first | rfl | exact ⟨rfl, rfl⟩))); (focus (simp; with_reducible rfl)))
    | (apply XD.call; (focus (simp; with_reducible rfl)); (focus (simp; with_reducible rfl)); (focus (simp [-getElem?_pos, hja, hjb, hjc, hww, e2, e2', happ, e4, hset]; done)); (focus (simp [-getElem?_pos, hja, hjb, hjc, hww, e2, e2', happ, e4, hset]; with_reducible rfl)); (focus (simp; with_reducible rfl)))
    | (apply XD.stepN rfl; (focus (simp; with_reducible rfl)))
    | ((first | apply XD.stepGt rfl | apply XD.stepGf rfl); (focus (simp; with_reducible rfl)); all_goals (intro hp; first | exact absurd hp (by decide) | ((try rw [hp]); (try simp at hp))))
    | (apply XD.loud; (focus (simp [-getElem?_pos, hja, hjb, hjc, hww, e2, e2', happ, e4, hset]; with_reducible (first | rfl | exact ⟨rfl, rfl⟩))); (focus (simp; done)); (focus (simp; with_reducible rfl)); (focus (simp; with_reducible rfl))))
      refine ⟨hj1, _, ?_, _, by simp [Pat], rfl⟩
      exact inv_next hI hid hlt hlt2
  · have hj2 : j = n + 1 := by omega
    subst hj2
    obtain ⟨id, hid, hz, hs⟩ := hI.s (by omega)
    have hW : Wk hh 2 id (List.replicate (n + 1) (-1, -1)) a none (some 75) := ⟨by rw [ent_get0 hz, List.length_replicate], ent_get0 hs, by omega⟩
    have hlen : (List.replicate (n + 1) ((-1 : Int), (-1 : Int))).length = n + 1 := List.length_replicate
    obtain ⟨U, S, hU⟩ := mkUs hW
    have hc := hwalk 2 id none (some 75) _ a (by rw [hlen]; omega)
    have hL2 : (walkS c v (List.replicate (n + 1) (-1, -1), a)).1.length = n + 1 := by rw [walk_len]; exact hlen
    have hof : ofS c v a n = (walkS c v (List.replicate (n + 1) (-1, -1), a)).1.set 0 (a, (walkS c v (List.replicate (n + 1) (-1, -1), a)).2) := rfl
    generalize walkS c v (List.replicate (n + 1) (-1, -1), a) = s at hc hL2 hof
    obtain ⟨L2, a2⟩ := s
    simp only at hc hL2 hof
    rw [hlen] at S
    have hx' : ∀ l, ent (hh ++ l) 0 = _ := fun l => ent_get hx
    have hy' : ∀ l, ent (hh ++ l) 1 = _ := fun l => ent_get hy
    have hx0 := ent_get0 hx
    have hy0 := ent_get0 hy
    have hsp := cellsP_splice L2 0 (a, a2) (by omega)
    simp [splice] at hsp
    have hjd : ¬ ((n + 1 : Nat) : Int) < (n : Int) + 1 := by omega
    have hlt0 := lt_of_at hx
    have hpos : 0 < L2.length := by omega
    have hle2 : 2 ≤ L2.length * 2 := by omega
    have hUu : ∀ g, upd hh 2 id (n + 1) L2 a2 none (some 75) ++ g = U L2 a2 ++ g := fun g => by
      have := S.up (List.replicate (n + 1) (-1, -1)) a [] L2 a2
      rw [List.append_nil, List.append_nil, hU] at this
      rw [this]
    (repeat' first
    | apply X.retS
    | apply X.skipS
    | apply X.skipB
    | apply X.skipL
    | (apply X.exitS; first | apply X.here | (refine X.out (by decide) ?_; apply X.here))
    | apply X.blockS
    | (apply X.condS rfl <;> intro hp <;> first | exact absurd hp (by decide) | ((try rw [hp]); (try simp at hp)))
    | apply X.stepZ
    | (apply X.step; (focus (simp [-getElem?_pos, hx0, hy0]; with_reducible (first | rfl | exact ⟨rfl, rfl⟩))); (focus (simp; with_reducible rfl)))
    | (apply X.stepN rfl; (focus (simp; with_reducible rfl)))
    | ((first | apply X.stepGt rfl | apply X.stepGf rfl); (focus (simp; with_reducible rfl)); all_goals (intro hp; first | exact absurd hp (by decide) | ((try rw [hp]); (try simp at hp))))
    | (apply X.draw0; (focus rfl))
    | apply XD.nil
    | (apply XD.calm rfl; (focus (simp [-getElem?_pos, hx0, hy0]; with_reducible (first | rfl | exact ⟨rfl, rfl⟩))); (focus (simp; with_reducible rfl)))
    | (apply XD.call; (focus (simp; with_reducible rfl)); (focus (simp; with_reducible rfl)); (focus (simp [-getElem?_pos, hx0, hy0]; done)); (focus (simp [-getElem?_pos, hx0, hy0]; with_reducible rfl)); (focus (simp; with_reducible rfl)))
    | (apply XD.stepN rfl; (focus (simp; with_reducible rfl)))
    | ((first | apply XD.stepGt rfl | apply XD.stepGf rfl); (focus (simp; with_reducible rfl)); all_goals (intro hp; first | exact absurd hp (by decide) | ((try rw [hp]); (try simp at hp))))
    | (apply XD.loud; (focus (simp [-getElem?_pos, hx0, hy0]; with_reducible (first | rfl | exact ⟨rfl, rfl⟩))); (focus (simp; done)); (focus (simp; with_reducible rfl)); (focus (simp; with_reducible rfl))))
    refine X.callR (P := fun v h' => v = .tup [] ∧ ∃ g, h' = U L2 a2 ++ g) (by simp; with_reducible rfl) HH.w.walk.raw (by simp [pures]) ?_ ?_
    · obtain ⟨v', h', e1, e2, g, e3⟩ := hc hh hW
      rw [hlen] at e3
      exact ⟨v', h', e1, e2, g, by rw [e3, hUu]⟩
    rintro v' h' ⟨rfl, g, rfl⟩
    (repeat' first
    | apply X.retS
    | apply X.skipS
    | apply X.skipB
    | apply X.skipL
    | (apply X.exitS; first | apply X.here | (refine X.out (by decide) ?_; apply X.here))
    | apply X.blockS
    | (apply X.condS rfl <;> intro hp <;> first | exact absurd hp (by decide) | ((try rw [hp]); (try simp at hp)))
    | apply X.stepZ
    | (apply X.step; (focus (simp [-getElem?_pos, S.w, S.l, S.at', S.at0, S.sw, S.sl, S.s2, S.len, hsp, cellsP_len, hpos, hle2]; with_reducible (first | rfl | exact ⟨rfl, rfl⟩))); (focus (simp; with_reducible rfl)))
    | (apply X.stepN rfl; (focus (simp; with_reducible rfl)))
    | ((first | apply X.stepGt rfl | apply X.stepGf rfl); (focus (simp; with_reducible rfl)); all_goals (intro hp; first | exact absurd hp (by decide) | ((try rw [hp]); (try simp at hp))))
    | (apply X.draw0; (focus rfl))
    | apply XD.nil
    | (apply XD.calm rfl; (focus (simp [-getElem?_pos, S.w, S.l, S.at', S.at0, S.sw, S.sl, S.s2, S.len, hsp, cellsP_len, hpos, hle2]; with_reducible (first | rfl | exact ⟨rfl, rfl⟩))); (focus (simp; with_reducible rfl)))
    | (apply XD.call; (focus (simp; with_reducible rfl)); (focus (simp; with_reducible rfl)); (focus (simp [-getElem?_pos, S.w, S.l, S.at', S.at0, S.sw, S.sl, S.s2, S.len, hsp, cellsP_len, hpos, hle2]; done)); (focus (simp [-getElem?_pos, S.w, S.l, S.at', S.at0, S.sw, S.sl, S.s2, S.len, hsp, cellsP_len, hpos, hle2]; with_reducible rfl)); (focus (simp; with_reducible rfl)))
    | (apply XD.stepN rfl; (focus (simp; with_reducible rfl)))
    | ((first | apply XD.stepGt rfl | apply XD.stepGf rfl); (focus (simp; with_reducible rfl)); all_goals (intro hp; first | exact absurd hp (by decide) | ((try rw [hp]); (try simp at hp))))
    | (apply XD.loud; (focus (simp [-getElem?_pos, S.w, S.l, S.at', S.at0, S.sw, S.sl, S.s2, S.len, hsp, cellsP_len, hpos, hle2]; with_reducible (first | rfl | exact ⟨rfl, rfl⟩))); (focus (simp; done)); (focus (simp; with_reducible rfl)); (focus (simp; with_reducible rfl))))
    all_goals refine Fin.mk' (us := [.sln id 0 (n + 1) 2 true, .pv (.int .i64 0)]) rfl ?_ rfl
    all_goals simp only [S.sl]
    all_goals simp [pureRes, oneOf, snapL, snapFuel, snap_fin (S.l _ _ _) (show (L2.set 0 (a, a2)).length = n + 1 by simpa using hL2), hof]
end Cps

-- Fewer groups are the first of more; the law CapsFew walked.
namespace Cps
open Go Ab Go.Proofs.YtlhfndoldaokhaaDoor.Mach
variable {E : Env}

theorem pre_set {L L' : List Sp} (h : L <+: L') (i : Nat) (x : Sp) (hi : i < L.length) : L.set i x <+: L'.set i x := by
  obtain ⟨t, rfl⟩ := h
  rw [List.set_append_left _ _ hi]
  exact List.prefix_append _ _
theorem pre_set' {L L' : List Sp} (h : L <+: L') (i : Nat) (x : Sp) (hi : L.length ≤ i) : L <+: L'.set i x := by
  obtain ⟨t, rfl⟩ := h
  rw [List.set_append_right _ _ hi]
  exact List.prefix_append _ _
theorem pre_if {L L' : List Sp} (h : L <+: L') (n : Int) (x : Sp) : (if n < L.length then L.set n.toNat x else L) <+: (if n < L'.length then L'.set n.toNat x else L') := by
  have hl := h.length_le
  by_cases hn : n < L.length
  · rw [if_pos hn, if_pos (by omega)]
    by_cases h0 : n.toNat < L.length
    · exact pre_set h _ _ h0
    · have hL : L = [] := List.eq_nil_of_length_eq_zero (by omega)
      subst hL
      simp
  · rw [if_neg hn]
    split
    · exact pre_set' h _ _ (by omega)
    · exact h

theorem forget_pre : ∀ c (L L' : List Sp), L <+: L' → forgetS c L <+: forgetS c L' := by
  refine Co.ind fun c ih L L' h => ?_
  have key : ∀ (l : List Co) (L L' : List Sp), (∀ y ∈ l, ∀ L L' : List Sp, L <+: L' → forgetS y L <+: forgetS y L') → L <+: L' → forgetS.forgetL l L <+: forgetS.forgetL l L' := by
    intro l
    induction l with
    | nil => intro L L' _ h; exact h
    | cons x l ihl => intro L L' hh h; exact ihl _ _ (fun y hy => hh y (by simp [hy])) (hh x (by simp) _ _ h)
  rw [forget_eq, forget_eq]
  refine key _ _ _ ih ?_
  by_cases hk : c.k = 6
  · simp only [hk, true_and]; exact pre_if h _ _
  · simp only [hk, false_and, if_false]; exact h

/-- Alike so far. -/
def Like (s s' : List Sp × Int) : Prop := s.1 <+: s'.1 ∧ s.2 = s'.2

theorem walk_pre : ∀ c v (s s' : List Sp × Int), Like s s' → Like (walkS c v s) (walkS c v s') := by
  refine Co.ind fun c ih v s s' h => ?_
  obtain ⟨k, s0, s1, s2, s3, n, l⟩ := c
  simp only [Co.l] at ih
  have hat : ∀ (l : List Co) (i : Nat) (v : Va) (s s' : List Sp × Int), (∀ y ∈ l, ∀ v s s', Like s s' → Like (walkS y v s) (walkS y v s')) → Like s s' → Like (walkS.walkAt l i v s) (walkS.walkAt l i v s') := by
    intro l
    induction l with
    | nil => intro i v s s' _ h; simpa [walkS.walkAt] using h
    | cons x l ihl =>
      intro i v s s' hh h
      cases i with
      | zero => simp only [walkS.walkAt]; exact hh x (by simp) v s s' h
      | succ i => simp only [walkS.walkAt]; exact ihl i v s s' (fun y hy => hh y (by simp [hy])) h
  have hfg : ∀ L L' : List Sp, L <+: L' → forgetAt l L <+: forgetAt l L' := fun L L' h => by
    cases l with
    | nil => exact h
    | cons x l => exact forget_pre x _ _ h
  rw [walkS_eq, walkS_eq]
  repeat' split
  all_goals first | exact h | skip
  · exact ⟨h.1, by rw [h.2]⟩
  · exact hat l 1 _ _ _ ih (hat l 0 _ _ _ ih h)
  · exact hat l _ _ _ _ ih h
  · have : ∀ (xs : List Va) (s s' : List Sp × Int), Like s s' → Like (xs.foldl (fun s x => walkS.walkAt l 0 x (forgetAt l s.1, s.2)) s) (xs.foldl (fun s x => walkS.walkAt l 0 x (forgetAt l s.1, s.2)) s') := by
      intro xs
      induction xs with
      | nil => intro s s' h; exact h
      | cons x xs ihx => intro s s' h; exact ihx _ _ (hat l 0 _ _ _ ih ⟨hfg _ _ h.1, h.2⟩)
    exact this _ _ _ h
  · have h1 := hat l 0 (by assumption) _ _ ih h
    unfold setIf
    rw [← h.2, ← h1.2]
    have h2 := pre_if h1.1 n (s.2, (walkS.walkAt l 0 (by assumption) s).2)
    refine ⟨?_, ?_⟩
    · split <;> split <;> simp_all
    · split <;> split <;> first | rfl | exact h1.2
  · exact hat l 0 _ _ _ ih ⟨hfg _ _ h.1, h.2⟩

theorem of_pre (c : Co) (v : Va) (a : Int) (n m : Nat) (h : n ≤ m) : ofS c v a n <+: ofS c v a m := by
  have h0 : Like (List.replicate (n + 1) ((-1 : Int), (-1 : Int)), a) (List.replicate (m + 1) ((-1 : Int), (-1 : Int)), a) := by
    refine ⟨⟨List.replicate (m - n) (-1, -1), ?_⟩, rfl⟩
    rw [List.replicate_append_replicate]
    congr 1
    omega
  have h1 := walk_pre c v _ _ h0
  unfold ofS
  simp only
  rw [← h1.2]
  exact pre_set h1.1 0 _ (by rw [walk_len]; simp)

/-- More than is asked of. -/
def bigS : Co → Int → Bool
  | .mk _ _ _ _ _ _ l, d => decide (d < 1) || (decide (3 < l.length) || bigL l (d - 1))
where
  bigL : List Co → Int → Bool
  | [], _ => false
  | x :: l, d => bigS x d || bigL l d
theorem bigS_eq (c : Co) (d : Int) : bigS c d = (decide (d < 1) || (decide (3 < c.l.length) || bigS.bigL c.l (d - 1))) := by cases c; rfl
def wideS : Va → Int → Bool
  | .mk _ _ l, d => decide (d < 1) || (decide (30 < l.length) || wideL l (d - 1))
where
  wideL : List Va → Int → Bool
  | [], _ => false
  | x :: l, d => wideS x d || wideL l d
theorem wideS_eq (c : Va) (d : Int) : wideS c d = (decide (d < 1) || (decide (30 < c.l.length) || wideS.wideL c.l (d - 1))) := by cases c; rfl

set_option maxHeartbeats 4000000 in
theorem big_ok (H : Has E 23 c23) : ∀ c (d : Int), -9223372036854775808 ≤ d → d ≤ 9223372036854775807 → limP E 23 [encC c, .int .i64 d] = some [.bool (bigS c d)] := by
  refine Co.ind fun c ih d hd0 hd => ?_
  rw [bigS_eq, eC]
  by_cases h0 : d < 1
  · refine H.lim (Nat.le_of_ble_eq_true rfl) (by simp; with_reducible rfl) ?_; unfold c23
    (repeat' first
    | apply X.retS
    | apply X.skipS
    | apply X.skipB
    | apply X.skipL
    | (apply X.exitS; first | apply X.here | (refine X.out (by decide) ?_; apply X.here))
    | apply X.blockS
    | (apply X.condS rfl <;> intro hp <;> first | exact absurd hp (by decide) | ((try rw [hp]); (try simp at hp)))
    | apply X.stepZ
    | (apply X.step; (focus (simp [-getElem?_pos, h0]; with_reducible (first | rfl | exact ⟨rfl, rfl⟩))); (focus (simp; with_reducible rfl)))
    | (apply X.stepN rfl; (focus (simp; with_reducible rfl)))
    | ((first | apply X.stepGt rfl | apply X.stepGf rfl); (focus (simp; with_reducible rfl)); all_goals (intro hp; first | exact absurd hp (by decide) | ((try rw [hp]); (try simp at hp))))
    | (apply X.draw0; (focus rfl))
    | apply XD.nil
    | (apply XD.calm rfl; (focus (simp [-getElem?_pos, h0]; with_reducible (first | rfl | exact ⟨rfl, rfl⟩))); (focus (simp; with_reducible rfl)))
    | (apply XD.call; (focus (simp; with_reducible rfl)); (focus (simp; with_reducible rfl)); (focus (simp [-getElem?_pos, h0]; done)); (focus (simp [-getElem?_pos, h0]; with_reducible rfl)); (focus (simp; with_reducible rfl)))
    | (apply XD.stepN rfl; (focus (simp; with_reducible rfl)))
    | ((first | apply XD.stepGt rfl | apply XD.stepGf rfl); (focus (simp; with_reducible rfl)); all_goals (intro hp; first | exact absurd hp (by decide) | ((try rw [hp]); (try simp at hp))))
    | (apply XD.loud; (focus (simp [-getElem?_pos, h0]; with_reducible (first | rfl | exact ⟨rfl, rfl⟩))); (focus (simp; done)); (focus (simp; with_reducible rfl)); (focus (simp; with_reducible rfl))))
    all_goals ((refine Fin.mk' (by simp [resA]; with_reducible rfl) (by simp [oneOf, pureRes, snapFuel, snapL]; with_reducible rfl) ?_); simp [h0])
  · have hw : IntKind.i64.wrap (d - 1) = d - 1 := wrap_i64 (by omega)
    by_cases hl : 3 < c.l.length
    · have hl2 : (3 : Int) < (c.l.length : Int) := by omega
      refine H.lim (Nat.le_of_ble_eq_true rfl) (by simp; with_reducible rfl) ?_; unfold c23
      (repeat' first
    | apply X.retS
    | apply X.skipS
    | apply X.skipB
    | apply X.skipL
    | (apply X.exitS; first | apply X.here | (refine X.out (by decide) ?_; apply X.here))
    | apply X.blockS
    | (apply X.condS rfl <;> intro hp <;> first | exact absurd hp (by decide) | ((try rw [hp]); (try simp at hp)))
    | apply X.stepZ
    | (apply X.step; (focus (simp [-getElem?_pos, h0, hl, hl2]; with_reducible (first | rfl | exact ⟨rfl, rfl⟩))); (focus (simp; with_reducible rfl)))
    | (apply X.stepN rfl; (focus (simp; with_reducible rfl)))
    | ((first | apply X.stepGt rfl | apply X.stepGf rfl); (focus (simp; with_reducible rfl)); all_goals (intro hp; first | exact absurd hp (by decide) | ((try rw [hp]); (try simp at hp))))
    | (apply X.draw0; (focus rfl))
    | apply XD.nil
    | (apply XD.calm rfl; (focus (simp [-getElem?_pos, h0, hl, hl2]; with_reducible (first | rfl | exact ⟨rfl, rfl⟩))); (focus (simp; with_reducible rfl)))
    | (apply XD.call; (focus (simp; with_reducible rfl)); (focus (simp; with_reducible rfl)); (focus (simp [-getElem?_pos, h0, hl, hl2]; done)); (focus (simp [-getElem?_pos, h0, hl, hl2]; with_reducible rfl)); (focus (simp; with_reducible rfl)))
    | (apply XD.stepN rfl; (focus (simp; with_reducible rfl)))
    | ((first | apply XD.stepGt rfl | apply XD.stepGf rfl); (focus (simp; with_reducible rfl)); all_goals (intro hp; first | exact absurd hp (by decide) | ((try rw [hp]); (try simp at hp))))
    | (apply XD.loud; (focus (simp [-getElem?_pos, h0, hl, hl2]; with_reducible (first | rfl | exact ⟨rfl, rfl⟩))); (focus (simp; done)); (focus (simp; with_reducible rfl)); (focus (simp; with_reducible rfl))))
      all_goals ((refine Fin.mk' (by simp [resA]; with_reducible rfl) (by simp [oneOf, pureRes, snapFuel, snapL]; with_reducible rfl) ?_); simp [h0, hl])
    · have hl2 : ¬ (3 : Int) < (c.l.length : Int) := by omega
      refine H.lim (Nat.le_of_ble_eq_true rfl) (by simp; with_reducible rfl) ?_; unfold c23
      (repeat' first
    | apply X.retS
    | apply X.skipS
    | apply X.skipB
    | apply X.skipL
    | (apply X.exitS; first | apply X.here | (refine X.out (by decide) ?_; apply X.here))
    | apply X.blockS
    | (apply X.condS rfl <;> intro hp <;> first | exact absurd hp (by decide) | ((try rw [hp]); (try simp at hp)))
    | apply X.stepZ
    | (apply X.step; (focus (simp [-getElem?_pos, h0, hl, hl2]; with_reducible (first | rfl | exact ⟨rfl, rfl⟩))); (focus (simp; with_reducible rfl)))
    | (apply X.stepN rfl; (focus (simp; with_reducible rfl)))
    | ((first | apply X.stepGt rfl | apply X.stepGf rfl); (focus (simp; with_reducible rfl)); all_goals (intro hp; first | exact absurd hp (by decide) | ((try rw [hp]); (try simp at hp))))
    | (apply X.draw0; (focus rfl))
    | apply XD.nil
    | (apply XD.calm rfl; (focus (simp [-getElem?_pos, h0, hl, hl2]; with_reducible (first | rfl | exact ⟨rfl, rfl⟩))); (focus (simp; with_reducible rfl)))
    | (apply XD.call; (focus (simp; with_reducible rfl)); (focus (simp; with_reducible rfl)); (focus (simp [-getElem?_pos, h0, hl, hl2]; done)); (focus (simp [-getElem?_pos, h0, hl, hl2]; with_reducible rfl)); (focus (simp; with_reducible rfl)))
    | (apply XD.stepN rfl; (focus (simp; with_reducible rfl)))
    | ((first | apply XD.stepGt rfl | apply XD.stepGf rfl); (focus (simp; with_reducible rfl)); all_goals (intro hp; first | exact absurd hp (by decide) | ((try rw [hp]); (try simp at hp))))
    | (apply XD.loud; (focus (simp [-getElem?_pos, h0, hl, hl2]; with_reducible (first | rfl | exact ⟨rfl, rfl⟩))); (focus (simp; done)); (focus (simp; with_reducible rfl)); (focus (simp; with_reducible rfl))))
      refine X.forS c.l.length (fun j st => bigS.bigL (c.l.drop j) (d - 1) = bigS.bigL c.l (d - 1) ∧ ∃ ts, Pat [none, some (.pv (.int .i64 d)), some (.ptr 0 0), none, none, some (.pv (.int .i64 j)), none, none, none, none, none, none, none, none, none, none, none, none, none, none, none, none, none, none, none, none, none, none, none] ts ∧
        st = ⟨ts, [.blk [.pv (.int .i64 c.k), .pv (.int .u64 c.s0), .pv (.int .u64 c.s1), .pv (.int .u64 c.s2), .pv (.int .u64 c.s3), .pv (.int .i64 c.n), .pv (.sl (c.l.map encC))] none]⟩) ?_ ?_
      · exact ⟨rfl, _, by simp [Pat], rfl⟩
      rintro j st hj ⟨hi, ts, hts, rfl⟩
      obtain ⟨f, rfl⟩ := hts.fill
      simp only [Ab.fill, Nat.reduceAdd]
      clear hts
      rcases Nat.lt_or_ge j c.l.length with hj1 | hj1
      · obtain ⟨x, hx⟩ := at_of_lt hj1
        have hc := ih x (List.mem_of_getElem? hx) (d - 1) (by omega) (by omega)
        have hww : IntKind.i64.wrap ((j : Int) + 1) = (j : Int) + 1 := wrap_i64 (by omega)
        rw [drop_at hx] at hi
        simp only [bigS.bigL] at hi
        rw [eC] at hc
        clear ih
        cases hb : bigS x (d - 1) with
        | true =>
          rw [hb] at hc hi
          (repeat' first
    | apply X.retS
    | apply X.skipS
    | apply X.skipB
    | apply X.skipL
    | (apply X.exitS; first | apply X.here | (refine X.out (by decide) ?_; apply X.here))
    | apply X.blockS
    | (apply X.condS rfl <;> intro hp <;> first | exact absurd hp (by decide) | ((try rw [hp]); (try simp at hp)))
    | apply X.stepZ
    | (apply X.step; (focus (simp [-getElem?_pos, hj1, hx, eC, hw, H.raw, hc]; with_reducible (first | rfl | exact ⟨rfl, rfl⟩))); (focus (simp; with_reducible rfl)))
    | (apply X.stepN rfl; (focus (simp; with_reducible rfl)))
    | ((first | apply X.stepGt rfl | apply X.stepGf rfl); (focus (simp; with_reducible rfl)); all_goals (intro hp; first | exact absurd hp (by decide) | ((try rw [hp]); (try simp at hp))))
    | (apply X.draw0; (focus rfl))
    | apply XD.nil
    | (apply XD.calm rfl; (focus (simp [-getElem?_pos, hj1, hx, eC, hw, H.raw, hc]; with_reducible (first | rfl | exact ⟨rfl, rfl⟩))); (focus (simp; with_reducible rfl)))
    | (apply XD.call; (focus (simp; with_reducible rfl)); (focus (simp; with_reducible rfl)); (focus (simp [-getElem?_pos, hj1, hx, eC, hw, H.raw, hc]; done)); (focus (simp [-getElem?_pos, hj1, hx, eC, hw, H.raw, hc]; with_reducible rfl)); (focus (simp; with_reducible rfl)))
    | (apply XD.stepN rfl; (focus (simp; with_reducible rfl)))
    | ((first | apply XD.stepGt rfl | apply XD.stepGf rfl); (focus (simp; with_reducible rfl)); all_goals (intro hp; first | exact absurd hp (by decide) | ((try rw [hp]); (try simp at hp))))
    | (apply XD.loud; (focus (simp [-getElem?_pos, hj1, hx, eC, hw, H.raw, hc]; with_reducible (first | rfl | exact ⟨rfl, rfl⟩))); (focus (simp; done)); (focus (simp; with_reducible rfl)); (focus (simp; with_reducible rfl))))
          all_goals ((refine Fin.mk' (by simp [resA]; with_reducible rfl) (by simp [oneOf, pureRes, snapFuel, snapL]; with_reducible rfl) ?_); simp [← hi, h0, hl])
        | false =>
          rw [hb] at hc hi
          (repeat' first
    | apply X.retS
    | apply X.skipS
    | apply X.skipB
    | apply X.skipL
    | (apply X.exitS; first | apply X.here | (refine X.out (by decide) ?_; apply X.here))
    | apply X.blockS
    | (apply X.condS rfl <;> intro hp <;> first | exact absurd hp (by decide) | ((try rw [hp]); (try simp at hp)))
    | apply X.stepZ
    | (apply X.step; (focus (simp [-getElem?_pos, hj1, hx, eC, hw, H.raw, hc, hww]; with_reducible (first | rfl | exact ⟨rfl, rfl⟩))); (focus (simp; with_reducible rfl)))
    | (apply X.stepN rfl; (focus (simp; with_reducible rfl)))
    | ((first | apply X.stepGt rfl | apply X.stepGf rfl); (focus (simp; with_reducible rfl)); all_goals (intro hp; first | exact absurd hp (by decide) | ((try rw [hp]); (try simp at hp))))
    | (apply X.draw0; (focus rfl))
    | apply XD.nil
    | (apply XD.calm rfl; (focus (simp [-getElem?_pos, hj1, hx, eC, hw, H.raw, hc, hww]; with_reducible (first | rfl | exact ⟨rfl, rfl⟩))); (focus (simp; with_reducible rfl)))
    | (apply XD.call; (focus (simp; with_reducible rfl)); (focus (simp; with_reducible rfl)); (focus (simp [-getElem?_pos, hj1, hx, eC, hw, H.raw, hc, hww]; done)); (focus (simp [-getElem?_pos, hj1, hx, eC, hw, H.raw, hc, hww]; with_reducible rfl)); (focus (simp; with_reducible rfl)))
    | (apply XD.stepN rfl; (focus (simp; with_reducible rfl)))
    | ((first | apply XD.stepGt rfl | apply XD.stepGf rfl); (focus (simp; with_reducible rfl)); all_goals (intro hp; first | exact absurd hp (by decide) | ((try rw [hp]); (try simp at hp))))
    | (apply XD.loud; (focus (simp [-getElem?_pos, hj1, hx, eC, hw, H.raw, hc, hww]; with_reducible (first | rfl | exact ⟨rfl, rfl⟩))); (focus (simp; done)); (focus (simp; with_reducible rfl)); (focus (simp; with_reducible rfl))))
          exact ⟨hj1, by simpa using hi, _, by simp [Pat], rfl⟩
      · have hj2 : ¬ j < c.l.length := by omega
        rw [List.drop_eq_nil_of_le hj1] at hi
        simp only [bigS.bigL] at hi
        clear ih
        (repeat' first
    | apply X.retS
    | apply X.skipS
    | apply X.skipB
    | apply X.skipL
    | (apply X.exitS; first | apply X.here | (refine X.out (by decide) ?_; apply X.here))
    | apply X.blockS
    | (apply X.condS rfl <;> intro hp <;> first | exact absurd hp (by decide) | ((try rw [hp]); (try simp at hp)))
    | apply X.stepZ
    | (apply X.step; (focus (simp [-getElem?_pos, hj2]; with_reducible (first | rfl | exact ⟨rfl, rfl⟩))); (focus (simp; with_reducible rfl)))
    | (apply X.stepN rfl; (focus (simp; with_reducible rfl)))
    | ((first | apply X.stepGt rfl | apply X.stepGf rfl); (focus (simp; with_reducible rfl)); all_goals (intro hp; first | exact absurd hp (by decide) | ((try rw [hp]); (try simp at hp))))
    | (apply X.draw0; (focus rfl))
    | apply XD.nil
    | (apply XD.calm rfl; (focus (simp [-getElem?_pos, hj2]; with_reducible (first | rfl | exact ⟨rfl, rfl⟩))); (focus (simp; with_reducible rfl)))
    | (apply XD.call; (focus (simp; with_reducible rfl)); (focus (simp; with_reducible rfl)); (focus (simp [-getElem?_pos, hj2]; done)); (focus (simp [-getElem?_pos, hj2]; with_reducible rfl)); (focus (simp; with_reducible rfl)))
    | (apply XD.stepN rfl; (focus (simp; with_reducible rfl)))
    | ((first | apply XD.stepGt rfl | apply XD.stepGf rfl); (focus (simp; with_reducible rfl)); all_goals (intro hp; first | exact absurd hp (by decide) | ((try rw [hp]); (try simp at hp))))
    | (apply XD.loud; (focus (simp [-getElem?_pos, hj2]; with_reducible (first | rfl | exact ⟨rfl, rfl⟩))); (focus (simp; done)); (focus (simp; with_reducible rfl)); (focus (simp; with_reducible rfl))))
        all_goals ((refine Fin.mk' (by simp [resA]; with_reducible rfl) (by simp [oneOf, pureRes, snapFuel, snapL]; with_reducible rfl) ?_); simp [← hi, h0, hl])

set_option maxHeartbeats 4000000 in
theorem wide_ok (H : Has E 24 c24) : ∀ c (d : Int), -9223372036854775808 ≤ d → d ≤ 9223372036854775807 → limP E 24 [encV c, .int .i64 d] = some [.bool (wideS c d)] := by
  refine Va.ind fun c ih d hd0 hd => ?_
  rw [wideS_eq, eV]
  by_cases h0 : d < 1
  · refine H.lim (Nat.le_of_ble_eq_true rfl) (by simp; with_reducible rfl) ?_; unfold c24
    (repeat' first
    | apply X.retS
    | apply X.skipS
    | apply X.skipB
    | apply X.skipL
    | (apply X.exitS; first | apply X.here | (refine X.out (by decide) ?_; apply X.here))
    | apply X.blockS
    | (apply X.condS rfl <;> intro hp <;> first | exact absurd hp (by decide) | ((try rw [hp]); (try simp at hp)))
    | apply X.stepZ
    | (apply X.step; (focus (simp [-getElem?_pos, h0]; with_reducible (first | rfl | exact ⟨rfl, rfl⟩))); (focus (simp; with_reducible rfl)))
    | (apply X.stepN rfl; (focus (simp; with_reducible rfl)))
    | ((first | apply X.stepGt rfl | apply X.stepGf rfl); (focus (simp; with_reducible rfl)); all_goals (intro hp; first | exact absurd hp (by decide) | ((try rw [hp]); (try simp at hp))))
    | (apply X.draw0; (focus rfl))
    | apply XD.nil
    | (apply XD.calm rfl; (focus (simp [-getElem?_pos, h0]; with_reducible (first | rfl | exact ⟨rfl, rfl⟩))); (focus (simp; with_reducible rfl)))
    | (apply XD.call; (focus (simp; with_reducible rfl)); (focus (simp; with_reducible rfl)); (focus (simp [-getElem?_pos, h0]; done)); (focus (simp [-getElem?_pos, h0]; with_reducible rfl)); (focus (simp; with_reducible rfl)))
    | (apply XD.stepN rfl; (focus (simp; with_reducible rfl)))
    | ((first | apply XD.stepGt rfl | apply XD.stepGf rfl); (focus (simp; with_reducible rfl)); all_goals (intro hp; first | exact absurd hp (by decide) | ((try rw [hp]); (try simp at hp))))
    | (apply XD.loud; (focus (simp [-getElem?_pos, h0]; with_reducible (first | rfl | exact ⟨rfl, rfl⟩))); (focus (simp; done)); (focus (simp; with_reducible rfl)); (focus (simp; with_reducible rfl))))
    all_goals ((refine Fin.mk' (by simp [resA]; with_reducible rfl) (by simp [oneOf, pureRes, snapFuel, snapL]; with_reducible rfl) ?_); simp [h0])
  · have hw : IntKind.i64.wrap (d - 1) = d - 1 := wrap_i64 (by omega)
    by_cases hl : 30 < c.l.length
    · have hl2 : (30 : Int) < (c.l.length : Int) := by omega
      refine H.lim (Nat.le_of_ble_eq_true rfl) (by simp; with_reducible rfl) ?_; unfold c24
      (repeat' first
    | apply X.retS
    | apply X.skipS
    | apply X.skipB
    | apply X.skipL
    | (apply X.exitS; first | apply X.here | (refine X.out (by decide) ?_; apply X.here))
    | apply X.blockS
    | (apply X.condS rfl <;> intro hp <;> first | exact absurd hp (by decide) | ((try rw [hp]); (try simp at hp)))
    | apply X.stepZ
    | (apply X.step; (focus (simp [-getElem?_pos, h0, hl, hl2]; with_reducible (first | rfl | exact ⟨rfl, rfl⟩))); (focus (simp; with_reducible rfl)))
    | (apply X.stepN rfl; (focus (simp; with_reducible rfl)))
    | ((first | apply X.stepGt rfl | apply X.stepGf rfl); (focus (simp; with_reducible rfl)); all_goals (intro hp; first | exact absurd hp (by decide) | ((try rw [hp]); (try simp at hp))))
    | (apply X.draw0; (focus rfl))
    | apply XD.nil
    | (apply XD.calm rfl; (focus (simp [-getElem?_pos, h0, hl, hl2]; with_reducible (first | rfl | exact ⟨rfl, rfl⟩))); (focus (simp; with_reducible rfl)))
    | (apply XD.call; (focus (simp; with_reducible rfl)); (focus (simp; with_reducible rfl)); (focus (simp [-getElem?_pos, h0, hl, hl2]; done)); (focus (simp [-getElem?_pos, h0, hl, hl2]; with_reducible rfl)); (focus (simp; with_reducible rfl)))
    | (apply XD.stepN rfl; (focus (simp; with_reducible rfl)))
    | ((first | apply XD.stepGt rfl | apply XD.stepGf rfl); (focus (simp; with_reducible rfl)); all_goals (intro hp; first | exact absurd hp (by decide) | ((try rw [hp]); (try simp at hp))))
    | (apply XD.loud; (focus (simp [-getElem?_pos, h0, hl, hl2]; with_reducible (first | rfl | exact ⟨rfl, rfl⟩))); (focus (simp; done)); (focus (simp; with_reducible rfl)); (focus (simp; with_reducible rfl))))
      all_goals ((refine Fin.mk' (by simp [resA]; with_reducible rfl) (by simp [oneOf, pureRes, snapFuel, snapL]; with_reducible rfl) ?_); simp [h0, hl])
    · have hl2 : ¬ (30 : Int) < (c.l.length : Int) := by omega
      refine H.lim (Nat.le_of_ble_eq_true rfl) (by simp; with_reducible rfl) ?_; unfold c24
      (repeat' first
    | apply X.retS
    | apply X.skipS
    | apply X.skipB
    | apply X.skipL
    | (apply X.exitS; first | apply X.here | (refine X.out (by decide) ?_; apply X.here))
    | apply X.blockS
    | (apply X.condS rfl <;> intro hp <;> first | exact absurd hp (by decide) | ((try rw [hp]); (try simp at hp)))
    | apply X.stepZ
    | (apply X.step; (focus (simp [-getElem?_pos, h0, hl, hl2]; with_reducible (first | rfl | exact ⟨rfl, rfl⟩))); (focus (simp; with_reducible rfl)))
    | (apply X.stepN rfl; (focus (simp; with_reducible rfl)))
    | ((first | apply X.stepGt rfl | apply X.stepGf rfl); (focus (simp; with_reducible rfl)); all_goals (intro hp; first | exact absurd hp (by decide) | ((try rw [hp]); (try simp at hp))))
    | (apply X.draw0; (focus rfl))
    | apply XD.nil
    | (apply XD.calm rfl; (focus (simp [-getElem?_pos, h0, hl, hl2]; with_reducible (first | rfl | exact ⟨rfl, rfl⟩))); (focus (simp; with_reducible rfl)))
    | (apply XD.call; (focus (simp; with_reducible rfl)); (focus (simp; with_reducible rfl)); (focus (simp [-getElem?_pos, h0, hl, hl2]; done)); (focus (simp [-getElem?_pos, h0, hl, hl2]; with_reducible rfl)); (focus (simp; with_reducible rfl)))
    | (apply XD.stepN rfl; (focus (simp; with_reducible rfl)))
    | ((first | apply XD.stepGt rfl | apply XD.stepGf rfl); (focus (simp; with_reducible rfl)); all_goals (intro hp; first | exact absurd hp (by decide) | ((try rw [hp]); (try simp at hp))))
    | (apply XD.loud; (focus (simp [-getElem?_pos, h0, hl, hl2]; with_reducible (first | rfl | exact ⟨rfl, rfl⟩))); (focus (simp; done)); (focus (simp; with_reducible rfl)); (focus (simp; with_reducible rfl))))
      refine X.forS c.l.length (fun j st => wideS.wideL (c.l.drop j) (d - 1) = wideS.wideL c.l (d - 1) ∧ ∃ ts, Pat [none, some (.pv (.int .i64 d)), some (.ptr 0 0), none, none, some (.pv (.int .i64 j)), none, none, none, none, none, none, none, none, none, none, none, none, none, none, none, none, none, none, none, none, none, none, none] ts ∧
        st = ⟨ts, [.blk [.pv (.int .i64 c.k), .pv (.int .u8 c.b), .pv (.sl (c.l.map encV))] none]⟩) ?_ ?_
      · exact ⟨rfl, _, by simp [Pat], rfl⟩
      rintro j st hj ⟨hi, ts, hts, rfl⟩
      obtain ⟨f, rfl⟩ := hts.fill
      simp only [Ab.fill, Nat.reduceAdd]
      clear hts
      rcases Nat.lt_or_ge j c.l.length with hj1 | hj1
      · obtain ⟨x, hx⟩ := at_of_lt hj1
        have hc := ih x (List.mem_of_getElem? hx) (d - 1) (by omega) (by omega)
        have hww : IntKind.i64.wrap ((j : Int) + 1) = (j : Int) + 1 := wrap_i64 (by omega)
        rw [drop_at hx] at hi
        simp only [wideS.wideL] at hi
        rw [eV] at hc
        clear ih
        cases hb : wideS x (d - 1) with
        | true =>
          rw [hb] at hc hi
          (repeat' first
    | apply X.retS
    | apply X.skipS
    | apply X.skipB
    | apply X.skipL
    | (apply X.exitS; first | apply X.here | (refine X.out (by decide) ?_; apply X.here))
    | apply X.blockS
    | (apply X.condS rfl <;> intro hp <;> first | exact absurd hp (by decide) | ((try rw [hp]); (try simp at hp)))
    | apply X.stepZ
    | (apply X.step; (focus (simp [-getElem?_pos, hj1, hx, eV, hw, H.raw, hc]; with_reducible (first | rfl | exact ⟨rfl, rfl⟩))); (focus (simp; with_reducible rfl)))
    | (apply X.stepN rfl; (focus (simp; with_reducible rfl)))
    | ((first | apply X.stepGt rfl | apply X.stepGf rfl); (focus (simp; with_reducible rfl)); all_goals (intro hp; first | exact absurd hp (by decide) | ((try rw [hp]); (try simp at hp))))
    | (apply X.draw0; (focus rfl))
    | apply XD.nil
    | (apply XD.calm rfl; (focus (simp [-getElem?_pos, hj1, hx, eV, hw, H.raw, hc]; with_reducible (first | rfl | exact ⟨rfl, rfl⟩))); (focus (simp; with_reducible rfl)))
    | (apply XD.call; (focus (simp; with_reducible rfl)); (focus (simp; with_reducible rfl)); (focus (simp [-getElem?_pos, hj1, hx, eV, hw, H.raw, hc]; done)); (focus (simp [-getElem?_pos, hj1, hx, eV, hw, H.raw, hc]; with_reducible rfl)); (focus (simp; with_reducible rfl)))
    | (apply XD.stepN rfl; (focus (simp; with_reducible rfl)))
    | ((first | apply XD.stepGt rfl | apply XD.stepGf rfl); (focus (simp; with_reducible rfl)); all_goals (intro hp; first | exact absurd hp (by decide) | ((try rw [hp]); (try simp at hp))))
    | (apply XD.loud; (focus (simp [-getElem?_pos, hj1, hx, eV, hw, H.raw, hc]; with_reducible (first | rfl | exact ⟨rfl, rfl⟩))); (focus (simp; done)); (focus (simp; with_reducible rfl)); (focus (simp; with_reducible rfl))))
          all_goals ((refine Fin.mk' (by simp [resA]; with_reducible rfl) (by simp [oneOf, pureRes, snapFuel, snapL]; with_reducible rfl) ?_); simp [← hi, h0, hl])
        | false =>
          rw [hb] at hc hi
          (repeat' first
    | apply X.retS
    | apply X.skipS
    | apply X.skipB
    | apply X.skipL
    | (apply X.exitS; first | apply X.here | (refine X.out (by decide) ?_; apply X.here))
    | apply X.blockS
    | (apply X.condS rfl <;> intro hp <;> first | exact absurd hp (by decide) | ((try rw [hp]); (try simp at hp)))
    | apply X.stepZ
    | (apply X.step; (focus (simp [-getElem?_pos, hj1, hx, eV, hw, H.raw, hc, hww]; with_reducible (first | rfl | exact ⟨rfl, rfl⟩))); (focus (simp; with_reducible rfl)))
    | (apply X.stepN rfl; (focus (simp; with_reducible rfl)))
    | ((first | apply X.stepGt rfl | apply X.stepGf rfl); (focus (simp; with_reducible rfl)); all_goals (intro hp; first | exact absurd hp (by decide) | ((try rw [hp]); (try simp at hp))))
    | (apply X.draw0; (focus rfl))
    | apply XD.nil
    | (apply XD.calm rfl; (focus (simp [-getElem?_pos, hj1, hx, eV, hw, H.raw, hc, hww]; with_reducible (first | rfl | exact ⟨rfl, rfl⟩))); (focus (simp; with_reducible rfl)))
    | (apply XD.call; (focus (simp; with_reducible rfl)); (focus (simp; with_reducible rfl)); (focus (simp [-getElem?_pos, hj1, hx, eV, hw, H.raw, hc, hww]; done)); (focus (simp [-getElem?_pos, hj1, hx, eV, hw, H.raw, hc, hww]; with_reducible rfl)); (focus (simp; with_reducible rfl)))
    | (apply XD.stepN rfl; (focus (simp; with_reducible rfl)))
    | ((first | apply XD.stepGt rfl | apply XD.stepGf rfl); (focus (simp; with_reducible rfl)); all_goals (intro hp; first | exact absurd hp (by decide) | ((try rw [hp]); (try simp at hp))))
    | (apply XD.loud; (focus (simp [-getElem?_pos, hj1, hx, eV, hw, H.raw, hc, hww]; with_reducible (first | rfl | exact ⟨rfl, rfl⟩))); (focus (simp; done)); (focus (simp; with_reducible rfl)); (focus (simp; with_reducible rfl))))
          exact ⟨hj1, by simpa using hi, _, by simp [Pat], rfl⟩
      · have hj2 : ¬ j < c.l.length := by omega
        rw [List.drop_eq_nil_of_le hj1] at hi
        simp only [wideS.wideL] at hi
        clear ih
        (repeat' first
    | apply X.retS
    | apply X.skipS
    | apply X.skipB
    | apply X.skipL
    | (apply X.exitS; first | apply X.here | (refine X.out (by decide) ?_; apply X.here))
    | apply X.blockS
    | (apply X.condS rfl <;> intro hp <;> first | exact absurd hp (by decide) | ((try rw [hp]); (try simp at hp)))
    | apply X.stepZ
    | (apply X.step; (focus (simp [-getElem?_pos, hj2]; with_reducible (first | rfl | exact ⟨rfl, rfl⟩))); (focus (simp; with_reducible rfl)))
    | (apply X.stepN rfl; (focus (simp; with_reducible rfl)))
    | ((first | apply X.stepGt rfl | apply X.stepGf rfl); (focus (simp; with_reducible rfl)); all_goals (intro hp; first | exact absurd hp (by decide) | ((try rw [hp]); (try simp at hp))))
    | (apply X.draw0; (focus rfl))
    | apply XD.nil
    | (apply XD.calm rfl; (focus (simp [-getElem?_pos, hj2]; with_reducible (first | rfl | exact ⟨rfl, rfl⟩))); (focus (simp; with_reducible rfl)))
    | (apply XD.call; (focus (simp; with_reducible rfl)); (focus (simp; with_reducible rfl)); (focus (simp [-getElem?_pos, hj2]; done)); (focus (simp [-getElem?_pos, hj2]; with_reducible rfl)); (focus (simp; with_reducible rfl)))
    | (apply XD.stepN rfl; (focus (simp; with_reducible rfl)))
    | ((first | apply XD.stepGt rfl | apply XD.stepGf rfl); (focus (simp; with_reducible rfl)); all_goals (intro hp; first | exact absurd hp (by decide) | ((try rw [hp]); (try simp at hp))))
    | (apply XD.loud; (focus (simp [-getElem?_pos, hj2]; with_reducible (first | rfl | exact ⟨rfl, rfl⟩))); (focus (simp; done)); (focus (simp; with_reducible rfl)); (focus (simp; with_reducible rfl))))
        all_goals ((refine Fin.mk' (by simp [resA]; with_reducible rfl) (by simp [oneOf, pureRes, snapFuel, snapL]; with_reducible rfl) ?_); simp [← hi, h0, hl])

end Cps
