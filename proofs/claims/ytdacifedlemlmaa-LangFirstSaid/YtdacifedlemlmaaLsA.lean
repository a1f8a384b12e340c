/- LsA: steps, walks, laws: see the remarks within. -/
import Derived.Test.YtdacifedlemlmaaAbStep
import Derived.Test.YtdacifedlemlmaaLsC
set_option linter.unusedSimpArgs false
set_option linter.unusedVariables false
-- lang.New, walked: the table, in its caller's heap.
namespace Lng
open Go Ab Cps Go.Proofs.Ytdacifedlemlmaa.Mach
variable {E : Env}

/-- A table that is being made: its parts, in the heap; all of it from a number on. -/
structure Tab (B : Nat) (h : Heap) (tid : Nat) (tt : Option TypeId) (P : List Pt) (kvs : List V) (b e : V) : Prop where
  hl : B ≤ h.length
  lo : B ≤ tid
  t : (P = [] ∧ ent h tid = .blk [.nils, b, e] tt) ∨ (P ≠ [] ∧ ∃ pid, B ≤ pid ∧ ent h tid = .blk [.sln pid 0 P.length 8 true, b, e] tt ∧ ent h pid = .blk (cellsT P kvs) (some 131))
  len : kvs.length = P.length
  rows : ∀ (i : Nat) (x : Pt) (kv : V), P[i]? = some x → kvs[i]? = some kv → Row h kv (encN x.2)
  lot : ∀ (i : Nat) (es : List PV) (tok : Nat), kvs[i]? = some (.slt es tok) → B ≤ tok
  dis : ∀ (i j : Nat) (es es' : List PV) (tok : Nat), kvs[i]? = some (.slt es tok) → kvs[j]? = some (.slt es' tok) → i = j

/-- What lay ahead of a number stays. -/
structure Fr0 (B : Nat) (h h' : Heap) : Prop where
  len : h.length ≤ h'.length
  old : ∀ i, i < B → ent h' i = ent h i
theorem Fr0.refl {B : Nat} {h : Heap} : Fr0 B h h := ⟨Nat.le_refl _, fun _ _ => rfl⟩
theorem Fr0.trans {B : Nat} {h h1 h2 : Heap} (a : Fr0 B h h1) (b : Fr0 B h1 h2) : Fr0 B h h2 := ⟨Nat.le_trans a.len b.len, fun i hi => by rw [b.old i hi, a.old i hi]⟩
theorem Fr0.more {B : Nat} {h l : Heap} (hb : B ≤ h.length) : Fr0 B h (h ++ l) := ⟨by simp, fun i hi => by simp [ent, List.getElem?_append_left (show i < h.length by omega)]⟩

theorem Tab.more {B : Nat} {h l : Heap} {tid : Nat} {tt : Option TypeId} {P : List Pt} {kvs : List V} {b e : V} (T : Tab B h tid tt P kvs b e) : Tab B (h ++ l) tid tt P kvs b e := by
  refine ⟨by have := T.hl; simp; omega, T.lo, ?_, T.len, fun i x kv h1 h2 => (T.rows i x kv h1 h2).mono, T.lot, T.dis⟩
  rcases T.t with ⟨h1, h2⟩ | ⟨h1, pid, h2, h3, h4⟩
  · exact .inl ⟨h1, ent_app h2 (by simp)⟩
  · exact .inr ⟨h1, pid, h2, ent_app h3 (by simp), ent_app h4 (by simp)⟩

/-- One part more. -/
theorem Tab.new {B : Nat} {h h' : Heap} {tid : Nat} {tt : Option TypeId} {P : List Pt} {kvs : List V} {b e : V} (T : Tab B h tid tt P kvs b e) (c : Co) {pid : Nat} (hl : h.length ≤ h'.length) (hp : B ≤ pid)
    (h1 : ent h' tid = .blk [.sln pid 0 (P.length + 1) 8 true, b, e] tt) (h2 : ent h' pid = .blk (cellsT P kvs ++ (coreV c ++ [.nils])) (some 131)) (hk : ∀ i, ent h i = .tok → ent h' i = .tok) :
    Tab B h' tid tt (P ++ [(c, [])]) (kvs ++ [.nils]) b e := by
  have hlen := T.len
  refine ⟨Nat.le_trans T.hl hl, T.lo, .inr ⟨by simp, pid, hp, by simpa using h1, by rw [cellsT_snoc _ _ _ _ hlen]; exact h2⟩, by simp [hlen], fun i x kv hx hkv => ?_, fun i es tok hi => ?_, fun i j es es' tok hi hj => ?_⟩
  · rcases Nat.lt_or_ge i P.length with hi | hi
    · rw [List.getElem?_append_left hi] at hx
      rw [List.getElem?_append_left (by omega)] at hkv
      rcases T.rows i x kv hx hkv with r | ⟨r1, tok, r2, r3⟩
      · exact .inl r
      · exact .inr ⟨r1, tok, r2, hk _ r3⟩
    · rw [List.getElem?_append_right hi] at hx
      rw [List.getElem?_append_right (by omega)] at hkv
      have h0 : i - P.length = 0 := by have := lt_of_at hx; simp at this; omega
      rw [h0] at hx
      rw [hlen, h0] at hkv
      simp at hx hkv
      rw [← hx, ← hkv]
      exact Row.nil
  · rcases Nat.lt_or_ge i kvs.length with h | h
    · rw [List.getElem?_append_left h] at hi; exact T.lot i es tok hi
    · rw [List.getElem?_append_right h] at hi
      have h0 : i - kvs.length = 0 := by have := lt_of_at hi; simp at this; omega
      rw [h0] at hi
      simp at hi
  · have g : ∀ (i : Nat) (es : List PV), (kvs ++ [V.nils])[i]? = some (V.slt es tok) → kvs[i]? = some (V.slt es tok) := by
      intro i es hi
      rcases Nat.lt_or_ge i kvs.length with h | h
      · rwa [List.getElem?_append_left h] at hi
      · rw [List.getElem?_append_right h] at hi
        have h0 : i - kvs.length = 0 := by have := lt_of_at hi; simp at this; omega
        rw [h0] at hi
        simp at hi
    exact T.dis i j es es' tok (g i es hi) (g j es' hj)

/-- One kid's number more. -/
theorem Tab.kid {B : Nat} {h h' : Heap} {tid : Nat} {tt : Option TypeId} {P : List Pt} {kvs : List V} {b e : V} (T : Tab B h tid tt P kvs b e) {a k pid tk : Nat} {x : Pt} {kv : V} (hx : P[a]? = some x) (hkv : kvs[a]? = some kv)
    (hl : h.length ≤ h'.length) (hp : B ≤ pid) (htk : h.length ≤ tk) (h1 : ent h' tid = .blk [.sln pid 0 P.length 8 true, b, e] tt)
    (h2 : ent h' pid = .blk (cellsT P (kvs.set a (.slt (encN (x.2 ++ [k])) tk))) (some 131)) (h3 : ent h' tk = .tok) (hk : ∀ i, ent h i = .tok → (∀ es, kv ≠ .slt es i) → ent h' i = .tok) :
    Tab B h' tid tt (push a k P) (kvs.set a (.slt (encN (x.2 ++ [k])) tk)) b e := by
  have hne : P ≠ [] := by rintro rfl; simp at hx
  have hpn : push a k P ≠ [] := fun hh => hne (List.eq_nil_of_length_eq_zero (by rw [← push_len (a := a) (k := k), hh]; rfl))
  have ha := lt_of_at hkv
  have tlt : ∀ (i : Nat) (es : List PV) (tok : Nat), kvs[i]? = some (.slt es tok) → ent h tok = .tok := by
    intro i es tok hi
    have hi2 := lt_of_at hi
    obtain ⟨y, hy⟩ := at_of_lt (l := P) (j := i) (by rw [← T.len]; exact hi2)
    rcases T.rows i y _ hy hi with ⟨_, r⟩ | ⟨_, tok', r2, r3⟩
    · cases r
    · cases r2; exact r3
  have tl2 : ∀ (i : Nat) (es : List PV) (tok : Nat), kvs[i]? = some (.slt es tok) → tok < h.length := fun i es tok hi => lt_of_ent' (by rw [tlt i es tok hi]; simp)
  refine ⟨Nat.le_trans T.hl hl, T.lo, .inr ⟨hpn, pid, hp, by rw [push_len]; exact h1, by rw [cellsT_push a k _ _ _ push_map]; exact h2⟩, by simp [push_len, T.len], fun i y kw hy hkw => ?_, fun i es tok hi => ?_, fun i j es es' tok hi hj => ?_⟩
  · by_cases hia : i = a
    · subst hia
      rw [push_at hx] at hy
      rw [List.getElem?_set_self ha] at hkw
      cases hy; cases hkw
      exact .inr ⟨by simp [encN], tk, rfl, h3⟩
    · rw [push_ne hia] at hy
      rw [List.getElem?_set_ne (by omega)] at hkw
      rcases T.rows i y kw hy hkw with r | ⟨r1, tok, r2, r3⟩
      · exact .inl r
      · refine .inr ⟨r1, tok, r2, hk _ r3 fun es hh => hia ?_⟩
        subst hh; subst r2
        exact T.dis i a _ _ tok hkw hkv
  · by_cases hia : i = a
    · subst hia
      rw [List.getElem?_set_self ha] at hi
      cases hi
      exact Nat.le_trans T.hl htk
    · rw [List.getElem?_set_ne (by omega)] at hi
      exact T.lot i es tok hi
  · by_cases hia : i = a
    · by_cases hja : j = a
      · rw [hia, hja]
      · subst hia
        rw [List.getElem?_set_self ha] at hi
        rw [List.getElem?_set_ne (by omega)] at hj
        cases hi
        have := tl2 j es' tk hj
        omega
    · by_cases hja : j = a
      · subst hja
        rw [List.getElem?_set_self ha] at hj
        rw [List.getElem?_set_ne (by omega)] at hi
        cases hj
        have := tl2 i es tk hi
        omega
      · rw [List.getElem?_set_ne (by omega)] at hi hj
        exact T.dis i j es es' tok hi hj

section
variable {h l : Heap} {i n : Nat} {X : Ent}
theorem sa_self (hi : i < h.length) : ent (h.set i X ++ l) i = X := by simp only [ent]; rw [List.getElem?_append_left (by simpa using hi), List.getElem?_set_self hi]; rfl
theorem sa_at : ent (h.set i X ++ l) (h.length + n) = ent l n := by rw [show h.length = (h.set i X).length by simp]; exact ent_at
theorem sa_ne {j : Nat} (hj : j ≠ i) (hl : j < h.length) : ent (h.set i X ++ l) j = ent h j := by
  simp only [ent]; rw [List.getElem?_append_left (by simpa using hl), List.getElem?_set_ne (by omega)]
end

theorem strideN : ∀ l, strideOk 1 (encN l) = true
  | [] => rfl
  | x :: l => by simp [strideOk, encN]
theorem nodesL_len : ∀ l : List Co, l.length ≤ nodes.nodesL l
  | [] => Nat.le_refl _
  | x :: l => by
    have := nodesL_len l
    have h := nodes_eq' x
    simp only [List.length_cons, nodes.nodesL]; omega

structure HasT (E : Env) : Prop where
  add : HasR E 81 c81
  new : HasR E 49 c49

/-- What add does. -/
def AddOk (E : Env) (c : Co) : Prop := ∀ (B : Nat) (h : Heap) (tid : Nat) (tt : Option TypeId) (P : List Pt) (kvs : List V) (b e : V), Tab B h tid tt P kvs b e → P.length + nodes c ≤ 1000000 →
    ∃ v h', limR E 81 [.ptr tid 0, .pv (encC c)] h = some (v, h') ∧ (v = .pv (.int .i64 (P.length : Int)) ∧ ∃ kvs', Tab B h' tid tt (addP c P) kvs' b e ∧ Fr0 B h h')

set_option maxHeartbeats 8000000 in
set_option maxRecDepth 100000 in
theorem add_ok (HH : HasT E) : ∀ c, FineC c → AddOk E c := by
  refine Co.ind fun c ih hf B h tid tt P kvs b e T hle => ?_
  obtain ⟨hf1, hf2⟩ := fineC hf
  rw [nodes_eq'] at hle
  rw [eC, addP_eq]
  refine HH.add.limQE (Nat.le_of_ble_eq_true rfl) ?_; unfold c81
  have hlt : tid < h.length := lt_of_ent' (by rcases T.t with ⟨_, g⟩ | ⟨_, _, _, g, _⟩ <;> rw [g] <;> simp)
  have hst : ∀ (l : Heap) (X : Ent), (h ++ l).set tid X = h.set tid X ++ l := fun l X => List.set_append_left _ _ hlt
  have hsl : ∀ (X : Ent) (l : Heap), ent (h.set tid X ++ l) h.length = ent l 0 := fun X l => by rw [show h.length = (h.set tid X).length by simp]; exact ent_at0
  have hTl := T.hl
  have hTo := T.lo
  rcases T.t with ⟨h1, h2⟩ | ⟨h1, pid, h2, h3, h4⟩
  · have hk0 : kvs = [] := List.eq_nil_of_length_eq_zero (by rw [T.len, h1]; rfl)
    have et : ∀ l, ent (h ++ l) tid = .blk [.nils, b, e] tt := fun l => ent_app h2 (by simp)
    have T' := T.new c (h' := h.set tid (Ent.blk [V.sln (h.length + 2) 0 1 8 true, b, e] tt) ++ [Ent.blk [.pv (.int .i64 c.k), .pv (.int .u64 c.s0), .pv (.int .u64 c.s1), .pv (.int .u64 c.s2), .pv (.int .u64 c.s3), .pv (.int .i64 c.n), .pv (.sl (c.l.map encC))] none, Ent.blk [.pv (.int .i64 c.k), .pv (.int .u64 c.s0), .pv (.int .u64 c.s1), .pv (.int .u64 c.s2), .pv (.int .u64 c.s3), .pv (.int .i64 c.n), .pv (.sl (c.l.map encC)), .nils] none, Ent.blk [.pv (.int .i64 c.k), .pv (.int .u64 c.s0), .pv (.int .u64 c.s1), .pv (.int .u64 c.s2), .pv (.int .u64 c.s3), .pv (.int .i64 c.n), .pv (.sl (c.l.map encC)), .nils] (some 131)]) (pid := h.length + 2) (by simp) (by omega)
      (by rw [sa_self hlt, h1]; rfl) (by rw [sa_at, h1, hk0]; rfl) (fun i hi => by rw [sa_ne (by rintro rfl; rw [h2] at hi; cases hi) (lt_of_ent' (by rw [hi]; simp))]; exact hi)
    have F' : Fr0 B h (h.set tid (Ent.blk [V.sln (h.length + 2) 0 1 8 true, b, e] tt) ++ [Ent.blk [.pv (.int .i64 c.k), .pv (.int .u64 c.s0), .pv (.int .u64 c.s1), .pv (.int .u64 c.s2), .pv (.int .u64 c.s3), .pv (.int .i64 c.n), .pv (.sl (c.l.map encC))] none, Ent.blk [.pv (.int .i64 c.k), .pv (.int .u64 c.s0), .pv (.int .u64 c.s1), .pv (.int .u64 c.s2), .pv (.int .u64 c.s3), .pv (.int .i64 c.n), .pv (.sl (c.l.map encC)), .nils] none, Ent.blk [.pv (.int .i64 c.k), .pv (.int .u64 c.s0), .pv (.int .u64 c.s1), .pv (.int .u64 c.s2), .pv (.int .u64 c.s3), .pv (.int .i64 c.n), .pv (.sl (c.l.map encC)), .nils] (some 131)]) := ⟨by simp, fun i hi => sa_ne (by omega) (by omega)⟩

    (repeat' first
    | apply X.retS
    | apply X.skipS
    | apply X.skipB
    | apply X.skipL
    | (apply X.exitS; first | apply X.here | (refine X.out (by decide) ?_; apply X.here))
    | apply X.blockS
    | (apply X.condQ rfl; (focus (simp only [sub, subO, subL, subM, sub3, sub2, fk_some, fk_none, fk_arg0, fk_argS, fk_argN, fk_map0, fk_mapS, fk_mapN, reduceIte, Nat.reduceEqDiff, Nat.reduceAdd]; with_reducible rfl)); all_goals (intro hbr; first | exact absurd hbr (by decide) | ((try rw [hbr]); (try simp at hbr))))
    | apply X.stepZ
    | (apply X.stepQ rfl; (focus (simp only [sub, subO, subL, subM, sub3, sub2, fk_some, fk_none, fk_arg0, fk_argS, fk_argN, fk_map0, fk_mapS, fk_mapN, reduceIte, Nat.reduceEqDiff, Nat.reduceAdd]; with_reducible rfl)); (focus (simp [-getElem?_pos, et, appendA, hst, hsl]; with_reducible (first | rfl | exact ⟨rfl, rfl⟩))))
    | (apply X.stepNQ rfl; (focus (simp only [sub, subO, subL, subM, sub3, sub2, fk_some, fk_none, fk_arg0, fk_argS, fk_argN, fk_map0, fk_mapS, fk_mapN, reduceIte, Nat.reduceEqDiff, Nat.reduceAdd]; with_reducible rfl)))
    | ((first | apply X.stepGtQ rfl | apply X.stepGfQ rfl); (focus (simp only [sub, subO, subL, subM, sub3, sub2, fk_some, fk_none, fk_arg0, fk_argS, fk_argN, fk_map0, fk_mapS, fk_mapN, reduceIte, Nat.reduceEqDiff, Nat.reduceAdd]; with_reducible rfl)); all_goals (intro hbr; first | exact absurd hbr (by decide) | ((try rw [hbr]); (try simp at hbr))))
    | (apply X.draw0; (focus rfl))
    | (apply X.drawH0; (focus rfl))
    | apply XD.nil
    | (apply XD.calmQ rfl rfl; (focus (simp only [sub, subO, subL, subM, sub3, sub2, fk_some, fk_none, fk_arg0, fk_argS, fk_argN, fk_map0, fk_mapS, fk_mapN, reduceIte, Nat.reduceEqDiff, Nat.reduceAdd]; with_reducible rfl)); (focus (simp [-getElem?_pos, et, appendA, hst, hsl]; with_reducible (first | rfl | exact ⟨rfl, rfl⟩))))
    | (apply XD.callQ rfl; (focus (simp only [sub, subO, subL, subM, sub3, sub2, fk_some, fk_none, fk_arg0, fk_argS, fk_argN, fk_map0, fk_mapS, fk_mapN, reduceIte, Nat.reduceEqDiff, Nat.reduceAdd]; simp; with_reducible rfl)); (focus (simp; with_reducible rfl)); (focus (simp [-getElem?_pos, et, appendA, hst, hsl]; done)); (focus (simp [-getElem?_pos, et, appendA, hst, hsl]; with_reducible rfl)))
    | (apply XD.stepNQ rfl; (focus (simp only [sub, subO, subL, subM, sub3, sub2, fk_some, fk_none, fk_arg0, fk_argS, fk_argN, fk_map0, fk_mapS, fk_mapN, reduceIte, Nat.reduceEqDiff, Nat.reduceAdd]; with_reducible rfl)))
    | ((first | apply XD.stepGtQ rfl | apply XD.stepGfQ rfl); (focus (simp only [sub, subO, subL, subM, sub3, sub2, fk_some, fk_none, fk_arg0, fk_argS, fk_argN, fk_map0, fk_mapS, fk_mapN, reduceIte, Nat.reduceEqDiff, Nat.reduceAdd]; with_reducible rfl)); all_goals (intro hbr; first | exact absurd hbr (by decide) | ((try rw [hbr]); (try simp at hbr))))
    | (apply XD.loudQ rfl; (focus (simp only [sub, subO, subL, subM, sub3, sub2, fk_some, fk_none, fk_arg0, fk_argS, fk_argN, fk_map0, fk_mapS, fk_mapN, reduceIte, Nat.reduceEqDiff, Nat.reduceAdd]; with_reducible rfl)); (focus (simp; with_reducible rfl)); (focus (simp [-getElem?_pos, et, appendA, hst, hsl]; with_reducible (first | rfl | exact ⟨rfl, rfl⟩))); (focus (simp; done)); (focus (simp [-getElem?_pos, et, appendA, hst, hsl]; with_reducible rfl))))
    refine X.forS c.l.length (fun j st => ∃ (hh : Heap) (P1 : List Pt) (kvs1 : List V) (f : Nat → V), (Tab B hh tid tt P1 kvs1 b e ∧ Fr0 B h hh ∧ addP.addL P.length (c.l.drop j) P1 = addP.addL P.length c.l (P ++ [(c, [])]) ∧
      P1.length + nodes.nodesL (c.l.drop j) ≤ 1000000 ∧ ∃ ks : List Nat, P1[P.length]? = some (c, ks) ∧ ks.length = j) ∧
      (fk (Fk.mk (f := f)) 0 = .ptr tid 0 ∧ fk (Fk.mk (f := f)) 5 = .pv (.int .i64 (P.length : Int)) ∧ fk (Fk.mk (f := f)) 26 = .pv (.sl (c.l.map encC)) ∧ fk (Fk.mk (f := f)) 27 = .pv (.int .i64 c.l.length) ∧ fk (Fk.mk (f := f)) 28 = .pv (.int .i64 j)) ∧ st = ⟨TL 55 f, hh⟩) ?_ ?_
    · refine ⟨_, P ++ [(c, [])], kvs ++ [.nils], _, ⟨T', F', rfl, by simp only [List.drop_zero, List.length_append, List.length_singleton]; omega, [], by simp, rfl⟩, ?_, rfl⟩
      simp [h1]
    clear T' F'
    rintro j st hj ⟨hh, P1, kvs1, f, ⟨T1, F1, hi, hle1, ks, hks, hkl⟩, ⟨f0, f5, f26, f27, f28⟩, rfl⟩
    rcases Nat.lt_or_ge j c.l.length with hj1 | hj1
    · obtain ⟨x, hx⟩ := at_of_lt hj1
      have hxm := List.mem_of_getElem? hx
      have hww : IntKind.i64.wrap ((j : Int) + 1) = (j : Int) + 1 := wrap_i64 (by omega)
      rw [drop_at hx] at hi hle1
      simp only [addP.addL, nodes.nodesL] at hi hle1
      have hc := ih x hxm (hf2 x hxm) B _ tid tt P1 kvs1 b e (T1.more (l := [Ent.blk [.pv (.int .i64 x.k), .pv (.int .u64 x.s0), .pv (.int .u64 x.s1), .pv (.int .u64 x.s2), .pv (.int .u64 x.s3), .pv (.int .i64 x.n), .pv (.sl (x.l.map encC))] (some 43)])) (by omega)
      obtain ⟨hl2, hp2⟩ := addP_facts x P1
      clear ih
      rw [eC x] at hc
      (repeat' first
    | apply X.retS
    | apply X.skipS
    | apply X.skipB
    | apply X.skipL
    | (apply X.exitS; first | apply X.here | (refine X.out (by decide) ?_; apply X.here))
    | apply X.blockS
    | (apply X.condQ rfl; (focus (simp only [sub, subO, subL, subM, sub3, sub2, fk_some, fk_none, fk_arg0, fk_argS, fk_argN, fk_map0, fk_mapS, fk_mapN, reduceIte, Nat.reduceEqDiff, Nat.reduceAdd, f0, f5, f26, f27, f28]; with_reducible rfl)); all_goals (intro hbr; first | exact absurd hbr (by decide) | ((try rw [hbr]); (try simp at hbr))))
    | apply X.stepZ
    | (apply X.stepQ rfl; (focus (simp only [sub, subO, subL, subM, sub3, sub2, fk_some, fk_none, fk_arg0, fk_argS, fk_argN, fk_map0, fk_mapS, fk_mapN, reduceIte, Nat.reduceEqDiff, Nat.reduceAdd, f0, f5, f26, f27, f28]; with_reducible rfl)); (focus (simp [-getElem?_pos, hj1, hx, eC x, hww, set_new, ent_new]; with_reducible (first | rfl | exact ⟨rfl, rfl⟩))))
    | (apply X.stepNQ rfl; (focus (simp only [sub, subO, subL, subM, sub3, sub2, fk_some, fk_none, fk_arg0, fk_argS, fk_argN, fk_map0, fk_mapS, fk_mapN, reduceIte, Nat.reduceEqDiff, Nat.reduceAdd, f0, f5, f26, f27, f28]; with_reducible rfl)))
    | ((first | apply X.stepGtQ rfl | apply X.stepGfQ rfl); (focus (simp only [sub, subO, subL, subM, sub3, sub2, fk_some, fk_none, fk_arg0, fk_argS, fk_argN, fk_map0, fk_mapS, fk_mapN, reduceIte, Nat.reduceEqDiff, Nat.reduceAdd, f0, f5, f26, f27, f28]; with_reducible rfl)); all_goals (intro hbr; first | exact absurd hbr (by decide) | ((try rw [hbr]); (try simp at hbr))))
    | (apply X.draw0; (focus rfl))
    | (apply X.drawH0; (focus rfl))
    | apply XD.nil
    | (apply XD.calmQ rfl rfl; (focus (simp only [sub, subO, subL, subM, sub3, sub2, fk_some, fk_none, fk_arg0, fk_argS, fk_argN, fk_map0, fk_mapS, fk_mapN, reduceIte, Nat.reduceEqDiff, Nat.reduceAdd, f0, f5, f26, f27, f28]; with_reducible rfl)); (focus (simp [-getElem?_pos, hj1, hx, eC x, hww, set_new, ent_new]; with_reducible (first | rfl | exact ⟨rfl, rfl⟩))))
    | (apply XD.callQ rfl; (focus (simp only [sub, subO, subL, subM, sub3, sub2, fk_some, fk_none, fk_arg0, fk_argS, fk_argN, fk_map0, fk_mapS, fk_mapN, reduceIte, Nat.reduceEqDiff, Nat.reduceAdd, f0, f5, f26, f27, f28]; simp; with_reducible rfl)); (focus (simp; with_reducible rfl)); (focus (simp [-getElem?_pos, hj1, hx, eC x, hww, set_new, ent_new]; done)); (focus (simp [-getElem?_pos, hj1, hx, eC x, hww, set_new, ent_new]; with_reducible rfl)))
    | (apply XD.stepNQ rfl; (focus (simp only [sub, subO, subL, subM, sub3, sub2, fk_some, fk_none, fk_arg0, fk_argS, fk_argN, fk_map0, fk_mapS, fk_mapN, reduceIte, Nat.reduceEqDiff, Nat.reduceAdd, f0, f5, f26, f27, f28]; with_reducible rfl)))
    | ((first | apply XD.stepGtQ rfl | apply XD.stepGfQ rfl); (focus (simp only [sub, subO, subL, subM, sub3, sub2, fk_some, fk_none, fk_arg0, fk_argS, fk_argN, fk_map0, fk_mapS, fk_mapN, reduceIte, Nat.reduceEqDiff, Nat.reduceAdd, f0, f5, f26, f27, f28]; with_reducible rfl)); all_goals (intro hbr; first | exact absurd hbr (by decide) | ((try rw [hbr]); (try simp at hbr))))
    | (apply XD.loudQ rfl; (focus (simp only [sub, subO, subL, subM, sub3, sub2, fk_some, fk_none, fk_arg0, fk_argS, fk_argN, fk_map0, fk_mapS, fk_mapN, reduceIte, Nat.reduceEqDiff, Nat.reduceAdd, f0, f5, f26, f27, f28]; with_reducible rfl)); (focus (simp; with_reducible rfl)); (focus (simp [-getElem?_pos, hj1, hx, eC x, hww, set_new, ent_new]; with_reducible (first | rfl | exact ⟨rfl, rfl⟩))); (focus (simp; done)); (focus (simp [-getElem?_pos, hj1, hx, eC x, hww, set_new, ent_new]; with_reducible rfl))))
      refine X.callRQ (P := fun v h2 => v = .pv (.int .i64 (P1.length : Int)) ∧ ∃ kvs', Tab B h2 tid tt (addP x P1) kvs' b e ∧ Fr0 B (hh ++ [Ent.blk [.pv (.int .i64 x.k), .pv (.int .u64 x.s0), .pv (.int .u64 x.s1), .pv (.int .u64 x.s2), .pv (.int .u64 x.s3), .pv (.int .i64 x.n), .pv (.sl (x.l.map encC))] (some 43)]) h2) rfl
        (by simp only [sub, subO, subL, subM, sub3, sub2, fk_some, fk_none, fk_arg0, fk_argS, fk_argN, fk_map0, fk_mapS, fk_mapN, reduceIte, Nat.reduceEqDiff, Nat.reduceAdd, f0, f5, f26, f27, f28]; simp; with_reducible rfl) HH.add.raw (by simp [pures]) (by simpa using hc) ?_
      rintro v h2 ⟨rfl, kvs2, T2, F2⟩
      have F2' : Fr0 B h h2 := F1.trans ((Fr0.more (by have := T1.hl; omega)).trans F2)
      have hat : (addP x P1)[P.length]? = some (c, ks) := by rw [hp2 _ (lt_of_at hks)]; exact hks
      obtain ⟨kv, hkv⟩ := at_of_lt (l := kvs2) (j := P.length) (by rw [T2.len]; exact lt_of_at hat)
      have hrow := T2.rows _ _ _ hat hkv
      rcases T2.t with ⟨g1, _⟩ | ⟨g1, pid2, g2, g3, g4⟩
      · rw [g1] at hat; simp at hat
      · have hP2 : P.length < (addP x P1).length := lt_of_at hat
        have hcl2 := cellsT_len _ _ T2.len
        obtain ⟨rr, hrr⟩ := cellsT_at _ _ _ _ _ hat hkv
        have hd7 : (cellsT (addP x P1) kvs2).drop (P.length * 8 + 7) = kv :: rr := by rw [← List.drop_drop, hrr]; simp [coreV]
        have hcA : P.length * 8 + 7 + 1 ≤ (addP x P1).length * 8 := by omega
        have hcB : P.length * 8 + 7 < (addP x P1).length * 8 := by omega
        have hcC : P.length * 8 + 8 ≤ (addP x P1).length * 8 := by omega
        have hsp : ∀ v : V, splice (cellsT (addP x P1) kvs2) (P.length * 8 + 7) [v] = cellsT (addP x P1) (kvs2.set P.length v) := fun v => by rw [splice_one (by rw [hcl2]; exact hcB), cellsT_set v _ _ _ T2.len hP2]
        have het : ∀ l, ent (h2 ++ l) tid = _ := fun l => ent_app g3 (by simp)
        have hep : ∀ l, ent (h2 ++ l) pid2 = _ := fun l => ent_app g4 (by simp)
        have hpl : pid2 < h2.length := lt_of_ent' (by rw [g4]; simp)
        have htl : tid < h2.length := lt_of_ent' (by rw [g3]; simp)
        have hne : pid2 ≠ tid := by
          rintro rfl
          rw [g4] at g3
          have := congrArg (fun e => match e with | Ent.blk cs _ => cs.length | _ => 0) g3
          simp only [hcl2, List.length_cons, List.length_nil] at this
          omega
        have hsp2 : ∀ (l : Heap) (X : Ent), (h2 ++ l).set pid2 X = h2.set pid2 X ++ l := fun l X => List.set_append_left _ _ hpl
        have hen : encN ks ++ [PV.int .i64 (P1.length : Int)] = encN (ks ++ [P1.length]) := by simp [encN]
        have hnl := nodesL_len c.l
        rcases hrow with ⟨k1, k2⟩ | ⟨k1, tok, k2, k3⟩
        · have hks0 : ks = [] := by simpa [encN] using k1
          subst hks0
          subst k2
          have T3 := T2.kid hat hkv (h' := h2.set pid2 (.blk (cellsT (addP x P1) (kvs2.set P.length (.slt (encN ([] ++ [P1.length])) h2.length))) (some 131)) ++ [.tok]) (pid := pid2) (tk := h2.length) (k := P1.length) (by simp) g2 (Nat.le_refl _)
            (by rw [sa_ne (Ne.symm hne) htl]; exact g3) (sa_self hpl) (by have := sa_at (h := h2) (i := pid2) (n := 0) (l := [Ent.tok]) (X := .blk (cellsT (addP x P1) (kvs2.set P.length (.slt (encN ([] ++ [P1.length])) h2.length))) (some 131)); exact this)
            (fun i hi _ => by rw [sa_ne (by rintro rfl; rw [g4] at hi; cases hi) (lt_of_ent' (by rw [hi]; simp))]; exact hi)
          have F3 : Fr0 B h (h2.set pid2 (.blk (cellsT (addP x P1) (kvs2.set P.length (.slt (encN ([] ++ [P1.length])) h2.length))) (some 131)) ++ [.tok]) := F2'.trans ⟨by simp, fun i hi => sa_ne (by omega) (by have := T2.hl; omega)⟩
          simp only [List.nil_append] at hen T3 F3
          simp [splice] at hsp
          have hen0 : [PV.int .i64 (P1.length : Int)] = encN [P1.length] := rfl
          (repeat' first
    | apply X.retS
    | apply X.skipS
    | apply X.skipB
    | apply X.skipL
    | (apply X.exitS; first | apply X.here | (refine X.out (by decide) ?_; apply X.here))
    | apply X.blockS
    | (apply X.condQ rfl; (focus (simp only [sub, subO, subL, subM, sub3, sub2, fk_some, fk_none, fk_arg0, fk_argS, fk_argN, fk_map0, fk_mapS, fk_mapN, reduceIte, Nat.reduceEqDiff, Nat.reduceAdd, f0, f5, f26, f27, f28]; with_reducible rfl)); all_goals (intro hbr; first | exact absurd hbr (by decide) | ((try rw [hbr]); (try simp at hbr))))
    | apply X.stepZ
    | (apply X.stepQ rfl; (focus (simp only [sub, subO, subL, subM, sub3, sub2, fk_some, fk_none, fk_arg0, fk_argS, fk_argN, fk_map0, fk_mapS, fk_mapN, reduceIte, Nat.reduceEqDiff, Nat.reduceAdd, f0, f5, f26, f27, f28]; with_reducible rfl)); (focus (simp [-getElem?_pos]; with_reducible (first | rfl | exact ⟨rfl, rfl⟩))))
    | (apply X.stepNQ rfl; (focus (simp only [sub, subO, subL, subM, sub3, sub2, fk_some, fk_none, fk_arg0, fk_argS, fk_argN, fk_map0, fk_mapS, fk_mapN, reduceIte, Nat.reduceEqDiff, Nat.reduceAdd, f0, f5, f26, f27, f28]; with_reducible rfl)))
    | ((first | apply X.stepGtQ rfl | apply X.stepGfQ rfl); (focus (simp only [sub, subO, subL, subM, sub3, sub2, fk_some, fk_none, fk_arg0, fk_argS, fk_argN, fk_map0, fk_mapS, fk_mapN, reduceIte, Nat.reduceEqDiff, Nat.reduceAdd, f0, f5, f26, f27, f28]; with_reducible rfl)); all_goals (intro hbr; first | exact absurd hbr (by decide) | ((try rw [hbr]); (try simp at hbr))))
    | (apply X.draw0; (focus rfl))
    | (apply X.drawH0; (focus rfl))
    | apply XD.nil
    | (apply XD.calmQ rfl rfl; (focus (simp only [sub, subO, subL, subM, sub3, sub2, fk_some, fk_none, fk_arg0, fk_argS, fk_argN, fk_map0, fk_mapS, fk_mapN, reduceIte, Nat.reduceEqDiff, Nat.reduceAdd, f0, f5, f26, f27, f28]; with_reducible rfl)); (focus (simp [-getElem?_pos]; with_reducible (first | rfl | exact ⟨rfl, rfl⟩))))
    | (apply XD.callQ rfl; (focus (simp only [sub, subO, subL, subM, sub3, sub2, fk_some, fk_none, fk_arg0, fk_argS, fk_argN, fk_map0, fk_mapS, fk_mapN, reduceIte, Nat.reduceEqDiff, Nat.reduceAdd, f0, f5, f26, f27, f28]; simp; with_reducible rfl)); (focus (simp; with_reducible rfl)); (focus (simp [-getElem?_pos]; done)); (focus (simp [-getElem?_pos]; with_reducible rfl)))
    | (apply XD.stepNQ rfl; (focus (simp only [sub, subO, subL, subM, sub3, sub2, fk_some, fk_none, fk_arg0, fk_argS, fk_argN, fk_map0, fk_mapS, fk_mapN, reduceIte, Nat.reduceEqDiff, Nat.reduceAdd, f0, f5, f26, f27, f28]; with_reducible rfl)))
    | ((first | apply XD.stepGtQ rfl | apply XD.stepGfQ rfl); (focus (simp only [sub, subO, subL, subM, sub3, sub2, fk_some, fk_none, fk_arg0, fk_argS, fk_argN, fk_map0, fk_mapS, fk_mapN, reduceIte, Nat.reduceEqDiff, Nat.reduceAdd, f0, f5, f26, f27, f28]; with_reducible rfl)); all_goals (intro hbr; first | exact absurd hbr (by decide) | ((try rw [hbr]); (try simp at hbr))))
    | (apply XD.loudQ rfl; (focus (simp only [sub, subO, subL, subM, sub3, sub2, fk_some, fk_none, fk_arg0, fk_argS, fk_argN, fk_map0, fk_mapS, fk_mapN, reduceIte, Nat.reduceEqDiff, Nat.reduceAdd, f0, f5, f26, f27, f28]; with_reducible rfl)); (focus (simp; with_reducible rfl)); (focus (simp [-getElem?_pos]; with_reducible (first | rfl | exact ⟨rfl, rfl⟩))); (focus (simp; done)); (focus (simp [-getElem?_pos]; with_reducible rfl))))
          (refine X.drawO [tid, pid2] rfl ?_)
          (repeat' first
    | apply XR.nil
    | (apply XR.calmQ rfl rfl; (focus (simp only [sub, subO, subL, subM, sub3, sub2, fk_some, fk_none, fk_arg0, fk_argS, fk_argN, fk_map0, fk_mapS, fk_mapN, reduceIte, Nat.reduceEqDiff, Nat.reduceAdd, f0, f5, f26, f27, f28]; with_reducible rfl)); (focus (simp [-getElem?_pos, appendA, hP2, htl, hpl, hcl2, hd7, hcA, hcB, hcC, hsp, het, hep, g3, g4, hsp2, hww]; done)); (focus (simp [-getElem?_pos, appendA, hP2, htl, hpl, hcl2, hd7, hcA, hcB, hcC, hsp, het, hep, g3, g4, hsp2, hww]; with_reducible (first | rfl | exact ⟨rfl, rfl⟩))))
    | (apply XR.growQ rfl rfl rfl rfl; (focus (simp only [sub, subO, subL, subM, sub3, sub2, fk_some, fk_none, fk_arg0, fk_argS, fk_argN, fk_map0, fk_mapS, fk_mapN, reduceIte, Nat.reduceEqDiff, Nat.reduceAdd, f0, f5, f26, f27, f28]; with_reducible rfl)); (focus (simp; with_reducible rfl)); (focus (simp [-getElem?_pos, appendA, hP2, htl, hpl, hcl2, hd7, hcA, hcB, hcC, hsp, het, hep, g3, g4, hsp2, hww]; done)); (focus (simp [-getElem?_pos, appendA, hP2, htl, hpl, hcl2, hd7, hcA, hcB, hcC, hsp, het, hep, g3, g4, hsp2, hww]; done)); (focus (simp [-getElem?_pos, appendA, hP2, htl, hpl, hcl2, hd7, hcA, hcB, hcC, hsp, het, hep, g3, g4, hsp2, hww]; with_reducible (first | rfl | exact ⟨rfl, rfl⟩))); (focus (simp; done)); (focus (simp [-getElem?_pos, appendA, hP2, htl, hpl, hcl2, hd7, hcA, hcB, hcC, hsp, het, hep, g3, g4, hsp2, hww]; with_reducible rfl)))
    | (apply XR.loudQ rfl rfl; (focus (simp only [sub, subO, subL, subM, sub3, sub2, fk_some, fk_none, fk_arg0, fk_argS, fk_argN, fk_map0, fk_mapS, fk_mapN, reduceIte, Nat.reduceEqDiff, Nat.reduceAdd, f0, f5, f26, f27, f28]; with_reducible rfl)); (focus (simp; with_reducible rfl)); (focus (simp [-getElem?_pos, appendA, hP2, htl, hpl, hcl2, hd7, hcA, hcB, hcC, hsp, het, hep, g3, g4, hsp2, hww]; with_reducible (first | rfl | exact ⟨rfl, rfl⟩))); (focus (simp; done)); (focus (simp [-getElem?_pos, appendA, hP2, htl, hpl, hcl2, hd7, hcA, hcB, hcC, hsp, het, hep, g3, g4, hsp2, hww]; with_reducible rfl))))
          (repeat' first
    | apply X.retS
    | apply X.skipS
    | apply X.skipB
    | apply X.skipL
    | (apply X.exitS; first | apply X.here | (refine X.out (by decide) ?_; apply X.here))
    | apply X.blockS
    | (apply X.condQ rfl; (focus (simp only [sub, subO, subL, subM, sub3, sub2, fk_some, fk_none, fk_arg0, fk_argS, fk_argN, fk_map0, fk_mapS, fk_mapN, reduceIte, Nat.reduceEqDiff, Nat.reduceAdd, f0, f5, f26, f27, f28]; with_reducible rfl)); all_goals (intro hbr; first | exact absurd hbr (by decide) | ((try rw [hbr]); (try simp at hbr))))
    | apply X.stepZ
    | (apply X.stepQ rfl; (focus (simp only [sub, subO, subL, subM, sub3, sub2, fk_some, fk_none, fk_arg0, fk_argS, fk_argN, fk_map0, fk_mapS, fk_mapN, reduceIte, Nat.reduceEqDiff, Nat.reduceAdd, f0, f5, f26, f27, f28]; with_reducible rfl)); (focus (simp [-getElem?_pos, hww]; with_reducible (first | rfl | exact ⟨rfl, rfl⟩))))
    | (apply X.stepNQ rfl; (focus (simp only [sub, subO, subL, subM, sub3, sub2, fk_some, fk_none, fk_arg0, fk_argS, fk_argN, fk_map0, fk_mapS, fk_mapN, reduceIte, Nat.reduceEqDiff, Nat.reduceAdd, f0, f5, f26, f27, f28]; with_reducible rfl)))
    | ((first | apply X.stepGtQ rfl | apply X.stepGfQ rfl); (focus (simp only [sub, subO, subL, subM, sub3, sub2, fk_some, fk_none, fk_arg0, fk_argS, fk_argN, fk_map0, fk_mapS, fk_mapN, reduceIte, Nat.reduceEqDiff, Nat.reduceAdd, f0, f5, f26, f27, f28]; with_reducible rfl)); all_goals (intro hbr; first | exact absurd hbr (by decide) | ((try rw [hbr]); (try simp at hbr))))
    | (apply X.draw0; (focus rfl))
    | (apply X.drawH0; (focus rfl))
    | apply XD.nil
    | (apply XD.calmQ rfl rfl; (focus (simp only [sub, subO, subL, subM, sub3, sub2, fk_some, fk_none, fk_arg0, fk_argS, fk_argN, fk_map0, fk_mapS, fk_mapN, reduceIte, Nat.reduceEqDiff, Nat.reduceAdd, f0, f5, f26, f27, f28]; with_reducible rfl)); (focus (simp [-getElem?_pos, hww]; with_reducible (first | rfl | exact ⟨rfl, rfl⟩))))
    | (apply XD.callQ rfl; (focus (simp only [sub, subO, subL, subM, sub3, sub2, fk_some, fk_none, fk_arg0, fk_argS, fk_argN, fk_map0, fk_mapS, fk_mapN, reduceIte, Nat.reduceEqDiff, Nat.reduceAdd, f0, f5, f26, f27, f28]; simp; with_reducible rfl)); (focus (simp; with_reducible rfl)); (focus (simp [-getElem?_pos, hww]; done)); (focus (simp [-getElem?_pos, hww]; with_reducible rfl)))
    | (apply XD.stepNQ rfl; (focus (simp only [sub, subO, subL, subM, sub3, sub2, fk_some, fk_none, fk_arg0, fk_argS, fk_argN, fk_map0, fk_mapS, fk_mapN, reduceIte, Nat.reduceEqDiff, Nat.reduceAdd, f0, f5, f26, f27, f28]; with_reducible rfl)))
    | ((first | apply XD.stepGtQ rfl | apply XD.stepGfQ rfl); (focus (simp only [sub, subO, subL, subM, sub3, sub2, fk_some, fk_none, fk_arg0, fk_argS, fk_argN, fk_map0, fk_mapS, fk_mapN, reduceIte, Nat.reduceEqDiff, Nat.reduceAdd, f0, f5, f26, f27, f28]; with_reducible rfl)); all_goals (intro hbr; first | exact absurd hbr (by decide) | ((try rw [hbr]); (try simp at hbr))))
    | (apply XD.loudQ rfl; (focus (simp only [sub, subO, subL, subM, sub3, sub2, fk_some, fk_none, fk_arg0, fk_argS, fk_argN, fk_map0, fk_mapS, fk_mapN, reduceIte, Nat.reduceEqDiff, Nat.reduceAdd, f0, f5, f26, f27, f28]; with_reducible rfl)); (focus (simp; with_reducible rfl)); (focus (simp [-getElem?_pos, hww]; with_reducible (first | rfl | exact ⟨rfl, rfl⟩))); (focus (simp; done)); (focus (simp [-getElem?_pos, hww]; with_reducible rfl))))
          all_goals
            simp only [List.length_nil] at hkl
            exact ⟨hj1, _, Lng.push P.length P1.length (addP x P1), _, _, ⟨T3, F3, hi, by rw [push_len, hl2]; omega, [] ++ [P1.length], push_at hat, by simp; omega⟩, by simp [f0, f5, f26, f27], rfl⟩
        · have hk1 : tok < h2.length := lt_of_ent' (by rw [k3]; simp)
          have hk2 : tok ≠ tid := by rintro rfl; rw [k3] at g3; cases g3
          have hk4 : tok ≠ pid2 := by rintro rfl; rw [k3] at g4; cases g4
          have hie : (encN ks).isEmpty = false := by cases hE : encN ks with
            | nil => exact absurd hE k1
            | cons => rfl
          have hlk : (encN ks).length = ks.length := by simp [encN]
          have hgk : (ks.length + 1) * 8 ≤ 35184372088832 := by omega
          have hs1 := strideN ks
          simp at hs1
          have hep3 : ∀ l, ent (h2.set tok .dead ++ l) pid2 = _ := fun l => (sa_ne (Ne.symm hk4) hpl).trans g4
          have hsp3 : ∀ (l : Heap) (X : Ent), (h2.set tok .dead ++ l).set pid2 X = (h2.set tok .dead).set pid2 X ++ l := fun l X => List.set_append_left _ _ (by simpa using hpl)
          subst k2
          have hld : (h2.set tok .dead).length = h2.length := by simp
          have T3 := T2.kid hat hkv (h' := (h2.set tok .dead).set pid2 (.blk (cellsT (addP x P1) (kvs2.set P.length (.slt (encN (ks ++ [P1.length])) h2.length))) (some 131)) ++ [.tok]) (pid := pid2) (tk := h2.length) (k := P1.length) (by simp) g2 (Nat.le_refl _)
            (by rw [sa_ne (Ne.symm hne) (by rw [hld]; exact htl)]; have := sa_ne (h := h2) (l := []) (X := .dead) (i := tok) (j := tid) (Ne.symm hk2) htl; rw [List.append_nil] at this; rw [this]; exact g3) (sa_self (by rw [hld]; exact hpl))
            (by have := sa_at (h := h2.set tok .dead) (i := pid2) (n := 0) (l := [Ent.tok]) (X := .blk (cellsT (addP x P1) (kvs2.set P.length (.slt (encN (ks ++ [P1.length])) h2.length))) (some 131)); rw [hld] at this; exact this)
            (fun i hi hn => by
              have i1 : i ≠ pid2 := by rintro rfl; rw [g4] at hi; cases hi
              have i2 : i ≠ tok := by rintro rfl; exact hn _ rfl
              have i3 : i < h2.length := lt_of_ent' (by rw [hi]; simp)
              rw [sa_ne i1 (by rw [hld]; exact i3)]
              have := sa_ne (h := h2) (l := []) (X := .dead) (i := tok) (j := i) i2 i3
              rw [List.append_nil] at this
              rw [this]; exact hi)
          have F3 : Fr0 B h ((h2.set tok .dead).set pid2 (.blk (cellsT (addP x P1) (kvs2.set P.length (.slt (encN (ks ++ [P1.length])) h2.length))) (some 131)) ++ [.tok]) := F2'.trans ⟨by simp, fun i hi => by
            have hB := T2.lot _ _ _ hkv
            have i3 : i < h2.length := by have := T2.hl; omega
            rw [sa_ne (by omega) (by rw [hld]; exact i3)]
            have := sa_ne (h := h2) (l := []) (X := .dead) (i := tok) (j := i) (by omega) i3
            rwa [List.append_nil] at this⟩
          simp [splice] at hsp
          (repeat' first
    | apply X.retS
    | apply X.skipS
    | apply X.skipB
    | apply X.skipL
    | (apply X.exitS; first | apply X.here | (refine X.out (by decide) ?_; apply X.here))
    | apply X.blockS
    | (apply X.condQ rfl; (focus (simp only [sub, subO, subL, subM, sub3, sub2, fk_some, fk_none, fk_arg0, fk_argS, fk_argN, fk_map0, fk_mapS, fk_mapN, reduceIte, Nat.reduceEqDiff, Nat.reduceAdd, f0, f5, f26, f27, f28]; with_reducible rfl)); all_goals (intro hbr; first | exact absurd hbr (by decide) | ((try rw [hbr]); (try simp at hbr))))
    | apply X.stepZ
    | (apply X.stepQ rfl; (focus (simp only [sub, subO, subL, subM, sub3, sub2, fk_some, fk_none, fk_arg0, fk_argS, fk_argN, fk_map0, fk_mapS, fk_mapN, reduceIte, Nat.reduceEqDiff, Nat.reduceAdd, f0, f5, f26, f27, f28]; with_reducible rfl)); (focus (simp [-getElem?_pos]; with_reducible (first | rfl | exact ⟨rfl, rfl⟩))))
    | (apply X.stepNQ rfl; (focus (simp only [sub, subO, subL, subM, sub3, sub2, fk_some, fk_none, fk_arg0, fk_argS, fk_argN, fk_map0, fk_mapS, fk_mapN, reduceIte, Nat.reduceEqDiff, Nat.reduceAdd, f0, f5, f26, f27, f28]; with_reducible rfl)))
    | ((first | apply X.stepGtQ rfl | apply X.stepGfQ rfl); (focus (simp only [sub, subO, subL, subM, sub3, sub2, fk_some, fk_none, fk_arg0, fk_argS, fk_argN, fk_map0, fk_mapS, fk_mapN, reduceIte, Nat.reduceEqDiff, Nat.reduceAdd, f0, f5, f26, f27, f28]; with_reducible rfl)); all_goals (intro hbr; first | exact absurd hbr (by decide) | ((try rw [hbr]); (try simp at hbr))))
    | (apply X.draw0; (focus rfl))
    | (apply X.drawH0; (focus rfl))
    | apply XD.nil
    | (apply XD.calmQ rfl rfl; (focus (simp only [sub, subO, subL, subM, sub3, sub2, fk_some, fk_none, fk_arg0, fk_argS, fk_argN, fk_map0, fk_mapS, fk_mapN, reduceIte, Nat.reduceEqDiff, Nat.reduceAdd, f0, f5, f26, f27, f28]; with_reducible rfl)); (focus (simp [-getElem?_pos]; with_reducible (first | rfl | exact ⟨rfl, rfl⟩))))
    | (apply XD.callQ rfl; (focus (simp only [sub, subO, subL, subM, sub3, sub2, fk_some, fk_none, fk_arg0, fk_argS, fk_argN, fk_map0, fk_mapS, fk_mapN, reduceIte, Nat.reduceEqDiff, Nat.reduceAdd, f0, f5, f26, f27, f28]; simp; with_reducible rfl)); (focus (simp; with_reducible rfl)); (focus (simp [-getElem?_pos]; done)); (focus (simp [-getElem?_pos]; with_reducible rfl)))
    | (apply XD.stepNQ rfl; (focus (simp only [sub, subO, subL, subM, sub3, sub2, fk_some, fk_none, fk_arg0, fk_argS, fk_argN, fk_map0, fk_mapS, fk_mapN, reduceIte, Nat.reduceEqDiff, Nat.reduceAdd, f0, f5, f26, f27, f28]; with_reducible rfl)))
    | ((first | apply XD.stepGtQ rfl | apply XD.stepGfQ rfl); (focus (simp only [sub, subO, subL, subM, sub3, sub2, fk_some, fk_none, fk_arg0, fk_argS, fk_argN, fk_map0, fk_mapS, fk_mapN, reduceIte, Nat.reduceEqDiff, Nat.reduceAdd, f0, f5, f26, f27, f28]; with_reducible rfl)); all_goals (intro hbr; first | exact absurd hbr (by decide) | ((try rw [hbr]); (try simp at hbr))))
    | (apply XD.loudQ rfl; (focus (simp only [sub, subO, subL, subM, sub3, sub2, fk_some, fk_none, fk_arg0, fk_argS, fk_argN, fk_map0, fk_mapS, fk_mapN, reduceIte, Nat.reduceEqDiff, Nat.reduceAdd, f0, f5, f26, f27, f28]; with_reducible rfl)); (focus (simp; with_reducible rfl)); (focus (simp [-getElem?_pos]; with_reducible (first | rfl | exact ⟨rfl, rfl⟩))); (focus (simp; done)); (focus (simp [-getElem?_pos]; with_reducible rfl))))
          (refine X.drawO [tid, pid2] rfl ?_)
          (repeat' first
    | apply XR.nil
    | (apply XR.calmQ rfl rfl; (focus (simp only [sub, subO, subL, subM, sub3, sub2, fk_some, fk_none, fk_arg0, fk_argS, fk_argN, fk_map0, fk_mapS, fk_mapN, reduceIte, Nat.reduceEqDiff, Nat.reduceAdd, f0, f5, f26, f27, f28]; with_reducible rfl)); (focus (simp [-getElem?_pos, appendA, k3, hk2, hk4, hie, hlk, hgk, hs1, hep3, hsp3, hen, hP2, htl, hpl, hcl2, hd7, hcA, hcB, hcC, hsp, het, hep, g3, g4, hsp2, hww]; done)); (focus (simp [-getElem?_pos, appendA, k3, hk2, hk4, hie, hlk, hgk, hs1, hep3, hsp3, hen, hP2, htl, hpl, hcl2, hd7, hcA, hcB, hcC, hsp, het, hep, g3, g4, hsp2, hww]; with_reducible (first | rfl | exact ⟨rfl, rfl⟩))))
    | (apply XR.growQ rfl rfl rfl rfl; (focus (simp only [sub, subO, subL, subM, sub3, sub2, fk_some, fk_none, fk_arg0, fk_argS, fk_argN, fk_map0, fk_mapS, fk_mapN, reduceIte, Nat.reduceEqDiff, Nat.reduceAdd, f0, f5, f26, f27, f28]; with_reducible rfl)); (focus (simp; with_reducible rfl)); (focus (simp [-getElem?_pos, appendA, k3, hk2, hk4, hie, hlk, hgk, hs1, hep3, hsp3, hen, hP2, htl, hpl, hcl2, hd7, hcA, hcB, hcC, hsp, het, hep, g3, g4, hsp2, hww]; done)); (focus (simp [-getElem?_pos, appendA, k3, hk2, hk4, hie, hlk, hgk, hs1, hep3, hsp3, hen, hP2, htl, hpl, hcl2, hd7, hcA, hcB, hcC, hsp, het, hep, g3, g4, hsp2, hww]; done)); (focus (simp [-getElem?_pos, appendA, k3, hk2, hk4, hie, hlk, hgk, hs1, hep3, hsp3, hen, hP2, htl, hpl, hcl2, hd7, hcA, hcB, hcC, hsp, het, hep, g3, g4, hsp2, hww]; with_reducible (first | rfl | exact ⟨rfl, rfl⟩))); (focus (simp; done)); (focus (simp [-getElem?_pos, appendA, k3, hk2, hk4, hie, hlk, hgk, hs1, hep3, hsp3, hen, hP2, htl, hpl, hcl2, hd7, hcA, hcB, hcC, hsp, het, hep, g3, g4, hsp2, hww]; with_reducible rfl)))
    | (apply XR.loudQ rfl rfl; (focus (simp only [sub, subO, subL, subM, sub3, sub2, fk_some, fk_none, fk_arg0, fk_argS, fk_argN, fk_map0, fk_mapS, fk_mapN, reduceIte, Nat.reduceEqDiff, Nat.reduceAdd, f0, f5, f26, f27, f28]; with_reducible rfl)); (focus (simp; with_reducible rfl)); (focus (simp [-getElem?_pos, appendA, k3, hk2, hk4, hie, hlk, hgk, hs1, hep3, hsp3, hen, hP2, htl, hpl, hcl2, hd7, hcA, hcB, hcC, hsp, het, hep, g3, g4, hsp2, hww]; with_reducible (first | rfl | exact ⟨rfl, rfl⟩))); (focus (simp; done)); (focus (simp [-getElem?_pos, appendA, k3, hk2, hk4, hie, hlk, hgk, hs1, hep3, hsp3, hen, hP2, htl, hpl, hcl2, hd7, hcA, hcB, hcC, hsp, het, hep, g3, g4, hsp2, hww]; with_reducible rfl))))
          (repeat' first
    | apply X.retS
    | apply X.skipS
    | apply X.skipB
    | apply X.skipL
    | (apply X.exitS; first | apply X.here | (refine X.out (by decide) ?_; apply X.here))
    | apply X.blockS
    | (apply X.condQ rfl; (focus (simp only [sub, subO, subL, subM, sub3, sub2, fk_some, fk_none, fk_arg0, fk_argS, fk_argN, fk_map0, fk_mapS, fk_mapN, reduceIte, Nat.reduceEqDiff, Nat.reduceAdd, f0, f5, f26, f27, f28]; with_reducible rfl)); all_goals (intro hbr; first | exact absurd hbr (by decide) | ((try rw [hbr]); (try simp at hbr))))
    | apply X.stepZ
    | (apply X.stepQ rfl; (focus (simp only [sub, subO, subL, subM, sub3, sub2, fk_some, fk_none, fk_arg0, fk_argS, fk_argN, fk_map0, fk_mapS, fk_mapN, reduceIte, Nat.reduceEqDiff, Nat.reduceAdd, f0, f5, f26, f27, f28]; with_reducible rfl)); (focus (simp [-getElem?_pos, hww]; with_reducible (first | rfl | exact ⟨rfl, rfl⟩))))
    | (apply X.stepNQ rfl; (focus (simp only [sub, subO, subL, subM, sub3, sub2, fk_some, fk_none, fk_arg0, fk_argS, fk_argN, fk_map0, fk_mapS, fk_mapN, reduceIte, Nat.reduceEqDiff, Nat.reduceAdd, f0, f5, f26, f27, f28]; with_reducible rfl)))
    | ((first | apply X.stepGtQ rfl | apply X.stepGfQ rfl); (focus (simp only [sub, subO, subL, subM, sub3, sub2, fk_some, fk_none, fk_arg0, fk_argS, fk_argN, fk_map0, fk_mapS, fk_mapN, reduceIte, Nat.reduceEqDiff, Nat.reduceAdd, f0, f5, f26, f27, f28]; with_reducible rfl)); all_goals (intro hbr; first | exact absurd hbr (by decide) | ((try rw [hbr]); (try simp at hbr))))
    | (apply X.draw0; (focus rfl))
    | (apply X.drawH0; (focus rfl))
    | apply XD.nil
    | (apply XD.calmQ rfl rfl; (focus (simp only [sub, subO, subL, subM, sub3, sub2, fk_some, fk_none, fk_arg0, fk_argS, fk_argN, fk_map0, fk_mapS, fk_mapN, reduceIte, Nat.reduceEqDiff, Nat.reduceAdd, f0, f5, f26, f27, f28]; with_reducible rfl)); (focus (simp [-getElem?_pos, hww]; with_reducible (first | rfl | exact ⟨rfl, rfl⟩))))
    | (apply XD.callQ rfl; (focus (simp only [sub, subO, subL, subM, sub3, sub2, fk_some, fk_none, fk_arg0, fk_argS, fk_argN, fk_map0, fk_mapS, fk_mapN, reduceIte, Nat.reduceEqDiff, Nat.reduceAdd, f0, f5, f26, f27, f28]; simp; with_reducible rfl)); (focus (simp; with_reducible rfl)); (focus (simp [-getElem?_pos, hww]; done)); (focus (simp [-getElem?_pos, hww]; with_reducible rfl)))
    | (apply XD.stepNQ rfl; (focus (simp only [sub, subO, subL, subM, sub3, sub2, fk_some, fk_none, fk_arg0, fk_argS, fk_argN, fk_map0, fk_mapS, fk_mapN, reduceIte, Nat.reduceEqDiff, Nat.reduceAdd, f0, f5, f26, f27, f28]; with_reducible rfl)))
    | ((first | apply XD.stepGtQ rfl | apply XD.stepGfQ rfl); (focus (simp only [sub, subO, subL, subM, sub3, sub2, fk_some, fk_none, fk_arg0, fk_argS, fk_argN, fk_map0, fk_mapS, fk_mapN, reduceIte, Nat.reduceEqDiff, Nat.reduceAdd, f0, f5, f26, f27, f28]; with_reducible rfl)); all_goals (intro hbr; first | exact absurd hbr (by decide) | ((try rw [hbr]); (try simp at hbr))))
    | (apply XD.loudQ rfl; (focus (simp only [sub, subO, subL, subM, sub3, sub2, fk_some, fk_none, fk_arg0, fk_argS, fk_argN, fk_map0, fk_mapS, fk_mapN, reduceIte, Nat.reduceEqDiff, Nat.reduceAdd, f0, f5, f26, f27, f28]; with_reducible rfl)); (focus (simp; with_reducible rfl)); (focus (simp [-getElem?_pos, hww]; with_reducible (first | rfl | exact ⟨rfl, rfl⟩))); (focus (simp; done)); (focus (simp [-getElem?_pos, hww]; with_reducible rfl))))
          all_goals exact ⟨hj1, _, Lng.push P.length P1.length (addP x P1), _, _, ⟨T3, F3, hi, by rw [push_len, hl2]; omega, ks ++ [P1.length], push_at hat, by simp; omega⟩, by simp [f0, f5, f26, f27], rfl⟩
    · have hj2 : ¬ j < c.l.length := by omega
      rw [List.drop_eq_nil_of_le hj1] at hi
      simp only [addP.addL] at hi
      clear ih
      (repeat' first
    | apply X.retS
    | apply X.skipS
    | apply X.skipB
    | apply X.skipL
    | (apply X.exitS; first | apply X.here | (refine X.out (by decide) ?_; apply X.here))
    | apply X.blockS
    | (apply X.condQ rfl; (focus (simp only [sub, subO, subL, subM, sub3, sub2, fk_some, fk_none, fk_arg0, fk_argS, fk_argN, fk_map0, fk_mapS, fk_mapN, reduceIte, Nat.reduceEqDiff, Nat.reduceAdd, f0, f5, f26, f27, f28]; with_reducible rfl)); all_goals (intro hbr; first | exact absurd hbr (by decide) | ((try rw [hbr]); (try simp at hbr))))
    | apply X.stepZ
    | (apply X.stepQ rfl; (focus (simp only [sub, subO, subL, subM, sub3, sub2, fk_some, fk_none, fk_arg0, fk_argS, fk_argN, fk_map0, fk_mapS, fk_mapN, reduceIte, Nat.reduceEqDiff, Nat.reduceAdd, f0, f5, f26, f27, f28]; with_reducible rfl)); (focus (simp [-getElem?_pos, hj2]; with_reducible (first | rfl | exact ⟨rfl, rfl⟩))))
    | (apply X.stepNQ rfl; (focus (simp only [sub, subO, subL, subM, sub3, sub2, fk_some, fk_none, fk_arg0, fk_argS, fk_argN, fk_map0, fk_mapS, fk_mapN, reduceIte, Nat.reduceEqDiff, Nat.reduceAdd, f0, f5, f26, f27, f28]; with_reducible rfl)))
    | ((first | apply X.stepGtQ rfl | apply X.stepGfQ rfl); (focus (simp only [sub, subO, subL, subM, sub3, sub2, fk_some, fk_none, fk_arg0, fk_argS, fk_argN, fk_map0, fk_mapS, fk_mapN, reduceIte, Nat.reduceEqDiff, Nat.reduceAdd, f0, f5, f26, f27, f28]; with_reducible rfl)); all_goals (intro hbr; first | exact absurd hbr (by decide) | ((try rw [hbr]); (try simp at hbr))))
    | (apply X.draw0; (focus rfl))
    | (apply X.drawH0; (focus rfl))
    | apply XD.nil
    | (apply XD.calmQ rfl rfl; (focus (simp only [sub, subO, subL, subM, sub3, sub2, fk_some, fk_none, fk_arg0, fk_argS, fk_argN, fk_map0, fk_mapS, fk_mapN, reduceIte, Nat.reduceEqDiff, Nat.reduceAdd, f0, f5, f26, f27, f28]; with_reducible rfl)); (focus (simp [-getElem?_pos, hj2]; with_reducible (first | rfl | exact ⟨rfl, rfl⟩))))
    | (apply XD.callQ rfl; (focus (simp only [sub, subO, subL, subM, sub3, sub2, fk_some, fk_none, fk_arg0, fk_argS, fk_argN, fk_map0, fk_mapS, fk_mapN, reduceIte, Nat.reduceEqDiff, Nat.reduceAdd, f0, f5, f26, f27, f28]; simp; with_reducible rfl)); (focus (simp; with_reducible rfl)); (focus (simp [-getElem?_pos, hj2]; done)); (focus (simp [-getElem?_pos, hj2]; with_reducible rfl)))
    | (apply XD.stepNQ rfl; (focus (simp only [sub, subO, subL, subM, sub3, sub2, fk_some, fk_none, fk_arg0, fk_argS, fk_argN, fk_map0, fk_mapS, fk_mapN, reduceIte, Nat.reduceEqDiff, Nat.reduceAdd, f0, f5, f26, f27, f28]; with_reducible rfl)))
    | ((first | apply XD.stepGtQ rfl | apply XD.stepGfQ rfl); (focus (simp only [sub, subO, subL, subM, sub3, sub2, fk_some, fk_none, fk_arg0, fk_argS, fk_argN, fk_map0, fk_mapS, fk_mapN, reduceIte, Nat.reduceEqDiff, Nat.reduceAdd, f0, f5, f26, f27, f28]; with_reducible rfl)); all_goals (intro hbr; first | exact absurd hbr (by decide) | ((try rw [hbr]); (try simp at hbr))))
    | (apply XD.loudQ rfl; (focus (simp only [sub, subO, subL, subM, sub3, sub2, fk_some, fk_none, fk_arg0, fk_argS, fk_argN, fk_map0, fk_mapS, fk_mapN, reduceIte, Nat.reduceEqDiff, Nat.reduceAdd, f0, f5, f26, f27, f28]; with_reducible rfl)); (focus (simp; with_reducible rfl)); (focus (simp [-getElem?_pos, hj2]; with_reducible (first | rfl | exact ⟨rfl, rfl⟩))); (focus (simp; done)); (focus (simp [-getElem?_pos, hj2]; with_reducible rfl))))
      all_goals exact FinE.retQ rfl (by simp only [resS, sub, subO, subL, subM, sub3, sub2, fk_some, fk_none, fk_arg0, fk_argS, fk_argN, fk_map0, fk_mapS, fk_mapN, reduceIte, Nat.reduceEqDiff, Nat.reduceAdd, f0, f5]; with_reducible rfl) ⟨rfl, kvs1, by rw [← hi]; exact T1, F1⟩
  · have hcl := cellsT_len _ _ T.len
    have hpl : pid < h.length := lt_of_ent' (by rw [h4]; simp)
    have hPp : 0 < P.length := List.length_pos_iff.2 h1
    have hne : pid ≠ tid := by
      rintro rfl
      rw [h4] at h3
      have := congrArg (fun e => match e with | Ent.blk cs _ => cs.length | _ => 0) h3
      simp only [hcl, List.length_cons, List.length_nil] at this
      omega
    have hld : (h.set pid .dead).length = h.length := by simp
    have htd : tid < (h.set pid .dead).length := by rw [hld]; exact hlt
    have hdd : ∀ i, i ≠ pid → i < h.length → ent (h.set pid .dead) i = ent h i := fun i i1 i2 => by
      have := sa_ne (h := h) (l := []) (X := .dead) (i := pid) (j := i) i1 i2
      rwa [List.append_nil] at this
    have et : ∀ l, ent (h ++ l) tid = .blk [.sln pid 0 P.length 8 true, b, e] tt := fun l => ent_app h3 (by simp)
    have ep : ∀ l, ent (h ++ l) pid = .blk (cellsT P kvs) (some 131) := fun l => ent_app h4 (by simp)
    have hsp : ∀ (l : Heap) (X : Ent), (h ++ l).set pid X = h.set pid X ++ l := fun l X => List.set_append_left _ _ hpl
    have et2 : ∀ l, ent (h.set pid .dead ++ l) tid = .blk [.sln pid 0 P.length 8 true, b, e] tt := fun l => (sa_ne (Ne.symm hne) hlt).trans h3
    have hst2 : ∀ (l : Heap) (X : Ent), (h.set pid .dead ++ l).set tid X = (h.set pid .dead).set tid X ++ l := fun l X => List.set_append_left _ _ htd
    have hsl2 : ∀ (X : Ent) (l : Heap), ent ((h.set pid .dead).set tid X ++ l) h.length = ent l 0 := fun X l => by
      have := sa_at (h := h.set pid .dead) (i := tid) (X := X) (l := l) (n := 0)
      rw [hld] at this; exact this
    have hgr : (P.length + 1) * 96 ≤ 35184372088832 := by omega
    have hne' := hne.symm
    have T' := T.new c (h' := (h.set pid .dead).set tid (Ent.blk [V.sln (h.length + 2) 0 (P.length + 1) 8 true, b, e] tt) ++ [Ent.blk [.pv (.int .i64 c.k), .pv (.int .u64 c.s0), .pv (.int .u64 c.s1), .pv (.int .u64 c.s2), .pv (.int .u64 c.s3), .pv (.int .i64 c.n), .pv (.sl (c.l.map encC))] none, Ent.blk [.pv (.int .i64 c.k), .pv (.int .u64 c.s0), .pv (.int .u64 c.s1), .pv (.int .u64 c.s2), .pv (.int .u64 c.s3), .pv (.int .i64 c.n), .pv (.sl (c.l.map encC)), .nils] none, Ent.blk (cellsT P kvs ++ [.pv (.int .i64 c.k), .pv (.int .u64 c.s0), .pv (.int .u64 c.s1), .pv (.int .u64 c.s2), .pv (.int .u64 c.s3), .pv (.int .i64 c.n), .pv (.sl (c.l.map encC)), .nils]) (some 131)]) (pid := h.length + 2) (by simp) (by omega)
      (sa_self htd) (by have := sa_at (h := h.set pid .dead) (i := tid) (X := Ent.blk [V.sln (h.length + 2) 0 (P.length + 1) 8 true, b, e] tt) (l := [Ent.blk [.pv (.int .i64 c.k), .pv (.int .u64 c.s0), .pv (.int .u64 c.s1), .pv (.int .u64 c.s2), .pv (.int .u64 c.s3), .pv (.int .i64 c.n), .pv (.sl (c.l.map encC))] none, Ent.blk [.pv (.int .i64 c.k), .pv (.int .u64 c.s0), .pv (.int .u64 c.s1), .pv (.int .u64 c.s2), .pv (.int .u64 c.s3), .pv (.int .i64 c.n), .pv (.sl (c.l.map encC)), .nils] none, Ent.blk (cellsT P kvs ++ [.pv (.int .i64 c.k), .pv (.int .u64 c.s0), .pv (.int .u64 c.s1), .pv (.int .u64 c.s2), .pv (.int .u64 c.s3), .pv (.int .i64 c.n), .pv (.sl (c.l.map encC)), .nils]) (some 131)]) (n := 2); rw [hld] at this; rw [this]; rfl)
      (fun i hi => by
        have i1 : i ≠ tid := by rintro rfl; rw [h3] at hi; cases hi
        have i2 : i ≠ pid := by rintro rfl; rw [h4] at hi; cases hi
        have i3 : i < h.length := lt_of_ent' (by rw [hi]; simp)
        rw [sa_ne i1 (by rw [hld]; exact i3), hdd i i2 i3]; exact hi)
    have F' : Fr0 B h ((h.set pid .dead).set tid (Ent.blk [V.sln (h.length + 2) 0 (P.length + 1) 8 true, b, e] tt) ++ [Ent.blk [.pv (.int .i64 c.k), .pv (.int .u64 c.s0), .pv (.int .u64 c.s1), .pv (.int .u64 c.s2), .pv (.int .u64 c.s3), .pv (.int .i64 c.n), .pv (.sl (c.l.map encC))] none, Ent.blk [.pv (.int .i64 c.k), .pv (.int .u64 c.s0), .pv (.int .u64 c.s1), .pv (.int .u64 c.s2), .pv (.int .u64 c.s3), .pv (.int .i64 c.n), .pv (.sl (c.l.map encC)), .nils] none, Ent.blk (cellsT P kvs ++ [.pv (.int .i64 c.k), .pv (.int .u64 c.s0), .pv (.int .u64 c.s1), .pv (.int .u64 c.s2), .pv (.int .u64 c.s3), .pv (.int .i64 c.n), .pv (.sl (c.l.map encC)), .nils]) (some 131)]) := ⟨by simp, fun i hi => by
      rw [sa_ne (by omega) (by rw [hld]; omega), hdd i (by omega) (by omega)]⟩
    (repeat' first
    | apply X.retS
    | apply X.skipS
    | apply X.skipB
    | apply X.skipL
    | (apply X.exitS; first | apply X.here | (refine X.out (by decide) ?_; apply X.here))
    | apply X.blockS
    | (apply X.condQ rfl; (focus (simp only [sub, subO, subL, subM, sub3, sub2, fk_some, fk_none, fk_arg0, fk_argS, fk_argN, fk_map0, fk_mapS, fk_mapN, reduceIte, Nat.reduceEqDiff, Nat.reduceAdd]; with_reducible rfl)); all_goals (intro hbr; first | exact absurd hbr (by decide) | ((try rw [hbr]); (try simp at hbr))))
    | apply X.stepZ
    | (apply X.stepQ rfl; (focus (simp only [sub, subO, subL, subM, sub3, sub2, fk_some, fk_none, fk_arg0, fk_argS, fk_argN, fk_map0, fk_mapS, fk_mapN, reduceIte, Nat.reduceEqDiff, Nat.reduceAdd]; with_reducible rfl)); (focus (simp [-getElem?_pos, et, ep, hsp, et2, hst2, hsl2, hgr, hcl, hne, hne', appendA, hst, hsl]; with_reducible (first | rfl | exact ⟨rfl, rfl⟩))))
    | (apply X.stepNQ rfl; (focus (simp only [sub, subO, subL, subM, sub3, sub2, fk_some, fk_none, fk_arg0, fk_argS, fk_argN, fk_map0, fk_mapS, fk_mapN, reduceIte, Nat.reduceEqDiff, Nat.reduceAdd]; with_reducible rfl)))
    | ((first | apply X.stepGtQ rfl | apply X.stepGfQ rfl); (focus (simp only [sub, subO, subL, subM, sub3, sub2, fk_some, fk_none, fk_arg0, fk_argS, fk_argN, fk_map0, fk_mapS, fk_mapN, reduceIte, Nat.reduceEqDiff, Nat.reduceAdd]; with_reducible rfl)); all_goals (intro hbr; first | exact absurd hbr (by decide) | ((try rw [hbr]); (try simp at hbr))))
    | (apply X.draw0; (focus rfl))
    | (apply X.drawH0; (focus rfl))
    | apply XD.nil
    | (apply XD.calmQ rfl rfl; (focus (simp only [sub, subO, subL, subM, sub3, sub2, fk_some, fk_none, fk_arg0, fk_argS, fk_argN, fk_map0, fk_mapS, fk_mapN, reduceIte, Nat.reduceEqDiff, Nat.reduceAdd]; with_reducible rfl)); (focus (simp [-getElem?_pos, et, ep, hsp, et2, hst2, hsl2, hgr, hcl, hne, hne', appendA, hst, hsl]; with_reducible (first | rfl | exact ⟨rfl, rfl⟩))))
    | (apply XD.callQ rfl; (focus (simp only [sub, subO, subL, subM, sub3, sub2, fk_some, fk_none, fk_arg0, fk_argS, fk_argN, fk_map0, fk_mapS, fk_mapN, reduceIte, Nat.reduceEqDiff, Nat.reduceAdd]; simp; with_reducible rfl)); (focus (simp; with_reducible rfl)); (focus (simp [-getElem?_pos, et, ep, hsp, et2, hst2, hsl2, hgr, hcl, hne, hne', appendA, hst, hsl]; done)); (focus (simp [-getElem?_pos, et, ep, hsp, et2, hst2, hsl2, hgr, hcl, hne, hne', appendA, hst, hsl]; with_reducible rfl)))
    | (apply XD.stepNQ rfl; (focus (simp only [sub, subO, subL, subM, sub3, sub2, fk_some, fk_none, fk_arg0, fk_argS, fk_argN, fk_map0, fk_mapS, fk_mapN, reduceIte, Nat.reduceEqDiff, Nat.reduceAdd]; with_reducible rfl)))
    | ((first | apply XD.stepGtQ rfl | apply XD.stepGfQ rfl); (focus (simp only [sub, subO, subL, subM, sub3, sub2, fk_some, fk_none, fk_arg0, fk_argS, fk_argN, fk_map0, fk_mapS, fk_mapN, reduceIte, Nat.reduceEqDiff, Nat.reduceAdd]; with_reducible rfl)); all_goals (intro hbr; first | exact absurd hbr (by decide) | ((try rw [hbr]); (try simp at hbr))))
    | (apply XD.loudQ rfl; (focus (simp only [sub, subO, subL, subM, sub3, sub2, fk_some, fk_none, fk_arg0, fk_argS, fk_argN, fk_map0, fk_mapS, fk_mapN, reduceIte, Nat.reduceEqDiff, Nat.reduceAdd]; with_reducible rfl)); (focus (simp; with_reducible rfl)); (focus (simp [-getElem?_pos, et, ep, hsp, et2, hst2, hsl2, hgr, hcl, hne, hne', appendA, hst, hsl]; with_reducible (first | rfl | exact ⟨rfl, rfl⟩))); (focus (simp; done)); (focus (simp [-getElem?_pos, et, ep, hsp, et2, hst2, hsl2, hgr, hcl, hne, hne', appendA, hst, hsl]; with_reducible rfl))))
    refine X.forS c.l.length (fun j st => ∃ (hh : Heap) (P1 : List Pt) (kvs1 : List V) (f : Nat → V), (Tab B hh tid tt P1 kvs1 b e ∧ Fr0 B h hh ∧ addP.addL P.length (c.l.drop j) P1 = addP.addL P.length c.l (P ++ [(c, [])]) ∧
      P1.length + nodes.nodesL (c.l.drop j) ≤ 1000000 ∧ ∃ ks : List Nat, P1[P.length]? = some (c, ks) ∧ ks.length = j) ∧
      (fk (Fk.mk (f := f)) 0 = .ptr tid 0 ∧ fk (Fk.mk (f := f)) 5 = .pv (.int .i64 (P.length : Int)) ∧ fk (Fk.mk (f := f)) 26 = .pv (.sl (c.l.map encC)) ∧ fk (Fk.mk (f := f)) 27 = .pv (.int .i64 c.l.length) ∧ fk (Fk.mk (f := f)) 28 = .pv (.int .i64 j)) ∧ st = ⟨TL 55 f, hh⟩) ?_ ?_
    · refine ⟨_, P ++ [(c, [])], kvs ++ [.nils], _, ⟨T', F', rfl, by simp only [List.drop_zero, List.length_append, List.length_singleton]; omega, [], by simp, rfl⟩, ?_, rfl⟩
      simp
    clear T' F'
    rintro j st hj ⟨hh, P1, kvs1, f, ⟨T1, F1, hi, hle1, ks, hks, hkl⟩, ⟨f0, f5, f26, f27, f28⟩, rfl⟩
    rcases Nat.lt_or_ge j c.l.length with hj1 | hj1
    · obtain ⟨x, hx⟩ := at_of_lt hj1
      have hxm := List.mem_of_getElem? hx
      have hww : IntKind.i64.wrap ((j : Int) + 1) = (j : Int) + 1 := wrap_i64 (by omega)
      rw [drop_at hx] at hi hle1
      simp only [addP.addL, nodes.nodesL] at hi hle1
      have hc := ih x hxm (hf2 x hxm) B _ tid tt P1 kvs1 b e (T1.more (l := [Ent.blk [.pv (.int .i64 x.k), .pv (.int .u64 x.s0), .pv (.int .u64 x.s1), .pv (.int .u64 x.s2), .pv (.int .u64 x.s3), .pv (.int .i64 x.n), .pv (.sl (x.l.map encC))] (some 43)])) (by omega)
      obtain ⟨hl2, hp2⟩ := addP_facts x P1
      clear ih
      rw [eC x] at hc
      (repeat' first
    | apply X.retS
    | apply X.skipS
    | apply X.skipB
    | apply X.skipL
    | (apply X.exitS; first | apply X.here | (refine X.out (by decide) ?_; apply X.here))
    | apply X.blockS
    | (apply X.condQ rfl; (focus (simp only [sub, subO, subL, subM, sub3, sub2, fk_some, fk_none, fk_arg0, fk_argS, fk_argN, fk_map0, fk_mapS, fk_mapN, reduceIte, Nat.reduceEqDiff, Nat.reduceAdd, f0, f5, f26, f27, f28]; with_reducible rfl)); all_goals (intro hbr; first | exact absurd hbr (by decide) | ((try rw [hbr]); (try simp at hbr))))
    | apply X.stepZ
    | (apply X.stepQ rfl; (focus (simp only [sub, subO, subL, subM, sub3, sub2, fk_some, fk_none, fk_arg0, fk_argS, fk_argN, fk_map0, fk_mapS, fk_mapN, reduceIte, Nat.reduceEqDiff, Nat.reduceAdd, f0, f5, f26, f27, f28]; with_reducible rfl)); (focus (simp [-getElem?_pos, hj1, hx, eC x, hww, set_new, ent_new]; with_reducible (first | rfl | exact ⟨rfl, rfl⟩))))
    | (apply X.stepNQ rfl; (focus (simp only [sub, subO, subL, subM, sub3, sub2, fk_some, fk_none, fk_arg0, fk_argS, fk_argN, fk_map0, fk_mapS, fk_mapN, reduceIte, Nat.reduceEqDiff, Nat.reduceAdd, f0, f5, f26, f27, f28]; with_reducible rfl)))
    | ((first | apply X.stepGtQ rfl | apply X.stepGfQ rfl); (focus (simp only [sub, subO, subL, subM, sub3, sub2, fk_some, fk_none, fk_arg0, fk_argS, fk_argN, fk_map0, fk_mapS, fk_mapN, reduceIte, Nat.reduceEqDiff, Nat.reduceAdd, f0, f5, f26, f27, f28]; with_reducible rfl)); all_goals (intro hbr; first | exact absurd hbr (by decide) | ((try rw [hbr]); (try simp at hbr))))
    | (apply X.draw0; (focus rfl))
    | (apply X.drawH0; (focus rfl))
    | apply XD.nil
    | (apply XD.calmQ rfl rfl; (focus (simp only [sub, subO, subL, subM, sub3, sub2, fk_some, fk_none, fk_arg0, fk_argS, fk_argN, fk_map0, fk_mapS, fk_mapN, reduceIte, Nat.reduceEqDiff, Nat.reduceAdd, f0, f5, f26, f27, f28]; with_reducible rfl)); (focus (simp [-getElem?_pos, hj1, hx, eC x, hww, set_new, ent_new]; with_reducible (first | rfl | exact ⟨rfl, rfl⟩))))
    | (apply XD.callQ rfl; (focus (simp only [sub, subO, subL, subM, sub3, sub2, fk_some, fk_none, fk_arg0, fk_argS, fk_argN, fk_map0, fk_mapS, fk_mapN, reduceIte, Nat.reduceEqDiff, Nat.reduceAdd, f0, f5, f26, f27, f28]; simp; with_reducible rfl)); (focus (simp; with_reducible rfl)); (focus (simp [-getElem?_pos, hj1, hx, eC x, hww, set_new, ent_new]; done)); (focus (simp [-getElem?_pos, hj1, hx, eC x, hww, set_new, ent_new]; with_reducible rfl)))
    | (apply XD.stepNQ rfl; (focus (simp only [sub, subO, subL, subM, sub3, sub2, fk_some, fk_none, fk_arg0, fk_argS, fk_argN, fk_map0, fk_mapS, fk_mapN, reduceIte, Nat.reduceEqDiff, Nat.reduceAdd, f0, f5, f26, f27, f28]; with_reducible rfl)))
    | ((first | apply XD.stepGtQ rfl | apply XD.stepGfQ rfl); (focus (simp only [sub, subO, subL, subM, sub3, sub2, fk_some, fk_none, fk_arg0, fk_argS, fk_argN, fk_map0, fk_mapS, fk_mapN, reduceIte, Nat.reduceEqDiff, Nat.reduceAdd, f0, f5, f26, f27, f28]; with_reducible rfl)); all_goals (intro hbr; first | exact absurd hbr (by decide) | ((try rw [hbr]); (try simp at hbr))))
    | (apply XD.loudQ rfl; (focus (simp only [sub, subO, subL, subM, sub3, sub2, fk_some, fk_none, fk_arg0, fk_argS, fk_argN, fk_map0, fk_mapS, fk_mapN, reduceIte, Nat.reduceEqDiff, Nat.reduceAdd, f0, f5, f26, f27, f28]; with_reducible rfl)); (focus (simp; with_reducible rfl)); (focus (simp [-getElem?_pos, hj1, hx, eC x, hww, set_new, ent_new]; with_reducible (first | rfl | exact ⟨rfl, rfl⟩))); (focus (simp; done)); (focus (simp [-getElem?_pos, hj1, hx, eC x, hww, set_new, ent_new]; with_reducible rfl))))
      refine X.callRQ (P := fun v h2 => v = .pv (.int .i64 (P1.length : Int)) ∧ ∃ kvs', Tab B h2 tid tt (addP x P1) kvs' b e ∧ Fr0 B (hh ++ [Ent.blk [.pv (.int .i64 x.k), .pv (.int .u64 x.s0), .pv (.int .u64 x.s1), .pv (.int .u64 x.s2), .pv (.int .u64 x.s3), .pv (.int .i64 x.n), .pv (.sl (x.l.map encC))] (some 43)]) h2) rfl
        (by simp only [sub, subO, subL, subM, sub3, sub2, fk_some, fk_none, fk_arg0, fk_argS, fk_argN, fk_map0, fk_mapS, fk_mapN, reduceIte, Nat.reduceEqDiff, Nat.reduceAdd, f0, f5, f26, f27, f28]; simp; with_reducible rfl) HH.add.raw (by simp [pures]) (by simpa using hc) ?_
      rintro v h2 ⟨rfl, kvs2, T2, F2⟩
      have F2' : Fr0 B h h2 := F1.trans ((Fr0.more (by have := T1.hl; omega)).trans F2)
      have hat : (addP x P1)[P.length]? = some (c, ks) := by rw [hp2 _ (lt_of_at hks)]; exact hks
      obtain ⟨kv, hkv⟩ := at_of_lt (l := kvs2) (j := P.length) (by rw [T2.len]; exact lt_of_at hat)
      have hrow := T2.rows _ _ _ hat hkv
      rcases T2.t with ⟨g1, _⟩ | ⟨g1, pid2, g2, g3, g4⟩
      · rw [g1] at hat; simp at hat
      · have hP2 : P.length < (addP x P1).length := lt_of_at hat
        have hcl2 := cellsT_len _ _ T2.len
        obtain ⟨rr, hrr⟩ := cellsT_at _ _ _ _ _ hat hkv
        have hd7 : (cellsT (addP x P1) kvs2).drop (P.length * 8 + 7) = kv :: rr := by rw [← List.drop_drop, hrr]; simp [coreV]
        have hcA : P.length * 8 + 7 + 1 ≤ (addP x P1).length * 8 := by omega
        have hcB : P.length * 8 + 7 < (addP x P1).length * 8 := by omega
        have hcC : P.length * 8 + 8 ≤ (addP x P1).length * 8 := by omega
        have hsp : ∀ v : V, splice (cellsT (addP x P1) kvs2) (P.length * 8 + 7) [v] = cellsT (addP x P1) (kvs2.set P.length v) := fun v => by rw [splice_one (by rw [hcl2]; exact hcB), cellsT_set v _ _ _ T2.len hP2]
        have het : ∀ l, ent (h2 ++ l) tid = _ := fun l => ent_app g3 (by simp)
        have hep : ∀ l, ent (h2 ++ l) pid2 = _ := fun l => ent_app g4 (by simp)
        have hpl : pid2 < h2.length := lt_of_ent' (by rw [g4]; simp)
        have htl : tid < h2.length := lt_of_ent' (by rw [g3]; simp)
        have hne : pid2 ≠ tid := by
          rintro rfl
          rw [g4] at g3
          have := congrArg (fun e => match e with | Ent.blk cs _ => cs.length | _ => 0) g3
          simp only [hcl2, List.length_cons, List.length_nil] at this
          omega
        have hsp2 : ∀ (l : Heap) (X : Ent), (h2 ++ l).set pid2 X = h2.set pid2 X ++ l := fun l X => List.set_append_left _ _ hpl
        have hen : encN ks ++ [PV.int .i64 (P1.length : Int)] = encN (ks ++ [P1.length]) := by simp [encN]
        have hnl := nodesL_len c.l
        rcases hrow with ⟨k1, k2⟩ | ⟨k1, tok, k2, k3⟩
        · have hks0 : ks = [] := by simpa [encN] using k1
          subst hks0
          subst k2
          have T3 := T2.kid hat hkv (h' := h2.set pid2 (.blk (cellsT (addP x P1) (kvs2.set P.length (.slt (encN ([] ++ [P1.length])) h2.length))) (some 131)) ++ [.tok]) (pid := pid2) (tk := h2.length) (k := P1.length) (by simp) g2 (Nat.le_refl _)
            (by rw [sa_ne (Ne.symm hne) htl]; exact g3) (sa_self hpl) (by have := sa_at (h := h2) (i := pid2) (n := 0) (l := [Ent.tok]) (X := .blk (cellsT (addP x P1) (kvs2.set P.length (.slt (encN ([] ++ [P1.length])) h2.length))) (some 131)); exact this)
            (fun i hi _ => by rw [sa_ne (by rintro rfl; rw [g4] at hi; cases hi) (lt_of_ent' (by rw [hi]; simp))]; exact hi)
          have F3 : Fr0 B h (h2.set pid2 (.blk (cellsT (addP x P1) (kvs2.set P.length (.slt (encN ([] ++ [P1.length])) h2.length))) (some 131)) ++ [.tok]) := F2'.trans ⟨by simp, fun i hi => sa_ne (by omega) (by have := T2.hl; omega)⟩
          simp only [List.nil_append] at hen T3 F3
          simp [splice] at hsp
          have hen0 : [PV.int .i64 (P1.length : Int)] = encN [P1.length] := rfl
          (repeat' first
    | apply X.retS
    | apply X.skipS
    | apply X.skipB
    | apply X.skipL
    | (apply X.exitS; first | apply X.here | (refine X.out (by decide) ?_; apply X.here))
    | apply X.blockS
    | (apply X.condQ rfl; (focus (simp only [sub, subO, subL, subM, sub3, sub2, fk_some, fk_none, fk_arg0, fk_argS, fk_argN, fk_map0, fk_mapS, fk_mapN, reduceIte, Nat.reduceEqDiff, Nat.reduceAdd, f0, f5, f26, f27, f28]; with_reducible rfl)); all_goals (intro hbr; first | exact absurd hbr (by decide) | ((try rw [hbr]); (try simp at hbr))))
    | apply X.stepZ
    | (apply X.stepQ rfl; (focus (simp only [sub, subO, subL, subM, sub3, sub2, fk_some, fk_none, fk_arg0, fk_argS, fk_argN, fk_map0, fk_mapS, fk_mapN, reduceIte, Nat.reduceEqDiff, Nat.reduceAdd, f0, f5, f26, f27, f28]; with_reducible rfl)); (focus (simp [-getElem?_pos]; with_reducible (first | rfl | exact ⟨rfl, rfl⟩))))
    | (apply X.stepNQ rfl; (focus (simp only [sub, subO, subL, subM, sub3, sub2, fk_some, fk_none, fk_arg0, fk_argS, fk_argN, fk_map0, fk_mapS, fk_mapN, reduceIte, Nat.reduceEqDiff, Nat.reduceAdd, f0, f5, f26, f27, f28]; with_reducible rfl)))
    | ((first | apply X.stepGtQ rfl | apply X.stepGfQ rfl); (focus (simp only [sub, subO, subL, subM, sub3, sub2, fk_some, fk_none, fk_arg0, fk_argS, fk_argN, fk_map0, fk_mapS, fk_mapN, reduceIte, Nat.reduceEqDiff, Nat.reduceAdd, f0, f5, f26, f27, f28]; with_reducible rfl)); all_goals (intro hbr; first | exact absurd hbr (by decide) | ((try rw [hbr]); (try simp at hbr))))
    | (apply X.draw0; (focus rfl))
    | (apply X.drawH0; (focus rfl))
    | apply XD.nil
    | (apply XD.calmQ rfl rfl; (focus (simp only [sub, subO, subL, subM, sub3, sub2, fk_some, fk_none, fk_arg0, fk_argS, fk_argN, fk_map0, fk_mapS, fk_mapN, reduceIte, Nat.reduceEqDiff, Nat.reduceAdd, f0, f5, f26, f27, f28]; with_reducible rfl)); (focus (simp [-getElem?_pos]; with_reducible (first | rfl | exact ⟨rfl, rfl⟩))))
    | (apply XD.callQ rfl; (focus (simp only [sub, subO, subL, subM, sub3, sub2, fk_some, fk_none, fk_arg0, fk_argS, fk_argN, fk_map0, fk_mapS, fk_mapN, reduceIte, Nat.reduceEqDiff, Nat.reduceAdd, f0, f5, f26, f27, f28]; simp; with_reducible rfl)); (focus (simp; with_reducible rfl)); (focus (simp [-getElem?_pos]; done)); (focus (simp [-getElem?_pos]; with_reducible rfl)))
    | (apply XD.stepNQ rfl; (focus (simp only [sub, subO, subL, subM, sub3, sub2, fk_some, fk_none, fk_arg0, fk_argS, fk_argN, fk_map0, fk_mapS, fk_mapN, reduceIte, Nat.reduceEqDiff, Nat.reduceAdd, f0, f5, f26, f27, f28]; with_reducible rfl)))
    | ((first | apply XD.stepGtQ rfl | apply XD.stepGfQ rfl); (focus (simp only [sub, subO, subL, subM, sub3, sub2, fk_some, fk_none, fk_arg0, fk_argS, fk_argN, fk_map0, fk_mapS, fk_mapN, reduceIte, Nat.reduceEqDiff, Nat.reduceAdd, f0, f5, f26, f27, f28]; with_reducible rfl)); all_goals (intro hbr; first | exact absurd hbr (by decide) | ((try rw [hbr]); (try simp at hbr))))
    | (apply XD.loudQ rfl; (focus (simp only [sub, subO, subL, subM, sub3, sub2, fk_some, fk_none, fk_arg0, fk_argS, fk_argN, fk_map0, fk_mapS, fk_mapN, reduceIte, Nat.reduceEqDiff, Nat.reduceAdd, f0, f5, f26, f27, f28]; with_reducible rfl)); (focus (simp; with_reducible rfl)); (focus (simp [-getElem?_pos]; with_reducible (first | rfl | exact ⟨rfl, rfl⟩))); (focus (simp; done)); (focus (simp [-getElem?_pos]; with_reducible rfl))))
          (refine X.drawO [tid, pid2] rfl ?_)
          (repeat' first
    | apply XR.nil
    | (apply XR.calmQ rfl rfl; (focus (simp only [sub, subO, subL, subM, sub3, sub2, fk_some, fk_none, fk_arg0, fk_argS, fk_argN, fk_map0, fk_mapS, fk_mapN, reduceIte, Nat.reduceEqDiff, Nat.reduceAdd, f0, f5, f26, f27, f28]; with_reducible rfl)); (focus (simp [-getElem?_pos, appendA, hP2, htl, hpl, hcl2, hd7, hcA, hcB, hcC, hsp, het, hep, g3, g4, hsp2, hww]; done)); (focus (simp [-getElem?_pos, appendA, hP2, htl, hpl, hcl2, hd7, hcA, hcB, hcC, hsp, het, hep, g3, g4, hsp2, hww]; with_reducible (first | rfl | exact ⟨rfl, rfl⟩))))
    | (apply XR.growQ rfl rfl rfl rfl; (focus (simp only [sub, subO, subL, subM, sub3, sub2, fk_some, fk_none, fk_arg0, fk_argS, fk_argN, fk_map0, fk_mapS, fk_mapN, reduceIte, Nat.reduceEqDiff, Nat.reduceAdd, f0, f5, f26, f27, f28]; with_reducible rfl)); (focus (simp; with_reducible rfl)); (focus (simp [-getElem?_pos, appendA, hP2, htl, hpl, hcl2, hd7, hcA, hcB, hcC, hsp, het, hep, g3, g4, hsp2, hww]; done)); (focus (simp [-getElem?_pos, appendA, hP2, htl, hpl, hcl2, hd7, hcA, hcB, hcC, hsp, het, hep, g3, g4, hsp2, hww]; done)); (focus (simp [-getElem?_pos, appendA, hP2, htl, hpl, hcl2, hd7, hcA, hcB, hcC, hsp, het, hep, g3, g4, hsp2, hww]; with_reducible (first | rfl | exact ⟨rfl, rfl⟩))); (focus (simp; done)); (focus (simp [-getElem?_pos, appendA, hP2, htl, hpl, hcl2, hd7, hcA, hcB, hcC, hsp, het, hep, g3, g4, hsp2, hww]; with_reducible rfl)))
    | (apply XR.loudQ rfl rfl; (focus (simp only [sub, subO, subL, subM, sub3, sub2, fk_some, fk_none, fk_arg0, fk_argS, fk_argN, fk_map0, fk_mapS, fk_mapN, reduceIte, Nat.reduceEqDiff, Nat.reduceAdd, f0, f5, f26, f27, f28]; with_reducible rfl)); (focus (simp; with_reducible rfl)); (focus (simp [-getElem?_pos, appendA, hP2, htl, hpl, hcl2, hd7, hcA, hcB, hcC, hsp, het, hep, g3, g4, hsp2, hww]; with_reducible (first | rfl | exact ⟨rfl, rfl⟩))); (focus (simp; done)); (focus (simp [-getElem?_pos, appendA, hP2, htl, hpl, hcl2, hd7, hcA, hcB, hcC, hsp, het, hep, g3, g4, hsp2, hww]; with_reducible rfl))))
          (repeat' first
    | apply X.retS
    | apply X.skipS
    | apply X.skipB
    | apply X.skipL
    | (apply X.exitS; first | apply X.here | (refine X.out (by decide) ?_; apply X.here))
    | apply X.blockS
    | (apply X.condQ rfl; (focus (simp only [sub, subO, subL, subM, sub3, sub2, fk_some, fk_none, fk_arg0, fk_argS, fk_argN, fk_map0, fk_mapS, fk_mapN, reduceIte, Nat.reduceEqDiff, Nat.reduceAdd, f0, f5, f26, f27, f28]; with_reducible rfl)); all_goals (intro hbr; first | exact absurd hbr (by decide) | ((try rw [hbr]); (try simp at hbr))))
    | apply X.stepZ
    | (apply X.stepQ rfl; (focus (simp only [sub, subO, subL, subM, sub3, sub2, fk_some, fk_none, fk_arg0, fk_argS, fk_argN, fk_map0, fk_mapS, fk_mapN, reduceIte, Nat.reduceEqDiff, Nat.reduceAdd, f0, f5, f26, f27, f28]; with_reducible rfl)); (focus (simp [-getElem?_pos, hww]; with_reducible (first | rfl | exact ⟨rfl, rfl⟩))))
    | (apply X.stepNQ rfl; (focus (simp only [sub, subO, subL, subM, sub3, sub2, fk_some, fk_none, fk_arg0, fk_argS, fk_argN, fk_map0, fk_mapS, fk_mapN, reduceIte, Nat.reduceEqDiff, Nat.reduceAdd, f0, f5, f26, f27, f28]; with_reducible rfl)))
    | ((first | apply X.stepGtQ rfl | apply X.stepGfQ rfl); (focus (simp only [sub, subO, subL, subM, sub3, sub2, fk_some, fk_none, fk_arg0, fk_argS, fk_argN, fk_map0, fk_mapS, fk_mapN, reduceIte, Nat.reduceEqDiff, Nat.reduceAdd, f0, f5, f26, f27, f28]; with_reducible rfl)); all_goals (intro hbr; first | exact absurd hbr (by decide) | ((try rw [hbr]); (try simp at hbr))))
    | (apply X.draw0; (focus rfl))
    | (apply X.drawH0; (focus rfl))
    | apply XD.nil
    | (apply XD.calmQ rfl rfl; (focus (simp only [sub, subO, subL, subM, sub3, sub2, fk_some, fk_none, fk_arg0, fk_argS, fk_argN, fk_map0, fk_mapS, fk_mapN, reduceIte, Nat.reduceEqDiff, Nat.reduceAdd, f0, f5, f26, f27, f28]; with_reducible rfl)); (focus (simp [-getElem?_pos, hww]; with_reducible (first | rfl | exact ⟨rfl, rfl⟩))))
    | (apply XD.callQ rfl; (focus (simp only [sub, subO, subL, subM, sub3, sub2, fk_some, fk_none, fk_arg0, fk_argS, fk_argN, fk_map0, fk_mapS, fk_mapN, reduceIte, Nat.reduceEqDiff, Nat.reduceAdd, f0, f5, f26, f27, f28]; simp; with_reducible rfl)); (focus (simp; with_reducible rfl)); (focus (simp [-getElem?_pos, hww]; done)); (focus (simp [-getElem?_pos, hww]; with_reducible rfl)))
    | (apply XD.stepNQ rfl; (focus (simp only [sub, subO, subL, subM, sub3, sub2, fk_some, fk_none, fk_arg0, fk_argS, fk_argN, fk_map0, fk_mapS, fk_mapN, reduceIte, Nat.reduceEqDiff, Nat.reduceAdd, f0, f5, f26, f27, f28]; with_reducible rfl)))
    | ((first | apply XD.stepGtQ rfl | apply XD.stepGfQ rfl); (focus (simp only [sub, subO, subL, subM, sub3, sub2, fk_some, fk_none, fk_arg0, fk_argS, fk_argN, fk_map0, fk_mapS, fk_mapN, reduceIte, Nat.reduceEqDiff, Nat.reduceAdd, f0, f5, f26, f27, f28]; with_reducible rfl)); all_goals (intro hbr; first | exact absurd hbr (by decide) | ((try rw [hbr]); (try simp at hbr))))
    | (apply XD.loudQ rfl; (focus (simp only [sub, subO, subL, subM, sub3, sub2, fk_some, fk_none, fk_arg0, fk_argS, fk_argN, fk_map0, fk_mapS, fk_mapN, reduceIte, Nat.reduceEqDiff, Nat.reduceAdd, f0, f5, f26, f27, f28]; with_reducible rfl)); (focus (simp; with_reducible rfl)); (focus (simp [-getElem?_pos, hww]; with_reducible (first | rfl | exact ⟨rfl, rfl⟩))); (focus (simp; done)); (focus (simp [-getElem?_pos, hww]; with_reducible rfl))))
          all_goals
            simp only [List.length_nil] at hkl
            exact ⟨hj1, _, Lng.push P.length P1.length (addP x P1), _, _, ⟨T3, F3, hi, by rw [push_len, hl2]; omega, [] ++ [P1.length], push_at hat, by simp; omega⟩, by simp [f0, f5, f26, f27], rfl⟩
        · have hk1 : tok < h2.length := lt_of_ent' (by rw [k3]; simp)
          have hk2 : tok ≠ tid := by rintro rfl; rw [k3] at g3; cases g3
          have hk4 : tok ≠ pid2 := by rintro rfl; rw [k3] at g4; cases g4
          have hie : (encN ks).isEmpty = false := by cases hE : encN ks with
            | nil => exact absurd hE k1
            | cons => rfl
          have hlk : (encN ks).length = ks.length := by simp [encN]
          have hgk : (ks.length + 1) * 8 ≤ 35184372088832 := by omega
          have hs1 := strideN ks
          simp at hs1
          have hep3 : ∀ l, ent (h2.set tok .dead ++ l) pid2 = _ := fun l => (sa_ne (Ne.symm hk4) hpl).trans g4
          have hsp3 : ∀ (l : Heap) (X : Ent), (h2.set tok .dead ++ l).set pid2 X = (h2.set tok .dead).set pid2 X ++ l := fun l X => List.set_append_left _ _ (by simpa using hpl)
          subst k2
          have hld : (h2.set tok .dead).length = h2.length := by simp
          have T3 := T2.kid hat hkv (h' := (h2.set tok .dead).set pid2 (.blk (cellsT (addP x P1) (kvs2.set P.length (.slt (encN (ks ++ [P1.length])) h2.length))) (some 131)) ++ [.tok]) (pid := pid2) (tk := h2.length) (k := P1.length) (by simp) g2 (Nat.le_refl _)
            (by rw [sa_ne (Ne.symm hne) (by rw [hld]; exact htl)]; have := sa_ne (h := h2) (l := []) (X := .dead) (i := tok) (j := tid) (Ne.symm hk2) htl; rw [List.append_nil] at this; rw [this]; exact g3) (sa_self (by rw [hld]; exact hpl))
            (by have := sa_at (h := h2.set tok .dead) (i := pid2) (n := 0) (l := [Ent.tok]) (X := .blk (cellsT (addP x P1) (kvs2.set P.length (.slt (encN (ks ++ [P1.length])) h2.length))) (some 131)); rw [hld] at this; exact this)
            (fun i hi hn => by
              have i1 : i ≠ pid2 := by rintro rfl; rw [g4] at hi; cases hi
              have i2 : i ≠ tok := by rintro rfl; exact hn _ rfl
              have i3 : i < h2.length := lt_of_ent' (by rw [hi]; simp)
              rw [sa_ne i1 (by rw [hld]; exact i3)]
              have := sa_ne (h := h2) (l := []) (X := .dead) (i := tok) (j := i) i2 i3
              rw [List.append_nil] at this
              rw [this]; exact hi)
          have F3 : Fr0 B h ((h2.set tok .dead).set pid2 (.blk (cellsT (addP x P1) (kvs2.set P.length (.slt (encN (ks ++ [P1.length])) h2.length))) (some 131)) ++ [.tok]) := F2'.trans ⟨by simp, fun i hi => by
            have hB := T2.lot _ _ _ hkv
            have i3 : i < h2.length := by have := T2.hl; omega
            rw [sa_ne (by omega) (by rw [hld]; exact i3)]
            have := sa_ne (h := h2) (l := []) (X := .dead) (i := tok) (j := i) (by omega) i3
            rwa [List.append_nil] at this⟩
          simp [splice] at hsp
          (repeat' first
    | apply X.retS
    | apply X.skipS
    | apply X.skipB
    | apply X.skipL
    | (apply X.exitS; first | apply X.here | (refine X.out (by decide) ?_; apply X.here))
    | apply X.blockS
    | (apply X.condQ rfl; (focus (simp only [sub, subO, subL, subM, sub3, sub2, fk_some, fk_none, fk_arg0, fk_argS, fk_argN, fk_map0, fk_mapS, fk_mapN, reduceIte, Nat.reduceEqDiff, Nat.reduceAdd, f0, f5, f26, f27, f28]; with_reducible rfl)); all_goals (intro hbr; first | exact absurd hbr (by decide) | ((try rw [hbr]); (try simp at hbr))))
    | apply X.stepZ
    | (apply X.stepQ rfl; (focus (simp only [sub, subO, subL, subM, sub3, sub2, fk_some, fk_none, fk_arg0, fk_argS, fk_argN, fk_map0, fk_mapS, fk_mapN, reduceIte, Nat.reduceEqDiff, Nat.reduceAdd, f0, f5, f26, f27, f28]; with_reducible rfl)); (focus (simp [-getElem?_pos]; with_reducible (first | rfl | exact ⟨rfl, rfl⟩))))
    | (apply X.stepNQ rfl; (focus (simp only [sub, subO, subL, subM, sub3, sub2, fk_some, fk_none, fk_arg0, fk_argS, fk_argN, fk_map0, fk_mapS, fk_mapN, reduceIte, Nat.reduceEqDiff, Nat.reduceAdd, f0, f5, f26, f27, f28]; with_reducible rfl)))
    | ((first | apply X.stepGtQ rfl | apply X.stepGfQ rfl); (focus (simp only [sub, subO, subL, subM, sub3, sub2, fk_some, fk_none, fk_arg0, fk_argS, fk_argN, fk_map0, fk_mapS, fk_mapN, reduceIte, Nat.reduceEqDiff, Nat.reduceAdd, f0, f5, f26, f27, f28]; with_reducible rfl)); all_goals (intro hbr; first | exact absurd hbr (by decide) | ((try rw [hbr]); (try simp at hbr))))
    | (apply X.draw0; (focus rfl))
    | (apply X.drawH0; (focus rfl))
    | apply XD.nil
    | (apply XD.calmQ rfl rfl; (focus (simp only [sub, subO, subL, subM, sub3, sub2, fk_some, fk_none, fk_arg0, fk_argS, fk_argN, fk_map0, fk_mapS, fk_mapN, reduceIte, Nat.reduceEqDiff, Nat.reduceAdd, f0, f5, f26, f27, f28]; with_reducible rfl)); (focus (simp [-getElem?_pos]; with_reducible (first | rfl | exact ⟨rfl, rfl⟩))))
    | (apply XD.callQ rfl; (focus (simp only [sub, subO, subL, subM, sub3, sub2, fk_some, fk_none, fk_arg0, fk_argS, fk_argN, fk_map0, fk_mapS, fk_mapN, reduceIte, Nat.reduceEqDiff, Nat.reduceAdd, f0, f5, f26, f27, f28]; simp; with_reducible rfl)); (focus (simp; with_reducible rfl)); (focus (simp [-getElem?_pos]; done)); (focus (simp [-getElem?_pos]; with_reducible rfl)))
    | (apply XD.stepNQ rfl; (focus (simp only [sub, subO, subL, subM, sub3, sub2, fk_some, fk_none, fk_arg0, fk_argS, fk_argN, fk_map0, fk_mapS, fk_mapN, reduceIte, Nat.reduceEqDiff, Nat.reduceAdd, f0, f5, f26, f27, f28]; with_reducible rfl)))
    | ((first | apply XD.stepGtQ rfl | apply XD.stepGfQ rfl); (focus (simp only [sub, subO, subL, subM, sub3, sub2, fk_some, fk_none, fk_arg0, fk_argS, fk_argN, fk_map0, fk_mapS, fk_mapN, reduceIte, Nat.reduceEqDiff, Nat.reduceAdd, f0, f5, f26, f27, f28]; with_reducible rfl)); all_goals (intro hbr; first | exact absurd hbr (by decide) | ((try rw [hbr]); (try simp at hbr))))
    | (apply XD.loudQ rfl; (focus (simp only [sub, subO, subL, subM, sub3, sub2, fk_some, fk_none, fk_arg0, fk_argS, fk_argN, fk_map0, fk_mapS, fk_mapN, reduceIte, Nat.reduceEqDiff, Nat.reduceAdd, f0, f5, f26, f27, f28]; with_reducible rfl)); (focus (simp; with_reducible rfl)); (focus (simp [-getElem?_pos]; with_reducible (first | rfl | exact ⟨rfl, rfl⟩))); (focus (simp; done)); (focus (simp [-getElem?_pos]; with_reducible rfl))))
          (refine X.drawO [tid, pid2] rfl ?_)
          (repeat' first
    | apply XR.nil
    | (apply XR.calmQ rfl rfl; (focus (simp only [sub, subO, subL, subM, sub3, sub2, fk_some, fk_none, fk_arg0, fk_argS, fk_argN, fk_map0, fk_mapS, fk_mapN, reduceIte, Nat.reduceEqDiff, Nat.reduceAdd, f0, f5, f26, f27, f28]; with_reducible rfl)); (focus (simp [-getElem?_pos, appendA, k3, hk2, hk4, hie, hlk, hgk, hs1, hep3, hsp3, hen, hP2, htl, hpl, hcl2, hd7, hcA, hcB, hcC, hsp, het, hep, g3, g4, hsp2, hww]; done)); (focus (simp [-getElem?_pos, appendA, k3, hk2, hk4, hie, hlk, hgk, hs1, hep3, hsp3, hen, hP2, htl, hpl, hcl2, hd7, hcA, hcB, hcC, hsp, het, hep, g3, g4, hsp2, hww]; with_reducible (first | rfl | exact ⟨rfl, rfl⟩))))
    | (apply XR.growQ rfl rfl rfl rfl; (focus (simp only [sub, subO, subL, subM, sub3, sub2, fk_some, fk_none, fk_arg0, fk_argS, fk_argN, fk_map0, fk_mapS, fk_mapN, reduceIte, Nat.reduceEqDiff, Nat.reduceAdd, f0, f5, f26, f27, f28]; with_reducible rfl)); (focus (simp; with_reducible rfl)); (focus (simp [-getElem?_pos, appendA, k3, hk2, hk4, hie, hlk, hgk, hs1, hep3, hsp3, hen, hP2, htl, hpl, hcl2, hd7, hcA, hcB, hcC, hsp, het, hep, g3, g4, hsp2, hww]; done)); (focus (simp [-getElem?_pos, appendA, k3, hk2, hk4, hie, hlk, hgk, hs1, hep3, hsp3, hen, hP2, htl, hpl, hcl2, hd7, hcA, hcB, hcC, hsp, het, hep, g3, g4, hsp2, hww]; done)); (focus (simp [-getElem?_pos, appendA, k3, hk2, hk4, hie, hlk, hgk, hs1, hep3, hsp3, hen, hP2, htl, hpl, hcl2, hd7, hcA, hcB, hcC, hsp, het, hep, g3, g4, hsp2, hww]; with_reducible (first | rfl | exact ⟨rfl, rfl⟩))); (focus (simp; done)); (focus (simp [-getElem?_pos, appendA, k3, hk2, hk4, hie, hlk, hgk, hs1, hep3, hsp3, hen, hP2, htl, hpl, hcl2, hd7, hcA, hcB, hcC, hsp, het, hep, g3, g4, hsp2, hww]; with_reducible rfl)))
    | (apply XR.loudQ rfl rfl; (focus (simp only [sub, subO, subL, subM, sub3, sub2, fk_some, fk_none, fk_arg0, fk_argS, fk_argN, fk_map0, fk_mapS, fk_mapN, reduceIte, Nat.reduceEqDiff, Nat.reduceAdd, f0, f5, f26, f27, f28]; with_reducible rfl)); (focus (simp; with_reducible rfl)); (focus (simp [-getElem?_pos, appendA, k3, hk2, hk4, hie, hlk, hgk, hs1, hep3, hsp3, hen, hP2, htl, hpl, hcl2, hd7, hcA, hcB, hcC, hsp, het, hep, g3, g4, hsp2, hww]; with_reducible (first | rfl | exact ⟨rfl, rfl⟩))); (focus (simp; done)); (focus (simp [-getElem?_pos, appendA, k3, hk2, hk4, hie, hlk, hgk, hs1, hep3, hsp3, hen, hP2, htl, hpl, hcl2, hd7, hcA, hcB, hcC, hsp, het, hep, g3, g4, hsp2, hww]; with_reducible rfl))))
          (repeat' first
    | apply X.retS
    | apply X.skipS
    | apply X.skipB
    | apply X.skipL
    | (apply X.exitS; first | apply X.here | (refine X.out (by decide) ?_; apply X.here))
    | apply X.blockS
    | (apply X.condQ rfl; (focus (simp only [sub, subO, subL, subM, sub3, sub2, fk_some, fk_none, fk_arg0, fk_argS, fk_argN, fk_map0, fk_mapS, fk_mapN, reduceIte, Nat.reduceEqDiff, Nat.reduceAdd, f0, f5, f26, f27, f28]; with_reducible rfl)); all_goals (intro hbr; first | exact absurd hbr (by decide) | ((try rw [hbr]); (try simp at hbr))))
    | apply X.stepZ
    | (apply X.stepQ rfl; (focus (simp only [sub, subO, subL, subM, sub3, sub2, fk_some, fk_none, fk_arg0, fk_argS, fk_argN, fk_map0, fk_mapS, fk_mapN, reduceIte, Nat.reduceEqDiff, Nat.reduceAdd, f0, f5, f26, f27, f28]; with_reducible rfl)); (focus (simp [-getElem?_pos, hww]; with_reducible (first | rfl | exact ⟨rfl, rfl⟩))))
    | (apply X.stepNQ rfl; (focus (simp only [sub, subO, subL, subM, sub3, sub2, fk_some, fk_none, fk_arg0, fk_argS, fk_argN, fk_map0, fk_mapS, fk_mapN, reduceIte, Nat.reduceEqDiff, Nat.reduceAdd, f0, f5, f26, f27, f28]; with_reducible rfl)))
    | ((first | apply X.stepGtQ rfl | apply X.stepGfQ rfl); (focus (simp only [sub, subO, subL, subM, sub3, sub2, fk_some, fk_none, fk_arg0, fk_argS, fk_argN, fk_map0, fk_mapS, fk_mapN, reduceIte, Nat.reduceEqDiff, Nat.reduceAdd, f0, f5, f26, f27, f28]; with_reducible rfl)); all_goals (intro hbr; first | exact absurd hbr (by decide) | ((try rw [hbr]); (try simp at hbr))))
    | (apply X.draw0; (focus rfl))
    | (apply X.drawH0; (focus rfl))
    | apply XD.nil
    | (apply XD.calmQ rfl rfl; (focus (simp only [sub, subO, subL, subM, sub3, sub2, fk_some, fk_none, fk_arg0, fk_argS, fk_argN, fk_map0, fk_mapS, fk_mapN, reduceIte, Nat.reduceEqDiff, Nat.reduceAdd, f0, f5, f26, f27, f28]; with_reducible rfl)); (focus (simp [-getElem?_pos, hww]; with_reducible (first | rfl | exact ⟨rfl, rfl⟩))))
    | (apply XD.callQ rfl; (focus (simp only [sub, subO, subL, subM, sub3, sub2, fk_some, fk_none, fk_arg0, fk_argS, fk_argN, fk_map0, fk_mapS, fk_mapN, reduceIte, Nat.reduceEqDiff, Nat.reduceAdd, f0, f5, f26, f27, f28]; simp; with_reducible rfl)); (focus (simp; with_reducible rfl)); (focus (simp [-getElem?_pos, hww]; done)); (focus (simp [-getElem?_pos, hww]; with_reducible rfl)))
    | (apply XD.stepNQ rfl; (focus (simp only [sub, subO, subL, subM, sub3, sub2, fk_some, fk_none, fk_arg0, fk_argS, fk_argN, fk_map0, fk_mapS, fk_mapN, reduceIte, Nat.reduceEqDiff, Nat.reduceAdd, f0, f5, f26, f27, f28]; with_reducible rfl)))
    | ((first | apply XD.stepGtQ rfl | apply XD.stepGfQ rfl); (focus (simp only [sub, subO, subL, subM, sub3, sub2, fk_some, fk_none, fk_arg0, fk_argS, fk_argN, fk_map0, fk_mapS, fk_mapN, reduceIte, Nat.reduceEqDiff, Nat.reduceAdd, f0, f5, f26, f27, f28]; with_reducible rfl)); all_goals (intro hbr; first | exact absurd hbr (by decide) | ((try rw [hbr]); (try simp at hbr))))
    | (apply XD.loudQ rfl; (focus (simp only [sub, subO, subL, subM, sub3, sub2, fk_some, fk_none, fk_arg0, fk_argS, fk_argN, fk_map0, fk_mapS, fk_mapN, reduceIte, Nat.reduceEqDiff, Nat.reduceAdd, f0, f5, f26, f27, f28]; with_reducible rfl)); (focus (simp; with_reducible rfl)); (focus (simp [-getElem?_pos, hww]; with_reducible (first | rfl | exact ⟨rfl, rfl⟩))); (focus (simp; done)); (focus (simp [-getElem?_pos, hww]; with_reducible rfl))))
          all_goals exact ⟨hj1, _, Lng.push P.length P1.length (addP x P1), _, _, ⟨T3, F3, hi, by rw [push_len, hl2]; omega, ks ++ [P1.length], push_at hat, by simp; omega⟩, by simp [f0, f5, f26, f27], rfl⟩
    · have hj2 : ¬ j < c.l.length := by omega
      rw [List.drop_eq_nil_of_le hj1] at hi
      simp only [addP.addL] at hi
      clear ih
      (repeat' first
    | apply X.retS
    | apply X.skipS
    | apply X.skipB
    | apply X.skipL
    | (apply X.exitS; first | apply X.here | (refine X.out (by decide) ?_; apply X.here))
    | apply X.blockS
    | (apply X.condQ rfl; (focus (simp only [sub, subO, subL, subM, sub3, sub2, fk_some, fk_none, fk_arg0, fk_argS, fk_argN, fk_map0, fk_mapS, fk_mapN, reduceIte, Nat.reduceEqDiff, Nat.reduceAdd, f0, f5, f26, f27, f28]; with_reducible rfl)); all_goals (intro hbr; first | exact absurd hbr (by decide) | ((try rw [hbr]); (try simp at hbr))))
    | apply X.stepZ
    | (apply X.stepQ rfl; (focus (simp only [sub, subO, subL, subM, sub3, sub2, fk_some, fk_none, fk_arg0, fk_argS, fk_argN, fk_map0, fk_mapS, fk_mapN, reduceIte, Nat.reduceEqDiff, Nat.reduceAdd, f0, f5, f26, f27, f28]; with_reducible rfl)); (focus (simp [-getElem?_pos, hj2]; with_reducible (first | rfl | exact ⟨rfl, rfl⟩))))
    | (apply X.stepNQ rfl; (focus (simp only [sub, subO, subL, subM, sub3, sub2, fk_some, fk_none, fk_arg0, fk_argS, fk_argN, fk_map0, fk_mapS, fk_mapN, reduceIte, Nat.reduceEqDiff, Nat.reduceAdd, f0, f5, f26, f27, f28]; with_reducible rfl)))
    | ((first | apply X.stepGtQ rfl | apply X.stepGfQ rfl); (focus (simp only [sub, subO, subL, subM, sub3, sub2, fk_some, fk_none, fk_arg0, fk_argS, fk_argN, fk_map0, fk_mapS, fk_mapN, reduceIte, Nat.reduceEqDiff, Nat.reduceAdd, f0, f5, f26, f27, f28]; with_reducible rfl)); all_goals (intro hbr; first | exact absurd hbr (by decide) | ((try rw [hbr]); (try simp at hbr))))
    | (apply X.draw0; (focus rfl))
    | (apply X.drawH0; (focus rfl))
    | apply XD.nil
    | (apply XD.calmQ rfl rfl; (focus (simp only [sub, subO, subL, subM, sub3, sub2, fk_some, fk_none, fk_arg0, fk_argS, fk_argN, fk_map0, fk_mapS, fk_mapN, reduceIte, Nat.reduceEqDiff, Nat.reduceAdd, f0, f5, f26, f27, f28]; with_reducible rfl)); (focus (simp [-getElem?_pos, hj2]; with_reducible (first | rfl | exact ⟨rfl, rfl⟩))))
    | (apply XD.callQ rfl; (focus (simp only [sub, subO, subL, subM, sub3, sub2, fk_some, fk_none, fk_arg0, fk_argS, fk_argN, fk_map0, fk_mapS, fk_mapN, reduceIte, Nat.reduceEqDiff, Nat.reduceAdd, f0, f5, f26, f27, f28]; simp; with_reducible rfl)); (focus (simp; with_reducible rfl)); (focus (simp [-getElem?_pos, hj2]; done)); (focus (simp [-getElem?_pos, hj2]; with_reducible rfl)))
    | (apply XD.stepNQ rfl; (focus (simp only [sub, subO, subL, subM, sub3, sub2, fk_some, fk_none, fk_arg0, fk_argS, fk_argN, fk_map0, fk_mapS, fk_mapN, reduceIte, Nat.reduceEqDiff, Nat.reduceAdd, f0, f5, f26, f27, f28]; with_reducible rfl)))
    | ((first | apply XD.stepGtQ rfl | apply XD.stepGfQ rfl); (focus (simp only [sub, subO, subL, subM, sub3, sub2, fk_some, fk_none, fk_arg0, fk_argS, fk_argN, fk_map0, fk_mapS, fk_mapN, reduceIte, Nat.reduceEqDiff, Nat.reduceAdd, f0, f5, f26, f27, f28]; with_reducible rfl)); all_goals (intro hbr; first | exact absurd hbr (by decide) | ((try rw [hbr]); (try simp at hbr))))
    | (apply XD.loudQ rfl; (focus (simp only [sub, subO, subL, subM, sub3, sub2, fk_some, fk_none, fk_arg0, fk_argS, fk_argN, fk_map0, fk_mapS, fk_mapN, reduceIte, Nat.reduceEqDiff, Nat.reduceAdd, f0, f5, f26, f27, f28]; with_reducible rfl)); (focus (simp; with_reducible rfl)); (focus (simp [-getElem?_pos, hj2]; with_reducible (first | rfl | exact ⟨rfl, rfl⟩))); (focus (simp; done)); (focus (simp [-getElem?_pos, hj2]; with_reducible rfl))))
      all_goals exact FinE.retQ rfl (by simp only [resS, sub, subO, subL, subM, sub3, sub2, fk_some, fk_none, fk_arg0, fk_argS, fk_argN, fk_map0, fk_mapS, fk_mapN, reduceIte, Nat.reduceEqDiff, Nat.reduceAdd, f0, f5]; with_reducible rfl) ⟨rfl, kvs1, by rw [← hi]; exact T1, F1⟩
end Lng

-- The table, whole: lang.New walked.
namespace Lng
open Go Ab Cps Go.Proofs.Ytdacifedlemlmaa.Mach
variable {E : Env}

/-- A text's bytes. -/
def encB (l : List Int) : List PV := l.map (.int .u8)

/-- A table in the heap, all of it from a number on: its parts, and the rows that are known. -/
structure Tbl (B : Nat) (h : Heap) (tid pid eid : Nat) (P : List Pt) (kvs : List V) (s : List Int) (es : List V) : Prop where
  b1 : B ≤ tid
  b2 : B ≤ pid
  b3 : B ≤ eid
  t : ∃ tt, ent h tid = .blk [.sln pid 0 P.length 8 true, .pv (.sl (encB s)), .sln eid 0 P.length 1 false] tt
  p : ∃ tp, ent h pid = .blk (cellsT P kvs) tp
  e : ∃ te, ent h eid = .blk es te
  klen : kvs.length = P.length
  elen : es.length = P.length
  kids : ∀ (i : Nat) (x : Pt) (kv : V), P[i]? = some x → kvs[i]? = some kv → (kv = .nils ∧ x.2 = []) ∨ ∃ tok, kv = .slt (encN x.2) tok
  rows : ∀ (a : Nat) (v : V), es[a]? = some v → v = .nils ∨ ∃ rid, v = .sln rid 0 (s.length + 1) 1 false ∧ B ≤ rid ∧ ∃ rs tr, ent h rid = .blk rs tr ∧ rs.length = s.length + 1 ∧
    ∀ (i : Nat) (w : V), rs[i]? = some w → w = .pv .nilp ∨ ∃ q, w = .ptr q 0 ∧ ∃ ws tq, ent h q = .blk (cellsW ws) tq ∧ ∀ x, P[a]? = some x → Pw ws (rowS s x.1 i)
  inj : ∀ (a a' rid : Nat), es[a]? = some (.sln rid 0 (s.length + 1) 1 false) → es[a']? = some (.sln rid 0 (s.length + 1) 1 false) → a = a'

theorem nodes_pos (c : Co) : 0 < nodes c := by rw [nodes_eq']; omega

set_option maxHeartbeats 4000000 in
theorem new_ok (HH : HasT E) (c : Co) (hf : FineC c) (hn : nodes c ≤ 1000000) (s : List Int) (h : Heap) :
    ∃ v h', limR E 49 [.pv (encC c), .pv (.sl (encB s))] h = some (v, h') ∧ ∃ tid pid eid kvs, v = .ptr tid 0 ∧ Tbl h.length h' tid pid eid (addP c []) kvs s (List.replicate (addP c []).length .nils) ∧ Fr0 h.length h h' := by
  have hadd := add_ok HH c hf h.length
  obtain ⟨hal, _⟩ := addP_facts c []
  simp only [List.length_nil, Nat.zero_add] at hal
  have hnp := nodes_pos c
  rw [eC] 
  refine HH.new.limQE (Nat.le_of_ble_eq_true rfl) ?_; unfold c49
  have hT0 : ∀ l1 : Ent, Tab h.length (h ++ [l1, .blk [.nils, .pv (.sl (encB s)), .nils] none]) (h.length + 1) none [] [] (.pv (.sl (encB s))) .nils := fun l1 =>
    ⟨by simp, by omega, .inl ⟨rfl, by rw [ent_at]; rfl⟩, rfl, fun i x kv hx => by simp at hx, fun i es tok hi => by simp at hi, fun i j es es' tok hi => by simp at hi⟩
  have hc := hadd _ (h.length + 1) none [] [] _ _ (hT0 (Ent.blk [.pv (.int .i64 c.k), .pv (.int .u64 c.s0), .pv (.int .u64 c.s1), .pv (.int .u64 c.s2), .pv (.int .u64 c.s3), .pv (.int .i64 c.n), .pv (.sl (c.l.map encC))] none)) (by simpa using hn)
  rw [eC] at hc
  (repeat' first
    | apply X.retS
    | apply X.skipS
    | apply X.skipB
    | apply X.skipL
    | (apply X.exitS; first | apply X.here | (refine X.out (by decide) ?_; apply X.here))
    | apply X.blockS
    | (apply X.condQ rfl; (focus (simp only [sub, subO, subL, subM, sub3, sub2, fk_some, fk_none, fk_arg0, fk_argS, fk_argN, fk_map0, fk_mapS, fk_mapN, reduceIte, Nat.reduceEqDiff, Nat.reduceAdd]; with_reducible rfl)); all_goals (intro hbr; first | exact absurd hbr (by decide) | ((try rw [hbr]); (try simp at hbr))))
    | apply X.stepZ
    | (apply X.stepQ rfl; (focus (simp only [sub, subO, subL, subM, sub3, sub2, fk_some, fk_none, fk_arg0, fk_argS, fk_argN, fk_map0, fk_mapS, fk_mapN, reduceIte, Nat.reduceEqDiff, Nat.reduceAdd]; with_reducible rfl)); (focus (simp [-getElem?_pos]; with_reducible (first | rfl | exact ⟨rfl, rfl⟩))))
    | (apply X.stepNQ rfl; (focus (simp only [sub, subO, subL, subM, sub3, sub2, fk_some, fk_none, fk_arg0, fk_argS, fk_argN, fk_map0, fk_mapS, fk_mapN, reduceIte, Nat.reduceEqDiff, Nat.reduceAdd]; with_reducible rfl)))
    | ((first | apply X.stepGtQ rfl | apply X.stepGfQ rfl); (focus (simp only [sub, subO, subL, subM, sub3, sub2, fk_some, fk_none, fk_arg0, fk_argS, fk_argN, fk_map0, fk_mapS, fk_mapN, reduceIte, Nat.reduceEqDiff, Nat.reduceAdd]; with_reducible rfl)); all_goals (intro hbr; first | exact absurd hbr (by decide) | ((try rw [hbr]); (try simp at hbr))))
    | (apply X.draw0; (focus rfl))
    | (apply X.drawH0; (focus rfl))
    | apply XD.nil
    | (apply XD.calmQ rfl rfl; (focus (simp only [sub, subO, subL, subM, sub3, sub2, fk_some, fk_none, fk_arg0, fk_argS, fk_argN, fk_map0, fk_mapS, fk_mapN, reduceIte, Nat.reduceEqDiff, Nat.reduceAdd]; with_reducible rfl)); (focus (simp [-getElem?_pos]; with_reducible (first | rfl | exact ⟨rfl, rfl⟩))))
    | (apply XD.callQ rfl; (focus (simp only [sub, subO, subL, subM, sub3, sub2, fk_some, fk_none, fk_arg0, fk_argS, fk_argN, fk_map0, fk_mapS, fk_mapN, reduceIte, Nat.reduceEqDiff, Nat.reduceAdd]; simp; with_reducible rfl)); (focus (simp; with_reducible rfl)); (focus (simp [-getElem?_pos]; done)); (focus (simp [-getElem?_pos]; with_reducible rfl)))
    | (apply XD.stepNQ rfl; (focus (simp only [sub, subO, subL, subM, sub3, sub2, fk_some, fk_none, fk_arg0, fk_argS, fk_argN, fk_map0, fk_mapS, fk_mapN, reduceIte, Nat.reduceEqDiff, Nat.reduceAdd]; with_reducible rfl)))
    | ((first | apply XD.stepGtQ rfl | apply XD.stepGfQ rfl); (focus (simp only [sub, subO, subL, subM, sub3, sub2, fk_some, fk_none, fk_arg0, fk_argS, fk_argN, fk_map0, fk_mapS, fk_mapN, reduceIte, Nat.reduceEqDiff, Nat.reduceAdd]; with_reducible rfl)); all_goals (intro hbr; first | exact absurd hbr (by decide) | ((try rw [hbr]); (try simp at hbr))))
    | (apply XD.loudQ rfl; (focus (simp only [sub, subO, subL, subM, sub3, sub2, fk_some, fk_none, fk_arg0, fk_argS, fk_argN, fk_map0, fk_mapS, fk_mapN, reduceIte, Nat.reduceEqDiff, Nat.reduceAdd]; with_reducible rfl)); (focus (simp; with_reducible rfl)); (focus (simp [-getElem?_pos]; with_reducible (first | rfl | exact ⟨rfl, rfl⟩))); (focus (simp; done)); (focus (simp [-getElem?_pos]; with_reducible rfl))))
  refine X.callRQ (P := fun v h2 => ∃ kvs', Tab h.length h2 (h.length + 1) none (addP c []) kvs' (.pv (.sl (encB s))) .nils ∧ Fr0 h.length (h ++ [Ent.blk [.pv (.int .i64 c.k), .pv (.int .u64 c.s0), .pv (.int .u64 c.s1), .pv (.int .u64 c.s2), .pv (.int .u64 c.s3), .pv (.int .i64 c.n), .pv (.sl (c.l.map encC))] none, .blk [.nils, .pv (.sl (encB s)), .nils] none]) h2) rfl
    (by simp only [sub, subO, subL, subM, sub3, sub2, fk_some, fk_none, fk_arg0, fk_argS, fk_argN, fk_map0, fk_mapS, fk_mapN, reduceIte, Nat.reduceEqDiff, Nat.reduceAdd]; simp; with_reducible rfl) HH.add.raw (by simp [pures]) (by obtain ⟨v, h', e1, e2, e3⟩ := hc; exact ⟨v, h', by simpa using e1, e3⟩) ?_
  rintro v h2 ⟨kvs, T, F⟩
  have F0 : Fr0 h.length h h2 := (Fr0.more (Nat.le_refl _)).trans F
  rcases T.t with ⟨g1, _⟩ | ⟨g1, pid, g2, g3, g4⟩
  · rw [g1] at hal; simp at hal; omega
  · have htl : h.length + 1 < h2.length := lt_of_ent' (by rw [g3]; simp)
    have hpl : pid < h2.length := lt_of_ent' (by rw [g4]; simp)
    have et : ∀ l, ent (h2 ++ l) (h.length + 1) = _ := fun l => ent_app g3 (by simp)
    have hst : ∀ (l : Heap) (X : Ent), (h2 ++ l).set (h.length + 1) X = h2.set (h.length + 1) X ++ l := fun l X => List.set_append_left _ _ htl
    have hm1 : (addP c []).length * 24 ≤ 35184372088832 := by omega
    have hm2 : (addP c []).length ≤ 35184372088832 := by omega
    have hm3 : ¬ (addP c []).length = 0 := by omega
    have hrep : (List.replicate (addP c []).length [V.nils]).flatten = List.replicate (addP c []).length V.nils := by
      generalize (addP c []).length = n
      induction n with
      | zero => rfl
      | succ n ih => simp [List.replicate_succ, ih]
    (repeat' first
    | apply X.retS
    | apply X.skipS
    | apply X.skipB
    | apply X.skipL
    | (apply X.exitS; first | apply X.here | (refine X.out (by decide) ?_; apply X.here))
    | apply X.blockS
    | (apply X.condQ rfl; (focus (simp only [sub, subO, subL, subM, sub3, sub2, fk_some, fk_none, fk_arg0, fk_argS, fk_argN, fk_map0, fk_mapS, fk_mapN, reduceIte, Nat.reduceEqDiff, Nat.reduceAdd]; with_reducible rfl)); all_goals (intro hbr; first | exact absurd hbr (by decide) | ((try rw [hbr]); (try simp at hbr))))
    | apply X.stepZ
    | (apply X.stepQ rfl; (focus (simp only [sub, subO, subL, subM, sub3, sub2, fk_some, fk_none, fk_arg0, fk_argS, fk_argN, fk_map0, fk_mapS, fk_mapN, reduceIte, Nat.reduceEqDiff, Nat.reduceAdd]; with_reducible rfl)); (focus (simp [-getElem?_pos, g3, et, hst, hm1, hm2, hm3, hrep]; with_reducible (first | rfl | exact ⟨rfl, rfl⟩))))
    | (apply X.stepNQ rfl; (focus (simp only [sub, subO, subL, subM, sub3, sub2, fk_some, fk_none, fk_arg0, fk_argS, fk_argN, fk_map0, fk_mapS, fk_mapN, reduceIte, Nat.reduceEqDiff, Nat.reduceAdd]; with_reducible rfl)))
    | ((first | apply X.stepGtQ rfl | apply X.stepGfQ rfl); (focus (simp only [sub, subO, subL, subM, sub3, sub2, fk_some, fk_none, fk_arg0, fk_argS, fk_argN, fk_map0, fk_mapS, fk_mapN, reduceIte, Nat.reduceEqDiff, Nat.reduceAdd]; with_reducible rfl)); all_goals (intro hbr; first | exact absurd hbr (by decide) | ((try rw [hbr]); (try simp at hbr))))
    | (apply X.draw0; (focus rfl))
    | (apply X.drawH0; (focus rfl))
    | apply XD.nil
    | (apply XD.calmQ rfl rfl; (focus (simp only [sub, subO, subL, subM, sub3, sub2, fk_some, fk_none, fk_arg0, fk_argS, fk_argN, fk_map0, fk_mapS, fk_mapN, reduceIte, Nat.reduceEqDiff, Nat.reduceAdd]; with_reducible rfl)); (focus (simp [-getElem?_pos, g3, et, hst, hm1, hm2, hm3, hrep]; with_reducible (first | rfl | exact ⟨rfl, rfl⟩))))
    | (apply XD.callQ rfl; (focus (simp only [sub, subO, subL, subM, sub3, sub2, fk_some, fk_none, fk_arg0, fk_argS, fk_argN, fk_map0, fk_mapS, fk_mapN, reduceIte, Nat.reduceEqDiff, Nat.reduceAdd]; simp; with_reducible rfl)); (focus (simp; with_reducible rfl)); (focus (simp [-getElem?_pos, g3, et, hst, hm1, hm2, hm3, hrep]; done)); (focus (simp [-getElem?_pos, g3, et, hst, hm1, hm2, hm3, hrep]; with_reducible rfl)))
    | (apply XD.stepNQ rfl; (focus (simp only [sub, subO, subL, subM, sub3, sub2, fk_some, fk_none, fk_arg0, fk_argS, fk_argN, fk_map0, fk_mapS, fk_mapN, reduceIte, Nat.reduceEqDiff, Nat.reduceAdd]; with_reducible rfl)))
    | ((first | apply XD.stepGtQ rfl | apply XD.stepGfQ rfl); (focus (simp only [sub, subO, subL, subM, sub3, sub2, fk_some, fk_none, fk_arg0, fk_argS, fk_argN, fk_map0, fk_mapS, fk_mapN, reduceIte, Nat.reduceEqDiff, Nat.reduceAdd]; with_reducible rfl)); all_goals (intro hbr; first | exact absurd hbr (by decide) | ((try rw [hbr]); (try simp at hbr))))
    | (apply XD.loudQ rfl; (focus (simp only [sub, subO, subL, subM, sub3, sub2, fk_some, fk_none, fk_arg0, fk_argS, fk_argN, fk_map0, fk_mapS, fk_mapN, reduceIte, Nat.reduceEqDiff, Nat.reduceAdd]; with_reducible rfl)); (focus (simp; with_reducible rfl)); (focus (simp [-getElem?_pos, g3, et, hst, hm1, hm2, hm3, hrep]; with_reducible (first | rfl | exact ⟨rfl, rfl⟩))); (focus (simp; done)); (focus (simp [-getElem?_pos, g3, et, hst, hm1, hm2, hm3, hrep]; with_reducible rfl))))
    refine FinE.retQ rfl (by simp only [resS, sub, subO, subL, subM, sub3, sub2, fk_some, fk_none, fk_arg0, fk_argS, fk_argN, fk_map0, fk_mapS, fk_mapN, reduceIte, Nat.reduceEqDiff, Nat.reduceAdd]; with_reducible rfl) ⟨h.length + 1, pid, h2.length, kvs, rfl, ?_, ?_⟩
    · have hTl := T.hl
      have hne : pid ≠ h.length + 1 := by
        rintro rfl
        rw [g4] at g3
        have := congrArg (fun e => match e with | Ent.blk cs _ => cs.length | _ => 0) g3
        simp only [cellsT_len _ _ T.len, List.length_cons, List.length_nil] at this
        omega
      refine ⟨by omega, g2, hTl, ⟨none, sa_self htl⟩, ⟨_, (sa_ne hne hpl).trans g4⟩, ⟨none, ?_⟩, T.len, by simp, fun i x kv hx hkv => ?_, fun a v hv => ?_, fun a a' rid hv => ?_⟩
      · have := sa_at (h := h2) (i := h.length + 1) (n := 0) (X := Ent.blk [V.sln pid 0 (addP c []).length 8 true, V.pv (PV.sl (encB s)), V.sln h2.length 0 (addP c []).length 1 false] none) (l := [Ent.blk (List.replicate (addP c []).length V.nils) none])
        exact this
      · rcases T.rows i x kv hx hkv with ⟨r1, r2⟩ | ⟨r1, tok, r2, _⟩
        · exact .inl ⟨r2, by simpa [encN] using r1⟩
        · exact .inr ⟨tok, r2⟩
      · have := List.mem_of_getElem? hv
        simp at this
        exact .inl this.2
      · have := List.mem_of_getElem? hv
        simp at this
    · refine F0.trans ⟨by simp, fun i hi => sa_ne (by omega) (by have := T.hl; omega)⟩
end Lng

-- A table's rows: what is left of the heap where one is made known.
namespace Lng
open Go Ab Cps Go.Proofs.Ytdacifedlemlmaa.Mach
variable {E : Env}

abbrev rowV (rid n : Nat) : V := .sln rid 0 (n + 1) 1 false
/-- Places that the table points to. -/
def Ref (h : Heap) (n : Nat) (es : List V) (q : Nat) : Prop := ∃ (a rid : Nat) (rs : List V) (tr : Option TypeId) (i : Nat), es[a]? = some (rowV rid n) ∧ ent h rid = .blk rs tr ∧ rs[i]? = some (.ptr q 0)

structure FrW (n eid : Nat) (h : Heap) (es : List V) (h' : Heap) (es' : List V) : Prop where
  len : h.length ≤ h'.length
  old : ∀ k, k < h.length → k ≠ eid → (∀ (a rid : Nat), es[a]? = some (rowV rid n) → k ≠ rid) → ent h' k = ent h k
  keep : ∀ (a : Nat) (v : V), es[a]? = some v → v ≠ .nils → es'[a]? = some v
  new : ∀ (a rid : Nat), es'[a]? = some (rowV rid n) → es[a]? = some (rowV rid n) ∨ h.length ≤ rid
  ref : ∀ q, Ref h' n es' q → Ref h n es q ∨ h.length ≤ q

theorem FrW.refl {n eid : Nat} {h : Heap} {es : List V} : FrW n eid h es h es := ⟨Nat.le_refl _, fun _ _ _ _ => rfl, fun _ _ h _ => h, fun _ _ h => .inl h, fun _ h => .inl h⟩
theorem FrW.trans {n eid : Nat} {h h1 h2 : Heap} {es es1 es2 : List V} (a : FrW n eid h es h1 es1) (b : FrW n eid h1 es1 h2 es2) : FrW n eid h es h2 es2 := by
  refine ⟨Nat.le_trans a.len b.len, fun k hk he hr => ?_, fun i v hv hn => b.keep i v (a.keep i v hv hn) hn, fun i rid hv => ?_, fun q hq => ?_⟩
  · rw [b.old k (Nat.lt_of_lt_of_le hk a.len) he fun i rid hv => ?_, a.old k hk he hr]
    rcases a.new i rid hv with h1 | h1
    · exact hr i rid h1
    · omega
  · rcases b.new i rid hv with h1 | h1
    · exact a.new i rid h1
    · exact .inr (Nat.le_trans a.len h1)
  · rcases b.ref q hq with h1 | h1
    · exact a.ref q h1
    · exact .inr (Nat.le_trans a.len h1)

section
variable {B : Nat} {h h' l : Heap} {tid pid eid : Nat} {P : List Pt} {kvs : List V} {s : List Int} {es : List V}

/-- Places are no part of the table's own. -/
theorem Tbl.off (T : Tbl B h tid pid eid P kvs s es) {q : Nat} {ws : List Nat} {tq : Option TypeId} (hq : ent h q = .blk (cellsW ws) tq) (hw : ws.length = 5) : q ≠ eid ∧ q ≠ tid ∧ (∀ (a rid : Nat), es[a]? = some (rowV rid s.length) → q ≠ rid) ∧ q < h.length := by
  obtain ⟨a, b, c, d, e, rfl⟩ := five hw
  refine ⟨?_, ?_, fun i rid hv => ?_, lt_of_ent' (by rw [hq]; simp)⟩
  · rintro rfl
    obtain ⟨te, he⟩ := T.e
    rw [hq] at he
    cases he
    rcases T.rows 0 _ rfl with h1 | ⟨rid, h1, _⟩ <;> cases h1
  · rintro rfl
    obtain ⟨tt, ht⟩ := T.t
    rw [hq] at ht
    simp [cellsW] at ht
  · rintro rfl
    rcases T.rows i _ hv with h1 | ⟨rid', h1, _, rs, tr, h2, h3, h4⟩
    · cases h1
    · cases h1
      rw [hq] at h2
      cases h2
      rcases h4 0 _ rfl with h5 | ⟨q, h5, _⟩ <;> cases h5

theorem Tbl.of_ent (T : Tbl B h tid pid eid P kvs s es) (hh : ∀ k, ent h k ≠ .dead → ent h' k = ent h k) : Tbl B h' tid pid eid P kvs s es := by
  obtain ⟨tt, ht⟩ := T.t
  obtain ⟨tp, hp⟩ := T.p
  obtain ⟨te, he⟩ := T.e
  refine ⟨T.b1, T.b2, T.b3, ⟨tt, by rw [hh _ (by rw [ht]; simp)]; exact ht⟩, ⟨tp, by rw [hh _ (by rw [hp]; simp)]; exact hp⟩, ⟨te, by rw [hh _ (by rw [he]; simp)]; exact he⟩, T.klen, T.elen, T.kids, fun a v hv => ?_, T.inj⟩
  rcases T.rows a v hv with h1 | ⟨rid, h1, hB, rs, tr, h2, h3, h4⟩
  · exact .inl h1
  · refine .inr ⟨rid, h1, hB, rs, tr, by rw [hh _ (by rw [h2]; simp)]; exact h2, h3, fun i w hw => ?_⟩
    rcases h4 i w hw with h5 | ⟨q, h5, ws, tq, h6, h7⟩
    · exact .inl h5
    · exact .inr ⟨q, h5, ws, tq, by rw [hh _ (by rw [h6]; simp)]; exact h6, h7⟩
theorem Tbl.more (T : Tbl B h tid pid eid P kvs s es) : Tbl B (h ++ l) tid pid eid P kvs s es := T.of_ent fun k hk => ent_app rfl hk

/-- What is pointed to lies in the heap. -/
theorem Tbl.ref_lt (T : Tbl B h tid pid eid P kvs s es) {q : Nat} (hr : Ref h s.length es q) : q < h.length := by
  obtain ⟨a, rid, rs, tr, i, h1, h2, h3⟩ := hr
  rcases T.rows a _ h1 with g | ⟨rid', g, _, rs', tr', g2, _, g4⟩
  · cases g
  · cases g
    rw [h2] at g2
    cases g2
    rcases g4 i _ h3 with g5 | ⟨q', g5, ws, tq, g6, _⟩
    · cases g5
    · cases g5
      exact lt_of_ent' (by rw [g6]; simp)

theorem frW_more (T : Tbl B h tid pid eid P kvs s es) : FrW s.length eid h es (h ++ l) es := by
  refine ⟨by simp, fun k hk _ _ => by simp [ent, List.getElem?_append_left hk], fun _ _ h _ => h, fun _ _ h => .inl h, fun q hq => .inl ?_⟩
  obtain ⟨a, rid, rs, tr, i, h1, h2, h3⟩ := hq
  refine ⟨a, rid, rs, tr, i, h1, ?_, h3⟩
  rcases T.rows a _ h1 with g | ⟨rid', g, _, rs', tr', g2, _, _⟩
  · cases g
  · cases g
    have := ent_app (l := l) g2 (by simp)
    rw [this] at h2
    cases h2
    exact g2

/-- Places that nobody points to are written. -/
theorem Tbl.setq (T : Tbl B h tid pid eid P kvs s es) {q : Nat} {ws ws' : List Nat} {tq : Option TypeId} (hq : ent h q = .blk (cellsW ws) tq) (hw : ws.length = 5) (hr : ¬ Ref h s.length es q) :
    Tbl B (h.set q (.blk (cellsW ws') tq)) tid pid eid P kvs s es ∧ (∀ x, Ref (h.set q (.blk (cellsW ws') tq)) s.length es x → Ref h s.length es x) := by
  obtain ⟨o1, o2, o3, o4⟩ := T.off hq hw
  obtain ⟨tt, ht⟩ := T.t
  obtain ⟨tp, hp⟩ := T.p
  obtain ⟨te, he⟩ := T.e
  have hne : ∀ k, k ≠ q → ent (h.set q (.blk (cellsW ws') tq)) k = ent h k := fun k hk => ent_set_ne (Ne.symm hk)
  have hpq : pid ≠ q := by
    rintro rfl
    rw [hq] at hp
    have h1 := cellsT_len P kvs T.klen
    have h2 : (cellsW ws).length = (cellsT P kvs).length := by
      have := congrArg (fun e => match e with | Ent.blk cs _ => cs.length | _ => 0) hp
      simpa using this
    rw [h1] at h2
    simp [cellsW, hw] at h2
    omega
  refine ⟨⟨T.b1, T.b2, T.b3, ⟨tt, by rw [hne _ (Ne.symm o2)]; exact ht⟩, ⟨tp, by rw [hne _ hpq]; exact hp⟩, ⟨te, by rw [hne _ (Ne.symm o1)]; exact he⟩, T.klen, T.elen, T.kids, fun a v hv => ?_, T.inj⟩, fun x hx => ?_⟩
  · rcases T.rows a v hv with h1 | ⟨rid, h1, hB, rs, tr, h2, h3, h4⟩
    · exact .inl h1
    · subst h1
      refine .inr ⟨rid, rfl, hB, rs, tr, by rw [hne _ (Ne.symm (o3 a rid hv))]; exact h2, h3, fun i w hw' => ?_⟩
      rcases h4 i w hw' with h5 | ⟨q', h5, ws0, tq', h6, h7⟩
      · exact .inl h5
      · subst h5
        exact .inr ⟨q', rfl, ws0, tq', by rw [hne q' (by rintro rfl; exact hr ⟨a, rid, rs, tr, i, hv, h2, hw'⟩)]; exact h6, h7⟩
  · obtain ⟨a, rid, rs, tr, i, g1, g2, g3⟩ := hx
    exact ⟨a, rid, rs, tr, i, g1, by rw [hne _ (Ne.symm (o3 a rid g1))] at g2; exact g2, g3⟩
end

/-- A choice, with what holds behind it. -/
theorem _root_.Ab.X.condCut {st : Ab.St} {Q : AExit → Ab.St → Prop} {rest : ACode} {c : AOperand} {a b : ACode} {t : Bool} (M : Ab.St → Prop) (hc : St.eval st.tmps c = some (.pv (.bool t))) (h1 : t = true → X E (app a .skip) st (thenQ M Q)) (h2 : t = false → X E (app b .skip) st (thenQ M Q))
    (k : ∀ st, M st → X E rest st Q) : X E (.seq (.cond c a b) rest) st Q := by
  refine ⟨W.seq ((W.cond (Q := thenQ M Q) hc (fun h => W.start (h1 h).run) (fun h => W.start (h2 h).run)).mono fun ex st hq => ?_)⟩
  cases ex with
  | normal => exact (k st hq).run
  | ret => exact hq
  | exit i => exact hq
theorem _root_.Ab.X.condCutQ {n : Nat} {f : Nat → V} {h : Heap} {Q : AExit → Ab.St → Prop} {rest : ACode} {c : AOperand} {a b : ACode} {t : Bool} (M : Ab.St → Prop) (hb : below n c.reads = true) (s : subO (Fk.mk (f := f)) c = .val (.pv (.bool t)))
    (h1 : t = true → X E (app a .skip) ⟨TL n f, h⟩ (thenQ M Q)) (h2 : t = false → X E (app b .skip) ⟨TL n f, h⟩ (thenQ M Q)) (k : ∀ st, M st → X E rest st Q) : X E (.seq (.cond c a b) rest) ⟨TL n f, h⟩ Q :=
  X.condCut M (by rw [ev_sub hb, s]; rfl) h1 h2 k
end Lng

-- Rows made, rows made known.
namespace Lng
open Go Ab Cps Go.Proofs.Ytdacifedlemlmaa.Mach
variable {E : Env}

section
variable {B : Nat} {h h' h1 l : Heap} {tid pid eid : Nat} {P : List Pt} {kvs : List V} {s : List Int} {es es1 : List V}

theorem Tbl.eid_lt (T : Tbl B h tid pid eid P kvs s es) : eid < h.length := by obtain ⟨te, he⟩ := T.e; exact lt_of_ent' (by rw [he]; simp)
theorem Tbl.tid_lt (T : Tbl B h tid pid eid P kvs s es) : tid < h.length := by obtain ⟨te, he⟩ := T.t; exact lt_of_ent' (by rw [he]; simp)
theorem Tbl.pid_lt (T : Tbl B h tid pid eid P kvs s es) : pid < h.length := by obtain ⟨te, he⟩ := T.p; exact lt_of_ent' (by rw [he]; simp)
theorem Tbl.ne_te (T : Tbl B h tid pid eid P kvs s es) (hP : P ≠ []) : eid ≠ tid := by
  rintro rfl
  obtain ⟨te, he⟩ := T.e
  obtain ⟨tt, ht⟩ := T.t
  rw [ht] at he
  cases he
  rcases T.rows 1 _ rfl with g | ⟨_, g, _⟩ <;> cases g
theorem Tbl.ne_pe (T : Tbl B h tid pid eid P kvs s es) (hP : P ≠ []) : eid ≠ pid := by
  rintro rfl
  obtain ⟨te, he⟩ := T.e
  obtain ⟨tt, ht⟩ := T.p
  rw [ht] at he
  cases he
  match hp : P, hk : kvs, T.klen, hP with
  | x :: P, kv :: kvs, _, _ =>
    rcases T.rows 0 _ (by simp [cellsT, coreV]; rfl) with g | ⟨_, g, _⟩ <;> cases g
theorem Tbl.rid (T : Tbl B h tid pid eid P kvs s es) {a rid : Nat} (ha : es[a]? = some (rowV rid s.length)) : B ≤ rid ∧ ∃ rs tr, ent h rid = .blk rs tr ∧ rs.length = s.length + 1 ∧
    ∀ (i : Nat) (w : V), rs[i]? = some w → w = .pv .nilp ∨ ∃ q, w = .ptr q 0 ∧ ∃ ws tq, ent h q = .blk (cellsW ws) tq ∧ ∀ x, P[a]? = some x → Pw ws (rowS s x.1 i) := by
  rcases T.rows a _ ha with g | ⟨rid', g, gB, g2⟩
  · cases g
  · cases g; exact ⟨gB, g2⟩
theorem Tbl.rid_ne (T : Tbl B h tid pid eid P kvs s es) (hP : P ≠ []) {a rid : Nat} (ha : es[a]? = some (rowV rid s.length)) : rid ≠ eid ∧ rid ≠ tid ∧ rid ≠ pid ∧ rid < h.length := by
  obtain ⟨_, rs, tr, g2, g3, g4⟩ := T.rid ha
  obtain ⟨w, hw⟩ := at_of_lt (l := rs) (j := 0) (by omega)
  have h4 := g4 0 w hw
  refine ⟨?_, ?_, ?_, lt_of_ent' (by rw [g2]; simp)⟩
  · rintro rfl
    obtain ⟨te, he⟩ := T.e
    rw [g2] at he
    cases he
    rcases T.rows 0 _ hw with g | ⟨_, g, _⟩ <;> rcases h4 with g5 | ⟨_, g5, _⟩ <;> rw [g] at g5 <;> cases g5
  · rintro rfl
    obtain ⟨tt, ht⟩ := T.t
    rw [g2] at ht
    cases ht
    simp at hw
    subst hw
    rcases h4 with g5 | ⟨_, g5, _⟩ <;> cases g5
  · rintro rfl
    obtain ⟨tt, ht⟩ := T.p
    rw [g2] at ht
    cases ht
    match hp : P, hk : kvs, T.klen, hP with
    | x :: P, kv :: kvs, _, _ =>
      simp [cellsT, coreV] at hw
      subst hw
      rcases h4 with g5 | ⟨_, g5, _⟩ <;> cases g5

/-- A row is made, nothing known of it. -/
theorem Tbl.mkrow (T : Tbl B h tid pid eid P kvs s es) (hB : B ≤ h.length) {a : Nat} (ha : es[a]? = some .nils) {te : Option TypeId} (he : ent h eid = .blk es te) :
    Tbl B (h.set eid (.blk (es.set a (rowV h.length s.length)) te) ++ [.blk (List.replicate (s.length + 1) (.pv .nilp)) none]) tid pid eid P kvs s (es.set a (rowV h.length s.length)) ∧
    FrW s.length eid h es (h.set eid (.blk (es.set a (rowV h.length s.length)) te) ++ [.blk (List.replicate (s.length + 1) (.pv .nilp)) none]) (es.set a (rowV h.length s.length)) ∧ (es.set a (rowV h.length s.length))[a]? = some (rowV h.length s.length) := by
  have hal := lt_of_at ha
  have hP : P ≠ [] := by rintro rfl; have := T.elen; simp at this; rw [this] at hal; simp at hal
  have hel := T.eid_lt
  have hself : (es.set a (rowV h.length s.length))[a]? = some (rowV h.length s.length) := List.getElem?_set_self hal
  have hne : ∀ k, k ≠ eid → k < h.length → ent (h.set eid (.blk (es.set a (rowV h.length s.length)) te) ++ [.blk (List.replicate (s.length + 1) (.pv .nilp)) none]) k = ent h k := fun k h1 h2 => sa_ne h1 h2
  have hnew : ent (h.set eid (.blk (es.set a (rowV h.length s.length)) te) ++ [.blk (List.replicate (s.length + 1) (.pv .nilp)) none]) h.length = .blk (List.replicate (s.length + 1) (.pv .nilp)) none := by
    have := sa_at (h := h) (i := eid) (n := 0) (X := .blk (es.set a (rowV h.length s.length)) te) (l := [.blk (List.replicate (s.length + 1) (.pv .nilp)) none])
    exact this
  obtain ⟨tt, ht⟩ := T.t
  obtain ⟨tp, hp⟩ := T.p
  have hrep : ∀ (i : Nat) (w : V), (List.replicate (s.length + 1) (V.pv .nilp))[i]? = some w → w = .pv .nilp := fun i w hw => by
    have := List.mem_of_getElem? hw
    simp at this
    exact this
  refine ⟨⟨T.b1, T.b2, T.b3, ⟨tt, by rw [hne _ (Ne.symm (T.ne_te hP)) T.tid_lt]; exact ht⟩, ⟨tp, by rw [hne _ (Ne.symm (T.ne_pe hP)) T.pid_lt]; exact hp⟩, ⟨te, sa_self hel⟩, T.klen, by simp [T.elen], T.kids, fun b v hv => ?_, fun b b' rid hv hv' => ?_⟩,
    ⟨by simp, fun k hk hke _ => hne k hke hk, fun b v hv hn => ?_, fun b rid hv => ?_, fun q hq => ?_⟩, hself⟩
  · by_cases hba : b = a
    · subst hba
      rw [hself] at hv
      cases hv
      exact .inr ⟨h.length, rfl, hB, _, none, hnew, by simp, fun i w hw => .inl (hrep i w hw)⟩
    · rw [List.getElem?_set_ne (by omega)] at hv
      rcases T.rows b v hv with g | ⟨rid, g, gB, rs, tr, g2, g3, g4⟩
      · exact .inl g
      · subst g
        obtain ⟨n1, _, _, n4⟩ := T.rid_ne hP hv
        refine .inr ⟨rid, rfl, gB, rs, tr, by rw [hne _ n1 n4]; exact g2, g3, fun i w hw => ?_⟩
        rcases g4 i w hw with g5 | ⟨q, g5, ws, tq, g6, g7⟩
        · exact .inl g5
        · by_cases hws : ws.length = 5
          · obtain ⟨o1, _, _, o4⟩ := T.off g6 hws
            exact .inr ⟨q, g5, ws, tq, by rw [hne _ o1 o4]; exact g6, g7⟩
          · obtain ⟨x, hx⟩ := at_of_lt (l := P) (j := b) (by have := lt_of_at hv; have := T.elen; omega)
            exact absurd (g7 x hx).len hws
  · by_cases hba : b = a
    · by_cases hba' : b' = a
      · rw [hba, hba']
      · subst hba
        rw [hself] at hv
        rw [List.getElem?_set_ne (by omega)] at hv'
        cases hv
        have := (T.rid_ne hP hv').2.2.2
        omega
    · by_cases hba' : b' = a
      · subst hba'
        rw [hself] at hv'
        rw [List.getElem?_set_ne (by omega)] at hv
        cases hv'
        have := (T.rid_ne hP hv).2.2.2
        omega
      · rw [List.getElem?_set_ne (by omega)] at hv hv'
        exact T.inj b b' rid hv hv'
  · by_cases hba : b = a
    · subst hba; rw [ha] at hv; cases hv; exact absurd rfl hn
    · rw [List.getElem?_set_ne (by omega)]; exact hv
  · by_cases hba : b = a
    · subst hba
      rw [hself] at hv
      cases hv
      exact .inr (Nat.le_refl _)
    · rw [List.getElem?_set_ne (by omega)] at hv
      exact .inl hv
  · obtain ⟨b, rid, rs, tr, i, g1, g2, g3⟩ := hq
    by_cases hba : b = a
    · subst hba
      rw [hself] at g1
      cases g1
      rw [hnew] at g2
      cases g2
      have := hrep _ _ g3
      cases this
    · rw [List.getElem?_set_ne (by omega)] at g1
      obtain ⟨n1, _, _, n4⟩ := T.rid_ne hP g1
      rw [hne _ n1 n4] at g2
      exact .inl ⟨b, rid, rs, tr, i, g1, g2, g3⟩

/-- A row's places are made known. -/
theorem Tbl.known (T : Tbl B h tid pid eid P kvs s es) {a rid i q : Nat} {rs : List V} {tr tq : Option TypeId} {ws : List Nat} {x : Pt} (ha : es[a]? = some (rowV rid s.length)) (hr : ent h rid = .blk rs tr) (hx : P[a]? = some x)
    (hq : ent h q = .blk (cellsW ws) tq) (hw : Pw ws (rowS s x.1 i)) (hi : i < rs.length) :
    Tbl B (h.set rid (.blk (rs.set i (.ptr q 0)) tr)) tid pid eid P kvs s es ∧ Ref (h.set rid (.blk (rs.set i (.ptr q 0)) tr)) s.length es q ∧
    (∀ y, Ref (h.set rid (.blk (rs.set i (.ptr q 0)) tr)) s.length es y → Ref h s.length es y ∨ y = q) ∧ ent (h.set rid (.blk (rs.set i (.ptr q 0)) tr)) q = .blk (cellsW ws) tq := by
  have hP : P ≠ [] := by rintro rfl; simp at hx
  obtain ⟨n1, n2, n3, n4⟩ := T.rid_ne hP ha
  obtain ⟨o1, o2, o3, o4⟩ := T.off hq hw.len
  have hne : ∀ k, k ≠ rid → ent (h.set rid (.blk (rs.set i (.ptr q 0)) tr)) k = ent h k := fun k hk => ent_set_ne (Ne.symm hk)
  have hself : ent (h.set rid (.blk (rs.set i (.ptr q 0)) tr)) rid = .blk (rs.set i (.ptr q 0)) tr := ent_set n4
  obtain ⟨tt, ht⟩ := T.t
  obtain ⟨tp, hp⟩ := T.p
  obtain ⟨te, he⟩ := T.e
  obtain ⟨rB, rs', tr', r2, r3, r4⟩ := T.rid ha
  rw [hr] at r2
  cases r2
  refine ⟨⟨T.b1, T.b2, T.b3, ⟨tt, by rw [hne _ (Ne.symm n2)]; exact ht⟩, ⟨tp, by rw [hne _ (Ne.symm n3)]; exact hp⟩, ⟨te, by rw [hne _ (Ne.symm n1)]; exact he⟩, T.klen, T.elen, T.kids, fun b v hv => ?_, T.inj⟩, ⟨a, rid, _, tr, i, ha, hself, List.getElem?_set_self hi⟩, fun y hy => ?_, by rw [hne _ (o3 a rid ha)]; exact hq⟩
  · rcases T.rows b v hv with g | ⟨rid', g, gB, rs', tr', g2, g3, g4⟩
    · exact .inl g
    · subst g
      have pl : ∀ (j : Nat) (w : V), rs'[j]? = some w → w = .pv .nilp ∨ ∃ q', w = .ptr q' 0 ∧ ∃ ws' tq', ent (h.set rid (.blk (rs.set i (.ptr q 0)) tr)) q' = .blk (cellsW ws') tq' ∧ ∀ y, P[b]? = some y → Pw ws' (rowS s y.1 j) := fun j w hw' => by
        rcases g4 j w hw' with g5 | ⟨q', g5, ws', tq', g6, g7⟩
        · exact .inl g5
        · obtain ⟨y, hy⟩ := at_of_lt (l := P) (j := b) (by have := lt_of_at hv; have := T.elen; omega)
          obtain ⟨_, _, p3, _⟩ := T.off g6 (g7 y hy).len
          exact .inr ⟨q', g5, ws', tq', by rw [hne _ (p3 a rid ha)]; exact g6, g7⟩
      by_cases hrr : rid' = rid
      · subst hrr
        have hba := T.inj b a rid' hv ha
        subst hba
        rw [hr] at g2
        cases g2
        refine .inr ⟨rid', rfl, gB, _, _, hself, by simp [g3], fun j w hw' => ?_⟩
        by_cases hji : j = i
        · subst hji
          rw [List.getElem?_set_self hi] at hw'
          cases hw'
          refine .inr ⟨q, rfl, ws, tq, by rw [hne _ (o3 b rid' ha)]; exact hq, fun y hy => ?_⟩
          rw [hx] at hy; cases hy; exact hw
        · rw [List.getElem?_set_ne (by omega)] at hw'
          exact pl j w hw'
      · exact .inr ⟨rid', rfl, gB, rs', tr', by rw [hne _ hrr]; exact g2, g3, pl⟩
  · obtain ⟨b, rid', rs', tr', j, g1, g2, g3⟩ := hy
    by_cases hrr : rid' = rid
    · subst hrr
      rw [hself] at g2
      cases g2
      by_cases hji : j = i
      · subst hji
        rw [List.getElem?_set_self hi] at g3
        cases g3
        exact .inr rfl
      · rw [List.getElem?_set_ne (by omega)] at g3
        exact .inl ⟨b, rid', rs, tr, j, g1, hr, g3⟩
    · rw [hne _ hrr] at g2
      exact .inl ⟨b, rid', rs', tr', j, g1, g2, g3⟩
end
end Lng

-- A row's own places, while they are made.
namespace Lng
open Go Ab Cps Go.Proofs.Ytdacifedlemlmaa.Mach
variable {E : Env}

structure HasW (E : Env) : Prop where
  row : HasR E 82 c82
  p : HasP E
  has : Has E 41 c41

/-- What row does: it tells where what a part says from a place on may end. -/
def RowOk (E : Env) (s : List Int) (c : Co) : Prop := ∀ (B : Nat) (h : Heap) (tid pid eid : Nat) (P : List Pt) (kvs es : List V) (a i : Nat), Tbl B h tid pid eid P kvs s es → B ≤ h.length → Tree P c a → i ≤ s.length →
  ∃ v h', limR E 82 [.ptr tid 0, .pv (.int .i64 (a : Int)), .pv (.int .i64 (i : Int))] h = some (v, h') ∧
    ∃ q es' ws tq, v = .ptr q 0 ∧ ent h' q = .blk (cellsW ws) tq ∧ Pw ws (rowS s c i) ∧ Tbl B h' tid pid eid P kvs s es' ∧ FrW s.length eid h es h' es' ∧ Ref h' s.length es' q

theorem encB_len (s : List Int) : (encB s).length = s.length := by simp [encB]
theorem pw_zero : Pw [0, 0, 0, 0, 0] none' := ⟨rfl, by simp, fun i hi => by
  have : ([0, 0, 0, 0, 0] : List Nat).getD (i / 64) 0 = 0 := by
    rcases idx_cases hi with ⟨_, g⟩ | ⟨_, _, g⟩ | ⟨_, _, g⟩ | ⟨_, _, g⟩ | ⟨_, g⟩ <;> rw [g] <;> rfl
  rw [this]; simp [none']⟩

/-- Places, somewhere in the heap. -/
def Side (h : Heap) (q : Nat) (p : Pl) : Prop := ∃ ws t, ent h q = .blk (cellsW ws) t ∧ Pw ws p

/-- Places that are being made: the table's, but not yet known to it. -/
structure Own (B tid pid eid : Nat) (P : List Pt) (kvs : List V) (s : List Int) (h1 : Heap) (es1 : List V) (q : Nat) (h2 : Heap) (es2 : List V) (p : Pl) : Prop where
  T : Tbl B h2 tid pid eid P kvs s es2
  F : FrW s.length eid h1 es1 h2 es2
  pl : Side h2 q p
  nr : ¬ Ref h2 s.length es2 q
  le : h1.length ≤ q
  b : B ≤ h2.length

section
variable {B tid pid eid q : Nat} {P : List Pt} {kvs : List V} {s : List Int} {h1 h2 : Heap} {es1 es2 : List V} {p : Pl}

theorem own_new (T : Tbl B h1 tid pid eid P kvs s es1) (hB : B ≤ h1.length) : Own B tid pid eid P kvs s h1 es1 h1.length (h1 ++ [.blk [.pv (.int .u64 0), .pv (.int .u64 0), .pv (.int .u64 0), .pv (.int .u64 0), .pv (.int .u64 0)] none]) es1 none' := by
  refine ⟨T.more, frW_more T, ⟨[0, 0, 0, 0, 0], none, by simp [ent, cellsW], pw_zero⟩, fun hr => ?_, Nat.le_refl _, by simp; omega⟩
  obtain ⟨a, rid, rs, tr, i, g1, g2, g3⟩ := hr
  obtain ⟨_, rs', tr', e1, _, e2⟩ := T.rid g1
  rw [ent_app e1 (by simp)] at g2
  cases g2
  rcases e2 i _ g3 with g | ⟨q', g, ws, tq, g6, _⟩
  · cases g
  · cases g
    exact absurd (lt_of_ent' (by rw [g6]; simp)) (Nat.lt_irrefl _)

theorem Own.wr (O : Own B tid pid eid P kvs s h1 es1 q h2 es2 p) {ws ws' : List Nat} {tq : Option TypeId} (hq : ent h2 q = .blk (cellsW ws) tq) (hw : Pw ws p) {p' : Pl} (hw' : Pw ws' p') :
    Own B tid pid eid P kvs s h1 es1 q (h2.set q (.blk (cellsW ws') tq)) es2 p' ∧ ∀ y r, y ≠ q → Side h2 y r → Side (h2.set q (.blk (cellsW ws') tq)) y r := by
  obtain ⟨T', R'⟩ := O.T.setq (ws' := ws') hq hw.len O.nr
  have hlt := (O.T.off hq hw.len).2.2.2
  have hle := O.le
  refine ⟨⟨T', ⟨by simp; exact O.F.len, fun k hk he hr => ?_, O.F.keep, O.F.new, fun y hy => O.F.ref y (R' y hy)⟩, ⟨ws', tq, ent_set hlt, hw'⟩, fun hr => O.nr (R' _ hr), hle, by simp; exact O.b⟩, fun y r hy ⟨vs, t, e, w⟩ => ⟨vs, t, by rw [ent_set_ne (Ne.symm hy)]; exact e, w⟩⟩
  rw [ent_set_ne (by omega)]; exact O.F.old k hk he hr

theorem Own.put (HH : HasP E) (O : Own B tid pid eid P kvs s h1 es1 q h2 es2 p) {i : Nat} (hi : i < 320) : ∃ v h', limR E 88 [.ptr q 0, .pv (.int .i64 (i : Int))] h2 = some (v, h') ∧
    (v = .tup [] ∧ Own B tid pid eid P kvs s h1 es1 q h' es2 (orP p (one i)) ∧ ∀ y r, y ≠ q → Side h2 y r → Side h' y r) := by
  obtain ⟨ws, tq, hq, hw⟩ := O.pl
  obtain ⟨v, h', e1, e2, ws', hw', rfl⟩ := put_ok HH hq hw hi
  exact ⟨v, _, e1, e2, O.wr hq hw hw'⟩

theorem Own.or (HH : HasP E) (O : Own B tid pid eid P kvs s h1 es1 q h2 es2 p) {q2 : Nat} {r : Pl} (S : Side h2 q2 r) (hne : q2 ≠ q) : ∃ v h', limR E 89 [.ptr q 0, .ptr q2 0] h2 = some (v, h') ∧
    (v = .tup [] ∧ Own B tid pid eid P kvs s h1 es1 q h' es2 (orP p r) ∧ ∀ y r', y ≠ q → Side h2 y r' → Side h' y r') := by
  obtain ⟨ws, tq, hq, hw⟩ := O.pl
  obtain ⟨vs, t2, e2, w2⟩ := S
  obtain ⟨v, h', e1, e3, ws', hw', rfl⟩ := or_ok HH hq e2 (Ne.symm hne) hw w2
  exact ⟨v, _, e1, e3, O.wr hq hw hw'⟩

theorem Side.has (HH : HasP E) (S : Side h2 q p) {i : Nat} (hi : i < 320) : ∃ v h', limR E 83 [.ptr q 0, .pv (.int .i64 (i : Int))] h2 = some (v, h') ∧ (v = .pv (.bool (p i)) ∧ h' = h2) := by
  obtain ⟨ws, tq, hq, hw⟩ := S
  exact has_ok HH hq hw hi

theorem Own.row (O : Own B tid pid eid P kvs s h1 es1 q h2 es2 p) {x : Co} {k i : Nat} (R : RowOk E s x) (ht : Tree P x k) (hi : i ≤ s.length) :
    ∃ v h', limR E 82 [.ptr tid 0, .pv (.int .i64 (k : Int)), .pv (.int .i64 (i : Int))] h2 = some (v, h') ∧
      (∃ q2 es', v = .ptr q2 0 ∧ Own B tid pid eid P kvs s h1 es1 q h' es' p ∧ Side h' q2 (rowS s x i) ∧ q2 ≠ q ∧ ∀ y r, Side h2 y r → Side h' y r) := by
  obtain ⟨v, h', e1, q2, es', ws, tq, rfl, e2, e3, T', F', r'⟩ := R B h2 tid pid eid P kvs es2 k i O.T O.b ht hi
  have keep : ∀ y r, Side h2 y r → Side h' y r := fun y r ⟨vs, t, e, w⟩ => by
    obtain ⟨o1, o2, o3, o4⟩ := O.T.off e w.len
    exact ⟨vs, t, by rw [F'.old y o4 o1 o3]; exact e, w⟩
  have nr : ¬ Ref h' s.length es' q := fun hr => by
    rcases F'.ref q hr with g | g
    · exact O.nr g
    · obtain ⟨ws0, t0, e, w⟩ := O.pl
      have := (O.T.off e w.len).2.2.2
      omega
  exact ⟨_, h', e1, q2, es', rfl, ⟨T', O.F.trans F', keep _ _ O.pl, nr, O.le, Nat.le_trans O.b F'.len⟩, ⟨ws, tq, e2, e3⟩, by rintro rfl; exact nr r', keep⟩

theorem Own.fin {a rid i : Nat} {x : Pt} (O : Own B tid pid eid P kvs s h1 es1 q h2 es2 (rowS s x.1 i)) (ha1 : es1[a]? = some (rowV rid s.length)) (hx : P[a]? = some x) {rs : List V} {tr : Option TypeId} (hr : ent h2 rid = .blk rs tr) (hi : i < rs.length) :
    ∃ ws tq, ent (h2.set rid (.blk (rs.set i (.ptr q 0)) tr)) q = .blk (cellsW ws) tq ∧ Pw ws (rowS s x.1 i) ∧ Tbl B (h2.set rid (.blk (rs.set i (.ptr q 0)) tr)) tid pid eid P kvs s es2 ∧
      FrW s.length eid h1 es1 (h2.set rid (.blk (rs.set i (.ptr q 0)) tr)) es2 ∧ Ref (h2.set rid (.blk (rs.set i (.ptr q 0)) tr)) s.length es2 q := by
  obtain ⟨ws, tq, hq, hw⟩ := O.pl
  have ha := O.F.keep a _ ha1 (by simp)
  obtain ⟨K1, K2, K3, K4⟩ := O.T.known ha hr hx hq hw hi
  have hle := O.le
  refine ⟨ws, tq, K4, hw, K1, ⟨by simp; exact O.F.len, fun k hk he hrr => ?_, O.F.keep, O.F.new, fun y hy => ?_⟩, K2⟩
  · rw [ent_set_ne (Ne.symm (hrr a rid ha1))]; exact O.F.old k hk he hrr
  · rcases K3 y hy with g | g
    · exact O.F.ref y g
    · subst g; exact .inr hle

/-- What row does of a part's kind. -/
def rowB : ACode := (.seq (.region [(.mk (some 61) (.bin .eql .no (.tmp 59) (.val (.pv (.int .i64 1)))) none []), (.mk (some 60) (.move (.tmp 61)) none [])] false) (.cond (.tmp 60) (.region [(.mk (some 62) (.move (.tmp 8)) none []), (.mk (some 63) (.move (.tmp 2)) none []), (.mk (some 64) (.call 88 [(.tmp 62), (.tmp 63)]) none [])] false) (.seq (.region [(.mk (some 66) (.bin .eql .no (.tmp 59) (.val (.pv (.int .i64 2)))) none []), (.mk (some 65) (.move (.tmp 66)) none [])] false) (.cond (.tmp 65) (.seq (.region [(.mk (some 67) (.move (.tmp 2)) none []), (.mk (some 68) (.move (.tmp 0)) none []), (.mk (some 69) (.nilCheck (.tmp 68)) none [1]), (.mk (some 70) (.faddr 1 (.tmp 69)) none [2]), (.mk (some 71) (.load false 1 (.tmp 70)) none [3]), (.mk (some 72) (.lenOf false (.tmp 71)) none [4]), (.mk (some 73) (.bin .lss .no (.tmp 67) (.tmp 72)) none [0, 5]), (.mk (some 74) (.move (.tmp 73)) none [6]), (.mk (some 75) (.move (.tmp 9)) (some (74, true)) [7]), (.mk (some 76) (.nilCheck (.tmp 75)) (some (74, true)) [8, 7]), (.mk (some 77) (.faddr 0 (.tmp 76)) (some (74, true)) [9, 7]), (.mk (some 78) (.faddr 1 (.tmp 77)) (some (74, true)) [10, 7]), (.mk (some 79) (.load true 4 (.tmp 78)) (some (74, true)) [11, 7]), (.mk (some 80) (.move (.tmp 0)) (some (74, true)) [7]), (.mk (some 81) (.nilCheck (.tmp 80)) (some (74, true)) [13, 7]), (.mk (some 82) (.faddr 1 (.tmp 81)) (some (74, true)) [14, 7]), (.mk (some 83) (.load false 1 (.tmp 82)) (some (74, true)) [15, 7]), (.mk (some 84) (.move (.tmp 2)) (some (74, true)) [7]), (.mk (some 85) (.iaddrSl 1 (.tmp 83) (.tmp 84)) (some (74, true)) [16, 17, 7]), (.mk (some 86) (.load false 1 (.tmp 85)) (some (74, true)) [18, 7]), (.mk (some 87) (.call 41 [(.tmp 79), (.tmp 86)]) (some (74, true)) [12, 19, 7, 7]), (.mk (some 88) (.pick (.tmp 74) (.tmp 87) (.val (.pv (.bool false)))) none [7, 20])] true) (.cond (.tmp 88) (.region [(.mk (some 89) (.move (.tmp 8)) none []), (.mk (some 90) (.move (.tmp 2)) none []), (.mk (some 91) (.bin .add .no (.tmp 90) (.val (.pv (.int .i64 1)))) none []), (.mk (some 92) (.call 88 [(.tmp 89), (.tmp 91)]) none [])] false) .skip)) (.seq (.region [(.mk (some 94) (.bin .eql .no (.tmp 59) (.val (.pv (.int .i64 3)))) none []), (.mk (some 93) (.move (.tmp 94)) none [])] false) (.cond (.tmp 93) (.seq (.region [(.mk (some 95) (.move (.tmp 0)) none []), (.mk (some 96) (.move (.tmp 9)) none []), (.mk (some 97) (.nilCheck (.tmp 96)) none []), (.mk (some 98) (.faddr 7 (.tmp 97)) none []), (.mk (some 99) (.load false 1 (.tmp 98)) none []), (.mk (some 100) (.iaddrSl 1 (.tmp 99) (.val (.pv (.int .i64 0)))) none []), (.mk (some 101) (.load false 1 (.tmp 100)) none []), (.mk (some 102) (.move (.tmp 2)) none []), (.mk (some 103) (.call 82 [(.tmp 95), (.tmp 101), (.tmp 102)]) none []), (.mk (some 10) (.move (.tmp 103)) none [])] false) (.seq (.region [(.mk (some 104) (.move (.tmp 2)) none []), (.mk (some 11) (.move (.tmp 104)) none [])] false) (.block 1 (.loop (.seq (.seq (.region [(.mk (some 105) (.move (.tmp 11)) none []), (.mk (some 106) (.move (.tmp 0)) none []), (.mk (some 107) (.nilCheck (.tmp 106)) none []), (.mk (some 108) (.faddr 1 (.tmp 107)) none []), (.mk (some 109) (.load false 1 (.tmp 108)) none []), (.mk (some 110) (.lenOf false (.tmp 109)) none []), (.mk (some 111) (.bin .leq .no (.tmp 105) (.tmp 110)) none [])] false) (.cond (.tmp 111) .skip (.exit 1))) (.seq (.block 2 (.seq (.region [(.mk (some 114) (.move (.tmp 10)) none []), (.mk (some 115) (.move (.tmp 11)) none []), (.mk (some 116) (.call 83 [(.tmp 114), (.tmp 115)]) none [])] false) (.cond (.tmp 116) (.region [(.mk (some 117) (.move (.tmp 8)) none []), (.mk (some 118) (.move (.tmp 0)) none []), (.mk (some 119) (.move (.tmp 9)) none []), (.mk (some 120) (.nilCheck (.tmp 119)) none []), (.mk (some 121) (.faddr 7 (.tmp 120)) none []), (.mk (some 122) (.load false 1 (.tmp 121)) none []), (.mk (some 123) (.iaddrSl 1 (.tmp 122) (.val (.pv (.int .i64 1)))) none []), (.mk (some 124) (.load false 1 (.tmp 123)) none []), (.mk (some 125) (.move (.tmp 11)) none []), (.mk (some 126) (.call 82 [(.tmp 118), (.tmp 124), (.tmp 125)]) none []), (.mk (some 127) (.call 89 [(.tmp 117), (.tmp 126)]) none [])] false) .skip))) (.region [(.mk (some 112) (.move (.tmp 11)) none []), (.mk (some 113) (.bin .add .no (.tmp 112) (.val (.pv (.int .i64 1)))) none []), (.mk (some 11) (.move (.tmp 113)) none [])] false))))))) (.seq (.region [(.mk (some 129) (.bin .eql .no (.tmp 59) (.val (.pv (.int .i64 4)))) none []), (.mk (some 128) (.move (.tmp 129)) none [])] false) (.cond (.tmp 128) (.seq (.region [(.mk (some 130) (.move (.tmp 8)) none []), (.mk (some 131) (.move (.tmp 0)) none []), (.mk (some 132) (.move (.tmp 9)) none []), (.mk (some 133) (.nilCheck (.tmp 132)) none []), (.mk (some 134) (.faddr 7 (.tmp 133)) none []), (.mk (some 135) (.load false 1 (.tmp 134)) none []), (.mk (some 136) (.iaddrSl 1 (.tmp 135) (.val (.pv (.int .i64 0)))) none []), (.mk (some 137) (.load false 1 (.tmp 136)) none []), (.mk (some 138) (.move (.tmp 2)) none []), (.mk (some 139) (.call 82 [(.tmp 131), (.tmp 137), (.tmp 138)]) none []), (.mk (some 140) (.call 89 [(.tmp 130), (.tmp 139)]) none [])] false) (.region [(.mk (some 141) (.move (.tmp 8)) none []), (.mk (some 142) (.move (.tmp 0)) none []), (.mk (some 143) (.move (.tmp 9)) none []), (.mk (some 144) (.nilCheck (.tmp 143)) none []), (.mk (some 145) (.faddr 7 (.tmp 144)) none []), (.mk (some 146) (.load false 1 (.tmp 145)) none []), (.mk (some 147) (.iaddrSl 1 (.tmp 146) (.val (.pv (.int .i64 1)))) none []), (.mk (some 148) (.load false 1 (.tmp 147)) none []), (.mk (some 149) (.move (.tmp 2)) none []), (.mk (some 150) (.call 82 [(.tmp 142), (.tmp 148), (.tmp 149)]) none []), (.mk (some 151) (.call 89 [(.tmp 141), (.tmp 150)]) none [])] false)) (.seq (.region [(.mk (some 153) (.bin .eql .no (.tmp 59) (.val (.pv (.int .i64 5)))) none []), (.mk (some 152) (.move (.tmp 153)) none [])] false) (.cond (.tmp 152) (.seq (.region [(.mk (some 154) (.move (.tmp 8)) none []), (.mk (some 155) (.move (.tmp 2)) none []), (.mk (some 156) (.call 88 [(.tmp 154), (.tmp 155)]) none [])] false) (.seq (.region [(.mk (some 157) (.move (.tmp 2)) none []), (.mk (some 12) (.move (.tmp 157)) none [])] false) (.block 3 (.loop (.seq (.seq (.region [(.mk (some 158) (.move (.tmp 12)) none []), (.mk (some 159) (.move (.tmp 0)) none []), (.mk (some 160) (.nilCheck (.tmp 159)) none []), (.mk (some 161) (.faddr 1 (.tmp 160)) none []), (.mk (some 162) (.load false 1 (.tmp 161)) none []), (.mk (some 163) (.lenOf false (.tmp 162)) none []), (.mk (some 164) (.bin .leq .no (.tmp 158) (.tmp 163)) none [])] false) (.cond (.tmp 164) .skip (.exit 3))) (.seq (.block 4 (.seq (.region [(.mk (some 167) (.move (.tmp 8)) none []), (.mk (some 168) (.move (.tmp 12)) none []), (.mk (some 169) (.call 83 [(.tmp 167), (.tmp 168)]) none [])] false) (.cond (.tmp 169) (.region [(.mk (some 170) (.move (.tmp 8)) none []), (.mk (some 171) (.move (.tmp 0)) none []), (.mk (some 172) (.move (.tmp 9)) none []), (.mk (some 173) (.nilCheck (.tmp 172)) none []), (.mk (some 174) (.faddr 7 (.tmp 173)) none []), (.mk (some 175) (.load false 1 (.tmp 174)) none []), (.mk (some 176) (.iaddrSl 1 (.tmp 175) (.val (.pv (.int .i64 0)))) none []), (.mk (some 177) (.load false 1 (.tmp 176)) none []), (.mk (some 178) (.move (.tmp 12)) none []), (.mk (some 179) (.call 82 [(.tmp 171), (.tmp 177), (.tmp 178)]) none []), (.mk (some 180) (.call 89 [(.tmp 170), (.tmp 179)]) none [])] false) .skip))) (.region [(.mk (some 165) (.move (.tmp 12)) none []), (.mk (some 166) (.bin .add .no (.tmp 165) (.val (.pv (.int .i64 1)))) none []), (.mk (some 12) (.move (.tmp 166)) none [])] false))))))) (.seq (.seq (.region [(.mk (some 182) (.bin .eql .no (.tmp 59) (.val (.pv (.int .i64 6)))) none []), (.mk (some 181) (.move (.tmp 182)) none [])] false) (.cond (.tmp 181) .skip (.region [(.mk (some 183) (.bin .eql .no (.tmp 59) (.val (.pv (.int .i64 7)))) none []), (.mk (some 181) (.move (.tmp 183)) none [])] false))) (.cond (.tmp 181) (.region [(.mk (some 184) (.move (.tmp 8)) none []), (.mk (some 185) (.move (.tmp 0)) none []), (.mk (some 186) (.move (.tmp 9)) none []), (.mk (some 187) (.nilCheck (.tmp 186)) none []), (.mk (some 188) (.faddr 7 (.tmp 187)) none []), (.mk (some 189) (.load false 1 (.tmp 188)) none []), (.mk (some 190) (.iaddrSl 1 (.tmp 189) (.val (.pv (.int .i64 0)))) none []), (.mk (some 191) (.load false 1 (.tmp 190)) none []), (.mk (some 192) (.move (.tmp 2)) none []), (.mk (some 193) (.call 82 [(.tmp 185), (.tmp 191), (.tmp 192)]) none []), (.mk (some 194) (.call 89 [(.tmp 184), (.tmp 193)]) none [])] false) .skip))))))))))))
/-- Behind it. -/
def RowM (B tid pid eid : Nat) (P : List Pt) (kvs : List V) (s : List Int) (h1 : Heap) (es1 : List V) (q a i : Nat) (c : Co) (st : Ab.St) : Prop := ∃ (h2 : Heap) (es2 : List V) (f : Nat → V), Own B tid pid eid P kvs s h1 es1 q h2 es2 (rowS s c i) ∧
  (fk (Fk.mk (f := f)) 0 = .ptr tid 0 ∧ fk (Fk.mk (f := f)) 1 = .pv (.int .i64 (a : Int)) ∧ fk (Fk.mk (f := f)) 2 = .pv (.int .i64 (i : Int)) ∧ fk (Fk.mk (f := f)) 8 = .ptr q 0) ∧ st = ⟨TL 206 f, h2⟩
theorem _root_.Ab.X.abs {c : ACode} {st : Ab.St} {Q : AExit → Ab.St → Prop} (M : Ab.St → Prop) (hm : M st) (k : ∀ st, M st → X E c st Q) : X E c st Q := k st hm
end
end Lng
