/- SyA: steps, walks, laws: see the remarks within. -/
import Derived.Test.YtdacifedlemlmaaAbStep
import Derived.Test.YtdacifedlemlmaaSyCode
set_option linter.unusedSimpArgs false
set_option linter.unusedVariables false
-- Values and spans as plain data; value.Same of one and itself; what is wide: walked.
namespace Rp
open Go Ab Go.Proofs.Ytdacifedlemlmaa.Mach
variable {E : Env}

theorem _root_.Ab.X.abs2 {c : ACode} {st : Ab.St} {Q : AExit → Ab.St → Prop} (M : Ab.St → Prop) (hm : M st) (k : ∀ st, M st → X E c st Q) : X E c st Q := k st hm
theorem ord_self {k : FloatKind} {b : Nat} (h : nanB k b = false) : fltOrd k b b = some .eq := by
  unfold fltOrd
  rw [h]
  simp only [Bool.or_self, Bool.false_eq_true, if_false]
  unfold nanB FloatKind.decode at h
  unfold Ieee.Format.order
  cases hr : k.format.read b with
  | nan s f => rw [hr] at h; cases h
  | infinity s =>
    simp only [Ieee.Datum.order]
    cases s <;> rfl
  | number s m i =>
    simp only [Ieee.Datum.order]
    congr 1
    simp [compare, compareOfLessAndEq]

theorem eq_self {k : FloatKind} {b : Nat} (h : nanB k b = false) : binA .eql .no (.pv (.flt k b)) (.pv (.flt k b)) = some (.pv (.bool true)) := by simp [binA, fltBin, ord_self h]
theorem ne_nan {k : FloatKind} {b : Nat} (h : nanB k b = true) : binA .neq .no (.pv (.flt k b)) (.pv (.flt k b)) = some (.pv (.bool true)) := by simp [binA, fltBin, fltOrd, h]
inductive Va where
  | mk (k b : Int) (l : List Va)
def Va.k : Va → Int | .mk k _ _ => k
def Va.b : Va → Int | .mk _ b _ => b
def Va.l : Va → List Va | .mk _ _ l => l
def encV : Va → PV
  | .mk k b l => .agg [.int .i64 k, .int .u8 b, .sl (encL l)]
where
  encL : List Va → List PV
  | [] => []
  | x :: l => encV x :: encL l
theorem encVL : ∀ l, encV.encL l = l.map encV
  | [] => rfl
  | x :: l => by simp [encV.encL, encVL l]
theorem eV (x : Va) : encV x = .agg [.int .i64 x.k, .int .u8 x.b, .sl (x.l.map encV)] := by
  cases x; simp [encV, encVL, Va.k, Va.b, Va.l]
theorem Va.ind {p : Va → Prop} (h : ∀ c, (∀ y ∈ c.l, p y) → p c) : ∀ c, p c
  | .mk k b l => h _ (indL h l)
where
  indL {p : Va → Prop} (h : ∀ c, (∀ y ∈ c.l, p y) → p c) : ∀ (l : List Va), ∀ y ∈ l, p y
  | [], y, hy => by cases hy
  | x :: l, y, hy => by
    rcases List.mem_cons.1 hy with h1 | h1
    · rw [h1]; exact Va.ind h x
    · exact indL h l y h1
def FineV : Va → Prop
  | .mk _ b l => (0 ≤ b ∧ b < 256) ∧ l.length ≤ 9223372036854775807 ∧ FineL l
where
  FineL : List Va → Prop
  | [] => True
  | x :: l => FineV x ∧ FineL l
theorem fineVL : ∀ {l : List Va}, FineV.FineL l ↔ ∀ x ∈ l, FineV x
  | [] => by simp [FineV.FineL]
  | x :: l => by simp [FineV.FineL, fineVL (l := l)]
theorem fineV {c : Va} (h : FineV c) : (0 ≤ c.b ∧ c.b < 256) ∧ c.l.length ≤ 9223372036854775807 ∧ ∀ x ∈ c.l, FineV x := by
  cases c; exact ⟨h.1, h.2.1, fineVL.1 h.2.2⟩

set_option maxHeartbeats 2000000 in
theorem eqfun_ok (H : Has E 43 c43) (hg : E.raw 15 = false) (l : List Va) (hl : l.length ≤ 9223372036854775807) (hr : ∀ x ∈ l, limP E 15 [encV x, encV x] = some [.bool true]) :
    limP E 43 [.sl (l.map encV), .sl (l.map encV), .fn 15 []] = some [.bool true] := by
  refine H.limQ (Nat.le_of_ble_eq_true rfl) ?_; unfold c43
  (repeat' first
 | apply X.skipS
 | apply X.blockS
 | (apply X.condQ rfl; (focus (simp only [SB, reduceIte, Nat.reduceEqDiff]; with_reducible rfl)); all_goals (intro hbr; first | exact absurd hbr (by decide) | ((try rw [hbr]); (try simp at hbr))))
 | apply X.stepZ
 | (apply X.stepQ rfl; (focus (simp only [SB, reduceIte, Nat.reduceEqDiff]; with_reducible rfl)); (focus (simp [-getElem?_pos]; with_reducible (first | rfl | exact ⟨rfl, rfl⟩))))
 | fail)
  refine X.forS l.length (fun j st => ∃ (hh : Heap) (f : Nat → V), (fk (Fk.mk (f := f)) 1 = .pv (.sl (l.map encV)) ∧ fk (Fk.mk (f := f)) 2 = .pv (.fn 15 []) ∧ fk (Fk.mk (f := f)) 15 = .pv (.sl (l.map encV)) ∧ fk (Fk.mk (f := f)) 16 = .pv (.int .i64 (l.length : Int)) ∧ fk (Fk.mk (f := f)) 17 = .pv (.int .i64 (j : Int))) ∧ st = ⟨TL 32 f, hh⟩) ?_ ?_
  · exact ⟨_, _, by simp, rfl⟩
  rintro j st hj ⟨hh, f, ⟨f1, f2, f15, f16, f17⟩, rfl⟩
  rcases Nat.lt_or_ge j l.length with hj1 | hj1
  · have hj2 : (j : Int) < (l.length : Int) := by omega
    have hww : IntKind.i64.wrap ((j : Int) + 1) = (j : Int) + 1 := wrap_i64 (by omega)
    obtain ⟨x, hx⟩ := at_of_lt hj1
    have hc := hr x (List.mem_of_getElem? hx)
    clear hr
    rw [eV] at hc
    have hx2 : (l.map encV)[j]? = some (.agg [.int .i64 x.k, .int .u8 x.b, .sl (x.l.map encV)]) := by simp [hx, eV]
    (repeat' first
 | apply X.skipS
 | apply X.skipB
 | apply X.skipL
 | apply X.blockS
 | (apply X.condQ rfl; (focus (simp only [SB, reduceIte, Nat.reduceEqDiff, f1, f2, f15, f16, f17]; with_reducible rfl)); all_goals (intro hbr; first | exact absurd hbr (by decide) | ((try rw [hbr]); (try simp at hbr))))
 | apply X.stepZ
 | (apply X.stepQ rfl; (focus (simp only [SB, reduceIte, Nat.reduceEqDiff, f1, f2, f15, f16, f17]; with_reducible rfl)); (focus (simp [-getElem?_pos, hj1, hj2, hx, eV, hg, hc, hww]; with_reducible (first | rfl | exact ⟨rfl, rfl⟩))))
 | fail)
    all_goals exact ⟨hj1, _, _, by simp [f1, f2, f15, f16], rfl⟩
  · have hj2 : ¬ (j : Int) < (l.length : Int) := by omega
    have hj3 : ¬ j < l.length := by omega
    clear hr
    (repeat' first
 | apply X.retS
 | (apply X.exitS; first | apply X.here | (refine X.out (by decide) ?_; apply X.here))
 | (apply X.condQ rfl; (focus (simp only [SB, reduceIte, Nat.reduceEqDiff, f1, f2, f15, f16, f17]; with_reducible rfl)); all_goals (intro hbr; first | exact absurd hbr (by decide) | ((try rw [hbr]); (try simp at hbr))))
 | apply X.stepZ
 | (apply X.stepQ rfl; (focus (simp only [SB, reduceIte, Nat.reduceEqDiff, f1, f2, f15, f16, f17]; with_reducible rfl)); (focus (simp [-getElem?_pos, hj3, hj2]; with_reducible (first | rfl | exact ⟨rfl, rfl⟩))))
 | fail)
    all_goals (refine Fin.mkQ rfl (by simp only [resS, SB, reduceIte, Nat.reduceEqDiff]; with_reducible rfl) (by simp [oneOf, pureRes, snapFuel, snapL]; with_reducible rfl) ?_)
    all_goals rfl

set_option maxHeartbeats 1000000 in
theorem same_ok (H : Has E 15 c15) (H2 : Has E 43 c43) : ∀ v, FineV v → limP E 15 [encV v, encV v] = some [.bool true] := by
  refine Va.ind fun v ih hf => ?_
  obtain ⟨_, hl, hk⟩ := fineV hf
  have he := eqfun_ok H2 H.raw v.l hl fun x hx => ih x hx (hk x hx)
  clear ih
  rw [eV]
  refine H.limQ (Nat.le_of_ble_eq_true rfl) ?_; unfold c15
  (repeat' first
 | apply X.retS
 | apply X.stepZ
 | (apply X.stepQ rfl; (focus (simp only [SB, reduceIte, Nat.reduceEqDiff]; with_reducible rfl)); (focus (simp [-getElem?_pos, H2.raw, he]; with_reducible (first | rfl | exact ⟨rfl, rfl⟩))))
 | ((first | apply X.stepGtQ rfl | apply X.stepGfQ rfl); (focus (simp only [SB, reduceIte, Nat.reduceEqDiff]; with_reducible rfl)); all_goals (intro hbr; first | exact absurd hbr (by decide) | ((try rw [hbr]); (try simp at hbr))))
 | fail)
  all_goals (refine Fin.mkQ rfl (by simp only [resS, SB, reduceIte, Nat.reduceEqDiff]; with_reducible rfl) (by simp [oneOf, pureRes, snapFuel, snapL]; with_reducible rfl) ?_)
  all_goals rfl

def wideS : Va → Int → Bool
  | .mk _ _ l, d => decide (d < 1) || decide (30 < (l.length : Int)) || wideL l (d - 1)
where
  wideL : List Va → Int → Bool
  | [], _ => false
  | x :: l, d => wideS x d || wideL l d
theorem wideS_eq (v : Va) (d : Int) : wideS v d = (decide (d < 1) || decide (30 < (v.l.length : Int)) || wideS.wideL v.l (d - 1)) := by cases v; rw [wideS]; rfl

set_option maxHeartbeats 2000000 in
theorem wide_ok (H : Has E 13 c13) : ∀ v, ∀ d : Int, 0 ≤ d → d ≤ 1000 → limP E 13 [encV v, .int .i64 d] = some [.bool (wideS v d)] := by
  refine Va.ind fun v ih d hd0 hd1 => ?_
  rw [wideS_eq, eV]
  by_cases h0 : d < 1
  · refine H.limQ (Nat.le_of_ble_eq_true rfl) ?_; unfold c13
    (repeat' first
 | apply X.retS
 | (apply X.condQ rfl; (focus (simp only [SB, reduceIte, Nat.reduceEqDiff]; with_reducible rfl)); all_goals (intro hbr; first | exact absurd hbr (by decide) | ((try rw [hbr]); (try simp at hbr))))
 | apply X.stepZ
 | (apply X.stepQ rfl; (focus (simp only [SB, reduceIte, Nat.reduceEqDiff]; with_reducible rfl)); (focus (simp [-getElem?_pos, h0]; with_reducible (first | rfl | exact ⟨rfl, rfl⟩))))
 | ((first | apply X.stepGtQ rfl | apply X.stepGfQ rfl); (focus (simp only [SB, reduceIte, Nat.reduceEqDiff]; with_reducible rfl)); all_goals (intro hbr; first | exact absurd hbr (by decide) | ((try rw [hbr]); (try simp at hbr))))
 | fail)
    all_goals (refine Fin.mkQ rfl (by simp only [resS, SB, reduceIte, Nat.reduceEqDiff]; with_reducible rfl) (by simp [oneOf, pureRes, snapFuel, snapL]; with_reducible rfl) ?_)
    all_goals simp [h0]
  have hw : IntKind.i64.wrap (d - 1) = d - 1 := wrap_i64 (by omega)
  by_cases hl : 30 < v.l.length
  · have hl2 : (30 : Int) < (v.l.length : Int) := by omega
    refine H.limQ (Nat.le_of_ble_eq_true rfl) ?_; unfold c13
    (repeat' first
 | apply X.retS
 | (apply X.condQ rfl; (focus (simp only [SB, reduceIte, Nat.reduceEqDiff]; with_reducible rfl)); all_goals (intro hbr; first | exact absurd hbr (by decide) | ((try rw [hbr]); (try simp at hbr))))
 | apply X.stepZ
 | (apply X.stepQ rfl; (focus (simp only [SB, reduceIte, Nat.reduceEqDiff]; with_reducible rfl)); (focus (simp [-getElem?_pos, h0, hl, hl2]; with_reducible (first | rfl | exact ⟨rfl, rfl⟩))))
 | ((first | apply X.stepGtQ rfl | apply X.stepGfQ rfl); (focus (simp only [SB, reduceIte, Nat.reduceEqDiff]; with_reducible rfl)); all_goals (intro hbr; first | exact absurd hbr (by decide) | ((try rw [hbr]); (try simp at hbr))))
 | fail)
    all_goals (refine Fin.mkQ rfl (by simp only [resS, SB, reduceIte, Nat.reduceEqDiff]; with_reducible rfl) (by simp [oneOf, pureRes, snapFuel, snapL]; with_reducible rfl) ?_)
    all_goals simp [h0, hl, hl2]
  have hl2 : ¬ (30 : Int) < (v.l.length : Int) := by omega
  have ih' := fun x hx => ih x hx (d - 1) (by omega) (by omega)
  clear ih
  refine H.limQ (Nat.le_of_ble_eq_true rfl) ?_; unfold c13
  (repeat' first
 | apply X.skipS
 | apply X.blockS
 | (apply X.condQ rfl; (focus (simp only [SB, reduceIte, Nat.reduceEqDiff]; with_reducible rfl)); all_goals (intro hbr; first | exact absurd hbr (by decide) | ((try rw [hbr]); (try simp at hbr))))
 | apply X.stepZ
 | (apply X.stepQ rfl; (focus (simp only [SB, reduceIte, Nat.reduceEqDiff]; with_reducible rfl)); (focus (simp [-getElem?_pos, h0, hl, hl2]; with_reducible (first | rfl | exact ⟨rfl, rfl⟩))))
 | ((first | apply X.stepGtQ rfl | apply X.stepGfQ rfl); (focus (simp only [SB, reduceIte, Nat.reduceEqDiff]; with_reducible rfl)); all_goals (intro hbr; first | exact absurd hbr (by decide) | ((try rw [hbr]); (try simp at hbr))))
 | fail)
  refine X.forS v.l.length (fun j st => wideS.wideL (v.l.drop j) (d - 1) = wideS.wideL v.l (d - 1) ∧ ∃ (f : Nat → V), (fk (Fk.mk (f := f)) 1 = .pv (.int .i64 d) ∧ fk (Fk.mk (f := f)) 2 = .ptr 0 0 ∧ fk (Fk.mk (f := f)) 5 = .pv (.int .i64 (j : Int))) ∧ st = ⟨TL 29 f, [.blk [.pv (.int .i64 v.k), .pv (.int .u8 v.b), .pv (.sl (v.l.map encV))] none]⟩) ?_ ?_
  · exact ⟨rfl, _, by simp, rfl⟩
  rintro j st hj ⟨hi, f, ⟨f1, f2, f5⟩, rfl⟩
  rcases Nat.lt_or_ge j v.l.length with hj1 | hj1
  · have hj2 : (j : Int) < (v.l.length : Int) := by omega
    have hww : IntKind.i64.wrap ((j : Int) + 1) = (j : Int) + 1 := wrap_i64 (by omega)
    obtain ⟨x, hx⟩ := at_of_lt hj1
    have hc := ih' x (List.mem_of_getElem? hx)
    clear ih'
    rw [eV] at hc
    rw [drop_at hx] at hi
    simp only [wideS.wideL] at hi
    cases hb : wideS x (d - 1) with
 | true =>
      rw [hb] at hc hi
      (repeat' first
 | apply X.retS
 | apply X.skipS
 | apply X.blockS
 | (apply X.condQ rfl; (focus (simp only [SB, reduceIte, Nat.reduceEqDiff, f1, f2, f5]; with_reducible rfl)); all_goals (intro hbr; first | exact absurd hbr (by decide) | ((try rw [hbr]); (try simp at hbr))))
 | apply X.stepZ
 | (apply X.stepQ rfl; (focus (simp only [SB, reduceIte, Nat.reduceEqDiff, f1, f2, f5]; with_reducible rfl)); (focus (simp [-getElem?_pos, hj1, hj2, hx, eV, hw, H.raw, hc]; with_reducible (first | rfl | exact ⟨rfl, rfl⟩))))
 | fail)
      all_goals (refine Fin.mkQ rfl (by simp only [resS, SB, reduceIte, Nat.reduceEqDiff]; with_reducible rfl) (by simp [oneOf, pureRes, snapFuel, snapL]; with_reducible rfl) ?_)
      all_goals simp [← hi]
 | false =>
      rw [hb] at hc hi
      (repeat' first
 | apply X.skipS
 | apply X.skipB
 | apply X.skipL
 | apply X.blockS
 | (apply X.condQ rfl; (focus (simp only [SB, reduceIte, Nat.reduceEqDiff, f1, f2, f5]; with_reducible rfl)); all_goals (intro hbr; first | exact absurd hbr (by decide) | ((try rw [hbr]); (try simp at hbr))))
 | apply X.stepZ
 | (apply X.stepQ rfl; (focus (simp only [SB, reduceIte, Nat.reduceEqDiff, f1, f2, f5]; with_reducible rfl)); (focus (simp [-getElem?_pos, hj1, hj2, hx, eV, hw, H.raw, hc, hww]; with_reducible (first | rfl | exact ⟨rfl, rfl⟩))))
 | fail)
      all_goals exact ⟨hj1, by simpa using hi, _, by simp [f1, f2], rfl⟩
  · have hj2 : ¬ (j : Int) < (v.l.length : Int) := by omega
    have hj3 : ¬ j < v.l.length := by omega
    rw [List.drop_eq_nil_of_le hj1] at hi
    simp only [wideS.wideL] at hi
    clear ih'
    (repeat' first
 | apply X.retS
 | (apply X.exitS; first | apply X.here | (refine X.out (by decide) ?_; apply X.here))
 | (apply X.condQ rfl; (focus (simp only [SB, reduceIte, Nat.reduceEqDiff, f1, f2, f5]; with_reducible rfl)); all_goals (intro hbr; first | exact absurd hbr (by decide) | ((try rw [hbr]); (try simp at hbr))))
 | apply X.stepZ
 | (apply X.stepQ rfl; (focus (simp only [SB, reduceIte, Nat.reduceEqDiff, f1, f2, f5]; with_reducible rfl)); (focus (simp [-getElem?_pos, hj3, hj2]; with_reducible (first | rfl | exact ⟨rfl, rfl⟩))))
 | fail)
    all_goals (refine Fin.mkQ rfl (by simp only [resS, SB, reduceIte, Nat.reduceEqDiff]; with_reducible rfl) (by simp [oneOf, pureRes, snapFuel, snapL]; with_reducible rfl) ?_)
    all_goals simp [← hi, h0, hl2, hl]
end Rp

-- Spans, reports as plain data.
namespace Rp
open Go Ab Go.Proofs.Ytdacifedlemlmaa.Mach

theorem vk (k b : Int) (l : List Va) : (Va.mk k b l).k = k := rfl
theorem vb (k b : Int) (l : List Va) : (Va.mk k b l).b = b := rfl
theorem vl (k b : Int) (l : List Va) : (Va.mk k b l).l = l := rfl
abbrev Sp := Int × Int
def encS (s : Sp) : PV := .agg [.int .i64 s.1, .int .i64 s.2]
def encF (a b : Int) (v : Va) (sp : List Sp) : PV := .agg [.int .i64 a, .int .i64 b, .int .i64 v.k, .int .u8 v.b, .sl (v.l.map encV), .sl (sp.map encS)]
def encR (e a b : Int) (sp : List Sp) (v : Va) (q : Nat) : PV := .agg [.int .i64 e, .int .i64 a, .int .i64 b, .sl (sp.map encS), .int .i64 v.k, .int .u8 v.b, .sl (v.l.map encV), .flt .f64 q]
def nanC : Nat := 9221120237041090561

end Rp

-- Slices of bytes that are made by appends, kept in the heap; report.put, putValue, score.Bytes: walked.
namespace Rp
open Go Ab Go.Proofs.Ytdacifedlemlmaa.Mach
variable {E : Env}

def Buf (h : Heap) (_t : TypeId) (v : V) (es : List PV) : Prop := (es = [] ∧ v = .nils) ∨ (es ≠ [] ∧ ∃ id, v = .sln id 0 es.length 1 false ∧ ∃ ty, ent h id = .blk (es.map .pv) ty)
def idOf : V → Option Nat
  | .sln id _ _ _ _ => some id
  | _ => none
structure Fr (h : Heap) (v : V) (h' : Heap) (v' : V) : Prop where
  len : h.length ≤ h'.length
  old : ∀ i, i < h.length → idOf v ≠ some i → ent h' i = ent h i
  id : ∀ i, idOf v' = some i → idOf v = some i ∨ h.length ≤ i
def killB (h : Heap) (v : V) : Heap := match idOf v with
  | some id => h.set id .dead
  | none => h

section
variable {h h' h2 l : Heap} {t : TypeId} {v v' v2 : V} {es : List PV}
theorem Fr.refl : Fr h v h v := ⟨Nat.le_refl _, fun _ _ _ => rfl, fun _ hi => .inl hi⟩
theorem Fr.trans (a : Fr h v h' v') (b : Fr h' v' h2 v2) : Fr h v h2 v2 := by
  refine ⟨Nat.le_trans a.len b.len, fun i hi hv => ?_, fun i hi => ?_⟩
  · rw [b.old i (Nat.lt_of_lt_of_le hi a.len) fun hh => (a.id i hh).elim hv (by omega), a.old i hi hv]
  · rcases b.id i hi with h1 | h1
    · exact a.id i h1
    · exact .inr (Nat.le_trans a.len h1)
theorem Fr.more (a : Fr h v h' v') : Fr h v (h' ++ l) v' := by
  refine ⟨by have := a.len; simp; omega, fun i hi hv => ?_, a.id⟩
  rw [← a.old i hi hv]
  have : i < h'.length := Nat.lt_of_lt_of_le hi a.len
  simp [ent, List.getElem?_append_left this]
theorem Fr.less (a : Fr (h ++ l) v h' v') : Fr h v h' v' := by
  refine ⟨by have := a.len; simp at this; omega, fun i hi hv => ?_, fun i hi => ?_⟩
  · rw [a.old i (by simp; omega) hv]
    simp [ent, List.getElem?_append_left hi]
  · rcases a.id i hi with h1 | h1
    · exact .inl h1
    · simp at h1; exact .inr (by omega)
theorem Buf.nil : Buf h t .nils [] := .inl ⟨rfl, rfl⟩
theorem Buf.more (b : Buf h t v es) : Buf (h ++ l) t v es := by
  rcases b with b | ⟨h1, id, h2, ty, h3⟩
  · exact .inl b
  · exact .inr ⟨h1, id, h2, ty, ent_app h3 (by simp)⟩
theorem Buf.lt (b : Buf h t v es) {i : Nat} (hi : idOf v = some i) : i < h.length := by
  rcases b with ⟨_, rfl⟩ | ⟨_, id, rfl, ty, h3⟩
  · cases hi
  · cases hi
    rcases Nat.lt_or_ge i h.length with h1 | h1
    · exact h1
    · simp [ent, List.getElem?_eq_none h1] at h3
theorem Buf.pures (b : Buf h t v es) {vs : List V} : pures (v :: vs) = none := by
  rcases b with ⟨_, rfl⟩ | ⟨_, id, rfl, _⟩ <;> simp [Ab.pures]
theorem Buf.lenA (b : Buf h t v es) : lenA v = some es.length := by
  rcases b with ⟨rfl, rfl⟩ | ⟨_, id, rfl, _⟩ <;> simp [Ab.lenA]
theorem Buf.isSl (b : Buf h t v es) : isSlV v = true := by
  rcases b with ⟨rfl, rfl⟩ | ⟨_, id, rfl, _⟩ <;> simp [isSlV]
theorem killB_len : (killB h v).length = h.length := by unfold killB; split <;> simp
theorem killB_app (b : Buf h t v es) : killB (h ++ l) v = killB h v ++ l := by
  unfold killB
  cases hi : idOf v with
  | none => rfl
  | some i => exact List.set_append_left _ _ (b.lt hi)
theorem Buf.appN (b : Buf h t v es) {bytes n : Nat} {ps : List PV} (hn : ps.length = n) (hn0 : n ≠ 0) (hc : (ps.map V.pv).all V.isCell = true) (hb : (es.length + n) * bytes ≤ 35184372088832) :
    ∃ ty, ∀ l : Heap, appendA (h ++ l) false true 1 bytes t v n (ps.map .pv) = some (.sln (h.length + l.length) 0 (es.length + n) 1 false, killB h v ++ (l ++ [.blk ((es ++ ps).map .pv) ty])) := by
  subst hn
  have hb0 := b
  rcases b with ⟨rfl, rfl⟩ | ⟨h1, id, rfl, ty, h3⟩
  · have hb' : ps.length * bytes ≤ 35184372088832 := by simpa using hb
    refine ⟨some t, fun l => ?_⟩
    simp only [appendA, if_neg hn0, if_true]
    rw [if_pos]
    · simp [killB, idOf]
    · simp only [growMax, hb', decide_true, List.length_map, Nat.mul_one, hc, Bool.and_self]
  · refine ⟨if ty = some t then ty else none, fun l => ?_⟩
    have h3' : ent (h ++ l) id = .blk (es.map .pv) ty := ent_app h3 (by simp)
    have hk := killB_app (l := l) hb0
    simp only [appendA, if_neg hn0, h3']
    rw [if_pos]
    · rw [← List.append_assoc, ← hk]
      simp [killB, idOf]
    · refine ⟨trivial, trivial, trivial, by simp, hb, by simp, hc⟩
theorem killB_at0 : ent (killB h v ++ l) h.length = ent l 0 := by rw [show h.length = (killB h v).length from killB_len.symm]; exact ent_at0
theorem killB_at {n : Nat} : ent (killB h v ++ l) (h.length + n) = ent l n := by rw [show h.length = (killB h v).length from killB_len.symm]; exact ent_at
theorem Buf.appN_buf {ps : List PV} (hp : ps ≠ []) {n m : Nat} {g : Heap} {ty : Option TypeId} (hn : n = h.length + g.length) (hm : m = es.length + ps.length) : Buf (killB h v ++ (g ++ .blk ((es ++ ps).map .pv) ty :: l)) t (.sln n 0 m 1 false) (es ++ ps) := by
  subst hn hm
  refine .inr ⟨by simp [hp], h.length + g.length, by simp, ty, ?_⟩
  rw [killB_at]
  simp [ent]
theorem Buf.app_fr {n m : Nat} (hn : h.length ≤ n) : Fr h v (killB h v ++ l) (.sln n 0 m 1 false) := by
  refine ⟨by simp [killB_len], fun i hi hv => ?_, fun i hi => ?_⟩
  · have : i < (killB h v).length := by rw [killB_len]; exact hi
    simp only [ent, List.getElem?_append_left this]
    unfold killB
    split
    · rename_i j hj
      rw [List.getElem?_set_ne]
      rintro rfl
      exact hv hj
    · rfl
  · cases hi; exact .inr hn
theorem chunks_one : ∀ es : List PV, (chunks 1 es.length es).map (mkPV false) = es
  | [] => rfl
  | p :: es => by simp [chunks, mkPV, chunks_one es]
theorem Buf.snap (b : Buf h t v es) {n : Nat} : ∃ h2, snap (n + 2) v h = some (.sl es, h2) := by
  rcases b with ⟨rfl, rfl⟩ | ⟨h1, id, rfl, ty, h3⟩
  · exact ⟨h, by simp [Ab.snap]⟩
  · refine ⟨h.set id (.frz es), ?_⟩
    have hs : snapLF (Ab.snap (n + 1)) (es.map V.pv) (h.set id .dead) = some (es, h.set id .dead) := snapLF_pvs _
    have hc : cut es 0 (es.length * 1) = some es := by simp [cut]
    rw [snap_sln, h3]
    simp only [hs, hc]
    have := chunks_one es
    simp [this]
end

def encB (l : List Int) : List PV := l.map (.int .u8)
theorem encB_len (l : List Int) : (encB l).length = l.length := by simp [encB]
theorem encB_app (a b : List Int) : encB (a ++ b) = encB a ++ encB b := by simp [encB]
theorem encB_cell (l : List Int) : ((encB l).map V.pv).all V.isCell = true := by simp [encB, V.isCell, PV.isCell]
theorem Buf.appB {h : Heap} {v : V} {es : List PV} (b : Buf h 5 v es) {bytes : Nat} (l : List Int) (hl : l ≠ []) (hb : (es.length + l.length) * bytes ≤ 35184372088832) :
    ∃ ty, ∀ g : Heap, appendA (h ++ g) false true 1 bytes 5 v l.length (l.map fun x => V.pv (.int .u8 x)) = some (.sln (h.length + g.length) 0 (es.length + l.length) 1 false, killB h v ++ (g ++ [.blk ((es ++ encB l).map .pv) ty])) := by
  obtain ⟨ty, h1⟩ := b.appN (ps := encB l) (n := l.length) (bytes := bytes) (encB_len l) (by cases l <;> simp at hl ⊢) (encB_cell l) hb
  have h2 : (encB l).map V.pv = l.map fun x => V.pv (.int .u8 x) := by simp [encB]
  exact ⟨ty, fun g => by have := h1 g; rw [h2] at this; exact this⟩

def by8 (n : Int) : Int := IntKind.u8.wrap n
def putN (n : Int) : List Int := [by8 (n.fdiv 16777216), by8 (n.fdiv 65536), by8 (n.fdiv 256), by8 n]
theorem shrI (n : Int) (k : Nat) (hk : k ≤ 64) {d : Int} (hd : d = 2 ^ k) : binA .shr .no (.pv (.int .i64 n)) (.pv (.int .u64 (k : Int))) = some (.pv (.int .i64 (n.fdiv d))) := by
  subst hd
  have : min ((k : Int).toNat) (IntKind.i64.bits) = k := by simp [IntKind.bits]; omega
  simp only [binA, intBin]
  rw [if_neg (by omega), this]
  rfl

structure HasP (E : Env) : Prop where
  put : HasR E 52 c52
  putv : HasR E 53 c53
  bytes : Has E 54 c54
  bits : Has E 84 c84
  isnan : Has E 44 c44
  rfb : E.raw 63 = false
  fb : ∀ b : Nat, limP E 63 [.flt .f64 b] = some [if b = nanOf .f64 then .top else .int .u64 b]

set_option maxHeartbeats 2000000 in
theorem put_ok (HH : HasP E) (n : Int) (h : Heap) (b : V) (es : List PV) (hb : Buf h 5 b es) (hle : es.length + 4 ≤ 35184372088832) :
    ∃ b' h', limR E 52 [b, .pv (.int .i64 n)] h = some (b', h') ∧ (Buf h' 5 b' (es ++ encB (putN n)) ∧ Fr h b h' b') := by
  refine HH.put.limQE (Nat.le_of_ble_eq_true rfl) ?_; unfold c52
  have s1 := shrI n 24 (by omega) (d := 16777216) rfl
  have s2 := shrI n 16 (by omega) (d := 65536) rfl
  have s3 := shrI n 8 (by omega) (d := 256) rfl
  have e24 : ((24 : Nat) : Int) = 24 := rfl
  have e16 : ((16 : Nat) : Int) = 16 := rfl
  have e8 : ((8 : Nat) : Int) = 8 := rfl
  rw [e24] at s1
  rw [e16] at s2
  rw [e8] at s3
  obtain ⟨ty, happ⟩ : ∃ ty, ∀ l : Heap, appendA (h ++ l) false true 1 1 5 b 4 [.pv (.int .u8 (IntKind.u8.wrap (n.fdiv 16777216))), .pv (.int .u8 (IntKind.u8.wrap (n.fdiv 65536))), .pv (.int .u8 (IntKind.u8.wrap (n.fdiv 256))), .pv (.int .u8 (IntKind.u8.wrap n))] = some (.sln (h.length + l.length) 0 (es.length + 4) 1 false, killB h b ++ (l ++ [.blk ((es ++ encB (putN n)).map .pv) ty])) :=
    hb.appB (putN n) (by simp [putN]) (bytes := 1) (by simp [putN]; omega)
  clear e24 e16 e8
  (repeat' first
 | apply X.retS
 | apply X.stepZ
 | (apply X.stepQ rfl; (focus (simp only [SB, reduceIte, Nat.reduceEqDiff]; with_reducible rfl)); (focus (simp [-getElem?_pos, -binA, s1, s2, s3, happ]; with_reducible (first | rfl | exact ⟨rfl, rfl⟩))))
 | fail)
  all_goals refine FinE.retQ rfl (by simp [resS]; with_reducible rfl) ⟨?_, ?_⟩
  · have := Buf.appN_buf (h := h) (v := b) (es := es) (t := 5) (ty := ty) (ps := encB (putN n)) (by simp [putN, encB]) (n := h.length + 1) (m := es.length + 4) (l := []) (g := [Ent.blk [.pv (.int .u8 (IntKind.u8.wrap (n.fdiv 16777216))), .pv (.int .u8 (IntKind.u8.wrap (n.fdiv 65536))), .pv (.int .u8 (IntKind.u8.wrap (n.fdiv 256))), .pv (.int .u8 (IntKind.u8.wrap n))] none]) rfl (by simp [encB, putN])
    simpa [oneOf] using this
  · exact Buf.app_fr (by omega)

def valS : Va → List Int
  | .mk k b l => (by8 k :: (if k = 2 then [b] else if k = 6 then [by8 ((l.length : Int).fdiv 256), by8 l.length] else [])) ++ valL l
where
  valL : List Va → List Int
  | [] => []
  | x :: l => valS x ++ valL l
def headS (v : Va) : List Int := by8 v.k :: (if v.k = 2 then [v.b] else if v.k = 6 then [by8 ((v.l.length : Int).fdiv 256), by8 v.l.length] else [])
theorem valS_eq (v : Va) : valS v = headS v ++ valS.valL v.l := by cases v; rw [valS]; rfl

theorem killB_keep {h l : Heap} {v : V} {i : Nat} (hi : i < h.length) (hv : idOf v ≠ some i) : ent (killB h v ++ l) i = ent h i := by
  have : i < (killB h v).length := by rw [killB_len]; exact hi
  simp only [ent, List.getElem?_append_left this]
  unfold killB
  split
  · rename_i j hj
    rw [List.getElem?_set_ne]
    rintro rfl
    exact hv hj
  · rfl
theorem Buf.grow {h : Heap} {b : V} {es : List PV} (hb : Buf h 5 b es) (g : Heap) (l : List Int) (hl : l ≠ []) {H : Heap} {n m : Nat} {ty : Option TypeId} (hH : H = killB h b ++ (g ++ [.blk ((es ++ encB l).map .pv) ty])) (hn : n = h.length + g.length) (hm : m = es.length + l.length) :
    Buf H 5 (.sln n 0 m 1 false) (es ++ encB l) ∧ Fr h b H (.sln n 0 m 1 false) ∧ H.length = h.length + g.length + 1 ∧ (∀ i, i < h.length → idOf b ≠ some i → ent H i = ent h i) ∧ (∀ i, i < g.length → ent H (h.length + i) = ent g i) := by
  subst hH
  refine ⟨Buf.appN_buf (by cases l <;> simp [encB] at hl ⊢) hn (by rw [hm, encB_len]), Buf.app_fr (by omega), by simp [killB_len]; omega, fun i h1 h2 => killB_keep h1 h2, fun i hi => ?_⟩
  rw [killB_at]
  simp only [ent, List.getElem?_append_left hi]
theorem Buf.more_len {es : List PV} {h : Heap} {b : V} (hb : Buf h 5 b es) {i : Nat} (hi : h.length ≤ i) : idOf b ≠ some i := fun hh => by have := hb.lt hh; omega

set_option maxHeartbeats 4000000 in
theorem putv_ok (HH : HasP E) : ∀ v, FineV v → ∀ (h : Heap) (b : V) (es : List PV), Buf h 5 b es → es.length + (valS v).length ≤ 35184372088832 →
    ∃ b' h', limR E 53 [b, .pv (encV v)] h = some (b', h') ∧ (Buf h' 5 b' (es ++ encB (valS v)) ∧ Fr h b h' b') := by
  refine Va.ind fun v ih hf h b es hb hle => ?_
  obtain ⟨hvb, hf1, hf2⟩ := fineV hf
  rw [valS_eq] at hle ⊢
  rw [eV]
  refine HH.putv.limQE (Nat.le_of_ble_eq_true rfl) ?_; unfold c53
  obtain ⟨ty1, hh1⟩ : ∃ ty, ∀ l : Heap, appendA (h ++ l) false true 1 1 5 b 1 [.pv (.int .u8 (IntKind.u8.wrap v.k))] = some (.sln (h.length + l.length) 0 (es.length + 1) 1 false, killB h b ++ (l ++ [.blk ((es ++ encB [by8 v.k]).map .pv) ty])) :=
    hb.appB [by8 v.k] (by simp) (bytes := 1) (by simp [headS] at hle ⊢; omega)
  (repeat' first
 | apply X.stepZ
 | (apply X.stepQ rfl; (focus (simp only [SB, reduceIte, Nat.reduceEqDiff]; with_reducible rfl)); (focus (simp [-getElem?_pos, -binA, hh1, killB_at0, killB_at]; with_reducible (first | rfl | exact ⟨rfl, rfl⟩))))
 | fail)
  refine X.abs2 (fun st => ∃ (hh : Heap) (b1 : V) (f : Nat → V), (Buf hh 5 b1 (es ++ encB [by8 v.k]) ∧ Fr h b hh b1 ∧ ent hh h.length = .blk [.pv (.int .i64 v.k), .pv (.int .u8 v.b), .pv (.sl (v.l.map encV))] none ∧ h.length < hh.length ∧ idOf b1 ≠ some h.length) ∧ (fk (Fk.mk (f := f)) 0 = b1 ∧ fk (Fk.mk (f := f)) 3 = .ptr h.length 0 ∧ fk (Fk.mk (f := f)) 14 = .pv (.int .i64 v.k)) ∧ st = ⟨TL 48 f, hh⟩) ?_ ?_
  · obtain ⟨a1, a2, a3, a4, a5⟩ := hb.grow [.blk [.pv (.int .i64 v.k), .pv (.int .u8 v.b), .pv (.sl (v.l.map encV))] none, .blk [.pv (.int .u8 (IntKind.u8.wrap v.k))] none] [by8 v.k] (by simp) (ty := ty1) rfl rfl rfl
    refine ⟨_, .sln (h.length + 2) 0 (es.length + 1) 1 false, _, ⟨?_, ?_, ?_, ?_, ?_⟩, ?_, rfl⟩
    · simpa using a1
    · simpa using a2
    · simpa using a5 0 (by simp)
    · simp [killB_len]
    · simp [idOf]
    · simp
  rintro st ⟨hh, b1, f, ⟨a1, a2, a3, a4, a5⟩, ⟨f0, f3, f14⟩, rfl⟩
  clear hh1
  refine X.blockMid (fun st => ∃ (hh : Heap) (b1 : V) (f : Nat → V), (Buf hh 5 b1 (es ++ encB (headS v)) ∧ Fr h b hh b1 ∧ ent hh h.length = .blk [.pv (.int .i64 v.k), .pv (.int .u8 v.b), .pv (.sl (v.l.map encV))] none) ∧ (fk (Fk.mk (f := f)) 0 = b1 ∧ fk (Fk.mk (f := f)) 3 = .ptr h.length 0) ∧ st = ⟨TL 48 f, hh⟩) ?_ ?_
  · by_cases k2 : v.k = 2
    · obtain ⟨ty2, hh2⟩ : ∃ ty, ∀ l : Heap, appendA (hh ++ l) false true 1 1 5 b1 1 [.pv (.int .u8 v.b)] = some (.sln (hh.length + l.length) 0 (es.length + 2) 1 false, killB hh b1 ++ (l ++ [.blk (((es ++ encB [by8 v.k]) ++ encB [v.b]).map .pv) ty])) := by
        have := a1.appB [v.b] (by simp) (bytes := 1) (by simp [headS, k2, encB] at hle ⊢; omega)
        simpa [encB] using this
      (repeat' first
 | apply X.skipB
 | (apply X.condQ rfl; (focus (simp only [SB, reduceIte, Nat.reduceEqDiff, f0, f3, f14]; with_reducible rfl)); all_goals (intro hbr; first | exact absurd hbr (by decide) | ((try rw [hbr]); (try simp at hbr))))
 | apply X.stepZ
 | (apply X.stepQ rfl; (focus (simp only [SB, reduceIte, Nat.reduceEqDiff, f0, f3, f14]; with_reducible rfl)); (focus (simp [-getElem?_pos, k2, a3, ent_app a3, hh2]; with_reducible (first | rfl | exact ⟨rfl, rfl⟩))))
 | fail)
      obtain ⟨c1, c2, c3, c4, c5⟩ := a1.grow [.blk [.pv (.int .u8 v.b)] none] [v.b] (by simp) (ty := ty2) rfl rfl rfl
      refine ⟨_, .sln (hh.length + 1) 0 (es.length + 2) 1 false, _, ⟨?_, ?_, ?_⟩, ?_, rfl⟩
      · simpa [headS, k2,  encB] using c1
      · simpa [k2, encB_len] using a2.trans c2
      · simpa [k2] using (c4 _ a4 a5).trans a3
      · simp [f3]
    · by_cases k6 : v.k = 6
      · have s8 := shrI (v.l.length : Int) 8 (by omega) (d := 256) rfl
        have e8 : ((8 : Nat) : Int) = 8 := rfl
        rw [e8] at s8
        have hll : (v.l.map encV).length = v.l.length := by simp
        have q2 : binA .eql .no (.pv (.int .i64 6)) (.pv (.int .i64 2)) = some (.pv (.bool false)) := by simp [binA, intBin]
        have q6 : binA .eql .no (.pv (.int .i64 6)) (.pv (.int .i64 6)) = some (.pv (.bool true)) := by simp [binA, intBin]
        obtain ⟨ty2, hh2⟩ : ∃ ty, ∀ l : Heap, appendA (hh ++ l) false true 1 1 5 b1 2 [.pv (.int .u8 (IntKind.u8.wrap ((v.l.length : Int).fdiv 256))), .pv (.int .u8 (IntKind.u8.wrap (v.l.length : Int)))] = some (.sln (hh.length + l.length) 0 (es.length + 3) 1 false, killB hh b1 ++ (l ++ [.blk (((es ++ encB [by8 v.k]) ++ encB [by8 ((v.l.length : Int).fdiv 256), by8 (v.l.length : Int)]).map .pv) ty])) := by
          have := a1.appB [by8 ((v.l.length : Int).fdiv 256), by8 (v.l.length : Int)] (by simp) (bytes := 1) (by simp [headS, k6, encB] at hle ⊢; omega)
          simpa [encB, by8] using this
        rw [k6] at f14
        (repeat' first
 | apply X.skipB
 | (apply X.condQ rfl; (focus (simp only [SB, reduceIte, Nat.reduceEqDiff, f0, f3, f14]; with_reducible rfl)); all_goals (intro hbr; first | exact absurd hbr (by decide) | ((try rw [hbr]); (try simp at hbr))))
 | apply X.stepZ
 | (apply X.stepQ rfl; (focus (simp only [SB, reduceIte, Nat.reduceEqDiff, f0, f3, f14]; with_reducible rfl)); (focus (simp [-getElem?_pos, -binA, q2, q6, s8, e8, hll, a3, ent_app a3, hh2]; with_reducible (first | rfl | exact ⟨rfl, rfl⟩))))
 | fail)
        obtain ⟨c1, c2, c3, c4, c5⟩ := a1.grow [.blk [.pv (.int .u8 (IntKind.u8.wrap ((v.l.length : Int).fdiv 256))), .pv (.int .u8 (IntKind.u8.wrap (v.l.length : Int)))] none] [by8 ((v.l.length : Int).fdiv 256), by8 (v.l.length : Int)] (by simp) (ty := ty2) rfl rfl rfl
        refine ⟨_, .sln (hh.length + 1) 0 (es.length + 3) 1 false, _, ⟨?_, ?_, ?_⟩, ?_, rfl⟩
        · simpa [headS, k6, encB] using c1
        · simpa [k6, encB_len] using a2.trans c2
        · simpa [k6] using (c4 _ a4 a5).trans a3
        · simp [f3]
      · have q2 : binA .eql .no (.pv (.int .i64 v.k)) (.pv (.int .i64 2)) = some (.pv (.bool false)) := by simp [binA, intBin, k2]
        have q6 : binA .eql .no (.pv (.int .i64 v.k)) (.pv (.int .i64 6)) = some (.pv (.bool false)) := by simp [binA, intBin, k6]
        (repeat' first
 | apply X.skipS
 | apply X.skipB
 | (apply X.condQ rfl; (focus (simp only [SB, reduceIte, Nat.reduceEqDiff, f0, f3, f14]; with_reducible rfl)); all_goals (intro hbr; first | exact absurd hbr (by decide) | ((try rw [hbr]); (try simp at hbr))))
 | apply X.stepZ
 | (apply X.stepQ rfl; (focus (simp only [SB, reduceIte, Nat.reduceEqDiff, f0, f3, f14]; with_reducible rfl)); (focus (simp [-getElem?_pos, -binA, q2, q6, a3]; with_reducible (first | rfl | exact ⟨rfl, rfl⟩))))
 | fail)
        exact ⟨_, _, _, ⟨by simpa [headS, k2, k6, encB] using a1, a2, a3⟩, by simp [f0, f3], rfl⟩
  · rintro st ⟨h2, b2, f, ⟨d1, d2, d3⟩, ⟨f0, f3⟩, rfl⟩
    clear a1 a2 a3 a4 a5
    have hll : (v.l.map encV).length = v.l.length := by simp
    (repeat' first
 | apply X.blockS
 | apply X.stepZ
 | (apply X.stepQ rfl; (focus (simp only [SB, reduceIte, Nat.reduceEqDiff, f0, f3]; with_reducible rfl)); (focus (simp [-getElem?_pos, hll, d3, ent_app d3]; with_reducible (first | rfl | exact ⟨rfl, rfl⟩))))
 | fail)
    refine X.forS v.l.length (fun j st => ∃ (hh : Heap) (b1 : V) (es1 : List PV) (f : Nat → V), (Buf hh 5 b1 es1 ∧ Fr h b hh b1 ∧ es1.length + (valS.valL (v.l.drop j)).length ≤ 35184372088832 ∧
      es1 ++ encB (valS.valL (v.l.drop j)) = es ++ encB (headS v ++ valS.valL v.l)) ∧ (fk (Fk.mk (f := f)) 0 = b1 ∧ fk (Fk.mk (f := f)) 37 = .pv (.sl (v.l.map encV)) ∧ fk (Fk.mk (f := f)) 38 = .pv (.int .i64 (v.l.length : Int)) ∧ fk (Fk.mk (f := f)) 39 = .pv (.int .i64 (j : Int))) ∧ st = ⟨TL 48 f, hh⟩) ?_ ?_
    · refine ⟨_, b2, _, _, ⟨d1, d2, ?_, by simp [encB_app]⟩, by simp [f0], rfl⟩
      simp only [List.length_append, encB_len, List.drop_zero] at hle ⊢
      omega
    rintro j st hj ⟨hh, b1, es1, f, ⟨g1, g2, g3, g4⟩, ⟨f0, f37, f38, f39⟩, rfl⟩
    rcases Nat.lt_or_ge j v.l.length with hj1 | hj1
    · have hj2 : (j : Int) < (v.l.length : Int) := by omega
      have hww : IntKind.i64.wrap ((j : Int) + 1) = (j : Int) + 1 := wrap_i64 (by omega)
      obtain ⟨x, hx⟩ := at_of_lt hj1
      have hxm := List.mem_of_getElem? hx
      rw [drop_at hx] at g3 g4
      simp only [valS.valL, List.length_append] at g3 g4
      have hc := ih x hxm (hf2 x hxm) (hh ++ [.blk [.pv (.int .i64 x.k), .pv (.int .u8 x.b), .pv (.sl (x.l.map encV))] (some 24)]) b1 es1 g1.more (by omega)
      clear ih
      rw [eV x] at hc
      (repeat' first
 | apply X.skipS
 | apply X.blockS
 | (apply X.condQ rfl; (focus (simp only [SB, reduceIte, Nat.reduceEqDiff, f0, f37, f38, f39]; with_reducible rfl)); all_goals (intro hbr; first | exact absurd hbr (by decide) | ((try rw [hbr]); (try simp at hbr))))
 | apply X.stepZ
 | (apply X.stepQ rfl; (focus (simp only [SB, reduceIte, Nat.reduceEqDiff, f0, f37, f38, f39]; with_reducible rfl)); (focus (simp [-getElem?_pos, hj1, hj2, hx, eV x]; with_reducible (first | rfl | exact ⟨rfl, rfl⟩))))
 | fail)
      refine X.callRQ (P := _) rfl (by simp only [SB, reduceIte, Nat.reduceEqDiff, f0, f37, f38, f39]; all_goals (first | with_reducible rfl | (simp <;> with_reducible rfl))) HH.putv.raw g1.pures hc ?_
      rintro b3 h3 ⟨k1, k2⟩
      (repeat' first
 | apply X.skipB
 | apply X.skipL
 | apply X.stepZ
 | (apply X.stepQ rfl; (focus (simp only [SB, reduceIte, Nat.reduceEqDiff, f37, f38, f39]; with_reducible rfl)); (focus (simp [-getElem?_pos, hww]; with_reducible (first | rfl | exact ⟨rfl, rfl⟩))))
 | fail)
      refine ⟨hj1, h3, b3, _, _, ⟨k1, g2.trans k2.less, ?_, ?_⟩, by simp [f37, f38], rfl⟩
      · simp only [List.length_append, encB_len]; omega
      · rw [← g4, encB_app, List.append_assoc]
    · have hj2 : ¬ (j : Int) < (v.l.length : Int) := by omega
      have hj3 : ¬ j < v.l.length := by omega
      rw [List.drop_eq_nil_of_le hj1] at g4
      simp only [valS.valL, encB, List.map_nil, List.append_nil] at g4
      clear ih
      (repeat' first
 | apply X.retS
 | (apply X.exitS; first | apply X.here | (refine X.out (by decide) ?_; apply X.here))
 | (apply X.condQ rfl; (focus (simp only [SB, reduceIte, Nat.reduceEqDiff, f0, f37, f38, f39]; with_reducible rfl)); all_goals (intro hbr; first | exact absurd hbr (by decide) | ((try rw [hbr]); (try simp at hbr))))
 | apply X.stepZ
 | (apply X.stepQ rfl; (focus (simp only [SB, reduceIte, Nat.reduceEqDiff, f0, f37, f38, f39]; with_reducible rfl)); (focus (simp [-getElem?_pos, hj3, hj2]; with_reducible (first | rfl | exact ⟨rfl, rfl⟩))))
 | fail)
      all_goals refine FinE.retQ (us := [b1]) rfl (by simp [resS, f0]) ⟨?_, ?_⟩
      · rw [encB, ← g4]; exact g1
      · exact g2

theorem isnan2_ok (HH : HasP E) (q : Nat) : limP E 44 [.flt .f64 q] = some [.bool (nanB .f64 q)] := by
  have H := HH.isnan
  have h1 : binA .neq .no (.pv (.flt .f64 q)) (.pv (.flt .f64 q)) = some (.pv (.bool (nanB .f64 q))) := by
    cases h : nanB .f64 q with
 | true => exact ne_nan h
 | false => simp [binA, fltBin, ord_self h]
  generalize nanB .f64 q = p at h1 ⊢
  refine H.limQ (Nat.le_of_ble_eq_true rfl) ?_; unfold c44
  (repeat' first
 | apply X.retS
 | apply X.stepZ
 | (apply X.stepQ rfl; (focus (simp only [SB, reduceIte, Nat.reduceEqDiff]; with_reducible rfl)); (focus (simp [-getElem?_pos, -binA, h1]; with_reducible (first | rfl | exact ⟨rfl, rfl⟩))))
 | fail)
  all_goals (refine Fin.mkQ rfl (by simp only [resS, SB, reduceIte, Nat.reduceEqDiff]; with_reducible rfl) (by simp [oneOf, pureRes, snapFuel, snapL]; with_reducible rfl) ?_)
  all_goals rfl

def bitsS (q : Nat) : Int := if nanB .f64 q then 18446744073709551615 else
  if IntKind.u64.wrap (BitVec.ofInt 64 (q : Int) &&& BitVec.ofInt 64 9223372036854775808).toNat = 0 then IntKind.u64.wrap (BitVec.ofInt 64 (q : Int) ||| BitVec.ofInt 64 9223372036854775808).toNat else
  IntKind.u64.wrap (BitVec.ofInt 64 18446744073709551615 ^^^ BitVec.ofInt 64 (q : Int)).toNat
theorem bits_ok (HH : HasP E) (q : Nat) : limP E 84 [.flt .f64 q] = some [.int .u64 (bitsS q)] := by
  have H := HH.bits
  have hn := isnan2_ok HH q
  have hb := HH.fb q
  cases h : nanB .f64 q with
  | true =>
    rw [h] at hn
    generalize (if q = nanOf .f64 then PV.top else .int .u64 q) = pb at hb
    have e : bitsS q = 18446744073709551615 := by simp [bitsS, h]
    rw [e]
    refine H.limQ (Nat.le_of_ble_eq_true rfl) ?_; unfold c84
    (repeat' first
 | apply X.retS
 | apply X.blockS
 | (apply X.condQ rfl; (focus (simp only [SB, reduceIte, Nat.reduceEqDiff]; with_reducible rfl)); all_goals (intro hbr; first | exact absurd hbr (by decide) | ((try rw [hbr]); (try simp at hbr))))
 | apply X.stepZ
 | (apply X.stepQ rfl; (focus (simp only [SB, reduceIte, Nat.reduceEqDiff]; with_reducible rfl)); (focus (simp [-getElem?_pos, HH.rfb, hb, HH.isnan.raw, hn]; with_reducible (first | rfl | exact ⟨rfl, rfl⟩))))
 | fail)
    all_goals (refine Fin.mkQ rfl (by simp only [resS, SB, reduceIte, Nat.reduceEqDiff]; with_reducible rfl) (by simp [oneOf, pureRes, snapFuel, snapL]; with_reducible rfl) ?_)
    all_goals rfl
  | false =>
    rw [h] at hn
    have hq : q ≠ nanOf .f64 := by rintro rfl; rw [nan_of] at h; cases h
    rw [if_neg hq] at hb
    have w1 : binA .and .no (.pv (.int .u64 (q : Int))) (.pv (.int .u64 9223372036854775808)) = some (.pv (.int .u64 (IntKind.u64.wrap (BitVec.ofInt 64 (q : Int) &&& BitVec.ofInt 64 9223372036854775808).toNat))) := rfl
    have w2 : binA .or .no (.pv (.int .u64 (q : Int))) (.pv (.int .u64 9223372036854775808)) = some (.pv (.int .u64 (IntKind.u64.wrap (BitVec.ofInt 64 (q : Int) ||| BitVec.ofInt 64 9223372036854775808).toNat))) := rfl
    have w3 : unA .xor (.pv (.int .u64 (q : Int))) = some (.pv (.int .u64 (IntKind.u64.wrap (BitVec.ofInt 64 18446744073709551615 ^^^ BitVec.ofInt 64 (q : Int)).toNat))) := rfl
    have e : bitsS q = if IntKind.u64.wrap (BitVec.ofInt 64 (q : Int) &&& BitVec.ofInt 64 9223372036854775808).toNat = 0 then IntKind.u64.wrap (BitVec.ofInt 64 (q : Int) ||| BitVec.ofInt 64 9223372036854775808).toNat else
      IntKind.u64.wrap (BitVec.ofInt 64 18446744073709551615 ^^^ BitVec.ofInt 64 (q : Int)).toNat := by simp only [bitsS, h, Bool.false_eq_true, if_false]
    rw [e]
    generalize IntKind.u64.wrap (BitVec.ofInt 64 (q : Int) &&& BitVec.ofInt 64 9223372036854775808).toNat = z1 at w1 ⊢
    generalize IntKind.u64.wrap (BitVec.ofInt 64 (q : Int) ||| BitVec.ofInt 64 9223372036854775808).toNat = z2 at w2 ⊢
    generalize IntKind.u64.wrap (BitVec.ofInt 64 18446744073709551615 ^^^ BitVec.ofInt 64 (q : Int)).toNat = z3 at w3 ⊢
    by_cases hz : z1 = 0
    · have w4 : binA .neq .no (.pv (.int .u64 z1)) (.pv (.int .u64 0)) = some (.pv (.bool false)) := by simp [binA, intBin, hz]
      refine H.limQ (Nat.le_of_ble_eq_true rfl) ?_; unfold c84
      (repeat' first
 | apply X.retS
 | apply X.blockS
 | (apply X.condQ rfl; (focus (simp only [SB, reduceIte, Nat.reduceEqDiff]; with_reducible rfl)); all_goals (intro hbr; first | exact absurd hbr (by decide) | ((try rw [hbr]); (try simp at hbr))))
 | apply X.stepZ
 | (apply X.stepQ rfl; (focus (simp only [SB, reduceIte, Nat.reduceEqDiff]; with_reducible rfl)); (focus (simp [-getElem?_pos, -binA, -unA, w1, w2, w3, w4, HH.rfb, hb, HH.isnan.raw, hn]; with_reducible (first | rfl | exact ⟨rfl, rfl⟩))))
 | fail)
      all_goals (refine Fin.mkQ rfl (by simp only [resS, SB, reduceIte, Nat.reduceEqDiff]; with_reducible rfl) (by simp [oneOf, pureRes, snapFuel, snapL]; with_reducible rfl) ?_)
      all_goals simp [hz]
    · have w4 : binA .neq .no (.pv (.int .u64 z1)) (.pv (.int .u64 0)) = some (.pv (.bool true)) := by simp [binA, intBin, hz]
      refine H.limQ (Nat.le_of_ble_eq_true rfl) ?_; unfold c84
      (repeat' first
 | apply X.retS
 | apply X.blockS
 | (apply X.condQ rfl; (focus (simp only [SB, reduceIte, Nat.reduceEqDiff]; with_reducible rfl)); all_goals (intro hbr; first | exact absurd hbr (by decide) | ((try rw [hbr]); (try simp at hbr))))
 | apply X.stepZ
 | (apply X.stepQ rfl; (focus (simp only [SB, reduceIte, Nat.reduceEqDiff]; with_reducible rfl)); (focus (simp [-getElem?_pos, -binA, -unA, w1, w2, w3, w4, HH.rfb, hb, HH.isnan.raw, hn]; with_reducible (first | rfl | exact ⟨rfl, rfl⟩))))
 | fail)
      all_goals (refine Fin.mkQ rfl (by simp only [resS, SB, reduceIte, Nat.reduceEqDiff]; with_reducible rfl) (by simp [oneOf, pureRes, snapFuel, snapL]; with_reducible rfl) ?_)
      all_goals simp [hz]

def scoreB (q : Nat) : List Int := (List.range 8).map fun i => IntKind.u8.wrap ((bitsS q).fdiv (2 ^ (8 * (7 - i))))
theorem shrU (n : Int) (k : Nat) (hk : k ≤ 64) : binA .shr .no (.pv (.int .u64 n)) (.pv (.int .i64 (k : Int))) = some (.pv (.int .u64 (n.fdiv (2 ^ k)))) := by
  have : min ((k : Int).toNat) (IntKind.u64.bits) = k := by simp [IntKind.bits]; omega
  simp only [binA, intBin]
  rw [if_neg (by omega), this]
  rfl
set_option maxHeartbeats 2000000 in
theorem bytes_ok (HH : HasP E) (q : Nat) : limP E 54 [.flt .f64 q] = some [.sl (encB (scoreB q))] := by
  have H := HH.bytes
  have hb := bits_ok HH q
  have hsc : scoreB q = (List.range 8).map fun i => IntKind.u8.wrap ((bitsS q).fdiv (2 ^ (8 * (7 - i)))) := rfl
  generalize bitsS q = z at hb hsc
  refine H.limQ (Nat.le_of_ble_eq_true rfl) ?_; unfold c54
  (repeat' first
 | apply X.blockS
 | apply X.stepZ
 | (apply X.stepQ rfl; (focus (simp only [SB, reduceIte, Nat.reduceEqDiff]; with_reducible rfl)); (focus (simp [-getElem?_pos]; with_reducible (first | rfl | exact ⟨rfl, rfl⟩))))
 | fail)
  refine X.forS 8 (fun j st => ∃ (hh : Heap) (b1 : V) (f : Nat → V), Buf hh 5 b1 (encB ((scoreB q).take j)) ∧ (fk (Fk.mk (f := f)) 0 = .pv (.flt .f64 q) ∧ fk (Fk.mk (f := f)) 3 = b1 ∧ fk (Fk.mk (f := f)) 4 = .pv (.int .i64 (7 - (j : Int)))) ∧ st = ⟨TL 19 f, hh⟩) ?_ ?_
  · exact ⟨_, _, _, Buf.nil, by simp, rfl⟩
  rintro j st hj ⟨hh, b1, f, g1, ⟨f0, f3, f4⟩, rfl⟩
  rcases Nat.lt_or_ge j 8 with hj1 | hj1
  · have hj2 : (0 : Int) ≤ 7 - (j : Int) := by omega
    have w1 : binA .geq .no (.pv (.int .i64 (7 - (j : Int)))) (.pv (.int .i64 0)) = some (.pv (.bool true)) := by simp [binA, intBin]; omega
    have hmul : IntKind.i64.wrap (8 * (7 - (j : Int))) = ((8 * (7 - j) : Nat) : Int) := by rw [wrap_i64 (by omega)]; omega
    have w2 : binA .mul .no (.pv (.int .i64 8)) (.pv (.int .i64 (7 - (j : Int)))) = some (.pv (.int .i64 ((8 * (7 - j) : Nat) : Int))) := by simp only [binA, intBin]; rw [hmul]; rfl
    have w3 := shrU z (8 * (7 - j)) (by omega)
    have w4 : binA .sub .no (.pv (.int .i64 (7 - (j : Int)))) (.pv (.int .i64 1)) = some (.pv (.int .i64 (7 - ((j + 1 : Nat) : Int)))) := by
      have : IntKind.i64.wrap (7 - (j : Int) - 1) = 7 - ((j + 1 : Nat) : Int) := by rw [wrap_i64 (by omega)]; omega
      simp only [binA, intBin]; rw [this]; rfl
    have htk : (scoreB q).take (j + 1) = (scoreB q).take j ++ [IntKind.u8.wrap (z.fdiv (2 ^ (8 * (7 - j))))] := by
      have hat : (scoreB q)[j]? = some (IntKind.u8.wrap (z.fdiv (2 ^ (8 * (7 - j))))) := by rw [hsc]; simp [hj1]
      rw [List.take_add_one, hat]; rfl
    have hln : ((scoreB q).take j).length = j := by rw [hsc]; simp; omega
    rw [htk]
    clear htk hsc hmul
    generalize hk : ((8 * (7 - j) : Nat) : Int) = k at w2 w3
    generalize z.fdiv (2 ^ (8 * (7 - j))) = y at w3 ⊢
    generalize hT : (scoreB q).take j = T at g1 hln ⊢
    obtain ⟨ty, happ⟩ : ∃ ty, ∀ l : Heap, appendA (hh ++ l) false true 1 1 5 b1 1 [.pv (.int .u8 (IntKind.u8.wrap y))] = some (.sln (hh.length + l.length) 0 (j + 1) 1 false, killB hh b1 ++ (l ++ [.blk ((encB T ++ encB [IntKind.u8.wrap y]).map .pv) ty])) := by
      have := g1.appB [IntKind.u8.wrap y] (by simp) (bytes := 1) (by simp [encB_len]; omega)
      simpa [encB_len, hln] using this
    (repeat' first
 | apply X.skipS
 | apply X.skipB
 | apply X.skipL
 | apply X.blockS
 | (apply X.condQ rfl; (focus (simp only [SB, reduceIte, Nat.reduceEqDiff, f0, f3, f4]; with_reducible rfl)); all_goals (intro hbr; first | exact absurd hbr (by decide) | ((try rw [hbr]); (try simp at hbr))))
 | apply X.stepZ
 | (apply X.stepQ rfl; (focus (simp only [SB, reduceIte, Nat.reduceEqDiff, f0, f3, f4]; with_reducible rfl)); (focus (simp [-getElem?_pos, -binA, w1, w2, w3, w4, HH.bits.raw, hb, happ, killB_at0, killB_at]; with_reducible (first | rfl | exact ⟨rfl, rfl⟩))))
 | fail)
    obtain ⟨c1, _, _, _, _⟩ := g1.grow [.blk [.pv (.int .u8 (IntKind.u8.wrap y))] none] [IntKind.u8.wrap y] (by simp) (ty := ty) rfl rfl rfl
    refine ⟨hj1, _, .sln (hh.length + 1) 0 (j + 1) 1 false, _, ?_, ?_, rfl⟩
    · rw [encB_app]; simpa [encB_len, hln] using c1
    · simp [f0]
  · have hj8 : j = 8 := by omega
    subst hj8
    have w1 : binA .geq .no (.pv (.int .i64 (-1))) (.pv (.int .i64 0)) = some (.pv (.bool false)) := by simp [binA, intBin]
    have e1 : (7 : Int) - ((8 : Nat) : Int) = -1 := rfl
    rw [e1] at f4
    have htk : (scoreB q).take 8 = scoreB q := List.take_of_length_le (by rw [hsc]; simp)
    rw [htk] at g1
    (repeat' first
 | apply X.retS
 | (apply X.exitS; first | apply X.here | (refine X.out (by decide) ?_; apply X.here))
 | (apply X.condQ rfl; (focus (simp only [SB, reduceIte, Nat.reduceEqDiff, f0, f3, f4]; with_reducible rfl)); all_goals (intro hbr; first | exact absurd hbr (by decide) | ((try rw [hbr]); (try simp at hbr))))
 | apply X.stepZ
 | (apply X.stepQ rfl; (focus (simp only [SB, reduceIte, Nat.reduceEqDiff, f0, f3, f4]; with_reducible rfl)); (focus (simp [-getElem?_pos, -binA, w1]; with_reducible (first | rfl | exact ⟨rfl, rfl⟩))))
 | fail)
    obtain ⟨h3, hs⟩ := g1.snap (n := 998)
    all_goals refine Fin.mkQ (us := [b1]) (rs' := [.sl (encB (scoreB q))]) rfl (by simp [resS, f3]) ?_ rfl
    rcases g1 with ⟨_, rfl⟩ | ⟨_, id, rfl, _⟩ <;> simp only [pureRes, oneOf, snapFuel, hs] <;> rfl
end Rp
