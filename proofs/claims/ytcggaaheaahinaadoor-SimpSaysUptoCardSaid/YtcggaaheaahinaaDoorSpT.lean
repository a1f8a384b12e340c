/- SpT: steps, walks, laws: see the remarks within. -/
import Derived.Test.YtcggaaheaahinaaDoorAbDec
import Derived.Test.YtcggaaheaahinaaDoorSpCode
set_option linter.unusedSimpArgs false
set_option linter.unusedVariables false
-- Plain words: places in rows, loops over rows, numbers that fit.
namespace Pl
open Go Ab

@[simp] theorem idx_nat {α : Type} (l : List α) (j : Nat) : idx l (j : Int) = l[j]? := by simp [idx]
@[simp] theorem idx_zero {α : Type} (l : List α) : idx l 0 = l[0]? := by simp [idx]
@[simp] theorem idx_one {α : Type} (l : List α) : idx l 1 = l[1]? := by simp [idx]
theorem idx_cons0 {α : Type} (x : α) (l : List α) : idx (x :: l) 0 = some x := rfl
theorem w64 {n : Int} (h : -9223372036854775808 ≤ n ∧ n ≤ 9223372036854775807) : IntKind.i64.wrap n = n := wrap_i64 h
theorem w1 {j : Nat} (h : j < 9223372036854775807) : IntKind.i64.wrap ((j : Int) + 1) = ((j + 1 : Nat) : Int) := by rw [w64 (by omega)]; rfl
theorem join_ok {α : Type} {b : Nat} {xs ys : List α} (h : (xs.length + ys.length) * b ≤ 35184372088832) : join b xs ys = some (xs ++ ys) := by unfold join growMax; rw [if_pos h]
theorem joinS_ok {a b : List UInt8} (h : a.length + b.length ≤ 4611686018427387904) : joinS a b = some (a ++ b) := by unfold joinS; rw [if_pos h]
theorem mkn_ok {b n : Nat} (h : n * b ≤ 35184372088832) (h2 : n ≤ 35184372088832) : mkn b (n : Int) (n : Int) = some n := by unfold mkn growMax; rw [if_pos ⟨rfl, by omega, by simpa using h, by simpa using h2⟩]; simp
theorem cT {α : Type} {c : Bool} {a b : α} (h : c = true) : (bif c then a else b) = a := by rw [h]; rfl
theorem cF {α : Type} {c : Bool} {a b : α} (h : c = false) : (bif c then a else b) = b := by rw [h]; rfl
@[simp] theorem bind_self {α : Type} (x : Option α) : (x.bind fun y => some y) = x := by cases x <;> rfl

/-- A loop over a row by a number that rises: what is kept of the ones ahead. -/
theorem forL {α β σ τ ρ : Type} {body : σ → Option (Lp σ τ ρ)} {k : τ → Option ρ} {x : Option ρ} (l : List α) (st : β → Int → σ) (J : List α → β → Prop) (b0 : β) (h0 : J [] b0) (hlen : l.length < 9223372036854775807)
    (hb : ∀ pre a post b, l = pre ++ a :: post → J pre b → idx l (pre.length : Int) = some a → (decide ((pre.length : Int) < (l.length : Int))) = true → (IntKind.i64.wrap ((pre.length : Int) + 1) = ((pre.length + 1 : Nat) : Int)) →
      (∃ b', body (st b (pre.length : Int)) = some (.next (st b' ((pre.length + 1 : Nat) : Int))) ∧ J (pre ++ [a]) b') ∨ (∃ t, body (st b (pre.length : Int)) = some (.brk t) ∧ k t = x) ∨ (∃ r, body (st b (pre.length : Int)) = some (.ret r) ∧ some r = x))
    (he : ∀ b, J l b → (decide ((l.length : Int) < (l.length : Int))) = false → (∃ t, body (st b (l.length : Int)) = some (.brk t) ∧ k t = x) ∨ (∃ r, body (st b (l.length : Int)) = some (.ret r) ∧ some r = x)) : loopK body (st b0 0) k = x := by
  refine loopK_list l (fun j b => st b (j : Int)) (fun j b => J (l.take j) b) b0 (by simpa using h0) ?_ ?_
  · intro j b a hj hJ
    have hlt := (List.getElem?_eq_some_iff.1 hj).1
    have hl : (l.take j).length = j := by simp; omega
    have he := hb (l.take j) a (l.drop (j + 1)) b (by rw [← drop_at hj, List.take_append_drop]) hJ (by rw [hl]; simpa using hj) (by rw [hl]; simpa using hlt) (by rw [hl]; exact w1 (by omega))
    rw [hl, ← take_at hj] at he
    exact he
  · intro b hJ
    exact he b (by simpa using hJ) (by simp)
theorem neF {a b : Nat} (h : a = b) : ((a : Int) != (b : Int)) = false := by subst h; simp
theorem neT {a b : Nat} (h : a ≠ b) : ((a : Int) != (b : Int)) = true := by rw [bne_iff_ne]; omega
/-- The same over a row's images. -/
theorem forM {α γ β σ τ ρ : Type} {body : σ → Option (Lp σ τ ρ)} {k : τ → Option ρ} {x : Option ρ} (g : α → γ) (l : List α) (st : β → Int → σ) (J : List α → β → Prop) (b0 : β) (h0 : J [] b0) (hlen : l.length < 9223372036854775807)
    (hb : ∀ pre a post b, l = pre ++ a :: post → J pre b → idx (l.map g) (pre.length : Int) = some (g a) → (decide ((pre.length : Int) < ((l.map g).length : Int))) = true → (IntKind.i64.wrap ((pre.length : Int) + 1) = ((pre.length + 1 : Nat) : Int)) →
      (∃ b', body (st b (pre.length : Int)) = some (.next (st b' ((pre.length + 1 : Nat) : Int))) ∧ J (pre ++ [a]) b') ∨ (∃ t, body (st b (pre.length : Int)) = some (.brk t) ∧ k t = x) ∨ (∃ r, body (st b (pre.length : Int)) = some (.ret r) ∧ some r = x))
    (he : ∀ b, J l b → (decide ((l.length : Int) < ((l.map g).length : Int))) = false → (∃ t, body (st b (l.length : Int)) = some (.brk t) ∧ k t = x) ∨ (∃ r, body (st b (l.length : Int)) = some (.ret r) ∧ some r = x)) : loopK body (st b0 0) k = x := by
  refine forL l st J b0 h0 hlen (fun pre a post b hl hJ hx hd hw => hb pre a post b hl hJ ?_ (by rw [List.length_map]; exact hd) hw) fun b hJ hd => he b hJ (by rw [List.length_map]; exact hd)
  rw [idx_nat] at hx ⊢
  rw [List.getElem?_map, hx]; rfl
/-- By snoc. -/
theorem snocInd {α : Type} {p : List α → Prop} (h0 : p []) (h1 : ∀ l x, p l → p (l ++ [x])) (l : List α) : p l := by
  have : ∀ (r : List α), p r.reverse := by
    intro r
    induction r with
    | nil => exact h0
    | cons x r ih => rw [List.reverse_cons]; exact h1 _ _ ih
  have := this l.reverse
  rwa [List.reverse_reverse] at this
open Classical in
/-- An answer, as what it stands for. -/
noncomputable def ansF {β : Type} (f : β → List PV) (o : Option (List PV)) : Option β := if h : ∃ b, o = some (f b) then some h.choose else none
theorem ansF_to {β : Type} {f : β → List PV} {o : Option (List PV)} {r : β} (h : ansF f o = some r) : o = some (f r) := by
  unfold ansF at h
  split at h
  · rename_i hx; cases h; exact hx.choose_spec
  · cases h
theorem ansF_of {β : Type} {f : β → List PV} {o : Option (List PV)} {r : β} (hf : ∀ a b, f a = f b → a = b) (h : o = some (f r)) : ansF f o = some r := by
  have hx : ∃ b, o = some (f b) := ⟨r, h⟩
  unfold ansF
  rw [dif_pos hx]
  exact congrArg some (hf _ _ (Option.some.inj (hx.choose_spec.symm.trans h)))
theorem tI_inj (k : IntKind) : ∀ a b : Int, (tI k).enc a = (tI k).enc b → a = b := fun a b h => (PV.int.inj h).2
theorem tB_inj : ∀ a b : Bool, tB.enc a = tB.enc b → a = b := fun a b h => PV.bool.inj h
theorem tS_inj : ∀ a b : List UInt8, tS.enc a = tS.enc b → a = b := fun a b h => PV.str.inj h
theorem map_inj {α : Type} {e : α → PV} : ∀ {l m : List α}, (∀ a ∈ l, ∀ b, e a = e b → a = b) → l.map e = m.map e → l = m
  | [], [], _, _ => rfl
  | [], _ :: _, _, h => by simp at h
  | _ :: _, [], _, h => by simp at h
  | a :: l, b :: m, hi, h => by
    simp only [List.map_cons, List.cons.injEq] at h
    rw [hi a (by simp) b h.1, map_inj (fun x hx => hi x (by simp [hx])) h.2]
theorem map_injT {α : Type} {T : TyE α} (hi : ∀ a b, T.enc a = T.enc b → a = b) {l m : List α} (h : l.map T.enc = m.map T.enc) : l = m := map_inj (fun a _ b => hi a b) h
theorem tL_inj {α : Type} {T : TyE α} (hi : ∀ a b, T.enc a = T.enc b → a = b) : ∀ a b : List α, (tL T).enc a = (tL T).enc b → a = b := fun a b h => map_injT hi (PV.sl.inj h)
theorem bits_inj {s t : BitVec 256} (h : bits256 s = bits256 t) : s = t := by
  refine BitVec.eq_of_getLsbD_eq fun i hi => ?_
  have := congrArg (fun l => l[i]?) h
  simpa [bits256, hi] using this
end Pl


namespace Pl
open Go Ab
structure W4 where
  a : Int
  b : Int
  c : Int
  d : Int
theorem W4.ext0 {x y : W4} (h0 : x.a = y.a) (h1 : x.b = y.b) (h2 : x.c = y.c) (h3 : x.d = y.d) : x = y := by cases x; cases y; simp only at h0 h1 h2 h3; subst h0 h1 h2 h3; rfl
def W4.cells (x : W4) : List PV := [.int .u64 x.a, .int .u64 x.b, .int .u64 x.c, .int .u64 x.d]
def W4.enc (x : W4) : PV := .agg (W4.cells x)
theorem W4.enc_eq (x : W4) : W4.enc x = .agg (W4.cells x) := rfl
structure Cd where
  kind : Int
  bits : List UInt8
  set : W4
  l : (List Cd)
theorem Cd.ext0 {x y : Cd} (h0 : x.kind = y.kind) (h1 : x.bits = y.bits) (h2 : x.set = y.set) (h3 : x.l = y.l) : x = y := by cases x; cases y; simp only at h0 h1 h2 h3; subst h0 h1 h2 h3; rfl
mutual
def Cd.enc : Cd → PV
  | ⟨x0, x1, x2, x3⟩ => .agg [.int .i64 x0, .str x1, .int .u64 x2.a, .int .u64 x2.b, .int .u64 x2.c, .int .u64 x2.d, .sl (Cd.encL x3)]
def Cd.encL : List Cd → List PV
  | [] => []
  | x :: xs => Cd.enc x :: Cd.encL xs
end
theorem Cd.encL_map : ∀ l : List Cd, Cd.encL l = l.map Cd.enc
  | [] => rfl
  | x :: xs => by rw [Cd.encL, Cd.encL_map xs]; rfl
def Cd.cells (x : Cd) : List PV := [.int .i64 x.kind, .str x.bits, .int .u64 x.set.a, .int .u64 x.set.b, .int .u64 x.set.c, .int .u64 x.set.d, .sl (x.l.map Cd.enc)]
theorem Cd.enc_eq (x : Cd) : Cd.enc x = .agg (Cd.cells x) := by cases x; simp only [Cd.enc, Cd.cells, Cd.encL_map]
def tCd : TyE Cd := ⟨Cd.enc, Cd.cells, 7, true, fun _ => rfl, fun x => by rw [Cd.enc_eq]; rfl, fun x => by rw [Cd.enc_eq]; rfl, .inl rfl⟩
theorem Cd.ind {p : Cd → Prop} (h : ∀ x : Cd, (∀ y ∈ x.l, p y) → p x) : ∀ x, p x := fun x => Cd.rec (motive_1 := p) (motive_2 := fun l => ∀ y ∈ l, p y) (fun x0 x1 x2 x3 ih => h ⟨x0, x1, x2, x3⟩ ih) (fun y hy => by cases hy) (fun x xs hx hxs y hy => by exact (List.mem_cons.1 hy).elim (fun e => e ▸ hx) (hxs y)) x
structure Rc where
  kind : Int
  bits : List UInt8
  set : (BitVec 256)
  l : (List Rc)
theorem Rc.ext0 {x y : Rc} (h0 : x.kind = y.kind) (h1 : x.bits = y.bits) (h2 : x.set = y.set) (h3 : x.l = y.l) : x = y := by cases x; cases y; simp only at h0 h1 h2 h3; subst h0 h1 h2 h3; rfl
mutual
def Rc.enc : Rc → PV
  | ⟨x0, x1, x2, x3⟩ => .agg ([.int .i64 x0, .str x1] ++ (bits256 x2 ++ ([.sl (Rc.encL x3)])))
def Rc.encL : List Rc → List PV
  | [] => []
  | x :: xs => Rc.enc x :: Rc.encL xs
end
theorem Rc.encL_map : ∀ l : List Rc, Rc.encL l = l.map Rc.enc
  | [] => rfl
  | x :: xs => by rw [Rc.encL, Rc.encL_map xs]; rfl
def Rc.cells (x : Rc) : List PV := ([.int .i64 x.kind, .str x.bits] ++ (bits256 x.set ++ ([.sl (x.l.map Rc.enc)])))
theorem Rc.enc_eq (x : Rc) : Rc.enc x = .agg (Rc.cells x) := by cases x; simp only [Rc.enc, Rc.cells, Rc.encL_map]
def tRc : TyE Rc := ⟨Rc.enc, Rc.cells, 259, true, fun x => by simp [Rc.cells, bits256], fun x => by rw [Rc.enc_eq]; rfl, fun x => by rw [Rc.enc_eq]; rfl, .inl rfl⟩
theorem Rc.ind {p : Rc → Prop} (h : ∀ x : Rc, (∀ y ∈ x.l, p y) → p x) : ∀ x, p x := fun x => Rc.rec (motive_1 := p) (motive_2 := fun l => ∀ y ∈ l, p y) (fun x0 x1 x2 x3 ih => h ⟨x0, x1, x2, x3⟩ ih) (fun y hy => by cases hy) (fun x xs hx hxs y hy => by exact (List.mem_cons.1 hy).elim (fun e => e ▸ hx) (hxs y)) x
structure Co where
  kind : Int
  set : W4
  n : Int
  l : (List Co)
theorem Co.ext0 {x y : Co} (h0 : x.kind = y.kind) (h1 : x.set = y.set) (h2 : x.n = y.n) (h3 : x.l = y.l) : x = y := by cases x; cases y; simp only at h0 h1 h2 h3; subst h0 h1 h2 h3; rfl
mutual
def Co.enc : Co → PV
  | ⟨x0, x1, x2, x3⟩ => .agg [.int .i64 x0, .int .u64 x1.a, .int .u64 x1.b, .int .u64 x1.c, .int .u64 x1.d, .int .i64 x2, .sl (Co.encL x3)]
def Co.encL : List Co → List PV
  | [] => []
  | x :: xs => Co.enc x :: Co.encL xs
end
theorem Co.encL_map : ∀ l : List Co, Co.encL l = l.map Co.enc
  | [] => rfl
  | x :: xs => by rw [Co.encL, Co.encL_map xs]; rfl
def Co.cells (x : Co) : List PV := [.int .i64 x.kind, .int .u64 x.set.a, .int .u64 x.set.b, .int .u64 x.set.c, .int .u64 x.set.d, .int .i64 x.n, .sl (x.l.map Co.enc)]
theorem Co.enc_eq (x : Co) : Co.enc x = .agg (Co.cells x) := by cases x; simp only [Co.enc, Co.cells, Co.encL_map]
theorem Co.ind {p : Co → Prop} (h : ∀ x : Co, (∀ y ∈ x.l, p y) → p x) : ∀ x, p x := fun x => Co.rec (motive_1 := p) (motive_2 := fun l => ∀ y ∈ l, p y) (fun x0 x1 x2 x3 ih => h ⟨x0, x1, x2, x3⟩ ih) (fun y hy => by cases hy) (fun x xs hx hxs y hy => by exact (List.mem_cons.1 hy).elim (fun e => e ▸ hx) (hxs y)) x
structure Va where
  kind : Int
  b : Int
  l : (List Va)
theorem Va.ext0 {x y : Va} (h0 : x.kind = y.kind) (h1 : x.b = y.b) (h2 : x.l = y.l) : x = y := by cases x; cases y; simp only at h0 h1 h2; subst h0 h1 h2; rfl
mutual
def Va.enc : Va → PV
  | ⟨x0, x1, x2⟩ => .agg [.int .i64 x0, .int .u8 x1, .sl (Va.encL x2)]
def Va.encL : List Va → List PV
  | [] => []
  | x :: xs => Va.enc x :: Va.encL xs
end
theorem Va.encL_map : ∀ l : List Va, Va.encL l = l.map Va.enc
  | [] => rfl
  | x :: xs => by rw [Va.encL, Va.encL_map xs]; rfl
def Va.cells (x : Va) : List PV := [.int .i64 x.kind, .int .u8 x.b, .sl (x.l.map Va.enc)]
theorem Va.enc_eq (x : Va) : Va.enc x = .agg (Va.cells x) := by cases x; simp only [Va.enc, Va.cells, Va.encL_map]
theorem Va.ind {p : Va → Prop} (h : ∀ x : Va, (∀ y ∈ x.l, p y) → p x) : ∀ x, p x := fun x => Va.rec (motive_1 := p) (motive_2 := fun l => ∀ y ∈ l, p y) (fun x0 x1 x2 ih => h ⟨x0, x1, x2⟩ ih) (fun y hy => by cases hy) (fun x xs hx hxs y hy => by exact (List.mem_cons.1 hy).elim (fun e => e ▸ hx) (hxs y)) x
structure Rk where
  kind : Int
  set : (BitVec 256)
  n : Int
  l : (List Rk)
theorem Rk.ext0 {x y : Rk} (h0 : x.kind = y.kind) (h1 : x.set = y.set) (h2 : x.n = y.n) (h3 : x.l = y.l) : x = y := by cases x; cases y; simp only at h0 h1 h2 h3; subst h0 h1 h2 h3; rfl
mutual
def Rk.enc : Rk → PV
  | ⟨x0, x1, x2, x3⟩ => .agg ([.int .i64 x0] ++ (bits256 x1 ++ ([.int .i64 x2, .sl (Rk.encL x3)])))
def Rk.encL : List Rk → List PV
  | [] => []
  | x :: xs => Rk.enc x :: Rk.encL xs
end
theorem Rk.encL_map : ∀ l : List Rk, Rk.encL l = l.map Rk.enc
  | [] => rfl
  | x :: xs => by rw [Rk.encL, Rk.encL_map xs]; rfl
def Rk.cells (x : Rk) : List PV := ([.int .i64 x.kind] ++ (bits256 x.set ++ ([.int .i64 x.n, .sl (x.l.map Rk.enc)])))
theorem Rk.enc_eq (x : Rk) : Rk.enc x = .agg (Rk.cells x) := by cases x; simp only [Rk.enc, Rk.cells, Rk.encL_map]
theorem Rk.ind {p : Rk → Prop} (h : ∀ x : Rk, (∀ y ∈ x.l, p y) → p x) : ∀ x, p x := fun x => Rk.rec (motive_1 := p) (motive_2 := fun l => ∀ y ∈ l, p y) (fun x0 x1 x2 x3 ih => h ⟨x0, x1, x2, x3⟩ ih) (fun y hy => by cases hy) (fun x xs hx hxs y hy => by exact (List.mem_cons.1 hy).elim (fun e => e ▸ hx) (hxs y)) x
structure Rv where
  kind : Int
  b : Int
  l : (List Rv)
theorem Rv.ext0 {x y : Rv} (h0 : x.kind = y.kind) (h1 : x.b = y.b) (h2 : x.l = y.l) : x = y := by cases x; cases y; simp only at h0 h1 h2; subst h0 h1 h2; rfl
mutual
def Rv.enc : Rv → PV
  | ⟨x0, x1, x2⟩ => .agg [.int .i64 x0, .int .u8 x1, .sl (Rv.encL x2)]
def Rv.encL : List Rv → List PV
  | [] => []
  | x :: xs => Rv.enc x :: Rv.encL xs
end
theorem Rv.encL_map : ∀ l : List Rv, Rv.encL l = l.map Rv.enc
  | [] => rfl
  | x :: xs => by rw [Rv.encL, Rv.encL_map xs]; rfl
def Rv.cells (x : Rv) : List PV := [.int .i64 x.kind, .int .u8 x.b, .sl (x.l.map Rv.enc)]
theorem Rv.enc_eq (x : Rv) : Rv.enc x = .agg (Rv.cells x) := by cases x; simp only [Rv.enc, Rv.cells, Rv.encL_map]
theorem Rv.ind {p : Rv → Prop} (h : ∀ x : Rv, (∀ y ∈ x.l, p y) → p x) : ∀ x, p x := fun x => Rv.rec (motive_1 := p) (motive_2 := fun l => ∀ y ∈ l, p y) (fun x0 x1 x2 ih => h ⟨x0, x1, x2⟩ ih) (fun y hy => by cases hy) (fun x xs hx hxs y hy => by exact (List.mem_cons.1 hy).elim (fun e => e ▸ hx) (hxs y)) x
structure Sp where
  from_ : Int
  to_ : Int
theorem Sp.ext0 {x y : Sp} (h0 : x.from_ = y.from_) (h1 : x.to_ = y.to_) : x = y := by cases x; cases y; simp only at h0 h1; subst h0 h1; rfl
def Sp.cells (x : Sp) : List PV := [.int .i64 x.from_, .int .i64 x.to_]
def Sp.enc (x : Sp) : PV := .agg (Sp.cells x)
theorem Sp.enc_eq (x : Sp) : Sp.enc x = .agg (Sp.cells x) := rfl
structure Rs where
  from_ : Int
  to_ : Int
theorem Rs.ext0 {x y : Rs} (h0 : x.from_ = y.from_) (h1 : x.to_ = y.to_) : x = y := by cases x; cases y; simp only at h0 h1; subst h0 h1; rfl
def Rs.cells (x : Rs) : List PV := [.int .i64 x.from_, .int .i64 x.to_]
def Rs.enc (x : Rs) : PV := .agg (Rs.cells x)
theorem Rs.enc_eq (x : Rs) : Rs.enc x = .agg (Rs.cells x) := rfl
theorem W4.cinj : ∀ x y : W4, W4.cells x = W4.cells y → x = y := by
  intro x y h
  unfold W4.cells at h
  simp only [List.cons.injEq, PV.int.injEq, PV.str.injEq, PV.bool.injEq, PV.flt.injEq, PV.sl.injEq, true_and, and_true] at h
  obtain ⟨e0, e1, e2, e3⟩ := h
  exact (W4.ext0 e0 e1 e2 e3)
theorem Cd.cinj : ∀ x y : Cd, Cd.cells x = Cd.cells y → x = y := by
  refine Cd.ind fun x ih0 y h => ?_
  have ih : ∀ a ∈ x.l, ∀ b, Cd.enc a = Cd.enc b → a = b := fun a ha b hb => ih0 a ha b (by rw [Cd.enc_eq, Cd.enc_eq] at hb; exact PV.agg.inj hb)
  unfold Cd.cells at h
  simp only [List.cons.injEq, PV.int.injEq, PV.str.injEq, PV.bool.injEq, PV.flt.injEq, PV.sl.injEq, true_and, and_true] at h
  obtain ⟨e0, e1, e2, e3, e4, e5, e6⟩ := h
  have e6 := map_inj ih e6
  exact (Cd.ext0 e0 e1 (W4.ext0 e2 e3 e4 e5) e6)
theorem tCd_inj : ∀ a b : Cd, tCd.enc a = tCd.enc b → a = b := fun a b h => Cd.cinj a b (by have h : Cd.enc a = Cd.enc b := h; rw [Cd.enc_eq, Cd.enc_eq] at h; exact PV.agg.inj h)
theorem Rc.cinj : ∀ x y : Rc, Rc.cells x = Rc.cells y → x = y := by
  refine Rc.ind fun x ih0 y h => ?_
  have ih : ∀ a ∈ x.l, ∀ b, Rc.enc a = Rc.enc b → a = b := fun a ha b hb => ih0 a ha b (by rw [Rc.enc_eq, Rc.enc_eq] at hb; exact PV.agg.inj hb)
  unfold Rc.cells at h
  obtain ⟨ha, h⟩ := List.append_inj h (by rfl)
  obtain ⟨hb, hc⟩ := List.append_inj h (by rw [bits256_len, bits256_len])
  have e2 := bits_inj hb
  simp only [List.cons.injEq, PV.int.injEq, PV.str.injEq, PV.bool.injEq, PV.flt.injEq, PV.sl.injEq, true_and, and_true] at ha
  obtain ⟨e0, e1⟩ := ha
  simp only [List.cons.injEq, PV.int.injEq, PV.str.injEq, PV.bool.injEq, PV.flt.injEq, PV.sl.injEq, true_and, and_true] at hc
  have e3 := hc
  have e3 := map_inj ih e3
  exact (Rc.ext0 e0 e1 e2 e3)
theorem tRc_inj : ∀ a b : Rc, tRc.enc a = tRc.enc b → a = b := fun a b h => Rc.cinj a b (by have h : Rc.enc a = Rc.enc b := h; rw [Rc.enc_eq, Rc.enc_eq] at h; exact PV.agg.inj h)
theorem Co.cinj : ∀ x y : Co, Co.cells x = Co.cells y → x = y := by
  refine Co.ind fun x ih0 y h => ?_
  have ih : ∀ a ∈ x.l, ∀ b, Co.enc a = Co.enc b → a = b := fun a ha b hb => ih0 a ha b (by rw [Co.enc_eq, Co.enc_eq] at hb; exact PV.agg.inj hb)
  unfold Co.cells at h
  simp only [List.cons.injEq, PV.int.injEq, PV.str.injEq, PV.bool.injEq, PV.flt.injEq, PV.sl.injEq, true_and, and_true] at h
  obtain ⟨e0, e1, e2, e3, e4, e5, e6⟩ := h
  have e6 := map_inj ih e6
  exact (Co.ext0 e0 (W4.ext0 e1 e2 e3 e4) e5 e6)
theorem Va.cinj : ∀ x y : Va, Va.cells x = Va.cells y → x = y := by
  refine Va.ind fun x ih0 y h => ?_
  have ih : ∀ a ∈ x.l, ∀ b, Va.enc a = Va.enc b → a = b := fun a ha b hb => ih0 a ha b (by rw [Va.enc_eq, Va.enc_eq] at hb; exact PV.agg.inj hb)
  unfold Va.cells at h
  simp only [List.cons.injEq, PV.int.injEq, PV.str.injEq, PV.bool.injEq, PV.flt.injEq, PV.sl.injEq, true_and, and_true] at h
  obtain ⟨e0, e1, e2⟩ := h
  have e2 := map_inj ih e2
  exact (Va.ext0 e0 e1 e2)
theorem Rk.cinj : ∀ x y : Rk, Rk.cells x = Rk.cells y → x = y := by
  refine Rk.ind fun x ih0 y h => ?_
  have ih : ∀ a ∈ x.l, ∀ b, Rk.enc a = Rk.enc b → a = b := fun a ha b hb => ih0 a ha b (by rw [Rk.enc_eq, Rk.enc_eq] at hb; exact PV.agg.inj hb)
  unfold Rk.cells at h
  obtain ⟨ha, h⟩ := List.append_inj h (by rfl)
  obtain ⟨hb, hc⟩ := List.append_inj h (by rw [bits256_len, bits256_len])
  have e1 := bits_inj hb
  simp only [List.cons.injEq, PV.int.injEq, PV.str.injEq, PV.bool.injEq, PV.flt.injEq, PV.sl.injEq, true_and, and_true] at ha
  have e0 := ha
  simp only [List.cons.injEq, PV.int.injEq, PV.str.injEq, PV.bool.injEq, PV.flt.injEq, PV.sl.injEq, true_and, and_true] at hc
  obtain ⟨e2, e3⟩ := hc
  have e3 := map_inj ih e3
  exact (Rk.ext0 e0 e1 e2 e3)
theorem Rv.cinj : ∀ x y : Rv, Rv.cells x = Rv.cells y → x = y := by
  refine Rv.ind fun x ih0 y h => ?_
  have ih : ∀ a ∈ x.l, ∀ b, Rv.enc a = Rv.enc b → a = b := fun a ha b hb => ih0 a ha b (by rw [Rv.enc_eq, Rv.enc_eq] at hb; exact PV.agg.inj hb)
  unfold Rv.cells at h
  simp only [List.cons.injEq, PV.int.injEq, PV.str.injEq, PV.bool.injEq, PV.flt.injEq, PV.sl.injEq, true_and, and_true] at h
  obtain ⟨e0, e1, e2⟩ := h
  have e2 := map_inj ih e2
  exact (Rv.ext0 e0 e1 e2)
theorem Sp.cinj : ∀ x y : Sp, Sp.cells x = Sp.cells y → x = y := by
  intro x y h
  unfold Sp.cells at h
  simp only [List.cons.injEq, PV.int.injEq, PV.str.injEq, PV.bool.injEq, PV.flt.injEq, PV.sl.injEq, true_and, and_true] at h
  obtain ⟨e0, e1⟩ := h
  exact (Sp.ext0 e0 e1)
theorem Rs.cinj : ∀ x y : Rs, Rs.cells x = Rs.cells y → x = y := by
  intro x y h
  unfold Rs.cells at h
  simp only [List.cons.injEq, PV.int.injEq, PV.str.injEq, PV.bool.injEq, PV.flt.injEq, PV.sl.injEq, true_and, and_true] at h
  obtain ⟨e0, e1⟩ := h
  exact (Rs.ext0 e0 e1)
def Cd.z0 : Cd := (Cd.mk (0 : Int) [] (W4.mk (0 : Int) (0 : Int) (0 : Int) (0 : Int)) [])
abbrev aCd : AE (Option Cd) := AE.opt tCd [.pv (.int .i64 (0 : Int)), .pv (.str []), .pv (.int .u64 (0 : Int)), .pv (.int .u64 (0 : Int)), .pv (.int .u64 (0 : Int)), .pv (.int .u64 (0 : Int)), .nils] rfl
theorem sCd : aCd.Snap Cd tCd (fun o => o.getD Cd.z0) := AE.snap_opt tCd (z := [.pv (.int .i64 (0 : Int)), .pv (.str []), .pv (.int .u64 (0 : Int)), .pv (.int .u64 (0 : Int)), .pv (.int .u64 (0 : Int)), .pv (.int .u64 (0 : Int)), .nils]) (show Wk1L [.pv (.int .i64 (0 : Int)), .pv (.str []), .pv (.int .u64 (0 : Int)), .pv (.int .u64 (0 : Int)), .pv (.int .u64 (0 : Int)), .pv (.int .u64 (0 : Int)), .nils] (Cd.cells Cd.z0) from ⟨Wk1.pv, Wk1.pv, Wk1.pv, Wk1.pv, Wk1.pv, Wk1.pv, (SlP.nils).wk1, trivial⟩)
def Va.z0 : Va := (Va.mk (0 : Int) (0 : Int) [])
def Rv.z0 : Rv := (Rv.mk (0 : Int) (0 : Int) [])
def Rc.z0 : Rc := (Rc.mk (0 : Int) [] (0#256) [])
def Co.z0 : Co := (Co.mk (0 : Int) (W4.mk (0 : Int) (0 : Int) (0 : Int) (0 : Int)) (0 : Int) [])
def Rk.z0 : Rk := (Rk.mk (0 : Int) (0#256) (0 : Int) [])
end Pl
